/- YthjpppgibdfaeaaCvVer: a part of the proof: lemmas alone, of no statement. -/
import Derived.Test.YthjpppgibdfaeaaCvAwake
import Derived.Test.YthjpppgibdfaeaaCvThree
/- The law on signatures, walked. -/
namespace Go.Proofs.Ythjpppgibdfaeaa
open Go Go.SX Cv Go.RowKit Go.Lib
set_option maxRecDepth 100000
theorem r_unpack0_walk (a : Option Addr)  (w : World) : VC Go.Proofs.Try.prog (fun _ => False) w ((Go.Proofs.Try.f15).body.getD .skip) (mkSt (argSlots 0 [(.v (.slice a 0 0))]) [] 0 38) (endS Γ [.cell 2 39, .tmp 3] (fun _ r => r = [(.g (Pr ((junpack zf 0 0).1))), (.v (.bool (junpack zf 0 0).2))])) := by
  unfold Go.Proofs.Try.f15
  dsimp only [Option.getD]
  refine vc_seq ?_
  refine vc_straight tyOK false [0, 1] rfl 0 16 rfl rfl ?_
  iterate 2 refine And.intro trivial ?_
  refine vc_seq ?_
  refine vc_seq ?_
  refine vc_straight tyOK false [0, 1, 2, 3, 4, 5, 6, 7, 8, 9, 10, 11, 12, 13, 14, 15, 16, 17, 18, 19, 20, 21, 22] rfl 16 200 rfl rfl ?_
  iterate 2 refine And.intro trivial ?_
  refine And.intro rfl ?_
  refine reg_bool rfl rfl rfl rfl (by exact trivial) (fun b hb3 => ?_)
  cases b with
  | false =>
    exact absurd hb3 (by decide)
  | true =>
    skip
    refine And.intro trivial ?_
    refine reg_bool rfl rfl rfl rfl (by exact trivial) (fun b hb15 => ?_)
    cases b with
    | false =>
      cases hb15
    | true =>
      skip
      refine And.intro trivial ?_
      refine vc_if rfl (fun hc1 => ?_) (fun hc1 => ?_)
      · skip
        refine vc_seq ?_
        refine vc_straight tyOK false [0, 1, 2] rfl 200 224 rfl rfl ?_
        iterate 2 refine And.intro (by exact ⟨trivial, rfl⟩) ?_
        refine And.intro trivial ?_
        refine vc_ret ?_
        refine And.intro (by first | exact trivial | exact ⟨trivial, trivial⟩ | exact ⟨trivial, trivial, trivial⟩) ?_
        rw [junpack_len (by decide)] <;> rfl
      · cases hc1
theorem r_unpack0_vc (a : Option Addr)   {eff : Bool} {σ : SSt} {nm : Nat} {K : SSt → SS → Prop}  (hk : K σ (.tup [(.g (Pr ((junpack zf 0 0).1))), (.v (.bool (junpack zf 0 0).2))])) : CallVC Go.Proofs.Try.prog eff (.fn 15) [(.v (.slice a 0 0))] σ nm K := by
  exact call_plain (res := [(.g (Pr ((junpack zf 0 0).1))), (.v (.bool (junpack zf 0 0).2))]) tyOK Go.Proofs.Try.func15 (c := (Go.Proofs.Try.f15).body.getD .skip) rfl (by kernel_rfl) (rs := [.cell 2 39, .tmp 3]) rfl (Nat.le_of_ble_eq_true rfl) (by repeat first | exact plain_nil | exact okC_nil | refine plain_v ?_ | refine plain_g ?_ ?_ | refine okMany ?_ ?_ | refine okOne ?_ ?_ | exact rfl | exact W_cv _ | exact V_cv _ | exact Dd_cv _ | exact cells_cv _ _ _ | exact okPt _) (by repeat first | exact plain_nil | exact okC_nil | refine plain_v ?_ | refine plain_g ?_ ?_ | refine okMany ?_ ?_ | refine okOne ?_ ?_ | exact rfl | exact W_cv _ | exact V_cv _ | exact Dd_cv _ | exact cells_cv _ _ _ | exact okPt _) (fun w => r_unpack0_walk a w) hk
theorem r_verify00_walk (a : Option Addr) (m : Nat → Nat) (a' : Option Addr) (hm : ∀ i, m i < 256) (w : World) : VC Go.Proofs.Try.prog (fun _ => False) w ((Go.Proofs.Try.f18).body.getD .skip) (mkSt (argSlots 0 [(.v (.slice a 0 0)), (.g [.many 32 (cells .u8 32 (m))]), (.v (.slice a' 0 0))]) [] 0 74) (endS Γ [.tmp 6] (fun _ r => r = [(.v (.bool (rverify zf 0 0 m zf 0 0)))])) := by
  unfold Go.Proofs.Try.f18
  dsimp only [Option.getD]
  refine vc_seq ?_
  refine vc_straight tyOK false [0, 1] rfl 0 16 rfl rfl ?_
  refine And.intro trivial ?_
  refine And.intro trivial ?_
  refine vc_seq ?_
  refine vc_straight tyOK false [0, 1, 2, 3, 4, 5, 6, 7] rfl 16 80 rfl rfl ?_
  refine And.intro trivial ?_
  refine r_unpack0_vc a ?_
  iterate 4 refine And.intro trivial ?_
  refine And.intro (by exact ⟨trivial, rfl⟩) ?_
  refine And.intro trivial ?_
  refine vc_seq ?_
  refine vc_seq ?_
  refine vc_straight tyOK false [0, 1, 2, 3, 4, 5, 6] rfl 80 136 rfl rfl ?_
  iterate 2 refine And.intro trivial ?_
  refine reg_bool rfl rfl rfl rfl (by exact trivial) (fun b hb2 => ?_)
  cases b with
  | false =>
    exact absurd (show (junpack zf 0 0).2 = true by simpa using hb2) (by rw [junpack_len (by decide)]; decide)
  | true =>
    have h9 : ¬ (junpack zf 0 0).2 = true := by simpa using hb2
    refine And.intro trivial ?_
    refine vc_if rfl (fun hc1 => ?_) (fun hc1 => ?_)
    · skip
      refine vc_seq ?_
      refine vc_straight tyOK false [0] rfl 136 144 rfl rfl ?_
      refine And.intro trivial ?_
      refine vc_ret ?_
      refine And.intro (by first | exact trivial | exact ⟨trivial, trivial⟩ | exact ⟨trivial, trivial, trivial⟩) ?_
      first
      | (rw [rverify_no (fun h => h9 h.2.1)])
      | (rw [rverify_no (fun h => absurd h.1 (by decide))])
    · cases hc1
theorem r_verify00_vc (a : Option Addr) (m : Nat → Nat) (a' : Option Addr)  (hm : ∀ i, m i < 256) {eff : Bool} {σ : SSt} {nm : Nat} {K : SSt → SS → Prop}  (hk : K σ (.one ((.v (.bool (rverify zf 0 0 m zf 0 0)))))) : CallVC Go.Proofs.Try.prog eff (.fn 18) [(.v (.slice a 0 0)), (.g [.many 32 (cells .u8 32 (m))]), (.v (.slice a' 0 0))] σ nm K := by
  exact call_plain (res := [(.v (.bool (rverify zf 0 0 m zf 0 0)))]) tyOK Go.Proofs.Try.func18 (c := (Go.Proofs.Try.f18).body.getD .skip) rfl (by kernel_rfl) (rs := [.tmp 6]) rfl (Nat.le_of_ble_eq_true rfl) (by repeat first | exact plain_nil | exact okC_nil | refine plain_v ?_ | refine plain_g ?_ ?_ | refine okMany ?_ ?_ | refine okOne ?_ ?_ | exact rfl | exact W_cv _ | exact V_cv _ | exact Dd_cv _ | exact cells_cv _ _ _ | exact okPt _) (by repeat first | exact plain_nil | exact okC_nil | refine plain_v ?_ | refine plain_g ?_ ?_ | refine okMany ?_ ?_ | refine okOne ?_ ?_ | exact rfl | exact W_cv _ | exact V_cv _ | exact Dd_cv _ | exact cells_cv _ _ _ | exact okPt _) (fun w => r_verify00_walk a m a' hm w) hk
theorem r_verify01_walk (a : Option Addr) (m : Nat → Nat) (n' st' len' cap' : Nat) (g : Nat → Nat) (hm : ∀ i, m i < 256) (hn' : st' + len' ≤ n') (hc' : len' ≤ cap') (hg : ∀ i, g i < 256) (w : World) : VC Go.Proofs.Try.prog (fun _ => False) w ((Go.Proofs.Try.f18).body.getD .skip) (mkSt (argSlots 0 [(.v (.slice a 0 0)), (.g [.many 32 (cells .u8 32 (m))]), (.s 0 0 st' len' cap')]) [(0, ⟨[.many n' (cells .u8 n' g)], false⟩)] 1 74) (endS Γ [.tmp 6] (fun _ r => r = [(.v (.bool (rverify zf 0 0 m g st' len')))])) := by
  unfold Go.Proofs.Try.f18
  dsimp only [Option.getD]
  refine vc_seq ?_
  refine vc_straight tyOK false [0, 1] rfl 1 17 rfl rfl ?_
  refine And.intro trivial ?_
  refine And.intro trivial ?_
  refine vc_seq ?_
  refine vc_straight tyOK false [0, 1, 2, 3, 4, 5, 6, 7] rfl 17 81 rfl rfl ?_
  refine And.intro trivial ?_
  refine r_unpack0_vc a ?_
  iterate 4 refine And.intro trivial ?_
  refine And.intro (by exact ⟨trivial, rfl⟩) ?_
  refine And.intro trivial ?_
  refine vc_seq ?_
  refine vc_seq ?_
  refine vc_straight tyOK false [0, 1, 2, 3, 4, 5, 6] rfl 81 137 rfl rfl ?_
  iterate 2 refine And.intro trivial ?_
  refine reg_bool rfl rfl rfl rfl (by exact trivial) (fun b hb2 => ?_)
  cases b with
  | false =>
    exact absurd (show (junpack zf 0 0).2 = true by simpa using hb2) (by rw [junpack_len (by decide)]; decide)
  | true =>
    have h9 : ¬ (junpack zf 0 0).2 = true := by simpa using hb2
    refine And.intro trivial ?_
    refine vc_if rfl (fun hc1 => ?_) (fun hc1 => ?_)
    · skip
      refine vc_seq ?_
      refine vc_straight tyOK false [0] rfl 137 145 rfl rfl ?_
      refine And.intro trivial ?_
      refine vc_ret ?_
      refine And.intro (by first | exact trivial | exact ⟨trivial, trivial⟩ | exact ⟨trivial, trivial, trivial⟩) ?_
      first
      | (rw [rverify_no (fun h => h9 h.2.1)])
      | (rw [rverify_no (fun h => absurd h.1 (by decide))])
    · cases hc1
theorem r_verify01_vc (a : Option Addr) (m : Nat → Nat) (n' st' len' cap' : Nat) (g : Nat → Nat) {k' base' : Nat} (hm : ∀ i, m i < 256) (hn' : st' + len' ≤ n') (hc' : len' ≤ cap') (hg : ∀ i, g i < 256) {eff : Bool} {σ : SSt} {nm : Nat} {K : SSt → SS → Prop} (hv0 : Has σ (k') (base') [.many n' (cells .u8 n' g)]) (hk : K σ (.one ((.v (.bool (rverify zf 0 0 m g st' len')))))) : CallVC Go.Proofs.Try.prog eff (.fn 18) [(.v (.slice a 0 0)), (.g [.many 32 (cells .u8 32 (m))]), (.s k' base' st' len' cap')] σ nm K := by
  exact call_fn1 (args := [(.v (.slice a 0 0)), (.g [.many 32 (cells .u8 32 (m))]), (.s 0 0 st' len' cap')]) (res := [(.v (.bool (rverify zf 0 0 m g st' len')))]) tyOK Go.Proofs.Try.func18 (c := (Go.Proofs.Try.f18).body.getD .skip) rfl (by kernel_rfl) (rs := [.tmp 6]) rfl [(k', base', [.many n' (cells .u8 n' g)])] (Nat.le_of_ble_eq_true rfl) (okAll_mem (by repeat first | exact trivial | exact okC_nil | refine okMany ?_ ?_ | refine okOne ?_ ?_ | exact W_cv _ | exact V_cv _ | exact Dd_cv _ | exact cells_cv _ _ _ | (show (_ : Nat) < _; exact (Nat.le_of_ble_eq_true rfl)) | exact rfl | refine And.intro ?_ ?_)) (by repeat first | exact plain_nil | exact okC_nil | refine plain_v ?_ | refine plain_g ?_ ?_ | refine okMany ?_ ?_ | refine okOne ?_ ?_ | exact rfl | exact W_cv _ | exact V_cv _ | exact Dd_cv _ | exact cells_cv _ _ _ | exact okPt _) (fun w => r_verify01_walk a m n' st' len' cap' g hm hn' hc' hg w) ⟨hv0, (by repeat first | exact okC_nil | refine okMany ?_ ?_ | refine okOne ?_ ?_ | exact rfl | exact W_cv _ | exact V_cv _ | exact Dd_cv _ | exact cells_cv _ _ _ | exact okPt _), trivial⟩ (fun ρ => by first | rfl | (simp [SV.den, viewRho, Nat.add_assoc]; done) | (simp [SV.den, viewRho, Nat.add_assoc]; rfl)) hk
theorem r_verify10_walk (n st len cap : Nat) (f : Nat → Nat) (m : Nat → Nat) (a' : Option Addr) (hn : st + len ≤ n) (hc : len ≤ cap) (hf : ∀ i, f i < 256) (hm : ∀ i, m i < 256) (w : World) : VC Go.Proofs.Try.prog (fun _ => False) w ((Go.Proofs.Try.f18).body.getD .skip) (mkSt (argSlots 0 [(.s 0 0 st len cap), (.g [.many 32 (cells .u8 32 (m))]), (.v (.slice a' 0 0))]) [(0, ⟨[.many n (cells .u8 n f)], false⟩)] 1 74) (endS Γ [.tmp 6] (fun _ r => r = [(.v (.bool (rverify f st len m zf 0 0)))])) := by
  unfold Go.Proofs.Try.f18
  dsimp only [Option.getD]
  refine vc_seq ?_
  refine vc_straight tyOK false [0, 1] rfl 1 17 rfl rfl ?_
  refine And.intro trivial ?_
  refine And.intro trivial ?_
  refine vc_seq ?_
  refine vc_straight tyOK false [0, 1, 2, 3, 4, 5, 6, 7] rfl 17 81 rfl rfl ?_
  refine And.intro trivial ?_
  refine r_unpack_vc n st len cap f hn hc hf ⟨_, _, rfl, part_all⟩ ?_
  iterate 4 refine And.intro trivial ?_
  refine And.intro (by exact ⟨trivial, rfl⟩) ?_
  refine And.intro trivial ?_
  refine vc_seq ?_
  refine vc_seq ?_
  refine vc_straight tyOK false [0, 1, 2, 3, 4, 5, 6] rfl 81 137 rfl rfl ?_
  iterate 2 refine And.intro trivial ?_
  refine reg_bool rfl rfl rfl rfl (by exact trivial) (fun b hb2 => ?_)
  cases b with
  | false =>
    skip
    iterate 2 refine And.intro trivial ?_
    refine And.intro rfl ?_
    refine And.intro trivial ?_
    refine vc_if rfl (fun hc1 => ?_) (fun hc1 => ?_)
    · skip
      refine vc_seq ?_
      refine vc_straight tyOK false [0] rfl 137 145 rfl rfl ?_
      refine And.intro trivial ?_
      refine vc_ret ?_
      refine And.intro (by first | exact trivial | exact ⟨trivial, trivial⟩ | exact ⟨trivial, trivial, trivial⟩) ?_
      first
      | (rw [rverify_no (fun h => h9 h.2.1)])
      | (rw [rverify_no (fun h => absurd h.1 (by decide))])
    · exact absurd hc1 (by decide)
  | true =>
    have h9 : ¬ (junpack f st len).2 = true := by simpa using hb2
    refine And.intro trivial ?_
    refine vc_if rfl (fun hc2 => ?_) (fun hc2 => ?_)
    · skip
      refine vc_seq ?_
      refine vc_straight tyOK false [0] rfl 137 145 rfl rfl ?_
      refine And.intro trivial ?_
      refine vc_ret ?_
      refine And.intro (by first | exact trivial | exact ⟨trivial, trivial⟩ | exact ⟨trivial, trivial, trivial⟩) ?_
      first
      | (rw [rverify_no (fun h => h9 h.2.1)])
      | (rw [rverify_no (fun h => absurd h.1 (by decide))])
    · cases hc2
theorem r_verify10_vc (n st len cap : Nat) (f : Nat → Nat) (m : Nat → Nat) (a' : Option Addr) {k base : Nat} (hn : st + len ≤ n) (hc : len ≤ cap) (hf : ∀ i, f i < 256) (hm : ∀ i, m i < 256) {eff : Bool} {σ : SSt} {nm : Nat} {K : SSt → SS → Prop} (hv0 : Has σ (k) (base) [.many n (cells .u8 n f)]) (hk : K σ (.one ((.v (.bool (rverify f st len m zf 0 0)))))) : CallVC Go.Proofs.Try.prog eff (.fn 18) [(.s k base st len cap), (.g [.many 32 (cells .u8 32 (m))]), (.v (.slice a' 0 0))] σ nm K := by
  exact call_fn1 (args := [(.s 0 0 st len cap), (.g [.many 32 (cells .u8 32 (m))]), (.v (.slice a' 0 0))]) (res := [(.v (.bool (rverify f st len m zf 0 0)))]) tyOK Go.Proofs.Try.func18 (c := (Go.Proofs.Try.f18).body.getD .skip) rfl (by kernel_rfl) (rs := [.tmp 6]) rfl [(k, base, [.many n (cells .u8 n f)])] (Nat.le_of_ble_eq_true rfl) (okAll_mem (by repeat first | exact trivial | exact okC_nil | refine okMany ?_ ?_ | refine okOne ?_ ?_ | exact W_cv _ | exact V_cv _ | exact Dd_cv _ | exact cells_cv _ _ _ | (show (_ : Nat) < _; exact (Nat.le_of_ble_eq_true rfl)) | exact rfl | refine And.intro ?_ ?_)) (by repeat first | exact plain_nil | exact okC_nil | refine plain_v ?_ | refine plain_g ?_ ?_ | refine okMany ?_ ?_ | refine okOne ?_ ?_ | exact rfl | exact W_cv _ | exact V_cv _ | exact Dd_cv _ | exact cells_cv _ _ _ | exact okPt _) (fun w => r_verify10_walk n st len cap f m a' hn hc hf hm w) ⟨hv0, (by repeat first | exact okC_nil | refine okMany ?_ ?_ | refine okOne ?_ ?_ | exact rfl | exact W_cv _ | exact V_cv _ | exact Dd_cv _ | exact cells_cv _ _ _ | exact okPt _), trivial⟩ (fun ρ => by first | rfl | (simp [SV.den, viewRho, Nat.add_assoc]; done) | (simp [SV.den, viewRho, Nat.add_assoc]; rfl)) hk
theorem verifies11_walk (len0 cap0 : Nat) (f0 : Nat → Nat) (f1 : Nat → Nat) (len2 cap2 : Nat) (f2 : Nat → Nat) (hl0 : len0 ≤ cap0) (hm0 : cap0 ≤ maxLen) (hf0 : ∀ i, f0 i < 256) (hf1 : ∀ i, f1 i < 256) (hl2 : len2 ≤ cap2) (hm2 : cap2 ≤ maxLen) (hf2 : ∀ i, f2 i < 256) (w : World) : VC Go.Proofs.Try.prog (fun _ => False) w ((Go.Proofs.Try.f4).body.getD .skip) (mkSt (argSlots 0 [(.s 0 0 0 len0 cap0), (.g [.many 32 (cells .u8 32 (f1))]), (.s 1 0 0 len2 cap2)]) [(0, ⟨[.many cap0 (cells .u8 cap0 f0)], false⟩), (1, ⟨[.many cap2 (cells .u8 cap2 f2)], false⟩)] 2 52) (endS Γ [.tmp 6] (fun _ r => r = [.v (.bool true)])) := by
  unfold Go.Proofs.Try.f4
  dsimp only [Option.getD]
  refine vc_seq ?_
  refine vc_straight tyOK false [0, 1] rfl 2 18 rfl rfl ?_
  refine And.intro trivial ?_
  refine And.intro trivial ?_
  refine vc_seq ?_
  refine vc_seq ?_
  refine vc_straight tyOK false [0, 1] rfl 18 34 rfl rfl ?_
  refine awake_vc ?_
  refine And.intro trivial ?_
  refine vc_if rfl (fun hc1 => ?_) (fun hc1 => ?_)
  · cases hc1
  · skip
    refine vc_skip ?_
    refine vc_seq ?_
    refine vc_seq ?_
    refine vc_straight tyOK false [0, 1, 2] rfl 42 66 rfl rfl ?_
    iterate 2 refine And.intro trivial ?_
    refine And.intro rfl ?_
    refine vc_if rfl (fun hc2 => ?_) (fun hc2 => ?_)
    · have hlt0 : 70 < len0 := by have := of_decide_eq_true hc2; omega
      refine vc_straight tyOK false [0, 1, 2] rfl 66 90 rfl rfl ?_
      refine And.intro trivial ?_
      refine reg_sv rfl rfl rfl rfl ?_ (fun v hv => ?_)
      · exact (by ((repeat' first | exact trivial | exact rfl | exact Nat.le_of_ble_eq_true rfl | decide | omega | refine And.intro ?_ ?_); done))
      replace hv := hv.symm.trans (show SV.s 0 0 (if cap0 = 0 then 0 else 0 + 0) 70 (cap0 - 0) = SV.s 0 0 0 70 cap0 from by rw [if_neg (by omega)]; rfl)
      subst hv
      refine And.intro trivial ?_
      refine vc_seq ?_
      refine vc_seq ?_
      refine vc_straight tyOK false [0, 1, 2] rfl 90 114 rfl rfl ?_
      iterate 2 refine And.intro trivial ?_
      refine And.intro rfl ?_
      refine vc_if rfl (fun hc3 => ?_) (fun hc3 => ?_)
      · have hlt2 : 70 < len2 := by have := of_decide_eq_true hc3; omega
        refine vc_straight tyOK false [0, 1, 2] rfl 114 138 rfl rfl ?_
        refine And.intro trivial ?_
        refine reg_sv rfl rfl rfl rfl ?_ (fun v hv => ?_)
        · exact (by ((repeat' first | exact trivial | exact rfl | exact Nat.le_of_ble_eq_true rfl | decide | omega | refine And.intro ?_ ?_); done))
        replace hv := hv.symm.trans (show SV.s 1 0 (if cap2 = 0 then 0 else 0 + 0) 70 (cap2 - 0) = SV.s 1 0 0 70 cap2 from by rw [if_neg (by omega)]; rfl)
        subst hv
        refine And.intro trivial ?_
        refine vc_seq ?_
        refine vc_straight tyOK false [0, 1, 2, 3, 4, 5, 6] rfl 138 194 rfl rfl ?_
        refine And.intro trivial ?_
        refine spare_vc cap0 0 _ cap0 f0 (by omega) (by omega) ⟨_, _, rfl, part_all⟩ ?_
        iterate 5 refine And.intro trivial ?_
        refine vc_seq ?_
        refine vc_straight tyOK false [0, 1, 2, 3, 4, 5, 6] rfl 194 250 rfl rfl ?_
        refine And.intro trivial ?_
        refine spare_vc cap2 0 _ cap2 f2 (by omega) (by omega) ⟨_, _, rfl, part_all⟩ ?_
        iterate 5 refine And.intro trivial ?_
        refine vc_seq ?_
        refine vc_drawn tyOK mixed false [0, 1, 2, 4, 5, 6, 3, 7, 8, 9, 10, 11, 12, 13, 14, 15, 16, 17, 18, 19] (by kernel_rfl) 250 410 rfl rfl ?_
        refine And.intro trivial ?_
        refine And.intro trivial ?_
        iterate 2 refine And.intro trivial ?_
        refine And.intro trivial ?_
        refine And.intro trivial ?_
        refine c_verify_vc _ 0 _ _ _ f1 _ 0 _ _ _ (by omega) (by omega) (spareF_lt hf0 _ _) hf1 (by omega) (by omega) (spareF_lt hf2 _ _) ⟨_, _, rfl, part_all⟩ ⟨_, _, rfl, part_all⟩ ?_
        rw [verify_spare]
        refine r_verify_vc cap0 0 _ cap0 f0 f1 cap2 0 _ cap2 f2 (by omega) (by omega) hf0 hf1 (by omega) (by omega) hf2 ⟨_, _, rfl, part_all⟩ ⟨_, _, rfl, part_all⟩ ?_
        rw [verify_eq]
        refine And.intro trivial ?_
        refine reg_bool rfl rfl rfl rfl (by exact trivial) (fun b hb9 => ?_)
        cases b with
        | false =>
          exact absurd hb9 (by simp)
        | true =>
          skip
          iterate 2 refine And.intro trivial ?_
          refine kept_vc _ 0 _ _ _ cap0 0 _ cap0 f0 (by omega) rfl (by omega) (by omega) (fun i _ => by rw [Nat.zero_add]) ⟨_, _, rfl, part_all⟩ ⟨_, _, rfl, part_all⟩ ?_
          refine And.intro trivial ?_
          refine reg_bool rfl rfl rfl rfl (by exact trivial) (fun b hb14 => ?_)
          cases b with
          | false =>
            cases hb14
          | true =>
            skip
            iterate 2 refine And.intro trivial ?_
            refine kept_vc _ 0 _ _ _ cap2 0 _ cap2 f2 (by omega) rfl (by omega) (by omega) (fun i _ => by rw [Nat.zero_add]) ⟨_, _, rfl, part_all⟩ ⟨_, _, rfl, part_all⟩ ?_
            iterate 2 refine And.intro trivial ?_
            refine vc_ret ?_
            refine And.intro (by first | exact trivial | exact ⟨trivial, trivial⟩ | exact ⟨trivial, trivial, trivial⟩) ?_
            rfl
      · have hlt2 : len2 ≤ 70 := by have := of_decide_eq_false hc3; omega
        refine vc_skip ?_
        refine vc_seq ?_
        refine vc_straight tyOK false [0, 1, 2, 3, 4, 5, 6] rfl 138 194 rfl rfl ?_
        refine And.intro trivial ?_
        refine spare_vc cap0 0 _ cap0 f0 (by omega) (by omega) ⟨_, _, rfl, part_all⟩ ?_
        iterate 5 refine And.intro trivial ?_
        refine vc_seq ?_
        refine vc_straight tyOK false [0, 1, 2, 3, 4, 5, 6] rfl 194 250 rfl rfl ?_
        refine And.intro trivial ?_
        refine spare_vc cap2 0 _ cap2 f2 (by omega) (by omega) ⟨_, _, rfl, part_all⟩ ?_
        iterate 5 refine And.intro trivial ?_
        refine vc_seq ?_
        refine vc_drawn tyOK mixed false [0, 1, 2, 4, 5, 6, 3, 7, 8, 9, 10, 11, 12, 13, 14, 15, 16, 17, 18, 19] (by kernel_rfl) 250 410 rfl rfl ?_
        refine And.intro trivial ?_
        refine And.intro trivial ?_
        iterate 2 refine And.intro trivial ?_
        refine And.intro trivial ?_
        refine And.intro trivial ?_
        refine c_verify_vc _ 0 _ _ _ f1 _ 0 _ _ _ (by omega) (by omega) (spareF_lt hf0 _ _) hf1 (by omega) (by omega) (spareF_lt hf2 _ _) ⟨_, _, rfl, part_all⟩ ⟨_, _, rfl, part_all⟩ ?_
        rw [verify_spare]
        refine r_verify_vc cap0 0 _ cap0 f0 f1 cap2 0 _ cap2 f2 (by omega) (by omega) hf0 hf1 (by omega) (by omega) hf2 ⟨_, _, rfl, part_all⟩ ⟨_, _, rfl, part_all⟩ ?_
        rw [verify_eq]
        refine And.intro trivial ?_
        refine reg_bool rfl rfl rfl rfl (by exact trivial) (fun b hb9 => ?_)
        cases b with
        | false =>
          exact absurd hb9 (by simp)
        | true =>
          skip
          iterate 2 refine And.intro trivial ?_
          refine kept_vc _ 0 _ _ _ cap0 0 _ cap0 f0 (by omega) rfl (by omega) (by omega) (fun i _ => by rw [Nat.zero_add]) ⟨_, _, rfl, part_all⟩ ⟨_, _, rfl, part_all⟩ ?_
          refine And.intro trivial ?_
          refine reg_bool rfl rfl rfl rfl (by exact trivial) (fun b hb14 => ?_)
          cases b with
          | false =>
            cases hb14
          | true =>
            skip
            iterate 2 refine And.intro trivial ?_
            refine kept_vc _ 0 _ _ _ cap2 0 _ cap2 f2 (by omega) rfl (by omega) (by omega) (fun i _ => by rw [Nat.zero_add]) ⟨_, _, rfl, part_all⟩ ⟨_, _, rfl, part_all⟩ ?_
            iterate 2 refine And.intro trivial ?_
            refine vc_ret ?_
            refine And.intro (by first | exact trivial | exact ⟨trivial, trivial⟩ | exact ⟨trivial, trivial, trivial⟩) ?_
            rfl
    · have hlt0 : len0 ≤ 70 := by have := of_decide_eq_false hc2; omega
      refine vc_skip ?_
      refine vc_seq ?_
      refine vc_seq ?_
      refine vc_straight tyOK false [0, 1, 2] rfl 90 114 rfl rfl ?_
      iterate 2 refine And.intro trivial ?_
      refine And.intro rfl ?_
      refine vc_if rfl (fun hc4 => ?_) (fun hc4 => ?_)
      · have hlt2 : 70 < len2 := by have := of_decide_eq_true hc4; omega
        refine vc_straight tyOK false [0, 1, 2] rfl 114 138 rfl rfl ?_
        refine And.intro trivial ?_
        refine reg_sv rfl rfl rfl rfl ?_ (fun v hv => ?_)
        · exact (by ((repeat' first | exact trivial | exact rfl | exact Nat.le_of_ble_eq_true rfl | decide | omega | refine And.intro ?_ ?_); done))
        replace hv := hv.symm.trans (show SV.s 1 0 (if cap2 = 0 then 0 else 0 + 0) 70 (cap2 - 0) = SV.s 1 0 0 70 cap2 from by rw [if_neg (by omega)]; rfl)
        subst hv
        refine And.intro trivial ?_
        refine vc_seq ?_
        refine vc_straight tyOK false [0, 1, 2, 3, 4, 5, 6] rfl 138 194 rfl rfl ?_
        refine And.intro trivial ?_
        refine spare_vc cap0 0 _ cap0 f0 (by omega) (by omega) ⟨_, _, rfl, part_all⟩ ?_
        iterate 5 refine And.intro trivial ?_
        refine vc_seq ?_
        refine vc_straight tyOK false [0, 1, 2, 3, 4, 5, 6] rfl 194 250 rfl rfl ?_
        refine And.intro trivial ?_
        refine spare_vc cap2 0 _ cap2 f2 (by omega) (by omega) ⟨_, _, rfl, part_all⟩ ?_
        iterate 5 refine And.intro trivial ?_
        refine vc_seq ?_
        refine vc_drawn tyOK mixed false [0, 1, 2, 4, 5, 6, 3, 7, 8, 9, 10, 11, 12, 13, 14, 15, 16, 17, 18, 19] (by kernel_rfl) 250 410 rfl rfl ?_
        refine And.intro trivial ?_
        refine And.intro trivial ?_
        iterate 2 refine And.intro trivial ?_
        refine And.intro trivial ?_
        refine And.intro trivial ?_
        refine c_verify_vc _ 0 _ _ _ f1 _ 0 _ _ _ (by omega) (by omega) (spareF_lt hf0 _ _) hf1 (by omega) (by omega) (spareF_lt hf2 _ _) ⟨_, _, rfl, part_all⟩ ⟨_, _, rfl, part_all⟩ ?_
        rw [verify_spare]
        refine r_verify_vc cap0 0 _ cap0 f0 f1 cap2 0 _ cap2 f2 (by omega) (by omega) hf0 hf1 (by omega) (by omega) hf2 ⟨_, _, rfl, part_all⟩ ⟨_, _, rfl, part_all⟩ ?_
        rw [verify_eq]
        refine And.intro trivial ?_
        refine reg_bool rfl rfl rfl rfl (by exact trivial) (fun b hb9 => ?_)
        cases b with
        | false =>
          exact absurd hb9 (by simp)
        | true =>
          skip
          iterate 2 refine And.intro trivial ?_
          refine kept_vc _ 0 _ _ _ cap0 0 _ cap0 f0 (by omega) rfl (by omega) (by omega) (fun i _ => by rw [Nat.zero_add]) ⟨_, _, rfl, part_all⟩ ⟨_, _, rfl, part_all⟩ ?_
          refine And.intro trivial ?_
          refine reg_bool rfl rfl rfl rfl (by exact trivial) (fun b hb14 => ?_)
          cases b with
          | false =>
            cases hb14
          | true =>
            skip
            iterate 2 refine And.intro trivial ?_
            refine kept_vc _ 0 _ _ _ cap2 0 _ cap2 f2 (by omega) rfl (by omega) (by omega) (fun i _ => by rw [Nat.zero_add]) ⟨_, _, rfl, part_all⟩ ⟨_, _, rfl, part_all⟩ ?_
            iterate 2 refine And.intro trivial ?_
            refine vc_ret ?_
            refine And.intro (by first | exact trivial | exact ⟨trivial, trivial⟩ | exact ⟨trivial, trivial, trivial⟩) ?_
            rfl
      · have hlt2 : len2 ≤ 70 := by have := of_decide_eq_false hc4; omega
        refine vc_skip ?_
        refine vc_seq ?_
        refine vc_straight tyOK false [0, 1, 2, 3, 4, 5, 6] rfl 138 194 rfl rfl ?_
        refine And.intro trivial ?_
        refine spare_vc cap0 0 _ cap0 f0 (by omega) (by omega) ⟨_, _, rfl, part_all⟩ ?_
        iterate 5 refine And.intro trivial ?_
        refine vc_seq ?_
        refine vc_straight tyOK false [0, 1, 2, 3, 4, 5, 6] rfl 194 250 rfl rfl ?_
        refine And.intro trivial ?_
        refine spare_vc cap2 0 _ cap2 f2 (by omega) (by omega) ⟨_, _, rfl, part_all⟩ ?_
        iterate 5 refine And.intro trivial ?_
        refine vc_seq ?_
        refine vc_drawn tyOK mixed false [0, 1, 2, 4, 5, 6, 3, 7, 8, 9, 10, 11, 12, 13, 14, 15, 16, 17, 18, 19] (by kernel_rfl) 250 410 rfl rfl ?_
        refine And.intro trivial ?_
        refine And.intro trivial ?_
        iterate 2 refine And.intro trivial ?_
        refine And.intro trivial ?_
        refine And.intro trivial ?_
        refine c_verify_vc _ 0 _ _ _ f1 _ 0 _ _ _ (by omega) (by omega) (spareF_lt hf0 _ _) hf1 (by omega) (by omega) (spareF_lt hf2 _ _) ⟨_, _, rfl, part_all⟩ ⟨_, _, rfl, part_all⟩ ?_
        rw [verify_spare]
        refine r_verify_vc cap0 0 _ cap0 f0 f1 cap2 0 _ cap2 f2 (by omega) (by omega) hf0 hf1 (by omega) (by omega) hf2 ⟨_, _, rfl, part_all⟩ ⟨_, _, rfl, part_all⟩ ?_
        rw [verify_eq]
        refine And.intro trivial ?_
        refine reg_bool rfl rfl rfl rfl (by exact trivial) (fun b hb9 => ?_)
        cases b with
        | false =>
          exact absurd hb9 (by simp)
        | true =>
          skip
          iterate 2 refine And.intro trivial ?_
          refine kept_vc _ 0 _ _ _ cap0 0 _ cap0 f0 (by omega) rfl (by omega) (by omega) (fun i _ => by rw [Nat.zero_add]) ⟨_, _, rfl, part_all⟩ ⟨_, _, rfl, part_all⟩ ?_
          refine And.intro trivial ?_
          refine reg_bool rfl rfl rfl rfl (by exact trivial) (fun b hb14 => ?_)
          cases b with
          | false =>
            cases hb14
          | true =>
            skip
            iterate 2 refine And.intro trivial ?_
            refine kept_vc _ 0 _ _ _ cap2 0 _ cap2 f2 (by omega) rfl (by omega) (by omega) (fun i _ => by rw [Nat.zero_add]) ⟨_, _, rfl, part_all⟩ ⟨_, _, rfl, part_all⟩ ?_
            iterate 2 refine And.intro trivial ?_
            refine vc_ret ?_
            refine And.intro (by first | exact trivial | exact ⟨trivial, trivial⟩ | exact ⟨trivial, trivial, trivial⟩) ?_
            rfl
theorem verifies10_walk (len0 cap0 : Nat) (f0 : Nat → Nat) (f1 : Nat → Nat) (a2 : Option Addr) (hl0 : len0 ≤ cap0) (hm0 : cap0 ≤ maxLen) (hf0 : ∀ i, f0 i < 256) (hf1 : ∀ i, f1 i < 256) (w : World) : VC Go.Proofs.Try.prog (fun _ => False) w ((Go.Proofs.Try.f4).body.getD .skip) (mkSt (argSlots 0 [(.s 0 0 0 len0 cap0), (.g [.many 32 (cells .u8 32 (f1))]), (.v (.slice a2 0 0))]) [(0, ⟨[.many cap0 (cells .u8 cap0 f0)], false⟩)] 1 52) (endS Γ [.tmp 6] (fun _ r => r = [.v (.bool true)])) := by
  unfold Go.Proofs.Try.f4
  dsimp only [Option.getD]
  refine vc_seq ?_
  refine vc_straight tyOK false [0, 1] rfl 1 17 rfl rfl ?_
  refine And.intro trivial ?_
  refine And.intro trivial ?_
  refine vc_seq ?_
  refine vc_seq ?_
  refine vc_straight tyOK false [0, 1] rfl 17 33 rfl rfl ?_
  refine awake_vc ?_
  refine And.intro trivial ?_
  refine vc_if rfl (fun hc1 => ?_) (fun hc1 => ?_)
  · cases hc1
  · skip
    refine vc_skip ?_
    refine vc_seq ?_
    refine vc_seq ?_
    refine vc_straight tyOK false [0, 1, 2] rfl 41 65 rfl rfl ?_
    iterate 2 refine And.intro trivial ?_
    refine And.intro rfl ?_
    refine vc_if rfl (fun hc2 => ?_) (fun hc2 => ?_)
    · have hlt0 : 70 < len0 := by have := of_decide_eq_true hc2; omega
      refine vc_straight tyOK false [0, 1, 2] rfl 65 89 rfl rfl ?_
      refine And.intro trivial ?_
      refine reg_sv rfl rfl rfl rfl ?_ (fun v hv => ?_)
      · exact (by ((repeat' first | exact trivial | exact rfl | exact Nat.le_of_ble_eq_true rfl | decide | omega | refine And.intro ?_ ?_); done))
      replace hv := hv.symm.trans (show SV.s 0 0 (if cap0 = 0 then 0 else 0 + 0) 70 (cap0 - 0) = SV.s 0 0 0 70 cap0 from by rw [if_neg (by omega)]; rfl)
      subst hv
      refine And.intro trivial ?_
      refine vc_seq ?_
      refine vc_seq ?_
      refine vc_straight tyOK false [0, 1, 2] rfl 89 113 rfl rfl ?_
      iterate 2 refine And.intro trivial ?_
      refine And.intro rfl ?_
      refine vc_if rfl (fun hc3 => ?_) (fun hc3 => ?_)
      · exact absurd hc3 (by decide)
      · skip
        refine vc_skip ?_
        refine vc_seq ?_
        refine vc_straight tyOK false [0, 1, 2, 3, 4, 5, 6] rfl 137 193 rfl rfl ?_
        refine And.intro trivial ?_
        refine spare_vc cap0 0 _ cap0 f0 (by omega) (by omega) ⟨_, _, rfl, part_all⟩ ?_
        iterate 5 refine And.intro trivial ?_
        refine vc_seq ?_
        refine vc_straight tyOK false [0, 1, 2, 3, 4, 5, 6] rfl 193 249 rfl rfl ?_
        refine And.intro trivial ?_
        refine spare0_vc a2 zf 0 ?_
        iterate 5 refine And.intro trivial ?_
        refine vc_seq ?_
        refine vc_drawn tyOK mixed false [0, 1, 2, 4, 5, 6, 3, 7, 8, 9, 10, 11, 12, 13, 14, 15, 16, 17, 18, 19] (by kernel_rfl) 249 409 rfl rfl ?_
        refine And.intro trivial ?_
        refine And.intro trivial ?_
        iterate 2 refine And.intro trivial ?_
        refine And.intro trivial ?_
        refine And.intro trivial ?_
        refine c_verify_vc _ 0 _ _ _ f1 _ 0 _ _ _ (by omega) (by omega) (spareF_lt hf0 _ _) hf1 (by omega) (by omega) (spareF_lt zf_lt _ _) ⟨_, _, rfl, part_all⟩ ⟨_, _, rfl, part_all⟩ ?_
        rw [verify_spare]
        refine r_verify10_vc cap0 0 _ cap0 f0 f1 a2 (by omega) (by omega) hf0 hf1 ⟨_, _, rfl, part_all⟩ ?_
        rw [verify_eq]
        refine And.intro trivial ?_
        refine reg_bool rfl rfl rfl rfl (by exact trivial) (fun b hb9 => ?_)
        cases b with
        | false =>
          exact absurd hb9 (by simp)
        | true =>
          skip
          iterate 2 refine And.intro trivial ?_
          refine kept_vc _ 0 _ _ _ cap0 0 _ cap0 f0 (by omega) rfl (by omega) (by omega) (fun i _ => by rw [Nat.zero_add]) ⟨_, _, rfl, part_all⟩ ⟨_, _, rfl, part_all⟩ ?_
          refine And.intro trivial ?_
          refine reg_bool rfl rfl rfl rfl (by exact trivial) (fun b hb14 => ?_)
          cases b with
          | false =>
            cases hb14
          | true =>
            skip
            iterate 2 refine And.intro trivial ?_
            refine kept0_vc _ 0 _ _ _ a2 zf (by omega) rfl (by omega) (fun i _ => by rw [Nat.zero_add]) ⟨_, _, rfl, part_all⟩ ?_
            iterate 2 refine And.intro trivial ?_
            refine vc_ret ?_
            refine And.intro (by first | exact trivial | exact ⟨trivial, trivial⟩ | exact ⟨trivial, trivial, trivial⟩) ?_
            rfl
    · have hlt0 : len0 ≤ 70 := by have := of_decide_eq_false hc2; omega
      refine vc_skip ?_
      refine vc_seq ?_
      refine vc_seq ?_
      refine vc_straight tyOK false [0, 1, 2] rfl 89 113 rfl rfl ?_
      iterate 2 refine And.intro trivial ?_
      refine And.intro rfl ?_
      refine vc_if rfl (fun hc4 => ?_) (fun hc4 => ?_)
      · exact absurd hc4 (by decide)
      · skip
        refine vc_skip ?_
        refine vc_seq ?_
        refine vc_straight tyOK false [0, 1, 2, 3, 4, 5, 6] rfl 137 193 rfl rfl ?_
        refine And.intro trivial ?_
        refine spare_vc cap0 0 _ cap0 f0 (by omega) (by omega) ⟨_, _, rfl, part_all⟩ ?_
        iterate 5 refine And.intro trivial ?_
        refine vc_seq ?_
        refine vc_straight tyOK false [0, 1, 2, 3, 4, 5, 6] rfl 193 249 rfl rfl ?_
        refine And.intro trivial ?_
        refine spare0_vc a2 zf 0 ?_
        iterate 5 refine And.intro trivial ?_
        refine vc_seq ?_
        refine vc_drawn tyOK mixed false [0, 1, 2, 4, 5, 6, 3, 7, 8, 9, 10, 11, 12, 13, 14, 15, 16, 17, 18, 19] (by kernel_rfl) 249 409 rfl rfl ?_
        refine And.intro trivial ?_
        refine And.intro trivial ?_
        iterate 2 refine And.intro trivial ?_
        refine And.intro trivial ?_
        refine And.intro trivial ?_
        refine c_verify_vc _ 0 _ _ _ f1 _ 0 _ _ _ (by omega) (by omega) (spareF_lt hf0 _ _) hf1 (by omega) (by omega) (spareF_lt zf_lt _ _) ⟨_, _, rfl, part_all⟩ ⟨_, _, rfl, part_all⟩ ?_
        rw [verify_spare]
        refine r_verify10_vc cap0 0 _ cap0 f0 f1 a2 (by omega) (by omega) hf0 hf1 ⟨_, _, rfl, part_all⟩ ?_
        rw [verify_eq]
        refine And.intro trivial ?_
        refine reg_bool rfl rfl rfl rfl (by exact trivial) (fun b hb9 => ?_)
        cases b with
        | false =>
          exact absurd hb9 (by simp)
        | true =>
          skip
          iterate 2 refine And.intro trivial ?_
          refine kept_vc _ 0 _ _ _ cap0 0 _ cap0 f0 (by omega) rfl (by omega) (by omega) (fun i _ => by rw [Nat.zero_add]) ⟨_, _, rfl, part_all⟩ ⟨_, _, rfl, part_all⟩ ?_
          refine And.intro trivial ?_
          refine reg_bool rfl rfl rfl rfl (by exact trivial) (fun b hb14 => ?_)
          cases b with
          | false =>
            cases hb14
          | true =>
            skip
            iterate 2 refine And.intro trivial ?_
            refine kept0_vc _ 0 _ _ _ a2 zf (by omega) rfl (by omega) (fun i _ => by rw [Nat.zero_add]) ⟨_, _, rfl, part_all⟩ ?_
            iterate 2 refine And.intro trivial ?_
            refine vc_ret ?_
            refine And.intro (by first | exact trivial | exact ⟨trivial, trivial⟩ | exact ⟨trivial, trivial, trivial⟩) ?_
            rfl
theorem verifies01_walk (a0 : Option Addr) (f1 : Nat → Nat) (len2 cap2 : Nat) (f2 : Nat → Nat) (hf1 : ∀ i, f1 i < 256) (hl2 : len2 ≤ cap2) (hm2 : cap2 ≤ maxLen) (hf2 : ∀ i, f2 i < 256) (w : World) : VC Go.Proofs.Try.prog (fun _ => False) w ((Go.Proofs.Try.f4).body.getD .skip) (mkSt (argSlots 0 [(.v (.slice a0 0 0)), (.g [.many 32 (cells .u8 32 (f1))]), (.s 0 0 0 len2 cap2)]) [(0, ⟨[.many cap2 (cells .u8 cap2 f2)], false⟩)] 1 52) (endS Γ [.tmp 6] (fun _ r => r = [.v (.bool true)])) := by
  unfold Go.Proofs.Try.f4
  dsimp only [Option.getD]
  refine vc_seq ?_
  refine vc_straight tyOK false [0, 1] rfl 1 17 rfl rfl ?_
  refine And.intro trivial ?_
  refine And.intro trivial ?_
  refine vc_seq ?_
  refine vc_seq ?_
  refine vc_straight tyOK false [0, 1] rfl 17 33 rfl rfl ?_
  refine awake_vc ?_
  refine And.intro trivial ?_
  refine vc_if rfl (fun hc1 => ?_) (fun hc1 => ?_)
  · cases hc1
  · skip
    refine vc_skip ?_
    refine vc_seq ?_
    refine vc_seq ?_
    refine vc_straight tyOK false [0, 1, 2] rfl 41 65 rfl rfl ?_
    iterate 2 refine And.intro trivial ?_
    refine And.intro rfl ?_
    refine vc_if rfl (fun hc2 => ?_) (fun hc2 => ?_)
    · exact absurd hc2 (by decide)
    · skip
      refine vc_skip ?_
      refine vc_seq ?_
      refine vc_seq ?_
      refine vc_straight tyOK false [0, 1, 2] rfl 89 113 rfl rfl ?_
      iterate 2 refine And.intro trivial ?_
      refine And.intro rfl ?_
      refine vc_if rfl (fun hc3 => ?_) (fun hc3 => ?_)
      · have hlt2 : 70 < len2 := by have := of_decide_eq_true hc3; omega
        refine vc_straight tyOK false [0, 1, 2] rfl 113 137 rfl rfl ?_
        refine And.intro trivial ?_
        refine reg_sv rfl rfl rfl rfl ?_ (fun v hv => ?_)
        · exact (by ((repeat' first | exact trivial | exact rfl | exact Nat.le_of_ble_eq_true rfl | decide | omega | refine And.intro ?_ ?_); done))
        replace hv := hv.symm.trans (show SV.s 0 0 (if cap2 = 0 then 0 else 0 + 0) 70 (cap2 - 0) = SV.s 0 0 0 70 cap2 from by rw [if_neg (by omega)]; rfl)
        subst hv
        refine And.intro trivial ?_
        refine vc_seq ?_
        refine vc_straight tyOK false [0, 1, 2, 3, 4, 5, 6] rfl 137 193 rfl rfl ?_
        refine And.intro trivial ?_
        refine spare0_vc a0 zf 0 ?_
        iterate 5 refine And.intro trivial ?_
        refine vc_seq ?_
        refine vc_straight tyOK false [0, 1, 2, 3, 4, 5, 6] rfl 193 249 rfl rfl ?_
        refine And.intro trivial ?_
        refine spare_vc cap2 0 _ cap2 f2 (by omega) (by omega) ⟨_, _, rfl, part_all⟩ ?_
        iterate 5 refine And.intro trivial ?_
        refine vc_seq ?_
        refine vc_drawn tyOK mixed false [0, 1, 2, 4, 5, 6, 3, 7, 8, 9, 10, 11, 12, 13, 14, 15, 16, 17, 18, 19] (by kernel_rfl) 249 409 rfl rfl ?_
        refine And.intro trivial ?_
        refine And.intro trivial ?_
        iterate 2 refine And.intro trivial ?_
        refine And.intro trivial ?_
        refine And.intro trivial ?_
        refine c_verify_vc _ 0 _ _ _ f1 _ 0 _ _ _ (by omega) (by omega) (spareF_lt zf_lt _ _) hf1 (by omega) (by omega) (spareF_lt hf2 _ _) ⟨_, _, rfl, part_all⟩ ⟨_, _, rfl, part_all⟩ ?_
        rw [verify_spare]
        refine r_verify01_vc a0 f1 cap2 0 _ cap2 f2 hf1 (by omega) (by omega) hf2 ⟨_, _, rfl, part_all⟩ ?_
        rw [verify_eq]
        refine And.intro trivial ?_
        refine reg_bool rfl rfl rfl rfl (by exact trivial) (fun b hb9 => ?_)
        cases b with
        | false =>
          exact absurd hb9 (by simp)
        | true =>
          skip
          iterate 2 refine And.intro trivial ?_
          refine kept0_vc _ 0 _ _ _ a0 zf (by omega) rfl (by omega) (fun i _ => by rw [Nat.zero_add]) ⟨_, _, rfl, part_all⟩ ?_
          refine And.intro trivial ?_
          refine reg_bool rfl rfl rfl rfl (by exact trivial) (fun b hb14 => ?_)
          cases b with
          | false =>
            cases hb14
          | true =>
            skip
            iterate 2 refine And.intro trivial ?_
            refine kept_vc _ 0 _ _ _ cap2 0 _ cap2 f2 (by omega) rfl (by omega) (by omega) (fun i _ => by rw [Nat.zero_add]) ⟨_, _, rfl, part_all⟩ ⟨_, _, rfl, part_all⟩ ?_
            iterate 2 refine And.intro trivial ?_
            refine vc_ret ?_
            refine And.intro (by first | exact trivial | exact ⟨trivial, trivial⟩ | exact ⟨trivial, trivial, trivial⟩) ?_
            rfl
      · have hlt2 : len2 ≤ 70 := by have := of_decide_eq_false hc3; omega
        refine vc_skip ?_
        refine vc_seq ?_
        refine vc_straight tyOK false [0, 1, 2, 3, 4, 5, 6] rfl 137 193 rfl rfl ?_
        refine And.intro trivial ?_
        refine spare0_vc a0 zf 0 ?_
        iterate 5 refine And.intro trivial ?_
        refine vc_seq ?_
        refine vc_straight tyOK false [0, 1, 2, 3, 4, 5, 6] rfl 193 249 rfl rfl ?_
        refine And.intro trivial ?_
        refine spare_vc cap2 0 _ cap2 f2 (by omega) (by omega) ⟨_, _, rfl, part_all⟩ ?_
        iterate 5 refine And.intro trivial ?_
        refine vc_seq ?_
        refine vc_drawn tyOK mixed false [0, 1, 2, 4, 5, 6, 3, 7, 8, 9, 10, 11, 12, 13, 14, 15, 16, 17, 18, 19] (by kernel_rfl) 249 409 rfl rfl ?_
        refine And.intro trivial ?_
        refine And.intro trivial ?_
        iterate 2 refine And.intro trivial ?_
        refine And.intro trivial ?_
        refine And.intro trivial ?_
        refine c_verify_vc _ 0 _ _ _ f1 _ 0 _ _ _ (by omega) (by omega) (spareF_lt zf_lt _ _) hf1 (by omega) (by omega) (spareF_lt hf2 _ _) ⟨_, _, rfl, part_all⟩ ⟨_, _, rfl, part_all⟩ ?_
        rw [verify_spare]
        refine r_verify01_vc a0 f1 cap2 0 _ cap2 f2 hf1 (by omega) (by omega) hf2 ⟨_, _, rfl, part_all⟩ ?_
        rw [verify_eq]
        refine And.intro trivial ?_
        refine reg_bool rfl rfl rfl rfl (by exact trivial) (fun b hb9 => ?_)
        cases b with
        | false =>
          exact absurd hb9 (by simp)
        | true =>
          skip
          iterate 2 refine And.intro trivial ?_
          refine kept0_vc _ 0 _ _ _ a0 zf (by omega) rfl (by omega) (fun i _ => by rw [Nat.zero_add]) ⟨_, _, rfl, part_all⟩ ?_
          refine And.intro trivial ?_
          refine reg_bool rfl rfl rfl rfl (by exact trivial) (fun b hb14 => ?_)
          cases b with
          | false =>
            cases hb14
          | true =>
            skip
            iterate 2 refine And.intro trivial ?_
            refine kept_vc _ 0 _ _ _ cap2 0 _ cap2 f2 (by omega) rfl (by omega) (by omega) (fun i _ => by rw [Nat.zero_add]) ⟨_, _, rfl, part_all⟩ ⟨_, _, rfl, part_all⟩ ?_
            iterate 2 refine And.intro trivial ?_
            refine vc_ret ?_
            refine And.intro (by first | exact trivial | exact ⟨trivial, trivial⟩ | exact ⟨trivial, trivial, trivial⟩) ?_
            rfl
theorem verifies00_walk (a0 : Option Addr) (f1 : Nat → Nat) (a2 : Option Addr) (hf1 : ∀ i, f1 i < 256) (w : World) : VC Go.Proofs.Try.prog (fun _ => False) w ((Go.Proofs.Try.f4).body.getD .skip) (mkSt (argSlots 0 [(.v (.slice a0 0 0)), (.g [.many 32 (cells .u8 32 (f1))]), (.v (.slice a2 0 0))]) [] 0 52) (endS Γ [.tmp 6] (fun _ r => r = [.v (.bool true)])) := by
  unfold Go.Proofs.Try.f4
  dsimp only [Option.getD]
  refine vc_seq ?_
  refine vc_straight tyOK false [0, 1] rfl 0 16 rfl rfl ?_
  refine And.intro trivial ?_
  refine And.intro trivial ?_
  refine vc_seq ?_
  refine vc_seq ?_
  refine vc_straight tyOK false [0, 1] rfl 16 32 rfl rfl ?_
  refine awake_vc ?_
  refine And.intro trivial ?_
  refine vc_if rfl (fun hc1 => ?_) (fun hc1 => ?_)
  · cases hc1
  · skip
    refine vc_skip ?_
    refine vc_seq ?_
    refine vc_seq ?_
    refine vc_straight tyOK false [0, 1, 2] rfl 40 64 rfl rfl ?_
    iterate 2 refine And.intro trivial ?_
    refine And.intro rfl ?_
    refine vc_if rfl (fun hc2 => ?_) (fun hc2 => ?_)
    · exact absurd hc2 (by decide)
    · skip
      refine vc_skip ?_
      refine vc_seq ?_
      refine vc_seq ?_
      refine vc_straight tyOK false [0, 1, 2] rfl 88 112 rfl rfl ?_
      iterate 2 refine And.intro trivial ?_
      refine And.intro rfl ?_
      refine vc_if rfl (fun hc3 => ?_) (fun hc3 => ?_)
      · exact absurd hc3 (by decide)
      · skip
        refine vc_skip ?_
        refine vc_seq ?_
        refine vc_straight tyOK false [0, 1, 2, 3, 4, 5, 6] rfl 136 192 rfl rfl ?_
        refine And.intro trivial ?_
        refine spare0_vc a0 zf 0 ?_
        iterate 5 refine And.intro trivial ?_
        refine vc_seq ?_
        refine vc_straight tyOK false [0, 1, 2, 3, 4, 5, 6] rfl 192 248 rfl rfl ?_
        refine And.intro trivial ?_
        refine spare0_vc a2 zf 0 ?_
        iterate 5 refine And.intro trivial ?_
        refine vc_seq ?_
        refine vc_drawn tyOK mixed false [0, 1, 2, 4, 5, 6, 3, 7, 8, 9, 10, 11, 12, 13, 14, 15, 16, 17, 18, 19] (by kernel_rfl) 248 408 rfl rfl ?_
        refine And.intro trivial ?_
        refine And.intro trivial ?_
        iterate 2 refine And.intro trivial ?_
        refine And.intro trivial ?_
        refine And.intro trivial ?_
        refine c_verify_vc _ 0 _ _ _ f1 _ 0 _ _ _ (by omega) (by omega) (spareF_lt zf_lt _ _) hf1 (by omega) (by omega) (spareF_lt zf_lt _ _) ⟨_, _, rfl, part_all⟩ ⟨_, _, rfl, part_all⟩ ?_
        rw [verify_spare]
        refine r_verify00_vc a0 f1 a2 hf1 ?_
        rw [verify_eq]
        refine And.intro trivial ?_
        refine reg_bool rfl rfl rfl rfl (by exact trivial) (fun b hb9 => ?_)
        cases b with
        | false =>
          exact absurd hb9 (by simp)
        | true =>
          skip
          iterate 2 refine And.intro trivial ?_
          refine kept0_vc _ 0 _ _ _ a0 zf (by omega) rfl (by omega) (fun i _ => by rw [Nat.zero_add]) ⟨_, _, rfl, part_all⟩ ?_
          refine And.intro trivial ?_
          refine reg_bool rfl rfl rfl rfl (by exact trivial) (fun b hb14 => ?_)
          cases b with
          | false =>
            cases hb14
          | true =>
            skip
            iterate 2 refine And.intro trivial ?_
            refine kept0_vc _ 0 _ _ _ a2 zf (by omega) rfl (by omega) (fun i _ => by rw [Nat.zero_add]) ⟨_, _, rfl, part_all⟩ ?_
            iterate 2 refine And.intro trivial ?_
            refine vc_ret ?_
            refine And.intro (by first | exact trivial | exact ⟨trivial, trivial⟩ | exact ⟨trivial, trivial, trivial⟩) ?_
            rfl
end Go.Proofs.Ythjpppgibdfaeaa
