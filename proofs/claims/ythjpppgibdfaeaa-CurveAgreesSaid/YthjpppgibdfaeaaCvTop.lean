/- YthjpppgibdfaeaaCvTop: a part of the proof: lemmas alone, of no statement. -/
import Derived.Test.YthjpppgibdfaeaaCvGrp
import Derived.Test.YthjpppgibdfaeaaSxThree
import Derived.Test.YthjpppgibdfaeaaCvOne
/- The program's exported functions of the curve. -/
namespace Go.Proofs.Ythjpppgibdfaeaa
open Go Go.SX Cv Go.RowKit Go.Lib
set_option maxRecDepth 100000
theorem g_pack_walk (a : J) (ha : OkJ a) (w : World) : VC Go.Proofs.Try.prog (fun _ => False) w ((Go.Proofs.Try.f30).body.getD .skip) (mkSt (argSlots 0 [(.p 0 0), (.g (Pt (a)))]) [(0, ⟨Gl, false⟩)] 1 27) (endS Γ [.cell 4 25] (fun _ r => r = [(.g [.many 33 (cells .u8 33 (jpack a))])])) := by
  unfold Go.Proofs.Try.f30
  dsimp only [Option.getD]
  refine vc_seq ?_
  refine vc_straight tyOK false [0, 1] rfl 1 17 rfl rfl ?_
  iterate 2 refine And.intro trivial ?_
  refine vc_seq ?_
  refine vc_straight tyOK false [0] rfl 17 25 rfl rfl ?_
  refine And.intro trivial ?_
  refine vc_seq ?_
  refine vc_straight tyOK false [0, 1, 2, 3, 4, 5, 6, 7, 8, 9] rfl 25 105 rfl rfl ?_
  iterate 2 refine And.intro trivial ?_
  refine g_flat_vc a ha ⟨_, _, rfl, part_all⟩ ?_
  iterate 7 refine And.intro (by first | exact trivial | exact ⟨trivial, rfl⟩) ?_
  refine vc_seq ?_
  refine vc_straight tyOK false [0, 1, 2, 3] rfl 105 137 rfl rfl ?_
  refine And.intro trivial ?_
  refine num_bytes_vc (jflat a).1 (Nat.lt_trans (fm_lt _ _) mo_P.lt) ?_
  iterate 2 refine And.intro (by first | exact trivial | exact ⟨trivial, rfl⟩) ?_
  refine vc_seq ?_
  refine vc_straight tyOK false [0, 1, 2, 3, 4, 5, 6] rfl 137 193 rfl rfl ?_
  refine And.intro (by decide) ?_
  refine reg_name rfl rfl rfl rfl ?_ (fun v hv => ?_)
  · exact (by exact trivial)
  replace hv := hv.symm.trans (cells_at0 (by decide))
  subst hv
  refine reg_name rfl rfl rfl rfl ?_ (fun v hv => ?_)
  · exact (by exact rfl)
  replace hv := hv.symm.trans (intn ((jflat a).2 % 2) (by rw [and_1 (dig_lt B64_pos _ _), dig_0]))
  subst hv
  refine reg_name rfl rfl rfl rfl ?_ (fun v hv => ?_)
  · exact (by exact trivial)
  replace hv := hv.symm.trans (u8i _ rfl (by omega))
  subst hv
  refine reg_name rfl rfl rfl rfl ?_ (fun v hv => ?_)
  · exact (by exact rfl)
  replace hv := hv.symm.trans (u8i (2 + (jflat a).2 % 2) (by omega) (by omega))
  subst hv
  iterate 2 refine And.intro (by first | exact ⟨rfl, rfl⟩ | decide) ?_
  refine vc_seq ?_
  refine vc_drawn tyOK mixed true [0, 1, 2] (by kernel_rfl) 193 217 rfl rfl ?_
  iterate 2 refine And.intro (by ((repeat' first | exact trivial | exact rfl | exact Nat.le_of_ble_eq_true rfl | decide | omega | refine And.intro ?_ ?_); done)) ?_
  refine copy_vc tyOK (n := 32) rfl rfl rfl rfl rfl rfl rfl rfl rfl (okMany (cells_cv _ _ _) okC_nil) (okOne rfl (okMany (rep_cv _ _ _ _ _ rfl) okC_nil)) ?_
  refine vc_seq ?_
  refine vc_as 17 _ rfl (pk33_blk (jflat a).1 (jflat a).2 true) ?_
  refine vc_straight tyOK false [0, 1] rfl 217 233 rfl rfl ?_
  iterate 2 refine And.intro (by first | exact trivial | exact ⟨trivial, rfl⟩) ?_
  refine vc_ret ?_
  refine And.intro (by first | exact trivial | exact ⟨trivial, trivial⟩ | exact ⟨trivial, trivial, trivial⟩) ?_
  rfl
theorem g_pack_vc (a : J) {k off : Nat} (ha : OkJ a) {eff : Bool} {σ : SSt} {nm : Nat} {K : SSt → SS → Prop} (hv0 : Has σ (k) (off) Gl) (hk : K σ (.one ((.g [.many 33 (cells .u8 33 (jpack a))])))) : CallVC Go.Proofs.Try.prog eff (.fn 30) [(.p k off), (.g (Pt (a)))] σ nm K := by
  exact call_fn1 (args := [(.p 0 0), (.g (Pt (a)))]) (res := [(.g [.many 33 (cells .u8 33 (jpack a))])]) tyOK Go.Proofs.Try.func30 (c := (Go.Proofs.Try.f30).body.getD .skip) rfl (by kernel_rfl) (rs := [.cell 4 25]) rfl [(k, off, Gl)] (Nat.le_of_ble_eq_true rfl) (okAll_mem (by repeat first | exact trivial | exact okC_nil | refine okMany ?_ ?_ | refine okOne ?_ ?_ | exact W_cv _ | exact V_cv _ | exact Dd_cv _ | exact cells_cv _ _ _ | (show (_ : Nat) < _; exact (Nat.le_of_ble_eq_true rfl)) | exact rfl | refine And.intro ?_ ?_)) (by repeat first | exact plain_nil | exact okC_nil | refine plain_v ?_ | refine plain_g ?_ ?_ | refine okMany ?_ ?_ | refine okOne ?_ ?_ | exact rfl | exact W_cv _ | exact V_cv _ | exact Dd_cv _ | exact cells_cv _ _ _ | exact okPt _) (fun w => g_pack_walk a ha w) ⟨hv0, (by repeat first | exact okC_nil | refine okMany ?_ ?_ | refine okOne ?_ ?_ | exact rfl | exact W_cv _ | exact V_cv _ | exact Dd_cv _ | exact cells_cv _ _ _ | exact okPt _), trivial⟩ (fun ρ => by first | rfl | (simp [SV.den, viewRho, Nat.add_assoc]; done) | (simp [SV.den, viewRho, Nat.add_assoc]; rfl)) hk
theorem c_valid_walk (f : Nat → Nat) (hf : ∀ i, f i < 256) (w : World) : VC Go.Proofs.Try.prog (fun _ => False) w ((Go.Proofs.Try.f12).body.getD .skip) (mkSt (argSlots 0 [(.g [.many 32 (cells .u8 32 (f))])]) [] 0 12) (endS Γ [.tmp 2] (fun _ r => r = [(.v (.bool (keyOK (be f 32))))])) := by
  unfold Go.Proofs.Try.f12
  dsimp only [Option.getD]
  refine vc_seq ?_
  refine vc_straight tyOK false [0, 1] rfl 0 16 rfl rfl ?_
  iterate 2 refine And.intro trivial ?_
  refine vc_seq ?_
  refine vc_drawn tyOK mixed false [1, 0, 2, 3, 4, 5, 6, 7, 8] (by kernel_rfl) 16 88 rfl rfl ?_
  refine And.intro trivial ?_
  refine curve_vc ?_
  refine g_key_vc f hf ⟨_, _, rfl, part_all⟩ ?_
  iterate 6 refine And.intro (by first | exact trivial | exact ⟨trivial, rfl⟩) ?_
  refine vc_seq ?_
  refine vc_straight tyOK false [0, 1] rfl 88 104 rfl rfl ?_
  iterate 2 refine And.intro trivial ?_
  refine vc_ret ?_
  refine And.intro (by first | exact trivial | exact ⟨trivial, trivial⟩ | exact ⟨trivial, trivial, trivial⟩) ?_
  rfl
theorem c_valid_vc (f : Nat → Nat)  (hf : ∀ i, f i < 256) {eff : Bool} {σ : SSt} {nm : Nat} {K : SSt → SS → Prop}  (hk : K σ (.one ((.v (.bool (keyOK (be f 32))))))) : CallVC Go.Proofs.Try.prog eff (.fn 12) [(.g [.many 32 (cells .u8 32 (f))])] σ nm K := by
  exact call_plain (res := [(.v (.bool (keyOK (be f 32))))]) tyOK Go.Proofs.Try.func12 (c := (Go.Proofs.Try.f12).body.getD .skip) rfl (by kernel_rfl) (rs := [.tmp 2]) rfl (Nat.le_of_ble_eq_true rfl) (by repeat first | exact plain_nil | exact okC_nil | refine plain_v ?_ | refine plain_g ?_ ?_ | refine okMany ?_ ?_ | refine okOne ?_ ?_ | exact rfl | exact W_cv _ | exact V_cv _ | exact Dd_cv _ | exact cells_cv _ _ _ | exact okPt _) (by repeat first | exact plain_nil | exact okC_nil | refine plain_v ?_ | refine plain_g ?_ ?_ | refine okMany ?_ ?_ | refine okOne ?_ ?_ | exact rfl | exact W_cv _ | exact V_cv _ | exact Dd_cv _ | exact cells_cv _ _ _ | exact okPt _) (fun w => c_valid_walk f hf w) hk
theorem c_isPublic_walk (n st len cap : Nat) (f : Nat → Nat) (hn : st + len ≤ n) (hc : len ≤ cap) (hf : ∀ i, f i < 256) (w : World) : VC Go.Proofs.Try.prog (fun _ => False) w ((Go.Proofs.Try.f13).body.getD .skip) (mkSt (argSlots 0 [(.s 0 0 st len cap)]) [(0, ⟨[.many n (cells .u8 n f)], false⟩)] 1 12) (endS Γ [.tmp 2] (fun _ r => r = [(.v (.bool (junpack f st len).2))])) := by
  unfold Go.Proofs.Try.f13
  dsimp only [Option.getD]
  refine vc_seq ?_
  refine vc_straight tyOK false [0] rfl 1 9 rfl rfl ?_
  refine And.intro trivial ?_
  refine vc_seq ?_
  refine vc_straight tyOK false [0, 1, 2, 3, 4, 5, 6, 7, 8] rfl 9 81 rfl rfl ?_
  refine curve_vc ?_
  refine And.intro trivial ?_
  refine g_unpack_vc n st len cap f hn hc hf ⟨_, _, rfl, part_all⟩ ⟨_, _, rfl, part_all⟩ ?_
  iterate 6 refine And.intro (by first | exact trivial | exact ⟨trivial, rfl⟩) ?_
  refine vc_seq ?_
  refine vc_straight tyOK false [0, 1] rfl 81 97 rfl rfl ?_
  iterate 2 refine And.intro trivial ?_
  refine vc_ret ?_
  refine And.intro (by first | exact trivial | exact ⟨trivial, trivial⟩ | exact ⟨trivial, trivial, trivial⟩) ?_
  rfl
theorem c_isPublic_vc (n st len cap : Nat) (f : Nat → Nat) {kb base : Nat} (hn : st + len ≤ n) (hc : len ≤ cap) (hf : ∀ i, f i < 256) {eff : Bool} {σ : SSt} {nm : Nat} {K : SSt → SS → Prop} (hv0 : Has σ (kb) (base) [.many n (cells .u8 n f)]) (hk : K σ (.one ((.v (.bool (junpack f st len).2))))) : CallVC Go.Proofs.Try.prog eff (.fn 13) [(.s kb base st len cap)] σ nm K := by
  exact call_fn1 (args := [(.s 0 0 st len cap)]) (res := [(.v (.bool (junpack f st len).2))]) tyOK Go.Proofs.Try.func13 (c := (Go.Proofs.Try.f13).body.getD .skip) rfl (by kernel_rfl) (rs := [.tmp 2]) rfl [(kb, base, [.many n (cells .u8 n f)])] (Nat.le_of_ble_eq_true rfl) (okAll_mem (by repeat first | exact trivial | exact okC_nil | refine okMany ?_ ?_ | refine okOne ?_ ?_ | exact W_cv _ | exact V_cv _ | exact Dd_cv _ | exact cells_cv _ _ _ | (show (_ : Nat) < _; exact (Nat.le_of_ble_eq_true rfl)) | exact rfl | refine And.intro ?_ ?_)) (by repeat first | exact plain_nil | exact okC_nil | refine plain_v ?_ | refine plain_g ?_ ?_ | refine okMany ?_ ?_ | refine okOne ?_ ?_ | exact rfl | exact W_cv _ | exact V_cv _ | exact Dd_cv _ | exact cells_cv _ _ _ | exact okPt _) (fun w => c_isPublic_walk n st len cap f hn hc hf w) ⟨hv0, (by repeat first | exact okC_nil | refine okMany ?_ ?_ | refine okOne ?_ ?_ | exact rfl | exact W_cv _ | exact V_cv _ | exact Dd_cv _ | exact cells_cv _ _ _ | exact okPt _), trivial⟩ (fun ρ => by first | rfl | (simp [SV.den, viewRho, Nat.add_assoc]; done) | (simp [SV.den, viewRho, Nat.add_assoc]; rfl)) hk
theorem c_public_walk (f : Nat → Nat) (hf : ∀ i, f i < 256) (w : World) : VC Go.Proofs.Try.prog (fun _ => False) w ((Go.Proofs.Try.f10).body.getD .skip) (mkSt (argSlots 0 [(.g [.many 32 (cells .u8 32 (f))])]) [] 0 24) (endS Γ [.cell 2 25, .tmp 3] (fun _ r => r = [(.g [.many 33 (cells .u8 33 ((pubOf f).1))]), (.v (.int .i64 ((pubOf f).2 : Nat)))])) := by
  unfold Go.Proofs.Try.f10
  dsimp only [Option.getD]
  refine vc_seq ?_
  refine vc_straight tyOK false [0, 1, 2] rfl 0 24 rfl rfl ?_
  iterate 3 refine And.intro trivial ?_
  refine vc_seq ?_
  refine vc_straight tyOK false [0, 1] rfl 24 40 rfl rfl ?_
  refine curve_vc ?_
  refine And.intro trivial ?_
  refine vc_seq ?_
  refine vc_straight tyOK false [0, 1, 2, 3, 4, 5, 6, 7, 8] rfl 40 112 rfl rfl ?_
  iterate 2 refine And.intro trivial ?_
  refine g_key_vc f hf ⟨_, _, rfl, part_all⟩ ?_
  iterate 6 refine And.intro (by first | exact trivial | exact ⟨trivial, rfl⟩) ?_
  refine vc_seq ?_
  refine vc_seq ?_
  refine vc_straight tyOK false [0, 1] rfl 112 128 rfl rfl ?_
  iterate 2 refine And.intro trivial ?_
  refine vc_if rfl (fun hc1 => ?_) (fun hc1 => ?_)
  · have h0 : ¬ keyOK (be f 32) = true := by simpa using hc1
    refine vc_seq ?_
    refine vc_straight tyOK false [0, 1, 2] rfl 128 152 rfl rfl ?_
    iterate 3 refine And.intro (by first | exact trivial | exact ⟨trivial, rfl⟩) ?_
    refine vc_ret ?_
    refine And.intro (by first | exact trivial | exact ⟨trivial, trivial⟩ | exact ⟨trivial, trivial, trivial⟩) ?_
    first
    | (rw [pubOf_yes h1]; rfl)
    | (rw [pubOf_no h0, ← zero_bytes]; rfl)
  · have h1 : keyOK (be f 32) = true := by simpa using hc1
    refine vc_skip ?_
    refine vc_seq ?_
    refine vc_drawn tyOK mixed false [0, 1, 2, 3, 4, 5, 6, 7, 8] (by kernel_rfl) 152 224 rfl rfl ?_
    iterate 4 refine And.intro trivial ?_
    refine g_base_vc ⟨_, _, rfl, part_all⟩ ?_
    refine g_times_vc (be f 32) jG jG_ok ⟨_, _, rfl, part_all⟩ ?_
    refine g_pack_vc (jtimes (be f 32) jG 256) (jtimes_ok jG_ok _) ⟨_, _, rfl, part_all⟩ ?_
    iterate 2 refine And.intro (by first | exact trivial | exact ⟨trivial, rfl⟩) ?_
    refine vc_ret ?_
    refine And.intro (by first | exact trivial | exact ⟨trivial, trivial⟩ | exact ⟨trivial, trivial, trivial⟩) ?_
    first
    | (rw [pubOf_yes h1]; rfl)
    | (rw [pubOf_no h0, ← zero_bytes]; rfl)
theorem c_public_vc (f : Nat → Nat)  (hf : ∀ i, f i < 256) {eff : Bool} {σ : SSt} {nm : Nat} {K : SSt → SS → Prop}  (hk : K σ (.tup [(.g [.many 33 (cells .u8 33 ((pubOf f).1))]), (.v (.int .i64 ((pubOf f).2 : Nat)))])) : CallVC Go.Proofs.Try.prog eff (.fn 10) [(.g [.many 32 (cells .u8 32 (f))])] σ nm K := by
  exact call_plain (res := [(.g [.many 33 (cells .u8 33 ((pubOf f).1))]), (.v (.int .i64 ((pubOf f).2 : Nat)))]) tyOK Go.Proofs.Try.func10 (c := (Go.Proofs.Try.f10).body.getD .skip) rfl (by kernel_rfl) (rs := [.cell 2 25, .tmp 3]) rfl (Nat.le_of_ble_eq_true rfl) (by repeat first | exact plain_nil | exact okC_nil | refine plain_v ?_ | refine plain_g ?_ ?_ | refine okMany ?_ ?_ | refine okOne ?_ ?_ | exact rfl | exact W_cv _ | exact V_cv _ | exact Dd_cv _ | exact cells_cv _ _ _ | exact okPt _) (by repeat first | exact plain_nil | exact okC_nil | refine plain_v ?_ | refine plain_g ?_ ?_ | refine okMany ?_ ?_ | refine okOne ?_ ?_ | exact rfl | exact W_cv _ | exact V_cv _ | exact Dd_cv _ | exact cells_cv _ _ _ | exact okPt _) (fun w => c_public_walk f hf w) hk
theorem c_addKey_walk (f g : Nat → Nat) (hf : ∀ i, f i < 256) (hg : ∀ i, g i < 256) (w : World) : VC Go.Proofs.Try.prog (fun _ => False) w ((Go.Proofs.Try.f19).body.getD .skip) (mkSt (argSlots 0 [(.g [.many 32 (cells .u8 32 (f))]), (.g [.many 32 (cells .u8 32 (g))])]) [] 0 42) (endS Γ [.cell 4 22, .tmp 5] (fun _ r => r = [(.g [.many 32 (cells .u8 32 ((addKey f g).1))]), (.v (.int .i64 ((addKey f g).2 : Nat)))])) := by
  unfold Go.Proofs.Try.f19
  dsimp only [Option.getD]
  have hG := be_lt_R (f := g) (fun i _ => hg i)
  refine vc_seq ?_
  refine vc_straight tyOK false [0, 1, 2, 3] rfl 0 32 rfl rfl ?_
  iterate 4 refine And.intro trivial ?_
  refine vc_seq ?_
  refine vc_straight tyOK false [0, 1] rfl 32 48 rfl rfl ?_
  refine curve_vc ?_
  refine And.intro trivial ?_
  refine vc_seq ?_
  refine vc_straight tyOK false [0, 1, 2, 3, 4, 5, 6, 7, 8] rfl 48 120 rfl rfl ?_
  iterate 2 refine And.intro trivial ?_
  refine g_key_vc f hf ⟨_, _, rfl, part_all⟩ ?_
  iterate 6 refine And.intro (by first | exact trivial | exact ⟨trivial, rfl⟩) ?_
  refine vc_seq ?_
  refine vc_straight tyOK false [0, 1, 2, 3] rfl 120 152 rfl rfl ?_
  refine And.intro (by ((repeat' first | exact trivial | exact rfl | exact Nat.le_of_ble_eq_true rfl | decide | omega | refine And.intro ?_ ?_); done)) ?_
  refine number0_vc 32 32 g (by omega) hg ⟨_, _, rfl, part_all⟩ ?_
  iterate 2 refine And.intro (by first | exact trivial | exact ⟨trivial, rfl⟩) ?_
  refine vc_seq ?_
  refine vc_seq ?_
  refine vc_drawn tyOK mixed false [0, 1, 2, 3, 4, 5, 6, 7, 8, 9] (by kernel_rfl) 152 232 rfl rfl ?_
  iterate 2 refine And.intro trivial ?_
  refine reg_bool rfl rfl rfl rfl (by exact trivial) (fun b hb2 => ?_)
  cases b with
  | false =>
    have h1 : keyOK (be f 32) = true := by simpa using hb2
    iterate 4 refine And.intro (by first | exact trivial | decide) ?_
    refine f_below_vc Nn _ mo_N hG ⟨_, _, rfl, part_of (n := 7) rfl⟩ ?_
    iterate 2 refine And.intro trivial ?_
    refine vc_if rfl (fun hc1 => ?_) (fun hc1 => ?_)
    · have h8 : ¬ be g 32 < Nn := by simpa using hc1
      refine vc_seq ?_
      refine vc_straight tyOK false [0, 1, 2] rfl 232 256 rfl rfl ?_
      iterate 3 refine And.intro (by first | exact trivial | exact ⟨trivial, rfl⟩) ?_
      refine vc_ret ?_
      refine And.intro (by first | exact trivial | exact ⟨trivial, trivial⟩ | exact ⟨trivial, trivial, trivial⟩) ?_
      first
      | (rw [addKey_no (fun h => h8 h.2), ← zero_bytes]; rfl)
      | (rw [addKey_no (fun h => h9 h.1), ← zero_bytes]; rfl)
      | (rw [addKey_0 h1 h2 h3, ← zero_bytes]; rfl)
      | (rw [addKey_yes h1 h2 h4]; rfl)
    · have h2 : be g 32 < Nn := by simpa using hc1
      refine vc_skip ?_
      refine vc_seq ?_
      refine vc_drawn tyOK mixed false [0, 1, 2, 3, 4, 5, 6, 7] (by kernel_rfl) 256 320 rfl rfl ?_
      iterate 5 refine And.intro (by first | exact trivial | decide) ?_
      refine f_add_vc Nn _ _ mo_N (keyOK_lt h1) h2 ⟨_, _, rfl, part_of (n := 7) rfl⟩ ?_
      iterate 2 refine And.intro (by first | exact trivial | exact ⟨trivial, rfl⟩) ?_
      refine vc_seq ?_
      refine vc_seq ?_
      refine vc_straight tyOK false [0, 1] rfl 320 336 rfl rfl ?_
      refine And.intro trivial ?_
      refine num_zero_vc _ (mod_ltR mo_N _) ?_
      refine vc_if rfl (fun hc2 => ?_) (fun hc2 => ?_)
      · have h3 : (be f 32 + be g 32) % Nn = 0 := by simpa using hc2
        refine vc_seq ?_
        refine vc_straight tyOK false [0, 1, 2] rfl 336 360 rfl rfl ?_
        iterate 3 refine And.intro (by first | exact trivial | exact ⟨trivial, rfl⟩) ?_
        refine vc_ret ?_
        refine And.intro (by first | exact trivial | exact ⟨trivial, trivial⟩ | exact ⟨trivial, trivial, trivial⟩) ?_
        first
        | (rw [addKey_no (fun h => h8 h.2), ← zero_bytes]; rfl)
        | (rw [addKey_no (fun h => h9 h.1), ← zero_bytes]; rfl)
        | (rw [addKey_0 h1 h2 h3, ← zero_bytes]; rfl)
        | (rw [addKey_yes h1 h2 h4]; rfl)
      · have h4 : ¬ (be f 32 + be g 32) % Nn = 0 := by simpa using hc2
        refine vc_skip ?_
        refine vc_seq ?_
        refine vc_straight tyOK false [0, 1, 2, 3] rfl 360 392 rfl rfl ?_
        refine And.intro trivial ?_
        refine num_bytes_vc _ (mod_ltR mo_N _) ?_
        iterate 2 refine And.intro (by first | exact trivial | exact ⟨trivial, rfl⟩) ?_
        refine vc_ret ?_
        refine And.intro (by first | exact trivial | exact ⟨trivial, trivial⟩ | exact ⟨trivial, trivial, trivial⟩) ?_
        first
        | (rw [addKey_no (fun h => h8 h.2), ← zero_bytes]; rfl)
        | (rw [addKey_no (fun h => h9 h.1), ← zero_bytes]; rfl)
        | (rw [addKey_0 h1 h2 h3, ← zero_bytes]; rfl)
        | (rw [addKey_yes h1 h2 h4]; rfl)
  | true =>
    have h9 : ¬ keyOK (be f 32) = true := by simpa using hb2
    refine And.intro trivial ?_
    refine vc_if rfl (fun hc3 => ?_) (fun hc3 => ?_)
    · skip
      refine vc_seq ?_
      refine vc_straight tyOK false [0, 1, 2] rfl 232 256 rfl rfl ?_
      iterate 3 refine And.intro (by first | exact trivial | exact ⟨trivial, rfl⟩) ?_
      refine vc_ret ?_
      refine And.intro (by first | exact trivial | exact ⟨trivial, trivial⟩ | exact ⟨trivial, trivial, trivial⟩) ?_
      first
      | (rw [addKey_no (fun h => h8 h.2), ← zero_bytes]; rfl)
      | (rw [addKey_no (fun h => h9 h.1), ← zero_bytes]; rfl)
      | (rw [addKey_0 h1 h2 h3, ← zero_bytes]; rfl)
      | (rw [addKey_yes h1 h2 h4]; rfl)
    · cases hc3
theorem c_addKey_vc (f g : Nat → Nat)  (hf : ∀ i, f i < 256) (hg : ∀ i, g i < 256) {eff : Bool} {σ : SSt} {nm : Nat} {K : SSt → SS → Prop}  (hk : K σ (.tup [(.g [.many 32 (cells .u8 32 ((addKey f g).1))]), (.v (.int .i64 ((addKey f g).2 : Nat)))])) : CallVC Go.Proofs.Try.prog eff (.fn 19) [(.g [.many 32 (cells .u8 32 (f))]), (.g [.many 32 (cells .u8 32 (g))])] σ nm K := by
  exact call_plain (res := [(.g [.many 32 (cells .u8 32 ((addKey f g).1))]), (.v (.int .i64 ((addKey f g).2 : Nat)))]) tyOK Go.Proofs.Try.func19 (c := (Go.Proofs.Try.f19).body.getD .skip) rfl (by kernel_rfl) (rs := [.cell 4 22, .tmp 5]) rfl (Nat.le_of_ble_eq_true rfl) (by repeat first | exact plain_nil | exact okC_nil | refine plain_v ?_ | refine plain_g ?_ ?_ | refine okMany ?_ ?_ | refine okOne ?_ ?_ | exact rfl | exact W_cv _ | exact V_cv _ | exact Dd_cv _ | exact cells_cv _ _ _ | exact okPt _) (by repeat first | exact plain_nil | exact okC_nil | refine plain_v ?_ | refine plain_g ?_ ?_ | refine okMany ?_ ?_ | refine okOne ?_ ?_ | exact rfl | exact W_cv _ | exact V_cv _ | exact Dd_cv _ | exact cells_cv _ _ _ | exact okPt _) (fun w => c_addKey_walk f g hf hg w) hk
theorem c_addPub_walk (f g : Nat → Nat) (hf : ∀ i, f i < 256) (hg : ∀ i, g i < 256) (w : World) : VC Go.Proofs.Try.prog (fun _ => False) w ((Go.Proofs.Try.f21).body.getD .skip) (mkSt (argSlots 0 [(.g [.many 33 (cells .u8 33 (f))]), (.g [.many 32 (cells .u8 32 (g))])]) [] 0 43) (endS Γ [.cell 4 25, .tmp 5] (fun _ r => r = [(.g [.many 33 (cells .u8 33 ((addPub f g).1))]), (.v (.int .i64 ((addPub f g).2 : Nat)))])) := by
  unfold Go.Proofs.Try.f21
  dsimp only [Option.getD]
  have hG := be_lt_R (f := g) (fun i _ => hg i)
  refine vc_seq ?_
  refine vc_straight tyOK false [0, 1, 2, 3] rfl 0 32 rfl rfl ?_
  iterate 4 refine And.intro trivial ?_
  refine vc_seq ?_
  refine vc_straight tyOK false [0, 1] rfl 32 48 rfl rfl ?_
  refine curve_vc ?_
  refine And.intro trivial ?_
  refine vc_seq ?_
  refine vc_straight tyOK false [0, 1, 2, 3] rfl 48 80 rfl rfl ?_
  refine And.intro (by ((repeat' first | exact trivial | exact rfl | exact Nat.le_of_ble_eq_true rfl | decide | omega | refine And.intro ?_ ?_); done)) ?_
  refine number0_vc 32 32 g (by omega) hg ⟨_, _, rfl, part_all⟩ ?_
  iterate 2 refine And.intro (by first | exact trivial | exact ⟨trivial, rfl⟩) ?_
  refine vc_seq ?_
  refine vc_seq ?_
  refine vc_drawn tyOK mixed false [0, 1, 2, 3, 4, 5] (by kernel_rfl) 80 128 rfl rfl ?_
  iterate 4 refine And.intro (by first | exact trivial | decide) ?_
  refine f_below_vc Nn _ mo_N hG ⟨_, _, rfl, part_of (n := 7) rfl⟩ ?_
  refine And.intro trivial ?_
  refine vc_if rfl (fun hc1 => ?_) (fun hc1 => ?_)
  · have h8 : ¬ be g 32 < Nn := by simpa using hc1
    refine vc_seq ?_
    refine vc_straight tyOK false [0, 1, 2] rfl 128 152 rfl rfl ?_
    iterate 3 refine And.intro (by first | exact trivial | exact ⟨trivial, rfl⟩) ?_
    refine vc_ret ?_
    refine And.intro (by first | exact trivial | exact ⟨trivial, trivial⟩ | exact ⟨trivial, trivial, trivial⟩) ?_
    first
    | (rw [addPub_no h8, ← zero_bytes]; rfl)
    | (rw [addPub_form h2 h7, ← zero_bytes]; rfl)
    | (rw [addPub_0 h2 h3 h4, ← zero_bytes]; rfl)
    | (rw [addPub_yes h2 h3 h5]; rfl)
  · have h2 : be g 32 < Nn := by simpa using hc1
    refine vc_skip ?_
    refine vc_seq ?_
    refine vc_straight tyOK false [0, 1, 2, 3, 4, 5, 6, 7, 8] rfl 152 224 rfl rfl ?_
    iterate 2 refine And.intro (by first | exact trivial | ((repeat' first | exact trivial | exact rfl | exact Nat.le_of_ble_eq_true rfl | decide | omega | refine And.intro ?_ ?_); done)) ?_
    refine g_unpack_vc 33 0 33 33 f (by omega) (by omega) hf ⟨_, _, rfl, part_all⟩ ⟨_, _, rfl, part_all⟩ ?_
    iterate 6 refine And.intro (by first | exact trivial | exact ⟨trivial, rfl⟩) ?_
    refine vc_seq ?_
    refine vc_seq ?_
    refine vc_straight tyOK false [0, 1] rfl 224 240 rfl rfl ?_
    iterate 2 refine And.intro trivial ?_
    refine vc_if rfl (fun hc2 => ?_) (fun hc2 => ?_)
    · have h7 : ¬ (junpack f 0 33).2 = true := by simpa using hc2
      refine vc_seq ?_
      refine vc_straight tyOK false [0, 1, 2] rfl 240 264 rfl rfl ?_
      iterate 3 refine And.intro (by first | exact trivial | exact ⟨trivial, rfl⟩) ?_
      refine vc_ret ?_
      refine And.intro (by first | exact trivial | exact ⟨trivial, trivial⟩ | exact ⟨trivial, trivial, trivial⟩) ?_
      first
      | (rw [addPub_no h8, ← zero_bytes]; rfl)
      | (rw [addPub_form h2 h7, ← zero_bytes]; rfl)
      | (rw [addPub_0 h2 h3 h4, ← zero_bytes]; rfl)
      | (rw [addPub_yes h2 h3 h5]; rfl)
    · have h3 : (junpack f 0 33).2 = true := by simpa using hc2
      refine vc_skip ?_
      refine vc_seq ?_
      refine vc_drawn tyOK mixed false [0, 1, 2, 3, 4, 5, 6, 7, 8, 9] (by kernel_rfl) 264 344 rfl rfl ?_
      iterate 5 refine And.intro trivial ?_
      refine g_base_vc ⟨_, _, rfl, part_all⟩ ?_
      refine g_times_vc (be g 32) jG jG_ok ⟨_, _, rfl, part_all⟩ ?_
      refine g_add_vc _ _ (junpack_ok _ _ _) (jtimes_ok jG_ok _) ⟨_, _, rfl, part_all⟩ ?_
      iterate 2 refine And.intro (by first | exact trivial | exact ⟨trivial, rfl⟩) ?_
      refine vc_seq ?_
      refine vc_seq ?_
      refine vc_straight tyOK false [0] rfl 344 352 rfl rfl ?_
      refine pt_inf_vc _ (jadd_ok (junpack_ok _ _ _) (jtimes_ok jG_ok _)) ⟨_, _, rfl, part_all⟩ ?_
      refine vc_if rfl (fun hc3 => ?_) (fun hc3 => ?_)
      · have h4 := of_decide_eq_true hc3
        refine vc_seq ?_
        refine vc_straight tyOK false [0, 1, 2] rfl 352 376 rfl rfl ?_
        iterate 3 refine And.intro (by first | exact trivial | exact ⟨trivial, rfl⟩) ?_
        refine vc_ret ?_
        refine And.intro (by first | exact trivial | exact ⟨trivial, trivial⟩ | exact ⟨trivial, trivial, trivial⟩) ?_
        first
        | (rw [addPub_no h8, ← zero_bytes]; rfl)
        | (rw [addPub_form h2 h7, ← zero_bytes]; rfl)
        | (rw [addPub_0 h2 h3 h4, ← zero_bytes]; rfl)
        | (rw [addPub_yes h2 h3 h5]; rfl)
      · have h5 := of_decide_eq_false hc3
        refine vc_skip ?_
        refine vc_seq ?_
        refine vc_straight tyOK false [0, 1, 2, 3, 4] rfl 376 416 rfl rfl ?_
        iterate 2 refine And.intro trivial ?_
        refine g_pack_vc _ (jadd_ok (junpack_ok _ _ _) (jtimes_ok jG_ok _)) ⟨_, _, rfl, part_all⟩ ?_
        iterate 2 refine And.intro (by first | exact trivial | exact ⟨trivial, rfl⟩) ?_
        refine vc_ret ?_
        refine And.intro (by first | exact trivial | exact ⟨trivial, trivial⟩ | exact ⟨trivial, trivial, trivial⟩) ?_
        first
        | (rw [addPub_no h8, ← zero_bytes]; rfl)
        | (rw [addPub_form h2 h7, ← zero_bytes]; rfl)
        | (rw [addPub_0 h2 h3 h4, ← zero_bytes]; rfl)
        | (rw [addPub_yes h2 h3 h5]; rfl)
theorem c_addPub_vc (f g : Nat → Nat)  (hf : ∀ i, f i < 256) (hg : ∀ i, g i < 256) {eff : Bool} {σ : SSt} {nm : Nat} {K : SSt → SS → Prop}  (hk : K σ (.tup [(.g [.many 33 (cells .u8 33 ((addPub f g).1))]), (.v (.int .i64 ((addPub f g).2 : Nat)))])) : CallVC Go.Proofs.Try.prog eff (.fn 21) [(.g [.many 33 (cells .u8 33 (f))]), (.g [.many 32 (cells .u8 32 (g))])] σ nm K := by
  exact call_plain (res := [(.g [.many 33 (cells .u8 33 ((addPub f g).1))]), (.v (.int .i64 ((addPub f g).2 : Nat)))]) tyOK Go.Proofs.Try.func21 (c := (Go.Proofs.Try.f21).body.getD .skip) rfl (by kernel_rfl) (rs := [.cell 4 25, .tmp 5]) rfl (Nat.le_of_ble_eq_true rfl) (by repeat first | exact plain_nil | exact okC_nil | refine plain_v ?_ | refine plain_g ?_ ?_ | refine okMany ?_ ?_ | refine okOne ?_ ?_ | exact rfl | exact W_cv _ | exact V_cv _ | exact Dd_cv _ | exact cells_cv _ _ _ | exact okPt _) (by repeat first | exact plain_nil | exact okC_nil | refine plain_v ?_ | refine plain_g ?_ ?_ | refine okMany ?_ ?_ | refine okOne ?_ ?_ | exact rfl | exact W_cv _ | exact V_cv _ | exact Dd_cv _ | exact cells_cv _ _ _ | exact okPt _) (fun w => c_addPub_walk f g hf hg w) hk
theorem c_verify_walk (n st len cap : Nat) (f m : Nat → Nat) (n' st' len' cap' : Nat) (g : Nat → Nat) (hn : st + len ≤ n) (hc : len ≤ cap) (hf : ∀ i, f i < 256) (hm : ∀ i, m i < 256) (hn' : st' + len' ≤ n') (hc' : len' ≤ cap') (hg : ∀ i, g i < 256) (w : World) : VC Go.Proofs.Try.prog (fun _ => False) w ((Go.Proofs.Try.f17).body.getD .skip) (mkSt (argSlots 0 [(.s 0 0 st len cap), (.g [.many 32 (cells .u8 32 (m))]), (.s 1 0 st' len' cap')]) [(0, ⟨[.many n (cells .u8 n f)], false⟩), (1, ⟨[.many n' (cells .u8 n' g)], false⟩)] 2 95) (endS Γ [.tmp 6] (fun _ r => r = [(.v (.bool (verify f st len m g st' len')))])) := by
  unfold Go.Proofs.Try.f17
  dsimp only [Option.getD]
  have hM := be_lt_R (f := m) (fun i _ => hm i)
  refine vc_seq ?_
  refine vc_straight tyOK false [0, 1] rfl 2 18 rfl rfl ?_
  iterate 2 refine And.intro trivial ?_
  refine vc_seq ?_
  refine vc_seq ?_
  refine vc_straight tyOK false [0, 1, 2] rfl 18 42 rfl rfl ?_
  iterate 3 refine And.intro (by first | exact trivial | exact rfl) ?_
  refine vc_if rfl (fun hc1 => ?_) (fun hc1 => ?_)
  · have h64 : len' ≠ 64 := bnen hc1
    refine vc_seq ?_
    refine vc_straight tyOK false [0] rfl 42 50 rfl rfl ?_
    refine And.intro trivial ?_
    refine vc_ret ?_
    refine And.intro (by first | exact trivial | exact ⟨trivial, trivial⟩ | exact ⟨trivial, trivial, trivial⟩) ?_
    first
    | (rw [verify_yes h2 h3 h4, verPt_0 h5]; done)
    | (rw [verify_yes h2 h3 h4, verPt_1 h6]; exact verEq (Nat.lt_trans (Nat.mod_lt _ (by decide)) mo_N.lt) (Nat.lt_trans (keyOK_lt h3) mo_N.lt))
    | (rw [verify_no (fun h => h64 h.1)])
    | (rw [verify_no (fun h => h9 h.2.1)])
    | (rw [verify_no (fun h => h8 h.2.2.1)])
    | (rw [verify_no (fun h => h7 h.2.2.2)])
  · have h64 : len' = 64 := nbnen hc1
    subst h64
    refine vc_skip ?_
    refine vc_seq ?_
    refine vc_straight tyOK false [0, 1] rfl 50 66 rfl rfl ?_
    refine curve_vc ?_
    refine And.intro trivial ?_
    refine vc_seq ?_
    refine vc_straight tyOK false [0, 1, 2, 3, 4, 5, 6, 7, 8] rfl 66 138 rfl rfl ?_
    iterate 2 refine And.intro trivial ?_
    refine g_unpack_vc n st len cap f hn hc hf ⟨_, _, rfl, part_all⟩ ⟨_, _, rfl, part_all⟩ ?_
    iterate 6 refine And.intro (by first | exact trivial | exact ⟨trivial, rfl⟩) ?_
    refine vc_seq ?_
    refine vc_straight tyOK false [0, 1, 2, 3, 4, 5, 6, 7, 8, 9, 10, 11] rfl 138 234 rfl rfl ?_
    iterate 2 refine And.intro trivial ?_
    refine reg_sv rfl rfl rfl rfl ?_ (fun v hv => ?_)
    · exact (by ((repeat' first | exact trivial | exact rfl | exact Nat.le_of_ble_eq_true rfl | decide | omega | refine And.intro ?_ ?_); done))
    replace hv := hv.symm.trans (show SV.s 1 0 (if cap' = 0 then st' else st' + 0) 32 (cap' - 0) = SV.s 1 0 st' 32 cap' from by rw [if_neg (by omega)]; rfl)
    subst hv
    refine And.intro (by decide) ?_
    refine reg_sv rfl rfl rfl rfl ?_ (fun v hv => ?_)
    · exact (by (show (_ : Nat) < _; omega))
    replace hv := hv.symm.trans (sv_cells (n := n') (m := 32) (by omega))
    subst hv
    refine g_key_vc (fun i => g (st' + i)) (fun i => hg _) ⟨_, _, rfl, part_all⟩ ?_
    iterate 6 refine And.intro (by first | exact trivial | exact ⟨trivial, rfl⟩) ?_
    refine vc_seq ?_
    refine vc_straight tyOK false [0, 1, 2, 3, 4, 5, 6, 7, 8, 9, 10, 11] rfl 234 330 rfl rfl ?_
    iterate 2 refine And.intro trivial ?_
    refine reg_sv rfl rfl rfl rfl ?_ (fun v hv => ?_)
    · exact (by ((repeat' first | exact trivial | exact rfl | exact Nat.le_of_ble_eq_true rfl | decide | omega | refine And.intro ?_ ?_); done))
    replace hv := hv.symm.trans (show SV.s 1 0 (if cap' = 32 then st' else st' + 32) 32 (cap' - 32) = SV.s 1 0 (st' + 32) 32 (cap' - 32) from by rw [if_neg (by omega)])
    subst hv
    refine And.intro (by decide) ?_
    refine reg_sv rfl rfl rfl rfl ?_ (fun v hv => ?_)
    · exact (by omega)
    replace hv := hv.symm.trans (sv_cells (n := n') (m := 32) (by omega))
    subst hv
    refine g_key_vc (fun i => g (st' + 32 + i)) (fun i => hg _) ⟨_, _, rfl, part_all⟩ ?_
    iterate 6 refine And.intro (by first | exact trivial | exact ⟨trivial, rfl⟩) ?_
    refine vc_seq ?_
    refine vc_seq ?_
    refine vc_straight tyOK false [0, 1, 2, 3, 4, 5, 6, 7, 8, 9] rfl 330 410 rfl rfl ?_
    iterate 2 refine And.intro trivial ?_
    refine reg_bool rfl rfl rfl rfl (by exact trivial) (fun b hb2 => ?_)
    cases b with
    | false =>
      have h2 : (junpack f st len).2 = true := by simpa using hb2
      iterate 3 refine And.intro trivial ?_
      refine reg_bool rfl rfl rfl rfl (by exact trivial) (fun b hb6 => ?_)
      cases b with
      | false =>
        have h3 : keyOK (be (fun i => g (st' + i)) 32) = true := by simpa using hb6
        iterate 3 refine And.intro trivial ?_
        refine vc_if rfl (fun hc2 => ?_) (fun hc2 => ?_)
        · have h7 : ¬ keyOK (be (fun i => g (st' + 32 + i)) 32) = true := by simpa using hc2
          refine vc_seq ?_
          refine vc_straight tyOK false [0] rfl 410 418 rfl rfl ?_
          refine And.intro trivial ?_
          refine vc_ret ?_
          refine And.intro (by first | exact trivial | exact ⟨trivial, trivial⟩ | exact ⟨trivial, trivial, trivial⟩) ?_
          first
          | (rw [verify_yes h2 h3 h4, verPt_0 h5]; done)
          | (rw [verify_yes h2 h3 h4, verPt_1 h6]; exact verEq (Nat.lt_trans (Nat.mod_lt _ (by decide)) mo_N.lt) (Nat.lt_trans (keyOK_lt h3) mo_N.lt))
          | (rw [verify_no (fun h => h64 h.1)])
          | (rw [verify_no (fun h => h9 h.2.1)])
          | (rw [verify_no (fun h => h8 h.2.2.1)])
          | (rw [verify_no (fun h => h7 h.2.2.2)])
        · have h4 : keyOK (be (fun i => g (st' + 32 + i)) 32) = true := by simpa using hc2
          refine vc_skip ?_
          refine vc_seq ?_
          refine vc_straight tyOK false [0, 1, 2, 3] rfl 418 450 rfl rfl ?_
          iterate 4 refine And.intro (by first | exact trivial | decide) ?_
          refine vc_seq ?_
          refine vc_straight tyOK false [0, 1, 2, 3, 4] rfl 450 490 rfl rfl ?_
          iterate 2 refine And.intro trivial ?_
          refine f_inv_vc Nn _ mo_N (Nat.lt_trans (keyOK_lt h4) mo_N.lt) ⟨_, _, rfl, part_of (n := 7) rfl⟩ ?_
          iterate 2 refine And.intro (by first | exact trivial | exact ⟨trivial, rfl⟩) ?_
          refine vc_seq ?_
          refine vc_drawn tyOK mixed false [0, 1, 2, 3, 4, 7, 9, 12, 13, 14, 15, 17, 5, 6, 8, 10, 11, 16, 18, 19, 20, 21] (by kernel_rfl) 490 666 rfl rfl ?_
          iterate 12 refine And.intro (by first | exact trivial | ((repeat' first | exact trivial | exact rfl | exact Nat.le_of_ble_eq_true rfl | decide | omega | refine And.intro ?_ ?_); done)) ?_
          refine number0_vc 32 32 m (by omega) hm ⟨_, _, rfl, part_all⟩ ?_
          refine f_in_vc Nn _ mo_N hM ⟨_, _, rfl, part_of (n := 7) rfl⟩ ?_
          refine f_mul_vc Nn _ _ mo_N (mod_ltR mo_N _) (pw_ltR mo_N _ _) ⟨_, _, rfl, part_of (n := 7) rfl⟩ ?_
          refine g_base_vc ⟨_, _, rfl, part_all⟩ ?_
          refine g_times_vc _ jG jG_ok ⟨_, _, rfl, part_all⟩ ?_
          refine f_mul_vc Nn _ _ mo_N (Nat.lt_trans (keyOK_lt h3) mo_N.lt) (pw_ltR mo_N _ _) ⟨_, _, rfl, part_of (n := 7) rfl⟩ ?_
          refine g_times_vc _ _ (junpack_ok _ _ _) ⟨_, _, rfl, part_all⟩ ?_
          refine g_add_vc _ _ (jtimes_ok jG_ok _) (jtimes_ok (junpack_ok _ _ _) _) ⟨_, _, rfl, part_all⟩ ?_
          iterate 2 refine And.intro (by first | exact trivial | exact ⟨trivial, rfl⟩) ?_
          refine vc_seq ?_
          refine vc_seq ?_
          refine vc_straight tyOK false [0] rfl 666 674 rfl rfl ?_
          refine pt_inf_vc _ (jadd_ok (jtimes_ok jG_ok _) (jtimes_ok (junpack_ok _ _ _) _)) ⟨_, _, rfl, part_all⟩ ?_
          refine vc_if rfl (fun hc3 => ?_) (fun hc3 => ?_)
          · have h5 := of_decide_eq_true hc3
            refine vc_seq ?_
            refine vc_straight tyOK false [0] rfl 674 682 rfl rfl ?_
            refine And.intro trivial ?_
            refine vc_ret ?_
            refine And.intro (by first | exact trivial | exact ⟨trivial, trivial⟩ | exact ⟨trivial, trivial, trivial⟩) ?_
            first
            | (rw [verify_yes h2 h3 h4, verPt_0 h5]; done)
            | (rw [verify_yes h2 h3 h4, verPt_1 h6]; exact verEq (Nat.lt_trans (Nat.mod_lt _ (by decide)) mo_N.lt) (Nat.lt_trans (keyOK_lt h3) mo_N.lt))
            | (rw [verify_no (fun h => h64 h.1)])
            | (rw [verify_no (fun h => h9 h.2.1)])
            | (rw [verify_no (fun h => h8 h.2.2.1)])
            | (rw [verify_no (fun h => h7 h.2.2.2)])
          · have h6 := of_decide_eq_false hc3
            refine vc_skip ?_
            refine vc_seq ?_
            refine vc_straight tyOK false [0, 1, 2, 3, 4, 5, 6, 7, 8, 9] rfl 682 762 rfl rfl ?_
            iterate 2 refine And.intro trivial ?_
            refine g_flat_vc _ (jadd_ok (jtimes_ok jG_ok _) (jtimes_ok (junpack_ok _ _ _) _)) ⟨_, _, rfl, part_all⟩ ?_
            iterate 7 refine And.intro (by first | exact trivial | exact ⟨trivial, rfl⟩) ?_
            refine vc_seq ?_
            refine vc_drawn tyOK mixed false [0, 1, 3, 2, 4, 5] (by kernel_rfl) 762 810 rfl rfl ?_
            iterate 3 refine And.intro trivial ?_
            refine f_in_vc Nn _ mo_N (Nat.lt_trans (fm_lt _ _) mo_P.lt) ⟨_, _, rfl, part_of (n := 7) rfl⟩ ?_
            iterate 2 refine And.intro (by first | exact trivial | (refine Cv.eq_side ?_ ?_ <;> first | exact Cv.isC_cells _ _ _ | exact Cv.isC_rep _ _ _)) ?_
            refine vc_ret ?_
            refine And.intro (by first | exact trivial | exact ⟨trivial, trivial⟩ | exact ⟨trivial, trivial, trivial⟩) ?_
            first
            | (rw [verify_yes h2 h3 h4, verPt_0 h5]; done)
            | (rw [verify_yes h2 h3 h4, verPt_1 h6]; exact verEq (Nat.lt_trans (Nat.mod_lt _ (by decide)) mo_N.lt) (Nat.lt_trans (keyOK_lt h3) mo_N.lt))
            | (rw [verify_no (fun h => h64 h.1)])
            | (rw [verify_no (fun h => h9 h.2.1)])
            | (rw [verify_no (fun h => h8 h.2.2.1)])
            | (rw [verify_no (fun h => h7 h.2.2.2)])
      | true =>
        have h8 : ¬ keyOK (be (fun i => g (st' + i)) 32) = true := by simpa using hb6
        refine And.intro trivial ?_
        refine vc_if rfl (fun hc4 => ?_) (fun hc4 => ?_)
        · skip
          refine vc_seq ?_
          refine vc_straight tyOK false [0] rfl 410 418 rfl rfl ?_
          refine And.intro trivial ?_
          refine vc_ret ?_
          refine And.intro (by first | exact trivial | exact ⟨trivial, trivial⟩ | exact ⟨trivial, trivial, trivial⟩) ?_
          first
          | (rw [verify_yes h2 h3 h4, verPt_0 h5]; done)
          | (rw [verify_yes h2 h3 h4, verPt_1 h6]; exact verEq (Nat.lt_trans (Nat.mod_lt _ (by decide)) mo_N.lt) (Nat.lt_trans (keyOK_lt h3) mo_N.lt))
          | (rw [verify_no (fun h => h64 h.1)])
          | (rw [verify_no (fun h => h9 h.2.1)])
          | (rw [verify_no (fun h => h8 h.2.2.1)])
          | (rw [verify_no (fun h => h7 h.2.2.2)])
        · cases hc4
    | true =>
      have h9 : ¬ (junpack f st len).2 = true := by simpa using hb2
      refine And.intro trivial ?_
      refine reg_bool rfl rfl rfl rfl (by exact trivial) (fun b hb6 => ?_)
      cases b with
      | false =>
        cases hb6
      | true =>
        skip
        refine And.intro trivial ?_
        refine vc_if rfl (fun hc5 => ?_) (fun hc5 => ?_)
        · skip
          refine vc_seq ?_
          refine vc_straight tyOK false [0] rfl 410 418 rfl rfl ?_
          refine And.intro trivial ?_
          refine vc_ret ?_
          refine And.intro (by first | exact trivial | exact ⟨trivial, trivial⟩ | exact ⟨trivial, trivial, trivial⟩) ?_
          first
          | (rw [verify_yes h2 h3 h4, verPt_0 h5]; done)
          | (rw [verify_yes h2 h3 h4, verPt_1 h6]; exact verEq (Nat.lt_trans (Nat.mod_lt _ (by decide)) mo_N.lt) (Nat.lt_trans (keyOK_lt h3) mo_N.lt))
          | (rw [verify_no (fun h => h64 h.1)])
          | (rw [verify_no (fun h => h9 h.2.1)])
          | (rw [verify_no (fun h => h8 h.2.2.1)])
          | (rw [verify_no (fun h => h7 h.2.2.2)])
        · cases hc5
theorem c_verify_vc (n st len cap : Nat) (f m : Nat → Nat) (n' st' len' cap' : Nat) (g : Nat → Nat) {k base k' base' : Nat} (hn : st + len ≤ n) (hc : len ≤ cap) (hf : ∀ i, f i < 256) (hm : ∀ i, m i < 256) (hn' : st' + len' ≤ n') (hc' : len' ≤ cap') (hg : ∀ i, g i < 256) {eff : Bool} {σ : SSt} {nm : Nat} {K : SSt → SS → Prop} (hv0 : Has σ (k) (base) [.many n (cells .u8 n f)]) (hv1 : Has σ (k') (base') [.many n' (cells .u8 n' g)]) (hk : K σ (.one ((.v (.bool (verify f st len m g st' len')))))) : CallVC Go.Proofs.Try.prog eff (.fn 17) [(.s k base st len cap), (.g [.many 32 (cells .u8 32 (m))]), (.s k' base' st' len' cap')] σ nm K := by
  exact call_fn1 (args := [(.s 0 0 st len cap), (.g [.many 32 (cells .u8 32 (m))]), (.s 1 0 st' len' cap')]) (res := [(.v (.bool (verify f st len m g st' len')))]) tyOK Go.Proofs.Try.func17 (c := (Go.Proofs.Try.f17).body.getD .skip) rfl (by kernel_rfl) (rs := [.tmp 6]) rfl [(k, base, [.many n (cells .u8 n f)]), (k', base', [.many n' (cells .u8 n' g)])] (Nat.le_of_ble_eq_true rfl) (okAll_mem (by repeat first | exact trivial | exact okC_nil | refine okMany ?_ ?_ | refine okOne ?_ ?_ | exact W_cv _ | exact V_cv _ | exact Dd_cv _ | exact cells_cv _ _ _ | (show (_ : Nat) < _; exact (Nat.le_of_ble_eq_true rfl)) | exact rfl | refine And.intro ?_ ?_)) (by repeat first | exact plain_nil | exact okC_nil | refine plain_v ?_ | refine plain_g ?_ ?_ | refine okMany ?_ ?_ | refine okOne ?_ ?_ | exact rfl | exact W_cv _ | exact V_cv _ | exact Dd_cv _ | exact cells_cv _ _ _ | exact okPt _) (fun w => c_verify_walk n st len cap f m n' st' len' cap' g hn hc hf hm hn' hc' hg w) ⟨hv0, (by repeat first | exact okC_nil | refine okMany ?_ ?_ | refine okOne ?_ ?_ | exact rfl | exact W_cv _ | exact V_cv _ | exact Dd_cv _ | exact cells_cv _ _ _ | exact okPt _), hv1, (by repeat first | exact okC_nil | refine okMany ?_ ?_ | refine okOne ?_ ?_ | exact rfl | exact W_cv _ | exact V_cv _ | exact Dd_cv _ | exact cells_cv _ _ _ | exact okPt _), trivial⟩ (fun ρ => by first | rfl | (simp [SV.den, viewRho, Nat.add_assoc]; done) | (simp [SV.den, viewRho, Nat.add_assoc]; rfl)) hk
end Go.Proofs.Ythjpppgibdfaeaa
