/- YthjpppgibdfaeaaCvSpare: a part of the proof: lemmas alone, of no statement. -/
import Derived.Test.YthjpppgibdfaeaaCvRVer
import Derived.Test.YthjpppgibdfaeaaCvTop
import Derived.Test.YthjpppgibdfaeaaCvTwo
import Derived.Test.YthjpppgibdfaeaaSxThree
/- The laws' own helpers: a copy with tinted room behind it; is it as it was? -/
namespace Go.Proofs.Ythjpppgibdfaeaa
open Go Go.SX Cv Go.RowKit Go.Lib
set_option maxRecDepth 100000
def spareSt (n st len cap : Nat) (f : Nat → Nat) (i : Nat) : SSt := mkSt [(0, .one (.s 0 0 st len cap)), (4, .one (.s 41 0 0 (len + 9) (len + 9))), (5, .one (.v (.int .i64 (i : Nat))))]
  [(0, ⟨[.many n (cells .u8 n f)], false⟩), (41, ⟨[.many (len + 9) (cells .u8 (len + 9) fun j => if j < i then spareF f st len j else 0)], true⟩)] 65 38
theorem spare_walk (n st len cap : Nat) (f : Nat → Nat) (hn : st + len ≤ n) (hl : len ≤ 100) (w : World) : VC Go.Proofs.Try.prog (fun _ => False) w ((Go.Proofs.Try.f14).body.getD .skip) (mkSt (argSlots 0 [(.s 0 0 st len cap)]) [(0, ⟨[.many n (cells .u8 n f)], false⟩)] 1 38) (endS Γ [.tmp 2, .tmp 3] (fun σ' r => ∃ (y : Unit) (k : Nat), True ∧ r = [.s k 0 0 len (len + 9), .s k 0 0 (len + 9) (len + 9)] ∧ σ'.blks k = some ⟨[.many (len + 9) (cells .u8 (len + 9) (spareF f st len))], true⟩)) := by
  unfold Go.Proofs.Try.f14
  dsimp only [Option.getD]
  refine vc_seq ?_
  refine vc_straight tyOK false [0, 1] rfl 1 17 rfl rfl ?_
  iterate 2 refine And.intro trivial ?_
  refine vc_seq ?_
  refine vc_straight tyOK false [0, 1, 2, 3, 4] rfl 17 57 rfl rfl ?_
  iterate 2 refine And.intro trivial ?_
  refine reg_name rfl rfl rfl rfl ?_ (fun v hv => ?_)
  · exact (by exact rfl)
  replace hv := hv.symm.trans (i64n (len + 9) (by omega) (by omega))
  subst hv
  refine make_vc tyOK (T := 23) (E := 5) (z0 := .int .u8 0) (bytes := 1) (n := len + 9) rfl (by kernel_rfl) (by omega) (by omega) rfl ?_
  refine And.intro trivial ?_
  refine vc_seq ?_
  refine vc_seq ?_
  refine vc_straight tyOK false [0] rfl 57 65 rfl rfl ?_
  refine And.intro trivial ?_
  refine vc_block ?_
  refine vc_loop (fun i : Nat => i ≤ len + 9) (spareSt n st len cap f) (fun i => len + 9 - i) 0 (by omega) (ent_mk rfl ⟨rfl, rfl, rfl, trivial⟩ ⟨rfl, blk_many (cells_zero _ _), trivial⟩ rfl) ?_
  intro i hi
  refine vc_seq ?_
  refine vc_seq ?_
  refine vc_straight tyOK false [0, 1, 2, 3] rfl 65 97 rfl rfl ?_
  iterate 3 refine And.intro trivial ?_
  refine And.intro rfl ?_
  refine vc_if rfl (fun hc1 => ?_) (fun hc1 => ?_)
  · have hi9 : i < len + 9 := by have := of_decide_eq_true hc1; omega
    refine vc_skip ?_
    refine vc_seq ?_
    refine vc_block ?_
    refine vc_seq ?_
    refine vc_straight tyOK false [0, 1, 2, 3, 4, 5, 6] rfl 97 153 rfl rfl ?_
    iterate 3 refine And.intro trivial ?_
    refine reg_name rfl rfl rfl rfl ?_ (fun v hv => ?_)
    · exact (by exact rfl)
    replace hv := hv.symm.trans (i64n (201 + i) (by omega) (by omega))
    subst hv
    refine reg_name rfl rfl rfl rfl ?_ (fun v hv => ?_)
    · exact (by exact trivial)
    replace hv := hv.symm.trans (u8n (201 + i) rfl)
    subst hv
    iterate 2 refine And.intro (by first | omega | exact ⟨by omega, rfl, rfl⟩) ?_
    refine vc_seq ?_
    refine vc_straight tyOK false [0, 1, 2, 3] rfl 153 185 rfl rfl ?_
    iterate 3 refine And.intro trivial ?_
    refine And.intro rfl ?_
    refine vc_if rfl (fun hc2 => ?_) (fun hc2 => ?_)
    · have hil : i < len := by have := of_decide_eq_true hc2; omega
      refine vc_straight tyOK false [0, 1, 2, 3, 4, 5, 6, 7] rfl 185 249 rfl rfl ?_
      iterate 4 refine And.intro trivial ?_
      refine And.intro (by omega) ?_
      refine reg_name rfl rfl rfl rfl ?_ (fun v hv => ?_)
      · exact (by omega)
      replace hv := hv.symm.trans (cells_get (i := st + i) (by omega))
      subst hv
      iterate 2 refine And.intro (by first | omega | exact ⟨by omega, rfl, rfl⟩) ?_
      refine vc_straight tyOK false [0, 1, 2] rfl 249 273 rfl rfl ?_
      refine And.intro trivial ?_
      refine And.intro rfl ?_
      refine And.intro trivial ?_
      refine ⟨i + 1, by omega, ent_mk rfl ⟨rfl, rfl, slot_int (wrap_i64 (by omega) (by omega)), trivial⟩ ⟨rfl, blk_many (by first | exact set_twice (step_cells0 _ (spareF_in hil)) | exact step_cells0 _ (spareF_out hil)), trivial⟩ rfl, by show len + 9 - (i + 1) < len + 9 - i; omega⟩
    · have hil : ¬ i < len := by have := of_decide_eq_false hc2; omega
      refine vc_skip ?_
      refine vc_straight tyOK false [0, 1, 2] rfl 249 273 rfl rfl ?_
      refine And.intro trivial ?_
      refine And.intro rfl ?_
      refine And.intro trivial ?_
      refine ⟨i + 1, by omega, ent_mk rfl ⟨rfl, rfl, slot_int (wrap_i64 (by omega) (by omega)), trivial⟩ ⟨rfl, blk_many (by first | exact set_twice (step_cells0 _ (spareF_in hil)) | exact step_cells0 _ (spareF_out hil)), trivial⟩ rfl, by show len + 9 - (i + 1) < len + 9 - i; omega⟩
  · obtain rfl : i = len + 9 := by have := of_decide_eq_false hc1; omega
    refine vc_exit ?_
    refine vc_seq ?_
    refine vc_straight tyOK false [0, 1, 2, 3, 4, 5, 6] rfl 273 329 rfl rfl ?_
    iterate 3 refine And.intro trivial ?_
    refine reg_sv rfl rfl rfl rfl ?_ (fun v hv => ?_)
    · exact (by ((repeat' first | exact trivial | exact rfl | exact Nat.le_of_ble_eq_true rfl | decide | omega | refine And.intro ?_ ?_); done))
    replace hv := hv.symm.trans (show SV.s 41 0 (if len + 9 = 0 then 0 else 0 + 0) len (len + 9 - 0) = SV.s 41 0 0 len (len + 9) from by simp)
    subst hv
    iterate 3 refine And.intro trivial ?_
    refine vc_ret ?_
    refine And.intro (by first | exact trivial | exact ⟨trivial, trivial⟩ | exact ⟨trivial, trivial, trivial⟩) ?_
    exact ⟨(), 41, trivial, rfl, blk_many cells_all⟩
theorem spare_vc (n st len cap : Nat) (f : Nat → Nat) {kb base : Nat} (hn : st + len ≤ n) (hl : len ≤ 100) {eff : Bool} {σ : SSt} {nm : Nat} {K : SSt → SS → Prop} (hv0 : Has σ kb base [.many n (cells .u8 n f)]) (hk : K (σ.bind nm ⟨[.many (len + 9) (cells .u8 (len + 9) (spareF f st len))], true⟩) (.tup [.s nm 0 0 len (len + 9), .s nm 0 0 (len + 9) (len + 9)])) :
    CallVC Go.Proofs.Try.prog eff (.fn 14) [.s kb base st len cap] σ nm K := by
  exact call_own1 (args := [(.s 0 0 st len cap)]) tyOK Go.Proofs.Try.func14 (c := (Go.Proofs.Try.f14).body.getD .skip) rfl (by kernel_rfl) (rs := [.tmp 2, .tmp 3]) rfl [(kb, base, [.many n (cells .u8 n f)])] (Nat.le_of_ble_eq_true rfl) (okAll_mem ⟨(show (0 : Nat) < 1 by omega), trivial⟩) (Y := Unit) (fun _ k => [.s k 0 0 len (len + 9), .s k 0 0 (len + 9) (len + 9)]) (fun _ => [.many (len + 9) (cells .u8 (len + 9) (spareF f st len))]) (fun _ => True) (fun _ _ => okMany (cells_cv _ _ _) okC_nil)
    (fun _ k D hk => okAll_mem ⟨hk, hk, trivial⟩) (fun _ k j ρ ρ' h => by simp [SV.den, h]) (fun w => spare_walk n st len cap f hn hl w) ⟨hv0, okMany (cells_cv _ _ _) okC_nil, trivial⟩ (fun ρ => by first | rfl | (simp [SV.den, viewRho, Nat.add_assoc]; done)) (fun _ _ => hk)
def spare0St (a : Option Addr) (f : Nat → Nat) (st : Nat) (i : Nat) : SSt := mkSt [(0, .one (.v (.slice a 0 0))), (4, .one (.s 40 0 0 (0 + 9) (0 + 9))), (5, .one (.v (.int .i64 (i : Nat))))]
  [(40, ⟨[.many (0 + 9) (cells .u8 (0 + 9) fun j => if j < i then spareF f st 0 j else 0)], true⟩)] 64 38
theorem spare0_walk (a : Option Addr) (f : Nat → Nat) (st : Nat)  (w : World) : VC Go.Proofs.Try.prog (fun _ => False) w ((Go.Proofs.Try.f14).body.getD .skip) (mkSt (argSlots 0 [(.v (.slice a 0 0))]) [] 0 38) (endS Γ [.tmp 2, .tmp 3] (fun σ' r => ∃ (y : Unit) (k : Nat), True ∧ r = [.s k 0 0 0 (0 + 9), .s k 0 0 (0 + 9) (0 + 9)] ∧ σ'.blks k = some ⟨[.many (0 + 9) (cells .u8 (0 + 9) (spareF f st 0))], true⟩)) := by
  unfold Go.Proofs.Try.f14
  dsimp only [Option.getD]
  refine vc_seq ?_
  refine vc_straight tyOK false [0, 1] rfl 0 16 rfl rfl ?_
  iterate 2 refine And.intro trivial ?_
  refine vc_seq ?_
  refine vc_straight tyOK false [0, 1, 2, 3, 4] rfl 16 56 rfl rfl ?_
  iterate 2 refine And.intro trivial ?_
  refine And.intro rfl ?_
  refine make_vc tyOK (T := 23) (E := 5) (z0 := .int .u8 0) (bytes := 1) (n := 0 + 9) rfl (by kernel_rfl) (by omega) (by omega) rfl ?_
  refine And.intro trivial ?_
  refine vc_seq ?_
  refine vc_seq ?_
  refine vc_straight tyOK false [0] rfl 56 64 rfl rfl ?_
  refine And.intro trivial ?_
  refine vc_block ?_
  refine vc_loop (fun i : Nat => i ≤ 0 + 9) (spare0St a f st) (fun i => 0 + 9 - i) 0 (by omega) (ent_mk rfl ⟨rfl, rfl, rfl, trivial⟩ ⟨blk_many (cells_zero _ _), trivial⟩ rfl) ?_
  intro i hi
  refine vc_seq ?_
  refine vc_seq ?_
  refine vc_straight tyOK false [0, 1, 2, 3] rfl 64 96 rfl rfl ?_
  iterate 3 refine And.intro trivial ?_
  refine And.intro rfl ?_
  refine vc_if rfl (fun hc1 => ?_) (fun hc1 => ?_)
  · have hi9 : i < 0 + 9 := by have := of_decide_eq_true hc1; omega
    refine vc_skip ?_
    refine vc_seq ?_
    refine vc_block ?_
    refine vc_seq ?_
    refine vc_straight tyOK false [0, 1, 2, 3, 4, 5, 6] rfl 96 152 rfl rfl ?_
    iterate 3 refine And.intro trivial ?_
    refine reg_name rfl rfl rfl rfl ?_ (fun v hv => ?_)
    · exact (by exact rfl)
    replace hv := hv.symm.trans (i64n (201 + i) (by omega) (by omega))
    subst hv
    refine reg_name rfl rfl rfl rfl ?_ (fun v hv => ?_)
    · exact (by exact trivial)
    replace hv := hv.symm.trans (u8n (201 + i) rfl)
    subst hv
    iterate 2 refine And.intro (by first | omega | exact ⟨by omega, rfl, rfl⟩) ?_
    refine vc_seq ?_
    refine vc_straight tyOK false [0, 1, 2, 3] rfl 152 184 rfl rfl ?_
    iterate 3 refine And.intro trivial ?_
    refine And.intro rfl ?_
    refine vc_if rfl (fun hc2 => ?_) (fun hc2 => ?_)
    · exact absurd (of_decide_eq_true hc2) (by omega)
    · have hil : ¬ i < 0 := by have := of_decide_eq_false hc2; omega
      refine vc_skip ?_
      refine vc_straight tyOK false [0, 1, 2] rfl 248 272 rfl rfl ?_
      refine And.intro trivial ?_
      refine And.intro rfl ?_
      refine And.intro trivial ?_
      refine ⟨i + 1, by omega, ent_mk rfl ⟨rfl, rfl, slot_int (wrap_i64 (by omega) (by omega)), trivial⟩ ⟨blk_many (by first | exact set_twice (step_cells0 _ (spareF_in hil)) | exact step_cells0 _ (spareF_out hil)), trivial⟩ rfl, by show 0 + 9 - (i + 1) < 0 + 9 - i; omega⟩
  · obtain rfl : i = 0 + 9 := by have := of_decide_eq_false hc1; omega
    refine vc_exit ?_
    refine vc_seq ?_
    refine vc_straight tyOK false [0, 1, 2, 3, 4, 5, 6] rfl 272 328 rfl rfl ?_
    iterate 3 refine And.intro trivial ?_
    refine reg_sv rfl rfl rfl rfl ?_ (fun v hv => ?_)
    · exact (by ((repeat' first | exact trivial | exact rfl | exact Nat.le_of_ble_eq_true rfl | decide | omega | refine And.intro ?_ ?_); done))
    replace hv := hv.symm.trans (show SV.s 40 0 (if 0 + 9 = 0 then 0 else 0 + 0) 0 (0 + 9 - 0) = SV.s 40 0 0 0 (0 + 9) from by simp)
    subst hv
    iterate 3 refine And.intro trivial ?_
    refine vc_ret ?_
    refine And.intro (by first | exact trivial | exact ⟨trivial, trivial⟩ | exact ⟨trivial, trivial, trivial⟩) ?_
    exact ⟨(), 40, trivial, rfl, blk_many cells_all⟩
theorem spare0_vc (a : Option Addr) (f : Nat → Nat) (st : Nat)   {eff : Bool} {σ : SSt} {nm : Nat} {K : SSt → SS → Prop}  (hk : K (σ.bind nm ⟨[.many (0 + 9) (cells .u8 (0 + 9) (spareF f st 0))], true⟩) (.tup [.s nm 0 0 0 (0 + 9), .s nm 0 0 (0 + 9) (0 + 9)])) :
    CallVC Go.Proofs.Try.prog eff (.fn 14) [.v (.slice a 0 0)] σ nm K := by
  exact call_own1 (args := [(.v (.slice a 0 0))]) tyOK Go.Proofs.Try.func14 (c := (Go.Proofs.Try.f14).body.getD .skip) rfl (by kernel_rfl) (rs := [.tmp 2, .tmp 3]) rfl [] (Nat.le_of_ble_eq_true rfl) (okAll_mem ⟨trivial, trivial⟩) (Y := Unit) (fun _ k => [.s k 0 0 0 (0 + 9), .s k 0 0 (0 + 9) (0 + 9)]) (fun _ => [.many (0 + 9) (cells .u8 (0 + 9) (spareF f st 0))]) (fun _ => True) (fun _ _ => okMany (cells_cv _ _ _) okC_nil)
    (fun _ k D hk => okAll_mem ⟨hk, hk, trivial⟩) (fun _ k j ρ ρ' h => by simp [SV.den, h]) (fun w => spare0_walk a f st w) trivial (fun ρ => by first | rfl | (simp [SV.den, viewRho, Nat.add_assoc]; done)) (fun _ _ => hk)
def keptSt (n st len cap : Nat) (g : Nat → Nat) (n' st' len' cap' : Nat) (f : Nat → Nat) (i : Nat) : SSt := mkSt [(0, .one (.s 0 0 st len cap)), (1, .one (.s 1 0 st' len' cap')), (5, .one (.v (.int .i64 (i : Nat))))]
  [(0, ⟨[.many n (cells .u8 n g)], false⟩), (1, ⟨[.many n' (cells .u8 n' f)], false⟩)] 74 49
theorem kept_walk (n st len cap : Nat) (g : Nat → Nat) (n' st' len' cap' : Nat) (f : Nat → Nat) (hn : st + len ≤ n) (hl : len = len' + 9) (hm : len ≤ 200) (hn' : st' + len' ≤ n') (hg : ∀ i, i < len → g (st + i) = spareF f st' len' i) (w : World) : VC Go.Proofs.Try.prog (fun _ => False) w ((Go.Proofs.Try.f16).body.getD .skip) (mkSt (argSlots 0 [(.s 0 0 st len cap), (.s 1 0 st' len' cap')]) [(0, ⟨[.many n (cells .u8 n g)], false⟩), (1, ⟨[.many n' (cells .u8 n' f)], false⟩)] 2 49) (endS Γ [.tmp 4] (fun _ r => r = [(.v (.bool true))])) := by
  unfold Go.Proofs.Try.f16
  dsimp only [Option.getD]
  refine vc_seq ?_
  refine vc_straight tyOK false [0] rfl 2 10 rfl rfl ?_
  refine And.intro trivial ?_
  refine vc_seq ?_
  refine vc_seq ?_
  refine vc_straight tyOK false [0, 1, 2, 3, 4, 5] rfl 10 58 rfl rfl ?_
  iterate 4 refine And.intro trivial ?_
  refine reg_name rfl rfl rfl rfl ?_ (fun v hv => ?_)
  · exact (by exact rfl)
  replace hv := hv.symm.trans (i64n (len' + 9) (by omega) (by omega))
  subst hv
  refine And.intro rfl ?_
  refine vc_if rfl (fun hc1 => ?_) (fun hc1 => ?_)
  · exact absurd (show len = len' + 9 from hl) (bnen hc1)
  · skip
    refine vc_skip ?_
    refine vc_seq ?_
    refine vc_seq ?_
    refine vc_straight tyOK false [0] rfl 66 74 rfl rfl ?_
    refine And.intro trivial ?_
    refine vc_block ?_
    refine vc_loop (fun i : Nat => i ≤ len) (keptSt n st len cap g n' st' len' cap' f) (fun i => len - i) 0 (by omega) (ent_mk rfl ⟨rfl, rfl, rfl, trivial⟩ ⟨rfl, rfl, trivial⟩ rfl) ?_
    intro i hi
    refine vc_seq ?_
    refine vc_seq ?_
    refine vc_straight tyOK false [0, 1, 2, 3] rfl 74 106 rfl rfl ?_
    iterate 3 refine And.intro trivial ?_
    refine And.intro rfl ?_
    refine vc_if rfl (fun hc2 => ?_) (fun hc2 => ?_)
    · have hil : i < len := by have := of_decide_eq_true hc2; omega
      refine vc_skip ?_
      refine vc_seq ?_
      refine vc_block ?_
      refine vc_seq ?_
      refine vc_drawn tyOK mixed false [0, 1, 2, 3, 4, 5, 6, 7, 8, 9, 10, 11, 12, 13, 14, 15, 16, 17, 18, 19, 20, 21, 22, 23, 24, 25, 26, 27, 28, 29, 30] (by kernel_rfl) 106 354 rfl rfl ?_
      iterate 3 refine And.intro trivial ?_
      refine And.intro rfl ?_
      refine reg_bool rfl rfl rfl rfl (by exact trivial) (fun b hb4 => ?_)
      cases b with
      | false =>
        have hi4 : ¬ i < len' := by have := of_decide_eq_false hb4; omega
        refine And.intro trivial ?_
        refine reg_bool rfl rfl rfl rfl (by exact trivial) (fun b hb15 => ?_)
        cases b with
        | false =>
          skip
          iterate 3 refine And.intro trivial ?_
          refine And.intro rfl ?_
          refine reg_bool rfl rfl rfl rfl (by exact trivial) (fun b hb20 => ?_)
          cases b with
          | false =>
            exact absurd (of_decide_eq_false hb20) (by omega)
          | true =>
            skip
            iterate 2 refine And.intro trivial ?_
            refine And.intro (by omega) ?_
            refine reg_name rfl rfl rfl rfl ?_ (fun v hv => ?_)
            · exact (by omega)
            replace hv := hv.symm.trans (cells_get (i := st + i) (by omega))
            subst hv
            refine And.intro trivial ?_
            refine reg_name rfl rfl rfl rfl ?_ (fun v hv => ?_)
            · exact (by exact rfl)
            replace hv := hv.symm.trans (i64n (201 + i) (by omega) (by omega))
            subst hv
            refine reg_name rfl rfl rfl rfl ?_ (fun v hv => ?_)
            · exact (by exact trivial)
            replace hv := hv.symm.trans (u8n (201 + i) rfl)
            subst hv
            refine And.intro rfl ?_
            iterate 2 refine And.intro trivial ?_
            refine vc_if rfl (fun hc3 => ?_) (fun hc3 => ?_)
            · exact absurd ((hg i hil).trans (if_neg hi4)) (bnen hc3)
            · skip
              refine vc_skip ?_
              refine vc_straight tyOK false [0, 1, 2] rfl 362 386 rfl rfl ?_
              refine And.intro trivial ?_
              refine And.intro rfl ?_
              refine And.intro trivial ?_
              refine ⟨i + 1, by omega, ent_mk rfl ⟨rfl, rfl, slot_int (wrap_i64 (by omega) (by omega)), trivial⟩ ⟨rfl, rfl, trivial⟩ rfl, by show len - (i + 1) < len - i; omega⟩
        | true =>
          cases hb15
      | true =>
        have hi4 : i < len' := by have := of_decide_eq_true hb4; omega
        iterate 2 refine And.intro trivial ?_
        refine And.intro (by omega) ?_
        refine reg_name rfl rfl rfl rfl ?_ (fun v hv => ?_)
        · exact (by omega)
        replace hv := hv.symm.trans (cells_get (i := st + i) (by omega))
        subst hv
        iterate 2 refine And.intro trivial ?_
        refine And.intro (by omega) ?_
        refine reg_name rfl rfl rfl rfl ?_ (fun v hv => ?_)
        · exact (by omega)
        replace hv := hv.symm.trans (cells_get (i := st' + i) (by omega))
        subst hv
        refine And.intro rfl ?_
        refine And.intro trivial ?_
        refine reg_bool rfl rfl rfl rfl (by exact trivial) (fun b hb15 => ?_)
        cases b with
        | false =>
          skip
          iterate 3 refine And.intro trivial ?_
          refine And.intro rfl ?_
          refine reg_bool rfl rfl rfl rfl (by exact trivial) (fun b hb20 => ?_)
          cases b with
          | false =>
            skip
            iterate 2 refine And.intro trivial ?_
            refine vc_if rfl (fun hc4 => ?_) (fun hc4 => ?_)
            · cases hc4
            · skip
              refine vc_skip ?_
              refine vc_straight tyOK false [0, 1, 2] rfl 362 386 rfl rfl ?_
              refine And.intro trivial ?_
              refine And.intro rfl ?_
              refine And.intro trivial ?_
              refine ⟨i + 1, by omega, ent_mk rfl ⟨rfl, rfl, slot_int (wrap_i64 (by omega) (by omega)), trivial⟩ ⟨rfl, rfl, trivial⟩ rfl, by show len - (i + 1) < len - i; omega⟩
          | true =>
            exact absurd (of_decide_eq_true hb20) (by omega)
        | true =>
          exact absurd ((hg i hil).trans (if_pos hi4)) (bnen hb15)
    · obtain rfl : i = len := by have := of_decide_eq_false hc2; omega
      refine vc_exit ?_
      refine vc_seq ?_
      refine vc_straight tyOK false [0] rfl 386 394 rfl rfl ?_
      refine And.intro trivial ?_
      refine vc_ret ?_
      refine And.intro (by first | exact trivial | exact ⟨trivial, trivial⟩ | exact ⟨trivial, trivial, trivial⟩) ?_
      rfl
theorem kept_vc (n st len cap : Nat) (g : Nat → Nat) (n' st' len' cap' : Nat) (f : Nat → Nat) {kb base kb' base' : Nat} (hn : st + len ≤ n) (hl : len = len' + 9) (hm : len ≤ 200) (hn' : st' + len' ≤ n') (hg : ∀ i, i < len → g (st + i) = spareF f st' len' i) {eff : Bool} {σ : SSt} {nm : Nat} {K : SSt → SS → Prop} (hv0 : Has σ (kb) (base) [.many n (cells .u8 n g)]) (hv1 : Has σ (kb') (base') [.many n' (cells .u8 n' f)]) (hk : K σ (.one ((.v (.bool true))))) : CallVC Go.Proofs.Try.prog eff (.fn 16) [(.s kb base st len cap), (.s kb' base' st' len' cap')] σ nm K := by
  exact call_fn1 (args := [(.s 0 0 st len cap), (.s 1 0 st' len' cap')]) (res := [(.v (.bool true))]) tyOK Go.Proofs.Try.func16 (c := (Go.Proofs.Try.f16).body.getD .skip) rfl (by kernel_rfl) (rs := [.tmp 4]) rfl [(kb, base, [.many n (cells .u8 n g)]), (kb', base', [.many n' (cells .u8 n' f)])] (Nat.le_of_ble_eq_true rfl) (okAll_mem (by repeat first | exact trivial | exact okC_nil | refine okMany ?_ ?_ | refine okOne ?_ ?_ | exact W_cv _ | exact V_cv _ | exact Dd_cv _ | exact cells_cv _ _ _ | (show (_ : Nat) < _; exact (Nat.le_of_ble_eq_true rfl)) | exact rfl | refine And.intro ?_ ?_)) (by repeat first | exact plain_nil | exact okC_nil | refine plain_v ?_ | refine plain_g ?_ ?_ | refine okMany ?_ ?_ | refine okOne ?_ ?_ | exact rfl | exact W_cv _ | exact V_cv _ | exact Dd_cv _ | exact cells_cv _ _ _ | exact okPt _) (fun w => kept_walk n st len cap g n' st' len' cap' f hn hl hm hn' hg w) ⟨hv0, (by repeat first | exact okC_nil | refine okMany ?_ ?_ | refine okOne ?_ ?_ | exact rfl | exact W_cv _ | exact V_cv _ | exact Dd_cv _ | exact cells_cv _ _ _ | exact okPt _), hv1, (by repeat first | exact okC_nil | refine okMany ?_ ?_ | refine okOne ?_ ?_ | exact rfl | exact W_cv _ | exact V_cv _ | exact Dd_cv _ | exact cells_cv _ _ _ | exact okPt _), trivial⟩ (fun ρ => by first | rfl | (simp [SV.den, viewRho, Nat.add_assoc]; done) | (simp [SV.den, viewRho, Nat.add_assoc]; rfl)) hk
def kept0St (n st len cap : Nat) (g : Nat → Nat) (a : Option Addr) (i : Nat) : SSt := mkSt [(0, .one (.s 0 0 st len cap)), (1, .one (.v (.slice a 0 0))), (5, .one (.v (.int .i64 (i : Nat))))]
  [(0, ⟨[.many n (cells .u8 n g)], false⟩)] 73 49
theorem kept0_walk (n st len cap : Nat) (g : Nat → Nat) (a : Option Addr) (f : Nat → Nat) (hn : st + len ≤ n) (hl : len = 0 + 9) (hm : len ≤ 200) (hg : ∀ i, i < len → g (st + i) = spareF f 0 0 i) (w : World) : VC Go.Proofs.Try.prog (fun _ => False) w ((Go.Proofs.Try.f16).body.getD .skip) (mkSt (argSlots 0 [(.s 0 0 st len cap), (.v (.slice a 0 0))]) [(0, ⟨[.many n (cells .u8 n g)], false⟩)] 1 49) (endS Γ [.tmp 4] (fun _ r => r = [(.v (.bool true))])) := by
  unfold Go.Proofs.Try.f16
  dsimp only [Option.getD]
  refine vc_seq ?_
  refine vc_straight tyOK false [0] rfl 1 9 rfl rfl ?_
  refine And.intro trivial ?_
  refine vc_seq ?_
  refine vc_seq ?_
  refine vc_straight tyOK false [0, 1, 2, 3, 4, 5] rfl 9 57 rfl rfl ?_
  iterate 4 refine And.intro trivial ?_
  refine reg_name rfl rfl rfl rfl ?_ (fun v hv => ?_)
  · exact (by exact rfl)
  replace hv := hv.symm.trans (i64n (0 + 9) (by omega) (by omega))
  subst hv
  refine And.intro rfl ?_
  refine vc_if rfl (fun hc1 => ?_) (fun hc1 => ?_)
  · exact absurd (show len = 0 + 9 from hl) (bnen hc1)
  · skip
    refine vc_skip ?_
    refine vc_seq ?_
    refine vc_seq ?_
    refine vc_straight tyOK false [0] rfl 65 73 rfl rfl ?_
    refine And.intro trivial ?_
    refine vc_block ?_
    refine vc_loop (fun i : Nat => i ≤ len) (kept0St n st len cap g a) (fun i => len - i) 0 (by omega) (ent_mk rfl ⟨rfl, rfl, rfl, trivial⟩ ⟨rfl, trivial⟩ rfl) ?_
    intro i hi
    refine vc_seq ?_
    refine vc_seq ?_
    refine vc_straight tyOK false [0, 1, 2, 3] rfl 73 105 rfl rfl ?_
    iterate 3 refine And.intro trivial ?_
    refine And.intro rfl ?_
    refine vc_if rfl (fun hc2 => ?_) (fun hc2 => ?_)
    · have hil : i < len := by have := of_decide_eq_true hc2; omega
      refine vc_skip ?_
      refine vc_seq ?_
      refine vc_block ?_
      refine vc_seq ?_
      refine vc_drawn tyOK mixed false [0, 1, 2, 3, 4, 5, 6, 7, 8, 9, 10, 11, 12, 13, 14, 15, 16, 17, 18, 19, 20, 21, 22, 23, 24, 25, 26, 27, 28, 29, 30] (by kernel_rfl) 105 353 rfl rfl ?_
      iterate 3 refine And.intro trivial ?_
      refine And.intro rfl ?_
      refine reg_bool rfl rfl rfl rfl (by exact trivial) (fun b hb4 => ?_)
      cases b with
      | false =>
        have hi4 : ¬ i < 0 := by have := of_decide_eq_false hb4; omega
        refine And.intro trivial ?_
        refine reg_bool rfl rfl rfl rfl (by exact trivial) (fun b hb15 => ?_)
        cases b with
        | false =>
          skip
          iterate 3 refine And.intro trivial ?_
          refine And.intro rfl ?_
          refine reg_bool rfl rfl rfl rfl (by exact trivial) (fun b hb20 => ?_)
          cases b with
          | false =>
            exact absurd (of_decide_eq_false hb20) (by omega)
          | true =>
            skip
            iterate 2 refine And.intro trivial ?_
            refine And.intro (by omega) ?_
            refine reg_name rfl rfl rfl rfl ?_ (fun v hv => ?_)
            · exact (by omega)
            replace hv := hv.symm.trans (cells_get (i := st + i) (by omega))
            subst hv
            refine And.intro trivial ?_
            refine reg_name rfl rfl rfl rfl ?_ (fun v hv => ?_)
            · exact (by exact rfl)
            replace hv := hv.symm.trans (i64n (201 + i) (by omega) (by omega))
            subst hv
            refine reg_name rfl rfl rfl rfl ?_ (fun v hv => ?_)
            · exact (by exact trivial)
            replace hv := hv.symm.trans (u8n (201 + i) rfl)
            subst hv
            refine And.intro rfl ?_
            iterate 2 refine And.intro trivial ?_
            refine vc_if rfl (fun hc3 => ?_) (fun hc3 => ?_)
            · exact absurd ((hg i hil).trans (if_neg hi4)) (bnen hc3)
            · skip
              refine vc_skip ?_
              refine vc_straight tyOK false [0, 1, 2] rfl 361 385 rfl rfl ?_
              refine And.intro trivial ?_
              refine And.intro rfl ?_
              refine And.intro trivial ?_
              refine ⟨i + 1, by omega, ent_mk rfl ⟨rfl, rfl, slot_int (wrap_i64 (by omega) (by omega)), trivial⟩ ⟨rfl, trivial⟩ rfl, by show len - (i + 1) < len - i; omega⟩
        | true =>
          cases hb15
      | true =>
        exact absurd (of_decide_eq_true hb4) (by omega)
    · obtain rfl : i = len := by have := of_decide_eq_false hc2; omega
      refine vc_exit ?_
      refine vc_seq ?_
      refine vc_straight tyOK false [0] rfl 385 393 rfl rfl ?_
      refine And.intro trivial ?_
      refine vc_ret ?_
      refine And.intro (by first | exact trivial | exact ⟨trivial, trivial⟩ | exact ⟨trivial, trivial, trivial⟩) ?_
      rfl
theorem kept0_vc (n st len cap : Nat) (g : Nat → Nat) (a : Option Addr) (f : Nat → Nat) {kb base : Nat} (hn : st + len ≤ n) (hl : len = 0 + 9) (hm : len ≤ 200) (hg : ∀ i, i < len → g (st + i) = spareF f 0 0 i) {eff : Bool} {σ : SSt} {nm : Nat} {K : SSt → SS → Prop} (hv0 : Has σ (kb) (base) [.many n (cells .u8 n g)]) (hk : K σ (.one ((.v (.bool true))))) : CallVC Go.Proofs.Try.prog eff (.fn 16) [(.s kb base st len cap), (.v (.slice a 0 0))] σ nm K := by
  exact call_fn1 (args := [(.s 0 0 st len cap), (.v (.slice a 0 0))]) (res := [(.v (.bool true))]) tyOK Go.Proofs.Try.func16 (c := (Go.Proofs.Try.f16).body.getD .skip) rfl (by kernel_rfl) (rs := [.tmp 4]) rfl [(kb, base, [.many n (cells .u8 n g)])] (Nat.le_of_ble_eq_true rfl) (okAll_mem (by repeat first | exact trivial | exact okC_nil | refine okMany ?_ ?_ | refine okOne ?_ ?_ | exact W_cv _ | exact V_cv _ | exact Dd_cv _ | exact cells_cv _ _ _ | (show (_ : Nat) < _; exact (Nat.le_of_ble_eq_true rfl)) | exact rfl | refine And.intro ?_ ?_)) (by repeat first | exact plain_nil | exact okC_nil | refine plain_v ?_ | refine plain_g ?_ ?_ | refine okMany ?_ ?_ | refine okOne ?_ ?_ | exact rfl | exact W_cv _ | exact V_cv _ | exact Dd_cv _ | exact cells_cv _ _ _ | exact okPt _) (fun w => kept0_walk n st len cap g a f hn hl hm hg w) ⟨hv0, (by repeat first | exact okC_nil | refine okMany ?_ ?_ | refine okOne ?_ ?_ | exact rfl | exact W_cv _ | exact V_cv _ | exact Dd_cv _ | exact cells_cv _ _ _ | exact okPt _), trivial⟩ (fun ρ => by first | rfl | (simp [SV.den, viewRho, Nat.add_assoc]; done) | (simp [SV.den, viewRho, Nat.add_assoc]; rfl)) hk
end Go.Proofs.Ythjpppgibdfaeaa
