/- YthjpppgibdfaeaaCvPt: a part of the proof: lemmas alone, of no statement. -/
import Derived.Test.YthjpppgibdfaeaaCvMul
import Derived.Test.YthjpppgibdfaeaaCvOne
/- The program's points. -/
namespace Go.Proofs.Ythjpppgibdfaeaa
open Go Go.SX Cv Go.RowKit Go.Lib
set_option maxRecDepth 100000
theorem pt_inf_walk (a : J) (ha : OkJ a) (w : World) : VC Go.Proofs.Try.prog (fun _ => False) w ((Go.Proofs.Try.f45).body.getD .skip) (mkSt (argSlots 0 [(.p 0 0)]) [(0, ⟨(Pt a), false⟩)] 1 8) (endS Γ [.tmp 2] (fun _ r => r = [(.v (.bool (decide (a.2.2 = 0))))])) := by
  unfold Go.Proofs.Try.f45
  dsimp only [Option.getD]
  refine vc_seq ?_
  refine vc_straight tyOK false [0] rfl 1 9 rfl rfl ?_
  refine And.intro trivial ?_
  refine vc_seq ?_
  refine vc_straight tyOK false [0, 1, 2, 3, 4, 5] rfl 9 57 rfl rfl ?_
  iterate 4 refine And.intro (by first | exact trivial | decide) ?_
  refine num_zero_vc a.2.2 (Nat.lt_trans ha.z mo_P.lt) ?_
  refine And.intro trivial ?_
  refine vc_ret ?_
  refine And.intro (by first | exact trivial | exact ⟨trivial, trivial⟩ | exact ⟨trivial, trivial, trivial⟩) ?_
  rfl
theorem pt_inf_vc (a : J) {k off : Nat} (ha : OkJ a) {eff : Bool} {σ : SSt} {nm : Nat} {K : SSt → SS → Prop} (hv0 : Has σ (k) (off) (Pt a)) (hk : K σ (.one ((.v (.bool (decide (a.2.2 = 0))))))) : CallVC Go.Proofs.Try.prog eff (.fn 45) [(.p k off)] σ nm K := by
  exact call_fn1 (args := [(.p 0 0)]) (res := [(.v (.bool (decide (a.2.2 = 0))))]) tyOK Go.Proofs.Try.func45 (c := (Go.Proofs.Try.f45).body.getD .skip) rfl (by kernel_rfl) (rs := [.tmp 2]) rfl [(k, off, (Pt a))] (Nat.le_of_ble_eq_true rfl) (okAll_mem (by repeat first | exact trivial | exact okC_nil | refine okMany ?_ ?_ | refine okOne ?_ ?_ | exact W_cv _ | exact V_cv _ | exact Dd_cv _ | exact cells_cv _ _ _ | (show (_ : Nat) < _; exact (Nat.le_of_ble_eq_true rfl)) | exact rfl | refine And.intro ?_ ?_)) (by repeat first | exact plain_nil | exact okC_nil | refine plain_v ?_ | refine plain_g ?_ ?_ | refine okMany ?_ ?_ | refine okOne ?_ ?_ | exact rfl | exact W_cv _ | exact V_cv _ | exact Dd_cv _ | exact cells_cv _ _ _ | exact okPt _) (fun w => pt_inf_walk a ha w) ⟨hv0, (by repeat first | exact okC_nil | refine okMany ?_ ?_ | refine okOne ?_ ?_ | exact rfl | exact W_cv _ | exact V_cv _ | exact Dd_cv _ | exact cells_cv _ _ _ | exact okPt _), trivial⟩ (fun ρ => by first | rfl | (simp [SV.den, viewRho, Nat.add_assoc]; done) | (simp [SV.den, viewRho, Nat.add_assoc]; rfl)) hk
theorem g_dbl_walk (a : J) (ha : OkJ a) (w : World) : VC Go.Proofs.Try.prog (fun _ => False) w ((Go.Proofs.Try.f63).body.getD .skip) (mkSt (argSlots 0 [(.p 0 0), (.g (Pt (a)))]) [(0, ⟨Gl, false⟩)] 1 101) (endS Γ [.cell 4 74] (fun _ r => r = [(.g (Pt (jdbl a)))])) := by
  unfold Go.Proofs.Try.f63
  dsimp only [Option.getD]
  obtain ⟨x, y, z⟩ := a
  obtain ⟨hx, hy, hz⟩ := ha
  simp only at hx hy hz
  refine vc_seq ?_
  refine vc_straight tyOK false [0, 1] rfl 1 17 rfl rfl ?_
  iterate 2 refine And.intro trivial ?_
  refine vc_seq ?_
  refine vc_straight tyOK false [0, 1, 2, 3] rfl 17 49 rfl rfl ?_
  iterate 4 refine And.intro (by first | exact trivial | decide) ?_
  refine vc_seq ?_
  refine vc_seq ?_
  refine vc_straight tyOK false [0] rfl 49 57 rfl rfl ?_
  refine pt_inf_vc (x, y, z) ⟨hx, hy, hz⟩ ⟨_, _, rfl, part_all⟩ ?_
  refine vc_if rfl (fun hc1 => ?_) (fun hc1 => ?_)
  · have h0 : z = 0 := of_decide_eq_true hc1
    refine vc_seq ?_
    refine vc_straight tyOK false [0, 1] rfl 57 73 rfl rfl ?_
    iterate 2 refine And.intro (by first | exact trivial | exact ⟨trivial, rfl⟩) ?_
    refine vc_ret ?_
    refine And.intro (by first | exact trivial | exact ⟨trivial, trivial⟩ | exact ⟨trivial, trivial, trivial⟩) ?_
    first
    | (rw [show jdbl (x, y, z) = (x, y, z) from if_pos h0])
    | (rw [show jdbl (x, y, z) = _ from if_neg h0]; rfl)
  · have h0 : z ≠ 0 := of_decide_eq_false hc1
    refine vc_skip ?_
    refine vc_seq ?_
    refine vc_straight tyOK false [0, 1, 2, 3, 4, 5, 6, 7] rfl 73 137 rfl rfl ?_
    iterate 5 refine And.intro (by first | exact trivial | decide) ?_
    refine f_mul_vc Pp _ _ mo_P (by first | assumption | exact mod_ltR mo_P _ | exact pw_ltR mo_P _ _ | exact Nat.lt_trans (by assumption) mo_P.lt) (by first | assumption | exact mod_ltR mo_P _ | exact pw_ltR mo_P _ _ | exact Nat.lt_trans (by assumption) mo_P.lt) ⟨_, _, rfl, part_of (n := 7) rfl⟩ ?_
    iterate 2 refine And.intro (by first | exact trivial | exact ⟨trivial, rfl⟩) ?_
    refine vc_seq ?_
    refine vc_straight tyOK false [0, 1, 2, 3, 4, 5, 6] rfl 137 193 rfl rfl ?_
    iterate 4 refine And.intro (by first | exact trivial | decide) ?_
    refine f_mul_vc Pp _ _ mo_P (by first | assumption | exact mod_ltR mo_P _ | exact pw_ltR mo_P _ _ | exact Nat.lt_trans (by assumption) mo_P.lt) (by first | assumption | exact mod_ltR mo_P _ | exact pw_ltR mo_P _ _ | exact Nat.lt_trans (by assumption) mo_P.lt) ⟨_, _, rfl, part_of (n := 7) rfl⟩ ?_
    iterate 2 refine And.intro (by first | exact trivial | exact ⟨trivial, rfl⟩) ?_
    refine vc_seq ?_
    refine vc_drawn tyOK mixed false [0, 1, 2, 3, 5, 6, 7, 4, 8, 9, 10] (by kernel_rfl) 193 281 rfl rfl ?_
    iterate 7 refine And.intro trivial ?_
    refine f_add_vc Pp _ _ mo_P (by first | assumption | exact mod_lt mo_P _ | exact pw_lt mo_P _ _) (by first | assumption | exact mod_lt mo_P _ | exact pw_lt mo_P _ _) ⟨_, _, rfl, part_of (n := 7) rfl⟩ ?_
    refine f_add_vc Pp _ _ mo_P (by first | assumption | exact mod_lt mo_P _ | exact pw_lt mo_P _ _) (by first | assumption | exact mod_lt mo_P _ | exact pw_lt mo_P _ _) ⟨_, _, rfl, part_of (n := 7) rfl⟩ ?_
    refine f_add_vc Pp _ _ mo_P (by first | assumption | exact mod_lt mo_P _ | exact pw_lt mo_P _ _) (by first | assumption | exact mod_lt mo_P _ | exact pw_lt mo_P _ _) ⟨_, _, rfl, part_of (n := 7) rfl⟩ ?_
    refine And.intro (by exact ⟨trivial, rfl⟩) ?_
    refine vc_seq ?_
    refine vc_straight tyOK false [0, 1, 2, 3, 4, 5, 6, 7] rfl 281 345 rfl rfl ?_
    iterate 5 refine And.intro (by first | exact trivial | decide) ?_
    refine f_mul_vc Pp _ _ mo_P (by first | assumption | exact mod_ltR mo_P _ | exact pw_ltR mo_P _ _ | exact Nat.lt_trans (by assumption) mo_P.lt) (by first | assumption | exact mod_ltR mo_P _ | exact pw_ltR mo_P _ _ | exact Nat.lt_trans (by assumption) mo_P.lt) ⟨_, _, rfl, part_of (n := 7) rfl⟩ ?_
    iterate 2 refine And.intro (by first | exact trivial | exact ⟨trivial, rfl⟩) ?_
    refine vc_seq ?_
    refine vc_drawn tyOK mixed false [0, 1, 2, 3, 5, 4, 6, 7, 8] (by kernel_rfl) 345 417 rfl rfl ?_
    iterate 5 refine And.intro trivial ?_
    refine f_add_vc Pp _ _ mo_P (by first | assumption | exact mod_lt mo_P _ | exact pw_lt mo_P _ _) (by first | assumption | exact mod_lt mo_P _ | exact pw_lt mo_P _ _) ⟨_, _, rfl, part_of (n := 7) rfl⟩ ?_
    refine f_add_vc Pp _ _ mo_P (by first | assumption | exact mod_lt mo_P _ | exact pw_lt mo_P _ _) (by first | assumption | exact mod_lt mo_P _ | exact pw_lt mo_P _ _) ⟨_, _, rfl, part_of (n := 7) rfl⟩ ?_
    iterate 2 refine And.intro (by first | exact trivial | exact ⟨trivial, rfl⟩) ?_
    refine vc_seq ?_
    refine vc_drawn tyOK mixed false [0, 1, 2, 3, 5, 6, 7, 4, 8, 9, 10, 11] (by kernel_rfl) 417 513 rfl rfl ?_
    iterate 7 refine And.intro trivial ?_
    refine f_mul_vc Pp _ _ mo_P (by first | assumption | exact mod_ltR mo_P _ | exact pw_ltR mo_P _ _ | exact Nat.lt_trans (by assumption) mo_P.lt) (by first | assumption | exact mod_ltR mo_P _ | exact pw_ltR mo_P _ _ | exact Nat.lt_trans (by assumption) mo_P.lt) ⟨_, _, rfl, part_of (n := 7) rfl⟩ ?_
    refine f_add_vc Pp _ _ mo_P (by first | assumption | exact mod_lt mo_P _ | exact pw_lt mo_P _ _) (by first | assumption | exact mod_lt mo_P _ | exact pw_lt mo_P _ _) ⟨_, _, rfl, part_of (n := 7) rfl⟩ ?_
    refine f_sub_vc Pp _ _ mo_P (by first | assumption | exact mod_lt mo_P _ | exact pw_lt mo_P _ _) (by first | assumption | exact mod_lt mo_P _ | exact pw_lt mo_P _ _) ⟨_, _, rfl, part_of (n := 7) rfl⟩ ?_
    iterate 2 refine And.intro (by first | exact trivial | exact ⟨trivial, rfl⟩) ?_
    refine vc_seq ?_
    refine vc_straight tyOK false [0, 1, 2, 3, 4, 5] rfl 513 561 rfl rfl ?_
    iterate 3 refine And.intro trivial ?_
    refine f_mul_vc Pp _ _ mo_P (by first | assumption | exact mod_ltR mo_P _ | exact pw_ltR mo_P _ _ | exact Nat.lt_trans (by assumption) mo_P.lt) (by first | assumption | exact mod_ltR mo_P _ | exact pw_ltR mo_P _ _ | exact Nat.lt_trans (by assumption) mo_P.lt) ⟨_, _, rfl, part_of (n := 7) rfl⟩ ?_
    iterate 2 refine And.intro (by first | exact trivial | exact ⟨trivial, rfl⟩) ?_
    refine vc_seq ?_
    refine vc_drawn tyOK mixed false [0, 1, 2, 3, 5, 6, 7, 4, 8, 9, 10] (by kernel_rfl) 561 649 rfl rfl ?_
    iterate 7 refine And.intro trivial ?_
    refine f_add_vc Pp _ _ mo_P (by first | assumption | exact mod_lt mo_P _ | exact pw_lt mo_P _ _) (by first | assumption | exact mod_lt mo_P _ | exact pw_lt mo_P _ _) ⟨_, _, rfl, part_of (n := 7) rfl⟩ ?_
    refine f_add_vc Pp _ _ mo_P (by first | assumption | exact mod_lt mo_P _ | exact pw_lt mo_P _ _) (by first | assumption | exact mod_lt mo_P _ | exact pw_lt mo_P _ _) ⟨_, _, rfl, part_of (n := 7) rfl⟩ ?_
    refine f_add_vc Pp _ _ mo_P (by first | assumption | exact mod_lt mo_P _ | exact pw_lt mo_P _ _) (by first | assumption | exact mod_lt mo_P _ | exact pw_lt mo_P _ _) ⟨_, _, rfl, part_of (n := 7) rfl⟩ ?_
    refine And.intro (by exact ⟨trivial, rfl⟩) ?_
    refine vc_seq ?_
    refine vc_straight tyOK false [0, 1, 2, 3, 4, 5, 6, 7] rfl 649 713 rfl rfl ?_
    iterate 5 refine And.intro (by first | exact trivial | decide) ?_
    refine f_mul_vc Pp _ _ mo_P (by first | assumption | exact mod_ltR mo_P _ | exact pw_ltR mo_P _ _ | exact Nat.lt_trans (by assumption) mo_P.lt) (by first | assumption | exact mod_ltR mo_P _ | exact pw_ltR mo_P _ _ | exact Nat.lt_trans (by assumption) mo_P.lt) ⟨_, _, rfl, part_of (n := 7) rfl⟩ ?_
    iterate 2 refine And.intro (by first | exact trivial | exact ⟨trivial, rfl⟩) ?_
    refine vc_seq ?_
    refine vc_drawn tyOK mixed false [0, 1, 2, 3, 4, 5, 6, 9, 10, 11, 14, 15, 16, 7, 8, 12, 13, 17, 18, 19] (by kernel_rfl) 713 873 rfl rfl ?_
    iterate 13 refine And.intro trivial ?_
    refine f_sub_vc Pp _ _ mo_P (by first | assumption | exact mod_lt mo_P _ | exact pw_lt mo_P _ _) (by first | assumption | exact mod_lt mo_P _ | exact pw_lt mo_P _ _) ⟨_, _, rfl, part_of (n := 7) rfl⟩ ?_
    refine f_mul_vc Pp _ _ mo_P (by first | assumption | exact mod_ltR mo_P _ | exact pw_ltR mo_P _ _ | exact Nat.lt_trans (by assumption) mo_P.lt) (by first | assumption | exact mod_ltR mo_P _ | exact pw_ltR mo_P _ _ | exact Nat.lt_trans (by assumption) mo_P.lt) ⟨_, _, rfl, part_of (n := 7) rfl⟩ ?_
    refine f_add_vc Pp _ _ mo_P (by first | assumption | exact mod_lt mo_P _ | exact pw_lt mo_P _ _) (by first | assumption | exact mod_lt mo_P _ | exact pw_lt mo_P _ _) ⟨_, _, rfl, part_of (n := 7) rfl⟩ ?_
    refine f_sub_vc Pp _ _ mo_P (by first | assumption | exact mod_lt mo_P _ | exact pw_lt mo_P _ _) (by first | assumption | exact mod_lt mo_P _ | exact pw_lt mo_P _ _) ⟨_, _, rfl, part_of (n := 7) rfl⟩ ?_
    refine f_add_vc Pp _ _ mo_P (by first | assumption | exact mod_lt mo_P _ | exact pw_lt mo_P _ _) (by first | assumption | exact mod_lt mo_P _ | exact pw_lt mo_P _ _) ⟨_, _, rfl, part_of (n := 7) rfl⟩ ?_
    iterate 2 refine And.intro (by first | exact ⟨trivial, rfl⟩ | ((repeat' first | exact trivial | exact rfl | exact Nat.le_of_ble_eq_true rfl | decide | omega | refine And.intro ?_ ?_); done)) ?_
    refine vc_ret ?_
    refine And.intro (by first | exact trivial | exact ⟨trivial, trivial⟩ | exact ⟨trivial, trivial, trivial⟩) ?_
    first
    | (rw [show jdbl (x, y, z) = (x, y, z) from if_pos h0])
    | (rw [show jdbl (x, y, z) = _ from if_neg h0]; rfl)
theorem g_dbl_vc (a : J) {k off : Nat} (ha : OkJ a) {eff : Bool} {σ : SSt} {nm : Nat} {K : SSt → SS → Prop} (hv0 : Has σ (k) (off) Gl) (hk : K σ (.one ((.g (Pt (jdbl a)))))) : CallVC Go.Proofs.Try.prog eff (.fn 63) [(.p k off), (.g (Pt (a)))] σ nm K := by
  exact call_fn1 (args := [(.p 0 0), (.g (Pt (a)))]) (res := [(.g (Pt (jdbl a)))]) tyOK Go.Proofs.Try.func63 (c := (Go.Proofs.Try.f63).body.getD .skip) rfl (by kernel_rfl) (rs := [.cell 4 74]) rfl [(k, off, Gl)] (Nat.le_of_ble_eq_true rfl) (okAll_mem (by repeat first | exact trivial | exact okC_nil | refine okMany ?_ ?_ | refine okOne ?_ ?_ | exact W_cv _ | exact V_cv _ | exact Dd_cv _ | exact cells_cv _ _ _ | (show (_ : Nat) < _; exact (Nat.le_of_ble_eq_true rfl)) | exact rfl | refine And.intro ?_ ?_)) (by repeat first | exact plain_nil | exact okC_nil | refine plain_v ?_ | refine plain_g ?_ ?_ | refine okMany ?_ ?_ | refine okOne ?_ ?_ | exact rfl | exact W_cv _ | exact V_cv _ | exact Dd_cv _ | exact cells_cv _ _ _ | exact okPt _) (fun w => g_dbl_walk a ha w) ⟨hv0, (by repeat first | exact okC_nil | refine okMany ?_ ?_ | refine okOne ?_ ?_ | exact rfl | exact W_cv _ | exact V_cv _ | exact Dd_cv _ | exact cells_cv _ _ _ | exact okPt _), trivial⟩ (fun ρ => by first | rfl | (simp [SV.den, viewRho, Nat.add_assoc]; done) | (simp [SV.den, viewRho, Nat.add_assoc]; rfl)) hk
theorem g_add_walk (a b : J) (ha : OkJ a) (hb : OkJ b) (w : World) : VC Go.Proofs.Try.prog (fun _ => False) w ((Go.Proofs.Try.f41).body.getD .skip) (mkSt (argSlots 0 [(.p 0 0), (.g (Pt (a))), (.g (Pt (b)))]) [(0, ⟨Gl, false⟩)] 1 132) (endS Γ [.cell 6 74] (fun _ r => r = [(.g (Pt (jadd a b)))])) := by
  unfold Go.Proofs.Try.f41
  dsimp only [Option.getD]
  obtain ⟨x, y, z⟩ := a
  obtain ⟨hx, hy, hz⟩ := ha
  obtain ⟨x', y', z'⟩ := b
  obtain ⟨hx', hy', hz'⟩ := hb
  simp only at hx hy hz hx' hy' hz'
  refine vc_seq ?_
  refine vc_straight tyOK false [0, 1, 2] rfl 1 25 rfl rfl ?_
  iterate 3 refine And.intro trivial ?_
  refine vc_seq ?_
  refine vc_straight tyOK false [0, 1, 2, 3] rfl 25 57 rfl rfl ?_
  iterate 4 refine And.intro (by first | exact trivial | decide) ?_
  refine vc_seq ?_
  refine vc_seq ?_
  refine vc_straight tyOK false [0] rfl 57 65 rfl rfl ?_
  refine pt_inf_vc (x, y, z) ⟨hx, hy, hz⟩ ⟨_, _, rfl, part_all⟩ ?_
  refine vc_if rfl (fun hc1 => ?_) (fun hc1 => ?_)
  · have h0 : z = 0 := of_decide_eq_true hc1
    refine vc_seq ?_
    refine vc_straight tyOK false [0, 1] rfl 65 81 rfl rfl ?_
    iterate 2 refine And.intro (by first | exact trivial | exact ⟨trivial, rfl⟩) ?_
    refine vc_ret ?_
    refine And.intro (by first | exact trivial | exact ⟨trivial, trivial⟩ | exact ⟨trivial, trivial, trivial⟩) ?_
    first
    | (rw [show jadd (x, y, z) (x', y', z') = _ from (if_neg h0).trans ((if_neg h1).trans (if_neg h2))]; rfl)
    | (rw [show jadd (x, y, z) (x', y', z') = _ from if_pos h0])
    | (rw [show jadd (x, y, z) (x', y', z') = _ from (if_neg h0).trans (if_pos h1)])
    | (rw [show jadd (x, y, z) (x', y', z') = _ from (if_neg h0).trans ((if_neg h1).trans ((if_pos h2).trans (if_pos h3)))])
    | (rw [show jadd (x, y, z) (x', y', z') = _ from (if_neg h0).trans ((if_neg h1).trans ((if_pos h2).trans (if_neg h3)))]; rfl)
  · have h0 : ¬ (z = 0) := of_decide_eq_false hc1
    refine vc_skip ?_
    refine vc_seq ?_
    refine vc_seq ?_
    refine vc_straight tyOK false [0] rfl 81 89 rfl rfl ?_
    refine pt_inf_vc (x', y', z') ⟨hx', hy', hz'⟩ ⟨_, _, rfl, part_all⟩ ?_
    refine vc_if rfl (fun hc2 => ?_) (fun hc2 => ?_)
    · have h1 : z' = 0 := of_decide_eq_true hc2
      refine vc_seq ?_
      refine vc_straight tyOK false [0, 1] rfl 89 105 rfl rfl ?_
      iterate 2 refine And.intro (by first | exact trivial | exact ⟨trivial, rfl⟩) ?_
      refine vc_ret ?_
      refine And.intro (by first | exact trivial | exact ⟨trivial, trivial⟩ | exact ⟨trivial, trivial, trivial⟩) ?_
      first
      | (rw [show jadd (x, y, z) (x', y', z') = _ from (if_neg h0).trans ((if_neg h1).trans (if_neg h2))]; rfl)
      | (rw [show jadd (x, y, z) (x', y', z') = _ from if_pos h0])
      | (rw [show jadd (x, y, z) (x', y', z') = _ from (if_neg h0).trans (if_pos h1)])
      | (rw [show jadd (x, y, z) (x', y', z') = _ from (if_neg h0).trans ((if_neg h1).trans ((if_pos h2).trans (if_pos h3)))])
      | (rw [show jadd (x, y, z) (x', y', z') = _ from (if_neg h0).trans ((if_neg h1).trans ((if_pos h2).trans (if_neg h3)))]; rfl)
    · have h1 : ¬ (z' = 0) := of_decide_eq_false hc2
      refine vc_skip ?_
      refine vc_seq ?_
      refine vc_drawn tyOK mixed false [0, 1, 2, 3, 4, 6, 7, 8, 9, 10, 5, 11, 12, 13, 14, 15] (by kernel_rfl) 105 233 rfl rfl ?_
      iterate 10 refine And.intro (by first | exact trivial | decide) ?_
      refine f_mul_vc Pp _ _ mo_P (by first | assumption | exact mod_ltR mo_P _ | exact pw_ltR mo_P _ _ | exact Nat.lt_trans (by assumption) mo_P.lt) (by first | assumption | exact mod_ltR mo_P _ | exact pw_ltR mo_P _ _ | exact Nat.lt_trans (by assumption) mo_P.lt) ⟨_, _, rfl, part_of (n := 7) rfl⟩ ?_
      refine f_mul_vc Pp _ _ mo_P (by first | assumption | exact mod_ltR mo_P _ | exact pw_ltR mo_P _ _ | exact Nat.lt_trans (by assumption) mo_P.lt) (by first | assumption | exact mod_ltR mo_P _ | exact pw_ltR mo_P _ _ | exact Nat.lt_trans (by assumption) mo_P.lt) ⟨_, _, rfl, part_of (n := 7) rfl⟩ ?_
      iterate 4 refine And.intro (by first | exact trivial | exact ⟨trivial, rfl⟩) ?_
      refine vc_seq ?_
      refine vc_drawn tyOK mixed false [0, 1, 2, 3, 5, 6, 7, 8, 4, 9, 10, 11, 12, 13] (by kernel_rfl) 233 345 rfl rfl ?_
      iterate 8 refine And.intro (by first | exact trivial | decide) ?_
      refine f_mul_vc Pp _ _ mo_P (by first | assumption | exact mod_ltR mo_P _ | exact pw_ltR mo_P _ _ | exact Nat.lt_trans (by assumption) mo_P.lt) (by first | assumption | exact mod_ltR mo_P _ | exact pw_ltR mo_P _ _ | exact Nat.lt_trans (by assumption) mo_P.lt) ⟨_, _, rfl, part_of (n := 7) rfl⟩ ?_
      refine f_mul_vc Pp _ _ mo_P (by first | assumption | exact mod_ltR mo_P _ | exact pw_ltR mo_P _ _ | exact Nat.lt_trans (by assumption) mo_P.lt) (by first | assumption | exact mod_ltR mo_P _ | exact pw_ltR mo_P _ _ | exact Nat.lt_trans (by assumption) mo_P.lt) ⟨_, _, rfl, part_of (n := 7) rfl⟩ ?_
      iterate 4 refine And.intro (by first | exact trivial | exact ⟨trivial, rfl⟩) ?_
      refine vc_seq ?_
      refine vc_drawn tyOK mixed false [0, 1, 2, 3, 4, 5, 6, 9, 10, 11, 12, 13, 14, 15, 7, 8, 16, 17, 18, 19, 20, 21] (by kernel_rfl) 345 521 rfl rfl ?_
      iterate 14 refine And.intro (by first | exact trivial | decide) ?_
      refine f_mul_vc Pp _ _ mo_P (by first | assumption | exact mod_ltR mo_P _ | exact pw_ltR mo_P _ _ | exact Nat.lt_trans (by assumption) mo_P.lt) (by first | assumption | exact mod_ltR mo_P _ | exact pw_ltR mo_P _ _ | exact Nat.lt_trans (by assumption) mo_P.lt) ⟨_, _, rfl, part_of (n := 7) rfl⟩ ?_
      refine f_mul_vc Pp _ _ mo_P (by first | assumption | exact mod_ltR mo_P _ | exact pw_ltR mo_P _ _ | exact Nat.lt_trans (by assumption) mo_P.lt) (by first | assumption | exact mod_ltR mo_P _ | exact pw_ltR mo_P _ _ | exact Nat.lt_trans (by assumption) mo_P.lt) ⟨_, _, rfl, part_of (n := 7) rfl⟩ ?_
      refine f_mul_vc Pp _ _ mo_P (by first | assumption | exact mod_ltR mo_P _ | exact pw_ltR mo_P _ _ | exact Nat.lt_trans (by assumption) mo_P.lt) (by first | assumption | exact mod_ltR mo_P _ | exact pw_ltR mo_P _ _ | exact Nat.lt_trans (by assumption) mo_P.lt) ⟨_, _, rfl, part_of (n := 7) rfl⟩ ?_
      refine f_mul_vc Pp _ _ mo_P (by first | assumption | exact mod_ltR mo_P _ | exact pw_ltR mo_P _ _ | exact Nat.lt_trans (by assumption) mo_P.lt) (by first | assumption | exact mod_ltR mo_P _ | exact pw_ltR mo_P _ _ | exact Nat.lt_trans (by assumption) mo_P.lt) ⟨_, _, rfl, part_of (n := 7) rfl⟩ ?_
      iterate 4 refine And.intro (by first | exact trivial | exact ⟨trivial, rfl⟩) ?_
      refine vc_seq ?_
      refine vc_drawn tyOK mixed false [0, 1, 2, 4, 5, 6, 3, 7, 8, 9, 10, 11] (by kernel_rfl) 521 617 rfl rfl ?_
      iterate 6 refine And.intro trivial ?_
      refine f_sub_vc Pp _ _ mo_P (by first | assumption | exact mod_lt mo_P _ | exact pw_lt mo_P _ _) (by first | assumption | exact mod_lt mo_P _ | exact pw_lt mo_P _ _) ⟨_, _, rfl, part_of (n := 7) rfl⟩ ?_
      refine f_sub_vc Pp _ _ mo_P (by first | assumption | exact mod_lt mo_P _ | exact pw_lt mo_P _ _) (by first | assumption | exact mod_lt mo_P _ | exact pw_lt mo_P _ _) ⟨_, _, rfl, part_of (n := 7) rfl⟩ ?_
      iterate 4 refine And.intro (by first | exact trivial | exact ⟨trivial, rfl⟩) ?_
      refine vc_seq ?_
      refine vc_seq ?_
      refine vc_straight tyOK false [0, 1] rfl 617 633 rfl rfl ?_
      refine And.intro trivial ?_
      refine num_zero_vc _ (by first | assumption | exact mod_ltR mo_P _ | exact pw_ltR mo_P _ _ | exact Nat.lt_trans (by assumption) mo_P.lt) ?_
      refine vc_if rfl (fun hc3 => ?_) (fun hc3 => ?_)
      · have h2 : _ = 0 := of_decide_eq_true hc3
        refine vc_seq ?_
        refine vc_seq ?_
        refine vc_straight tyOK false [0, 1] rfl 633 649 rfl rfl ?_
        refine And.intro trivial ?_
        refine num_zero_vc _ (by first | assumption | exact mod_ltR mo_P _ | exact pw_ltR mo_P _ _ | exact Nat.lt_trans (by assumption) mo_P.lt) ?_
        refine vc_if rfl (fun hc4 => ?_) (fun hc4 => ?_)
        · have h3 : _ = 0 := of_decide_eq_true hc4
          refine vc_seq ?_
          refine vc_straight tyOK false [0, 1, 2, 3] rfl 649 681 rfl rfl ?_
          iterate 2 refine And.intro trivial ?_
          refine g_dbl_vc (x, y, z) ⟨hx, hy, hz⟩ ⟨_, _, rfl, part_all⟩ ?_
          refine And.intro (by exact ⟨trivial, rfl⟩) ?_
          refine vc_ret ?_
          refine And.intro (by first | exact trivial | exact ⟨trivial, trivial⟩ | exact ⟨trivial, trivial, trivial⟩) ?_
          first
          | (rw [show jadd (x, y, z) (x', y', z') = _ from (if_neg h0).trans ((if_neg h1).trans (if_neg h2))]; rfl)
          | (rw [show jadd (x, y, z) (x', y', z') = _ from if_pos h0])
          | (rw [show jadd (x, y, z) (x', y', z') = _ from (if_neg h0).trans (if_pos h1)])
          | (rw [show jadd (x, y, z) (x', y', z') = _ from (if_neg h0).trans ((if_neg h1).trans ((if_pos h2).trans (if_pos h3)))])
          | (rw [show jadd (x, y, z) (x', y', z') = _ from (if_neg h0).trans ((if_neg h1).trans ((if_pos h2).trans (if_neg h3)))]; rfl)
        · have h3 : ¬ (_ = 0) := of_decide_eq_false hc4
          refine vc_skip ?_
          refine vc_seq ?_
          refine vc_straight tyOK false [0, 1] rfl 681 697 rfl rfl ?_
          iterate 2 refine And.intro (by exact ⟨trivial, rfl⟩) ?_
          refine vc_ret ?_
          refine And.intro (by first | exact trivial | exact ⟨trivial, trivial⟩ | exact ⟨trivial, trivial, trivial⟩) ?_
          first
          | (rw [show jadd (x, y, z) (x', y', z') = _ from (if_neg h0).trans ((if_neg h1).trans (if_neg h2))]; rfl)
          | (rw [show jadd (x, y, z) (x', y', z') = _ from if_pos h0])
          | (rw [show jadd (x, y, z) (x', y', z') = _ from (if_neg h0).trans (if_pos h1)])
          | (rw [show jadd (x, y, z) (x', y', z') = _ from (if_neg h0).trans ((if_neg h1).trans ((if_pos h2).trans (if_pos h3)))])
          | (rw [show jadd (x, y, z) (x', y', z') = _ from (if_neg h0).trans ((if_neg h1).trans ((if_pos h2).trans (if_neg h3)))]; rfl)
      · have h2 : ¬ (_ = 0) := of_decide_eq_false hc3
        refine vc_skip ?_
        refine vc_seq ?_
        refine vc_straight tyOK false [0, 1, 2, 3, 4, 5] rfl 697 745 rfl rfl ?_
        iterate 3 refine And.intro trivial ?_
        refine f_mul_vc Pp _ _ mo_P (by first | assumption | exact mod_ltR mo_P _ | exact pw_ltR mo_P _ _ | exact Nat.lt_trans (by assumption) mo_P.lt) (by first | assumption | exact mod_ltR mo_P _ | exact pw_ltR mo_P _ _ | exact Nat.lt_trans (by assumption) mo_P.lt) ⟨_, _, rfl, part_of (n := 7) rfl⟩ ?_
        iterate 2 refine And.intro (by first | exact trivial | exact ⟨trivial, rfl⟩) ?_
        refine vc_seq ?_
        refine vc_drawn tyOK mixed false [0, 1, 2, 4, 5, 6, 3, 7, 8, 9, 10, 11] (by kernel_rfl) 745 841 rfl rfl ?_
        iterate 6 refine And.intro trivial ?_
        refine f_mul_vc Pp _ _ mo_P (by first | assumption | exact mod_ltR mo_P _ | exact pw_ltR mo_P _ _ | exact Nat.lt_trans (by assumption) mo_P.lt) (by first | assumption | exact mod_ltR mo_P _ | exact pw_ltR mo_P _ _ | exact Nat.lt_trans (by assumption) mo_P.lt) ⟨_, _, rfl, part_of (n := 7) rfl⟩ ?_
        refine f_mul_vc Pp _ _ mo_P (by first | assumption | exact mod_ltR mo_P _ | exact pw_ltR mo_P _ _ | exact Nat.lt_trans (by assumption) mo_P.lt) (by first | assumption | exact mod_ltR mo_P _ | exact pw_ltR mo_P _ _ | exact Nat.lt_trans (by assumption) mo_P.lt) ⟨_, _, rfl, part_of (n := 7) rfl⟩ ?_
        iterate 4 refine And.intro (by first | exact trivial | exact ⟨trivial, rfl⟩) ?_
        refine vc_seq ?_
        refine vc_drawn tyOK mixed false [0, 1, 2, 3, 4, 6, 8, 9, 10, 5, 7, 11, 12, 13, 14] (by kernel_rfl) 841 961 rfl rfl ?_
        iterate 9 refine And.intro trivial ?_
        refine f_mul_vc Pp _ _ mo_P (by first | assumption | exact mod_ltR mo_P _ | exact pw_ltR mo_P _ _ | exact Nat.lt_trans (by assumption) mo_P.lt) (by first | assumption | exact mod_ltR mo_P _ | exact pw_ltR mo_P _ _ | exact Nat.lt_trans (by assumption) mo_P.lt) ⟨_, _, rfl, part_of (n := 7) rfl⟩ ?_
        refine f_sub_vc Pp _ _ mo_P (by first | assumption | exact mod_lt mo_P _ | exact pw_lt mo_P _ _) (by first | assumption | exact mod_lt mo_P _ | exact pw_lt mo_P _ _) ⟨_, _, rfl, part_of (n := 7) rfl⟩ ?_
        refine f_add_vc Pp _ _ mo_P (by first | assumption | exact mod_lt mo_P _ | exact pw_lt mo_P _ _) (by first | assumption | exact mod_lt mo_P _ | exact pw_lt mo_P _ _) ⟨_, _, rfl, part_of (n := 7) rfl⟩ ?_
        refine f_sub_vc Pp _ _ mo_P (by first | assumption | exact mod_lt mo_P _ | exact pw_lt mo_P _ _) (by first | assumption | exact mod_lt mo_P _ | exact pw_lt mo_P _ _) ⟨_, _, rfl, part_of (n := 7) rfl⟩ ?_
        iterate 2 refine And.intro (by first | exact trivial | exact ⟨trivial, rfl⟩) ?_
        refine vc_seq ?_
        refine vc_drawn tyOK mixed false [0, 1, 2, 3, 4, 5, 6, 9, 10, 11, 14, 15, 16, 17, 18, 19, 20, 7, 8, 12, 13, 21, 22, 23, 24] (by kernel_rfl) 961 1161 rfl rfl ?_
        iterate 17 refine And.intro (by first | exact trivial | decide) ?_
        refine f_sub_vc Pp _ _ mo_P (by first | assumption | exact mod_lt mo_P _ | exact pw_lt mo_P _ _) (by first | assumption | exact mod_lt mo_P _ | exact pw_lt mo_P _ _) ⟨_, _, rfl, part_of (n := 7) rfl⟩ ?_
        refine f_mul_vc Pp _ _ mo_P (by first | assumption | exact mod_ltR mo_P _ | exact pw_ltR mo_P _ _ | exact Nat.lt_trans (by assumption) mo_P.lt) (by first | assumption | exact mod_ltR mo_P _ | exact pw_ltR mo_P _ _ | exact Nat.lt_trans (by assumption) mo_P.lt) ⟨_, _, rfl, part_of (n := 7) rfl⟩ ?_
        refine f_mul_vc Pp _ _ mo_P (by first | assumption | exact mod_ltR mo_P _ | exact pw_ltR mo_P _ _ | exact Nat.lt_trans (by assumption) mo_P.lt) (by first | assumption | exact mod_ltR mo_P _ | exact pw_ltR mo_P _ _ | exact Nat.lt_trans (by assumption) mo_P.lt) ⟨_, _, rfl, part_of (n := 7) rfl⟩ ?_
        refine f_sub_vc Pp _ _ mo_P (by first | assumption | exact mod_lt mo_P _ | exact pw_lt mo_P _ _) (by first | assumption | exact mod_lt mo_P _ | exact pw_lt mo_P _ _) ⟨_, _, rfl, part_of (n := 7) rfl⟩ ?_
        refine f_mul_vc Pp _ _ mo_P (by first | assumption | exact mod_ltR mo_P _ | exact pw_ltR mo_P _ _ | exact Nat.lt_trans (by assumption) mo_P.lt) (by first | assumption | exact mod_ltR mo_P _ | exact pw_ltR mo_P _ _ | exact Nat.lt_trans (by assumption) mo_P.lt) ⟨_, _, rfl, part_of (n := 7) rfl⟩ ?_
        refine f_mul_vc Pp _ _ mo_P (by first | assumption | exact mod_ltR mo_P _ | exact pw_ltR mo_P _ _ | exact Nat.lt_trans (by assumption) mo_P.lt) (by first | assumption | exact mod_ltR mo_P _ | exact pw_ltR mo_P _ _ | exact Nat.lt_trans (by assumption) mo_P.lt) ⟨_, _, rfl, part_of (n := 7) rfl⟩ ?_
        iterate 2 refine And.intro (by first | exact ⟨trivial, rfl⟩ | ((repeat' first | exact trivial | exact rfl | exact Nat.le_of_ble_eq_true rfl | decide | omega | refine And.intro ?_ ?_); done)) ?_
        refine vc_ret ?_
        refine And.intro (by first | exact trivial | exact ⟨trivial, trivial⟩ | exact ⟨trivial, trivial, trivial⟩) ?_
        first
        | (rw [show jadd (x, y, z) (x', y', z') = _ from (if_neg h0).trans ((if_neg h1).trans (if_neg h2))]; rfl)
        | (rw [show jadd (x, y, z) (x', y', z') = _ from if_pos h0])
        | (rw [show jadd (x, y, z) (x', y', z') = _ from (if_neg h0).trans (if_pos h1)])
        | (rw [show jadd (x, y, z) (x', y', z') = _ from (if_neg h0).trans ((if_neg h1).trans ((if_pos h2).trans (if_pos h3)))])
        | (rw [show jadd (x, y, z) (x', y', z') = _ from (if_neg h0).trans ((if_neg h1).trans ((if_pos h2).trans (if_neg h3)))]; rfl)
theorem g_add_vc (a b : J) {k off : Nat} (ha : OkJ a) (hb : OkJ b) {eff : Bool} {σ : SSt} {nm : Nat} {K : SSt → SS → Prop} (hv0 : Has σ (k) (off) Gl) (hk : K σ (.one ((.g (Pt (jadd a b)))))) : CallVC Go.Proofs.Try.prog eff (.fn 41) [(.p k off), (.g (Pt (a))), (.g (Pt (b)))] σ nm K := by
  exact call_fn1 (args := [(.p 0 0), (.g (Pt (a))), (.g (Pt (b)))]) (res := [(.g (Pt (jadd a b)))]) tyOK Go.Proofs.Try.func41 (c := (Go.Proofs.Try.f41).body.getD .skip) rfl (by kernel_rfl) (rs := [.cell 6 74]) rfl [(k, off, Gl)] (Nat.le_of_ble_eq_true rfl) (okAll_mem (by repeat first | exact trivial | exact okC_nil | refine okMany ?_ ?_ | refine okOne ?_ ?_ | exact W_cv _ | exact V_cv _ | exact Dd_cv _ | exact cells_cv _ _ _ | (show (_ : Nat) < _; exact (Nat.le_of_ble_eq_true rfl)) | exact rfl | refine And.intro ?_ ?_)) (by repeat first | exact plain_nil | exact okC_nil | refine plain_v ?_ | refine plain_g ?_ ?_ | refine okMany ?_ ?_ | refine okOne ?_ ?_ | exact rfl | exact W_cv _ | exact V_cv _ | exact Dd_cv _ | exact cells_cv _ _ _ | exact okPt _) (fun w => g_add_walk a b ha hb w) ⟨hv0, (by repeat first | exact okC_nil | refine okMany ?_ ?_ | refine okOne ?_ ?_ | exact rfl | exact W_cv _ | exact V_cv _ | exact Dd_cv _ | exact cells_cv _ _ _ | exact okPt _), trivial⟩ (fun ρ => by first | rfl | (simp [SV.den, viewRho, Nat.add_assoc]; done) | (simp [SV.den, viewRho, Nat.add_assoc]; rfl)) hk
def timesSt (k : Nat) (a : J) (j : Nat) : SSt := mkSt [(0, .one (.p 0 0)), (4, .one (.p 1 0)), (5, .one (.p 9 0)), (6, .one (.p 17 0)), (7, .one (.p 25 0)), (8, .one (.v (.int .i64 (255 - (j : Int)))))]
  [(0, ⟨Gl, false⟩), (1, ⟨[.many 4 (W k)], true⟩), (9, ⟨Pt a, true⟩), (17, ⟨Pt (0, 0, 0), true⟩), (25, ⟨Pt (jtimes k a j), true⟩)] 41 30
theorem g_times_walk (k : Nat) (a : J) (ha : OkJ a) (w : World) : VC Go.Proofs.Try.prog (fun _ => False) w ((Go.Proofs.Try.f31).body.getD .skip) (mkSt (argSlots 0 [(.p 0 0), (.g [.many 4 (W (k))]), (.g (Pt (a)))]) [(0, ⟨Gl, false⟩)] 1 30) (endS Γ [.cell 6 74] (fun _ r => r = [(.g (Pt (jtimes k a 256)))])) := by
  unfold Go.Proofs.Try.f31
  dsimp only [Option.getD]
  refine vc_seq ?_
  refine vc_straight tyOK false [0, 1, 2] rfl 1 25 rfl rfl ?_
  iterate 3 refine And.intro trivial ?_
  refine vc_seq ?_
  refine vc_straight tyOK false [0] rfl 25 33 rfl rfl ?_
  refine And.intro trivial ?_
  refine vc_seq ?_
  refine vc_seq ?_
  refine vc_straight tyOK false [0] rfl 33 41 rfl rfl ?_
  refine And.intro trivial ?_
  refine vc_block ?_
  refine vc_loop (fun j : Nat => j ≤ 256) (timesSt k a) (fun j => 256 - j) 0 (by omega) (ent_mk rfl ⟨rfl, rfl, rfl, rfl, rfl, slot_int (by omega), trivial⟩ ⟨rfl, rfl, rfl, Pt_0 _, Pt_0 _, trivial⟩ rfl) ?_
  intro j hj
  refine vc_seq ?_
  refine vc_seq ?_
  refine vc_straight tyOK false [0, 1] rfl 41 57 rfl rfl ?_
  iterate 2 refine And.intro (by first | exact trivial | exact rfl) ?_
  refine vc_if rfl (fun hc1 => ?_) (fun hc1 => ?_)
  · obtain ⟨i, hi⟩ : ∃ i : Nat, 255 - (j : Int) = (i : Int) := ⟨255 - j, by have := of_decide_eq_true hc1; omega⟩
    have hji : 255 - j = i := by omega
    have hb := bit_word k i
    have hj' : j < 256 := by omega
    refine vc_skip ?_
    refine vc_seq ?_
    refine vc_block ?_
    refine vc_seq ?_
    refine vc_straight tyOK false [0, 1, 2, 3] rfl 57 89 rfl rfl ?_
    iterate 2 refine And.intro trivial ?_
    refine g_dbl_vc (jtimes k a j) (jtimes_ok ha j) ⟨_, _, rfl, part_all⟩ ?_
    refine And.intro (by exact ⟨trivial, rfl⟩) ?_
    refine vc_seq ?_
    refine vc_straight tyOK false [0, 1, 2, 3, 4, 5, 6, 7, 8] rfl 89 161 rfl rfl ?_
    refine And.intro trivial ?_
    refine reg_name rfl rfl rfl rfl ?_ (fun v hv => ?_)
    · exact (by decide)
    replace hv := hv.symm.trans (i64n (i / 64) (by rw [hi]; exact tdivn i 64) (by omega))
    subst hv
    refine And.intro (by omega) ?_
    refine reg_name rfl rfl rfl rfl ?_ (fun v hv => ?_)
    · exact (by omega)
    replace hv := hv.symm.trans (W_get (i := i / 64) (by omega))
    subst hv
    refine And.intro trivial ?_
    refine reg_name rfl rfl rfl rfl ?_ (fun v hv => ?_)
    · exact (by decide)
    replace hv := hv.symm.trans (intn (i % 64) (by rw [hi]; exact tmodn i 64))
    subst hv
    refine reg_name rfl rfl rfl rfl ?_ (fun v hv => ?_)
    · exact (by omega)
    replace hv := hv.symm.trans (intn (dig B64 k (i / 64) / 2 ^ (i % 64)) (shr64 _ _ (by omega)))
    subst hv
    refine reg_name rfl rfl rfl rfl ?_ (fun v hv => ?_)
    · exact (by exact rfl)
    replace hv := hv.symm.trans (intn _ (and_1 (Nat.lt_of_le_of_lt (Nat.div_le_self _ _) (dig_lt B64_pos _ _))))
    subst hv
    refine And.intro rfl ?_
    refine vc_if rfl (fun hc2 => ?_) (fun hc2 => ?_)
    · have hbit : k / 2 ^ i % 2 = 1 := hb ▸ beqn 1 hc2
      refine vc_straight tyOK false [0, 1, 2, 3, 4] rfl 161 201 rfl rfl ?_
      iterate 3 refine And.intro trivial ?_
      refine g_add_vc (jdbl (jtimes k a j)) a (jdbl_ok (jtimes_ok ha j)) ha ⟨_, _, rfl, part_all⟩ ?_
      refine And.intro (by exact ⟨trivial, rfl⟩) ?_
      refine vc_straight tyOK false [0, 1, 2] rfl 201 225 rfl rfl ?_
      iterate 3 refine And.intro (by first | exact trivial | exact rfl) ?_
      refine ⟨j + 1, by omega, ent_mk rfl ⟨rfl, rfl, rfl, rfl, rfl, slot_int ((wrap_i64 (by omega) (by omega)).trans (by omega)), trivial⟩ ⟨rfl, rfl, rfl, rfl, blkPt (by rw [jtimes_step hji]; first | rw [if_pos hbit] | rw [if_neg hbit]), trivial⟩ rfl, by show 256 - (j + 1) < 256 - j; omega⟩
    · have hbit : ¬ k / 2 ^ i % 2 = 1 := hb ▸ nbeqn 1 hc2
      refine vc_skip ?_
      refine vc_straight tyOK false [0, 1, 2] rfl 201 225 rfl rfl ?_
      iterate 3 refine And.intro (by first | exact trivial | exact rfl) ?_
      refine ⟨j + 1, by omega, ent_mk rfl ⟨rfl, rfl, rfl, rfl, rfl, slot_int ((wrap_i64 (by omega) (by omega)).trans (by omega)), trivial⟩ ⟨rfl, rfl, rfl, rfl, blkPt (by rw [jtimes_step hji]; first | rw [if_pos hbit] | rw [if_neg hbit]), trivial⟩ rfl, by show 256 - (j + 1) < 256 - j; omega⟩
  · obtain rfl : j = 256 := by have := of_decide_eq_false hc1; omega
    refine vc_exit ?_
    refine vc_seq ?_
    refine vc_straight tyOK false [0, 1] rfl 225 241 rfl rfl ?_
    iterate 2 refine And.intro (by first | exact trivial | exact ⟨trivial, rfl⟩) ?_
    refine vc_ret ?_
    refine And.intro (by first | exact trivial | exact ⟨trivial, trivial⟩ | exact ⟨trivial, trivial, trivial⟩) ?_
    rfl
theorem g_times_vc (k : Nat) (a : J) {kk off : Nat} (ha : OkJ a) {eff : Bool} {σ : SSt} {nm : Nat} {K : SSt → SS → Prop} (hv0 : Has σ (kk) (off) Gl) (hk : K σ (.one ((.g (Pt (jtimes k a 256)))))) : CallVC Go.Proofs.Try.prog eff (.fn 31) [(.p kk off), (.g [.many 4 (W (k))]), (.g (Pt (a)))] σ nm K := by
  exact call_fn1 (args := [(.p 0 0), (.g [.many 4 (W (k))]), (.g (Pt (a)))]) (res := [(.g (Pt (jtimes k a 256)))]) tyOK Go.Proofs.Try.func31 (c := (Go.Proofs.Try.f31).body.getD .skip) rfl (by kernel_rfl) (rs := [.cell 6 74]) rfl [(kk, off, Gl)] (Nat.le_of_ble_eq_true rfl) (okAll_mem (by repeat first | exact trivial | exact okC_nil | refine okMany ?_ ?_ | refine okOne ?_ ?_ | exact W_cv _ | exact V_cv _ | exact Dd_cv _ | exact cells_cv _ _ _ | (show (_ : Nat) < _; exact (Nat.le_of_ble_eq_true rfl)) | exact rfl | refine And.intro ?_ ?_)) (by repeat first | exact plain_nil | exact okC_nil | refine plain_v ?_ | refine plain_g ?_ ?_ | refine okMany ?_ ?_ | refine okOne ?_ ?_ | exact rfl | exact W_cv _ | exact V_cv _ | exact Dd_cv _ | exact cells_cv _ _ _ | exact okPt _) (fun w => g_times_walk k a ha w) ⟨hv0, (by repeat first | exact okC_nil | refine okMany ?_ ?_ | refine okOne ?_ ?_ | exact rfl | exact W_cv _ | exact V_cv _ | exact Dd_cv _ | exact cells_cv _ _ _ | exact okPt _), trivial⟩ (fun ρ => by first | rfl | (simp [SV.den, viewRho, Nat.add_assoc]; done) | (simp [SV.den, viewRho, Nat.add_assoc]; rfl)) hk
theorem g_lift_walk (x odd : Nat) (hx : x < Pp) (ho : odd < 2) (w : World) : VC Go.Proofs.Try.prog (fun _ => False) w ((Go.Proofs.Try.f64).body.getD .skip) (mkSt (argSlots 0 [(.p 0 0), (.g [.many 4 (W (x))]), (.v (.int .u64 (odd : Nat)))]) [(0, ⟨Gl, false⟩)] 1 60) (endS Γ [.cell 6 74, .tmp 7] (fun _ r => r = [(.g (Pt ((jlift x odd).1))), (.v (.bool (jlift x odd).2))])) := by
  unfold Go.Proofs.Try.f64
  dsimp only [Option.getD]
  refine vc_seq ?_
  refine vc_straight tyOK false [0, 1, 2] rfl 1 25 rfl rfl ?_
  iterate 3 refine And.intro trivial ?_
  refine vc_seq ?_
  refine vc_straight tyOK false [0, 1, 2, 3] rfl 25 57 rfl rfl ?_
  iterate 4 refine And.intro (by first | exact trivial | decide) ?_
  refine vc_seq ?_
  refine vc_drawn tyOK mixed false [0, 1, 2, 3, 4, 6, 8, 5, 7, 9, 10, 11] (by kernel_rfl) 57 153 rfl rfl ?_
  iterate 7 refine And.intro (by first | exact trivial | decide) ?_
  refine f_mul_vc Pp _ _ mo_P (by first | assumption | exact mod_ltR mo_P _ | exact pw_ltR mo_P _ _ | exact Nat.lt_trans (by assumption) mo_P.lt) (by first | assumption | exact mod_ltR mo_P _ | exact pw_ltR mo_P _ _ | exact Nat.lt_trans (by assumption) mo_P.lt) ⟨_, _, rfl, part_of (n := 7) rfl⟩ ?_
  refine f_mul_vc Pp _ _ mo_P (by first | assumption | exact mod_ltR mo_P _ | exact pw_ltR mo_P _ _ | exact Nat.lt_trans (by assumption) mo_P.lt) (by first | assumption | exact mod_ltR mo_P _ | exact pw_ltR mo_P _ _ | exact Nat.lt_trans (by assumption) mo_P.lt) ⟨_, _, rfl, part_of (n := 7) rfl⟩ ?_
  show CallVC _ _ _ [.p 0 0, .g [.many 4 (W (x * x % Pp * x % Pp))], .g [.many 4 (W 7)]] _ _ _
  refine f_add_vc Pp _ 7 mo_P (by first | assumption | exact mod_lt mo_P _ | exact pw_lt mo_P _ _) (by decide) ⟨_, _, rfl, part_of (n := 7) rfl⟩ ?_
  iterate 2 refine And.intro (by first | exact trivial | exact ⟨trivial, rfl⟩) ?_
  refine vc_seq ?_
  refine vc_straight tyOK false [0, 1, 2, 3, 4, 5, 6, 7, 8, 9, 10, 11] rfl 153 249 rfl rfl ?_
  iterate 5 refine And.intro (by first | exact trivial | decide) ?_
  show CallVC _ _ _ [.g [.many 4 (W Pp)], .g [.many 4 (W 1)]] _ _ _
  refine num_plus_vc Pp 1 mo_P.lt (by decide) ?_
  iterate 6 refine And.intro (by first | exact trivial | exact ⟨trivial, rfl⟩) ?_
  refine vc_seq ?_
  refine vc_drawn tyOK mixed false [0, 1, 2, 3, 4, 5, 6, 7] (by kernel_rfl) 249 313 rfl rfl ?_
  iterate 3 refine And.intro trivial ?_
  show CallVC _ _ _ [.g [.many 4 (W ((Pp + 1) % R))], .v (.int .u64 ((0 : Nat) : Int))] _ _ _
  refine num_half_vc ((Pp + 1) % R) 0 (by decide) (by decide) ?_
  rw [show (Pp + 1) % R / 2 + 0 % 2 * 57896044618658097711785492504343953926634992332820282019728792003956564819968 = 57896044618658097711785492504343953926634992332820282019728792003954417335832 from by decide]
  show CallVC _ _ _ [.g [.many 4 (W 57896044618658097711785492504343953926634992332820282019728792003954417335832)], .v (.int .u64 ((0 : Nat) : Int))] _ _ _
  refine num_half_vc 57896044618658097711785492504343953926634992332820282019728792003954417335832 0 (by decide) (by decide) ?_
  rw [show 57896044618658097711785492504343953926634992332820282019728792003954417335832 / 2 + 0 % 2 * 57896044618658097711785492504343953926634992332820282019728792003956564819968 = Pq from by decide]
  refine f_pow_vc Pp _ Pq mo_P (by first | assumption | exact mod_ltR mo_P _ | exact pw_ltR mo_P _ _ | exact Nat.lt_trans (by assumption) mo_P.lt) ⟨_, _, rfl, part_of (n := 7) rfl⟩ ?_
  iterate 2 refine And.intro (by first | exact trivial | exact ⟨trivial, rfl⟩) ?_
  refine vc_seq ?_
  refine vc_seq ?_
  refine vc_drawn tyOK mixed false [0, 1, 2, 4, 3, 5] (by kernel_rfl) 313 361 rfl rfl ?_
  iterate 4 refine And.intro trivial ?_
  refine f_mul_vc Pp _ _ mo_P (by first | assumption | exact mod_ltR mo_P _ | exact pw_ltR mo_P _ _ | exact Nat.lt_trans (by assumption) mo_P.lt) (by first | assumption | exact mod_ltR mo_P _ | exact pw_ltR mo_P _ _ | exact Nat.lt_trans (by assumption) mo_P.lt) ⟨_, _, rfl, part_of (n := 7) rfl⟩ ?_
  refine And.intro (by (refine Cv.eq_side ?_ ?_ <;> first | exact Cv.isC_cells _ _ _ | exact Cv.isC_rep _ _ _)) ?_
  refine vc_if rfl (fun hc1 => ?_) (fun hc1 => ?_)
  · have h0 : ¬ fm (lroot x) (lroot x) = lsq x := W_ne (mod_ltR mo_P _) (mod_ltR mo_P _) hc1
    refine vc_seq ?_
    refine vc_straight tyOK false [0, 1, 2] rfl 361 385 rfl rfl ?_
    iterate 3 refine And.intro (by first | exact trivial | exact ⟨trivial, rfl⟩) ?_
    refine vc_ret ?_
    refine And.intro (by first | exact trivial | exact ⟨trivial, trivial⟩ | exact ⟨trivial, trivial, trivial⟩) ?_
    first
    | (rw [show jlift x odd = ((0, 0, 0), false) from if_neg h0]; rfl)
    | (rw [show jlift x odd = ((x, (Pp - lroot x) % Pp, 1), true) from (if_pos h0).trans (by rw [if_neg h1])]; exact lift_neg x _ rfl)
    | (rw [show jlift x odd = ((x, lroot x, 1), true) from (if_pos h0).trans (by rw [if_pos h1])]; exact lift_pos x _ rfl)
  · have h0 : fm (lroot x) (lroot x) = lsq x := W_nne (mod_ltR mo_P _) (mod_ltR mo_P _) hc1
    refine vc_skip ?_
    refine vc_seq ?_
    refine vc_seq ?_
    refine vc_straight tyOK false [0, 1, 2, 3, 4] rfl 385 425 rfl rfl ?_
    refine And.intro (by decide) ?_
    refine reg_name rfl rfl rfl rfl ?_ (fun v hv => ?_)
    · exact (by exact trivial)
    replace hv := hv.symm.trans (cells_at0 (by decide))
    subst hv
    refine reg_name rfl rfl rfl rfl ?_ (fun v hv => ?_)
    · exact (by exact rfl)
    replace hv := hv.symm.trans (intn _ (and_1 (dig_lt B64_pos _ _)))
    subst hv
    iterate 2 refine And.intro (by first | exact trivial | exact rfl) ?_
    refine vc_if rfl (fun hc2 => ?_) (fun hc2 => ?_)
    · have h1 : ¬ lroot x % 2 = odd := dig_0 (lroot x) ▸ bnen hc2
      refine vc_straight tyOK false [0, 1, 2, 3] rfl 425 457 rfl rfl ?_
      iterate 2 refine And.intro trivial ?_
      refine f_neg_vc Pp _ mo_P (by first | assumption | exact mod_lt mo_P _ | exact pw_lt mo_P _ _) ⟨_, _, rfl, part_of (n := 7) rfl⟩ ?_
      refine And.intro (by exact ⟨trivial, rfl⟩) ?_
      refine vc_seq ?_
      refine vc_straight tyOK false [0, 1, 2, 3, 4, 5] rfl 457 505 rfl rfl ?_
      iterate 6 refine And.intro (by first | exact trivial | exact ⟨trivial, rfl⟩ | decide | ((repeat' first | exact trivial | exact rfl | exact Nat.le_of_ble_eq_true rfl | decide | omega | refine And.intro ?_ ?_); done)) ?_
      refine vc_ret ?_
      refine And.intro (by first | exact trivial | exact ⟨trivial, trivial⟩ | exact ⟨trivial, trivial, trivial⟩) ?_
      first
      | (rw [show jlift x odd = ((0, 0, 0), false) from if_neg h0]; rfl)
      | (rw [show jlift x odd = ((x, (Pp - lroot x) % Pp, 1), true) from (if_pos h0).trans (by rw [if_neg h1])]; exact lift_neg x _ rfl)
      | (rw [show jlift x odd = ((x, lroot x, 1), true) from (if_pos h0).trans (by rw [if_pos h1])]; exact lift_pos x _ rfl)
    · have h1 : lroot x % 2 = odd := dig_0 (lroot x) ▸ nbnen hc2
      refine vc_skip ?_
      refine vc_seq ?_
      refine vc_straight tyOK false [0, 1, 2, 3, 4, 5] rfl 457 505 rfl rfl ?_
      iterate 6 refine And.intro (by first | exact trivial | exact ⟨trivial, rfl⟩ | decide | ((repeat' first | exact trivial | exact rfl | exact Nat.le_of_ble_eq_true rfl | decide | omega | refine And.intro ?_ ?_); done)) ?_
      refine vc_ret ?_
      refine And.intro (by first | exact trivial | exact ⟨trivial, trivial⟩ | exact ⟨trivial, trivial, trivial⟩) ?_
      first
      | (rw [show jlift x odd = ((0, 0, 0), false) from if_neg h0]; rfl)
      | (rw [show jlift x odd = ((x, (Pp - lroot x) % Pp, 1), true) from (if_pos h0).trans (by rw [if_neg h1])]; exact lift_neg x _ rfl)
      | (rw [show jlift x odd = ((x, lroot x, 1), true) from (if_pos h0).trans (by rw [if_pos h1])]; exact lift_pos x _ rfl)
theorem g_lift_vc (x odd : Nat) {k off : Nat} (hx : x < Pp) (ho : odd < 2) {eff : Bool} {σ : SSt} {nm : Nat} {K : SSt → SS → Prop} (hv0 : Has σ (k) (off) Gl) (hk : K σ (.tup [(.g (Pt ((jlift x odd).1))), (.v (.bool (jlift x odd).2))])) : CallVC Go.Proofs.Try.prog eff (.fn 64) [(.p k off), (.g [.many 4 (W (x))]), (.v (.int .u64 (odd : Nat)))] σ nm K := by
  exact call_fn1 (args := [(.p 0 0), (.g [.many 4 (W (x))]), (.v (.int .u64 (odd : Nat)))]) (res := [(.g (Pt ((jlift x odd).1))), (.v (.bool (jlift x odd).2))]) tyOK Go.Proofs.Try.func64 (c := (Go.Proofs.Try.f64).body.getD .skip) rfl (by kernel_rfl) (rs := [.cell 6 74, .tmp 7]) rfl [(k, off, Gl)] (Nat.le_of_ble_eq_true rfl) (okAll_mem (by repeat first | exact trivial | exact okC_nil | refine okMany ?_ ?_ | refine okOne ?_ ?_ | exact W_cv _ | exact V_cv _ | exact Dd_cv _ | exact cells_cv _ _ _ | (show (_ : Nat) < _; exact (Nat.le_of_ble_eq_true rfl)) | exact rfl | refine And.intro ?_ ?_)) (by repeat first | exact plain_nil | exact okC_nil | refine plain_v ?_ | refine plain_g ?_ ?_ | refine okMany ?_ ?_ | refine okOne ?_ ?_ | exact rfl | exact W_cv _ | exact V_cv _ | exact Dd_cv _ | exact cells_cv _ _ _ | exact okPt _) (fun w => g_lift_walk x odd hx ho w) ⟨hv0, (by repeat first | exact okC_nil | refine okMany ?_ ?_ | refine okOne ?_ ?_ | exact rfl | exact W_cv _ | exact V_cv _ | exact Dd_cv _ | exact cells_cv _ _ _ | exact okPt _), trivial⟩ (fun ρ => by first | rfl | (simp [SV.den, viewRho, Nat.add_assoc]; done) | (simp [SV.den, viewRho, Nat.add_assoc]; rfl)) hk
end Go.Proofs.Ythjpppgibdfaeaa
