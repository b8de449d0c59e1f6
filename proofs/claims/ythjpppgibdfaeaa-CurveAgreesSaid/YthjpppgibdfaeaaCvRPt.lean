/- YthjpppgibdfaeaaCvRPt: a part of the proof: lemmas alone, of no statement. -/
import Derived.Test.YthjpppgibdfaeaaCvRMul
import Derived.Test.YthjpppgibdfaeaaCvTwo
/- The reference's points; what it makes of keys, public keys and signatures. -/
namespace Go.Proofs.Ythjpppgibdfaeaa
open Go Go.SX Cv Go.RowKit Go.Lib
set_option maxRecDepth 100000
theorem r_P_walk   (w : World) : VC Go.Proofs.Try.prog (fun _ => False) w ((Go.Proofs.Try.f38).body.getD .skip) (mkSt (argSlots 0 []) [] 0 2) (endS Γ [.cell 0 37] (fun _ r => r = [(.g [.many 8 (V (Pp))])])) := by
  unfold Go.Proofs.Try.f38
  dsimp only [Option.getD]
  refine vc_seq ?_
  refine vc_straight tyOK false [0] rfl 0 8 rfl rfl ?_
  refine And.intro trivial ?_
  refine vc_seq ?_
  refine vc_straight tyOK false [0, 1] rfl 8 24 rfl rfl ?_
  iterate 2 refine And.intro (by first | exact ⟨trivial, rfl⟩ | decide) ?_
  refine vc_ret ?_
  refine And.intro (by first | exact trivial | exact ⟨trivial, trivial⟩ | exact ⟨trivial, trivial, trivial⟩) ?_
  rfl
theorem r_P_vc    {eff : Bool} {σ : SSt} {nm : Nat} {K : SSt → SS → Prop}  (hk : K σ (.one ((.g [.many 8 (V (Pp))])))) : CallVC Go.Proofs.Try.prog eff (.fn 38) [] σ nm K := by
  exact call_plain (res := [(.g [.many 8 (V (Pp))])]) tyOK Go.Proofs.Try.func38 (c := (Go.Proofs.Try.f38).body.getD .skip) rfl (by kernel_rfl) (rs := [.cell 0 37]) rfl (Nat.le_of_ble_eq_true rfl) (by repeat first | exact plain_nil | exact okC_nil | refine plain_v ?_ | refine plain_g ?_ ?_ | refine okMany ?_ ?_ | refine okOne ?_ ?_ | exact rfl | exact W_cv _ | exact V_cv _ | exact Dd_cv _ | exact cells_cv _ _ _ | exact okPt _) (by repeat first | exact plain_nil | exact okC_nil | refine plain_v ?_ | refine plain_g ?_ ?_ | refine okMany ?_ ?_ | refine okOne ?_ ?_ | exact rfl | exact W_cv _ | exact V_cv _ | exact Dd_cv _ | exact cells_cv _ _ _ | exact okPt _) (fun w => r_P_walk  w) hk
theorem r_N_walk   (w : World) : VC Go.Proofs.Try.prog (fun _ => False) w ((Go.Proofs.Try.f27).body.getD .skip) (mkSt (argSlots 0 []) [] 0 2) (endS Γ [.cell 0 37] (fun _ r => r = [(.g [.many 8 (V (Nn))])])) := by
  unfold Go.Proofs.Try.f27
  dsimp only [Option.getD]
  refine vc_seq ?_
  refine vc_straight tyOK false [0] rfl 0 8 rfl rfl ?_
  refine And.intro trivial ?_
  refine vc_seq ?_
  refine vc_straight tyOK false [0, 1] rfl 8 24 rfl rfl ?_
  iterate 2 refine And.intro (by first | exact ⟨trivial, rfl⟩ | decide) ?_
  refine vc_ret ?_
  refine And.intro (by first | exact trivial | exact ⟨trivial, trivial⟩ | exact ⟨trivial, trivial, trivial⟩) ?_
  rfl
theorem r_N_vc    {eff : Bool} {σ : SSt} {nm : Nat} {K : SSt → SS → Prop}  (hk : K σ (.one ((.g [.many 8 (V (Nn))])))) : CallVC Go.Proofs.Try.prog eff (.fn 27) [] σ nm K := by
  exact call_plain (res := [(.g [.many 8 (V (Nn))])]) tyOK Go.Proofs.Try.func27 (c := (Go.Proofs.Try.f27).body.getD .skip) rfl (by kernel_rfl) (rs := [.cell 0 37]) rfl (Nat.le_of_ble_eq_true rfl) (by repeat first | exact plain_nil | exact okC_nil | refine plain_v ?_ | refine plain_g ?_ ?_ | refine okMany ?_ ?_ | refine okOne ?_ ?_ | exact rfl | exact W_cv _ | exact V_cv _ | exact Dd_cv _ | exact cells_cv _ _ _ | exact okPt _) (by repeat first | exact plain_nil | exact okC_nil | refine plain_v ?_ | refine plain_g ?_ ?_ | refine okMany ?_ ?_ | refine okOne ?_ ?_ | exact rfl | exact W_cv _ | exact V_cv _ | exact Dd_cv _ | exact cells_cv _ _ _ | exact okPt _) (fun w => r_N_walk  w) hk
theorem r_zero_walk   (w : World) : VC Go.Proofs.Try.prog (fun _ => False) w ((Go.Proofs.Try.f65).body.getD .skip) (mkSt (argSlots 0 []) [] 0 5) (endS Γ [.cell 0 39] (fun _ r => r = [(.g (Pr ((0, 1, 0))))])) := by
  unfold Go.Proofs.Try.f65
  dsimp only [Option.getD]
  refine vc_seq ?_
  refine vc_straight tyOK false [0] rfl 0 8 rfl rfl ?_
  refine And.intro trivial ?_
  refine vc_seq ?_
  refine vc_straight tyOK false [0, 1, 2, 3, 4] rfl 8 48 rfl rfl ?_
  iterate 5 refine And.intro (by first | exact trivial | exact ⟨trivial, rfl⟩ | decide | ((repeat' first | exact trivial | exact rfl | exact Nat.le_of_ble_eq_true rfl | decide | omega | refine And.intro ?_ ?_); done)) ?_
  refine vc_ret ?_
  refine And.intro (by first | exact trivial | exact ⟨trivial, trivial⟩ | exact ⟨trivial, trivial, trivial⟩) ?_
  rfl
theorem r_zero_vc    {eff : Bool} {σ : SSt} {nm : Nat} {K : SSt → SS → Prop}  (hk : K σ (.one ((.g (Pr ((0, 1, 0))))))) : CallVC Go.Proofs.Try.prog eff (.fn 65) [] σ nm K := by
  exact call_plain (res := [(.g (Pr ((0, 1, 0))))]) tyOK Go.Proofs.Try.func65 (c := (Go.Proofs.Try.f65).body.getD .skip) rfl (by kernel_rfl) (rs := [.cell 0 39]) rfl (Nat.le_of_ble_eq_true rfl) (by repeat first | exact plain_nil | exact okC_nil | refine plain_v ?_ | refine plain_g ?_ ?_ | refine okMany ?_ ?_ | refine okOne ?_ ?_ | exact rfl | exact W_cv _ | exact V_cv _ | exact Dd_cv _ | exact cells_cv _ _ _ | exact okPt _) (by repeat first | exact plain_nil | exact okC_nil | refine plain_v ?_ | refine plain_g ?_ ?_ | refine okMany ?_ ?_ | refine okOne ?_ ?_ | exact rfl | exact W_cv _ | exact V_cv _ | exact Dd_cv _ | exact cells_cv _ _ _ | exact okPt _) (fun w => r_zero_walk  w) hk
theorem r_plus_walk (a b : J) (ha : OkJ a) (hb : OkJ b) (w : World) : VC Go.Proofs.Try.prog (fun _ => False) w ((Go.Proofs.Try.f48).body.getD .skip) (mkSt (argSlots 0 [(.g (Pr (a))), (.g (Pr (b)))]) [] 0 150) (endS Γ [.cell 4 39] (fun _ r => r = [(.g (Pr (rplus a b)))])) := by
  unfold Go.Proofs.Try.f48
  dsimp only [Option.getD]
  obtain ⟨x, y, z⟩ := a
  obtain ⟨hx, hy, hz⟩ := ha
  obtain ⟨x', y', z'⟩ := b
  obtain ⟨hx', hy', hz'⟩ := hb
  simp only at hx hy hz hx' hy' hz'
  refine vc_seq ?_
  refine vc_straight tyOK false [0, 1, 2] rfl 0 24 rfl rfl ?_
  iterate 3 refine And.intro trivial ?_
  refine vc_seq ?_
  refine vc_straight tyOK false [0, 1, 2] rfl 24 48 rfl rfl ?_
  refine r_P_vc ?_
  iterate 2 refine And.intro (by first | exact trivial | exact ⟨trivial, rfl⟩) ?_
  refine vc_seq ?_
  refine vc_straight tyOK false [0, 1, 2] rfl 48 72 rfl rfl ?_
  iterate 3 refine And.intro (by first | exact trivial | exact ⟨trivial, rfl⟩ | decide) ?_
  refine vc_seq ?_
  refine vc_straight tyOK false [0, 1, 2, 3, 4, 5, 6, 7] rfl 72 136 rfl rfl ?_
  iterate 5 refine And.intro (by first | exact trivial | decide) ?_
  refine r_mul_vc _ _ Pp mo_P (by first | assumption | exact mod_ltR mo_P _ | exact pw_ltR mo_P _ _ | exact Nat.lt_trans (by assumption) mo_P.lt | decide) (by first | assumption | exact mod_ltR mo_P _ | exact pw_ltR mo_P _ _ | exact Nat.lt_trans (by assumption) mo_P.lt | decide) ?_
  iterate 2 refine And.intro (by first | exact trivial | exact ⟨trivial, rfl⟩) ?_
  refine vc_seq ?_
  refine vc_straight tyOK false [0, 1, 2, 3, 4, 5, 6, 7] rfl 136 200 rfl rfl ?_
  iterate 5 refine And.intro (by first | exact trivial | decide) ?_
  refine r_mul_vc _ _ Pp mo_P (by first | assumption | exact mod_ltR mo_P _ | exact pw_ltR mo_P _ _ | exact Nat.lt_trans (by assumption) mo_P.lt | decide) (by first | assumption | exact mod_ltR mo_P _ | exact pw_ltR mo_P _ _ | exact Nat.lt_trans (by assumption) mo_P.lt | decide) ?_
  iterate 2 refine And.intro (by first | exact trivial | exact ⟨trivial, rfl⟩) ?_
  refine vc_seq ?_
  refine vc_straight tyOK false [0, 1, 2, 3, 4, 5, 6, 7] rfl 200 264 rfl rfl ?_
  iterate 5 refine And.intro (by first | exact trivial | decide) ?_
  refine r_mul_vc _ _ Pp mo_P (by first | assumption | exact mod_ltR mo_P _ | exact pw_ltR mo_P _ _ | exact Nat.lt_trans (by assumption) mo_P.lt | decide) (by first | assumption | exact mod_ltR mo_P _ | exact pw_ltR mo_P _ _ | exact Nat.lt_trans (by assumption) mo_P.lt | decide) ?_
  iterate 2 refine And.intro (by first | exact trivial | exact ⟨trivial, rfl⟩) ?_
  refine vc_seq ?_
  refine vc_drawn tyOK mixed false [0, 1, 2, 3, 4, 6, 7, 8, 9, 10, 12, 14, 15, 16, 18, 5, 11, 13, 17, 19, 20, 21] (by kernel_rfl) 264 440 rfl rfl ?_
  iterate 15 refine And.intro (by first | exact trivial | decide) ?_
  refine r_add_vc _ _ Pp mo_P (by first | assumption | exact mod_ltR mo_P _ | exact pw_ltR mo_P _ _ | exact Nat.lt_trans (by assumption) mo_P.lt | decide) (by first | assumption | exact mod_ltR mo_P _ | exact pw_ltR mo_P _ _ | exact Nat.lt_trans (by assumption) mo_P.lt | decide) ?_
  refine r_add_vc _ _ Pp mo_P (by first | assumption | exact mod_ltR mo_P _ | exact pw_ltR mo_P _ _ | exact Nat.lt_trans (by assumption) mo_P.lt | decide) (by first | assumption | exact mod_ltR mo_P _ | exact pw_ltR mo_P _ _ | exact Nat.lt_trans (by assumption) mo_P.lt | decide) ?_
  refine r_mul_vc _ _ Pp mo_P (by first | assumption | exact mod_ltR mo_P _ | exact pw_ltR mo_P _ _ | exact Nat.lt_trans (by assumption) mo_P.lt | decide) (by first | assumption | exact mod_ltR mo_P _ | exact pw_ltR mo_P _ _ | exact Nat.lt_trans (by assumption) mo_P.lt | decide) ?_
  refine r_add_vc _ _ Pp mo_P (by first | assumption | exact mod_ltR mo_P _ | exact pw_ltR mo_P _ _ | exact Nat.lt_trans (by assumption) mo_P.lt | decide) (by first | assumption | exact mod_ltR mo_P _ | exact pw_ltR mo_P _ _ | exact Nat.lt_trans (by assumption) mo_P.lt | decide) ?_
  refine r_sub_vc _ _ Pp mo_P (by first | assumption | exact mod_lt mo_P _ | exact pw_lt mo_P _ _) (by first | assumption | exact mod_lt mo_P _ | exact pw_lt mo_P _ _) ?_
  iterate 2 refine And.intro (by first | exact trivial | exact ⟨trivial, rfl⟩) ?_
  refine vc_seq ?_
  refine vc_drawn tyOK mixed false [0, 1, 2, 3, 4, 6, 7, 8, 9, 10, 12, 14, 15, 16, 18, 5, 11, 13, 17, 19, 20, 21] (by kernel_rfl) 440 616 rfl rfl ?_
  iterate 15 refine And.intro (by first | exact trivial | decide) ?_
  refine r_add_vc _ _ Pp mo_P (by first | assumption | exact mod_ltR mo_P _ | exact pw_ltR mo_P _ _ | exact Nat.lt_trans (by assumption) mo_P.lt | decide) (by first | assumption | exact mod_ltR mo_P _ | exact pw_ltR mo_P _ _ | exact Nat.lt_trans (by assumption) mo_P.lt | decide) ?_
  refine r_add_vc _ _ Pp mo_P (by first | assumption | exact mod_ltR mo_P _ | exact pw_ltR mo_P _ _ | exact Nat.lt_trans (by assumption) mo_P.lt | decide) (by first | assumption | exact mod_ltR mo_P _ | exact pw_ltR mo_P _ _ | exact Nat.lt_trans (by assumption) mo_P.lt | decide) ?_
  refine r_mul_vc _ _ Pp mo_P (by first | assumption | exact mod_ltR mo_P _ | exact pw_ltR mo_P _ _ | exact Nat.lt_trans (by assumption) mo_P.lt | decide) (by first | assumption | exact mod_ltR mo_P _ | exact pw_ltR mo_P _ _ | exact Nat.lt_trans (by assumption) mo_P.lt | decide) ?_
  refine r_add_vc _ _ Pp mo_P (by first | assumption | exact mod_ltR mo_P _ | exact pw_ltR mo_P _ _ | exact Nat.lt_trans (by assumption) mo_P.lt | decide) (by first | assumption | exact mod_ltR mo_P _ | exact pw_ltR mo_P _ _ | exact Nat.lt_trans (by assumption) mo_P.lt | decide) ?_
  refine r_sub_vc _ _ Pp mo_P (by first | assumption | exact mod_lt mo_P _ | exact pw_lt mo_P _ _) (by first | assumption | exact mod_lt mo_P _ | exact pw_lt mo_P _ _) ?_
  iterate 2 refine And.intro (by first | exact trivial | exact ⟨trivial, rfl⟩) ?_
  refine vc_seq ?_
  refine vc_drawn tyOK mixed false [0, 1, 2, 3, 4, 6, 7, 8, 9, 10, 12, 14, 15, 16, 18, 5, 11, 13, 17, 19, 20, 21] (by kernel_rfl) 616 792 rfl rfl ?_
  iterate 15 refine And.intro (by first | exact trivial | decide) ?_
  refine r_add_vc _ _ Pp mo_P (by first | assumption | exact mod_ltR mo_P _ | exact pw_ltR mo_P _ _ | exact Nat.lt_trans (by assumption) mo_P.lt | decide) (by first | assumption | exact mod_ltR mo_P _ | exact pw_ltR mo_P _ _ | exact Nat.lt_trans (by assumption) mo_P.lt | decide) ?_
  refine r_add_vc _ _ Pp mo_P (by first | assumption | exact mod_ltR mo_P _ | exact pw_ltR mo_P _ _ | exact Nat.lt_trans (by assumption) mo_P.lt | decide) (by first | assumption | exact mod_ltR mo_P _ | exact pw_ltR mo_P _ _ | exact Nat.lt_trans (by assumption) mo_P.lt | decide) ?_
  refine r_mul_vc _ _ Pp mo_P (by first | assumption | exact mod_ltR mo_P _ | exact pw_ltR mo_P _ _ | exact Nat.lt_trans (by assumption) mo_P.lt | decide) (by first | assumption | exact mod_ltR mo_P _ | exact pw_ltR mo_P _ _ | exact Nat.lt_trans (by assumption) mo_P.lt | decide) ?_
  refine r_add_vc _ _ Pp mo_P (by first | assumption | exact mod_ltR mo_P _ | exact pw_ltR mo_P _ _ | exact Nat.lt_trans (by assumption) mo_P.lt | decide) (by first | assumption | exact mod_ltR mo_P _ | exact pw_ltR mo_P _ _ | exact Nat.lt_trans (by assumption) mo_P.lt | decide) ?_
  refine r_sub_vc _ _ Pp mo_P (by first | assumption | exact mod_lt mo_P _ | exact pw_lt mo_P _ _) (by first | assumption | exact mod_lt mo_P _ | exact pw_lt mo_P _ _) ?_
  iterate 2 refine And.intro (by first | exact trivial | exact ⟨trivial, rfl⟩) ?_
  refine vc_seq ?_
  refine vc_drawn tyOK mixed false [0, 1, 2, 4, 5, 3, 6, 7] (by kernel_rfl) 792 856 rfl rfl ?_
  iterate 5 refine And.intro trivial ?_
  refine r_add_vc _ _ Pp mo_P (by first | assumption | exact mod_ltR mo_P _ | exact pw_ltR mo_P _ _ | exact Nat.lt_trans (by assumption) mo_P.lt | decide) (by first | assumption | exact mod_ltR mo_P _ | exact pw_ltR mo_P _ _ | exact Nat.lt_trans (by assumption) mo_P.lt | decide) ?_
  refine r_add_vc _ _ Pp mo_P (by first | assumption | exact mod_ltR mo_P _ | exact pw_ltR mo_P _ _ | exact Nat.lt_trans (by assumption) mo_P.lt | decide) (by first | assumption | exact mod_ltR mo_P _ | exact pw_ltR mo_P _ _ | exact Nat.lt_trans (by assumption) mo_P.lt | decide) ?_
  refine And.intro (by exact ⟨trivial, rfl⟩) ?_
  refine vc_seq ?_
  refine vc_straight tyOK false [0, 1, 2, 3, 4] rfl 856 896 rfl rfl ?_
  iterate 3 refine And.intro trivial ?_
  show CallVC _ _ _ [.g [.many 8 (V 21)], .g [.many 8 (V _)], .g [.many 8 (V Pp)]] _ _ _
  refine r_mul_vc 21 _ Pp mo_P (by decide) (by first | assumption | exact mod_ltR mo_P _ | exact pw_ltR mo_P _ _ | exact Nat.lt_trans (by assumption) mo_P.lt | decide) ?_
  refine And.intro (by exact ⟨trivial, rfl⟩) ?_
  refine vc_seq ?_
  refine vc_straight tyOK false [0, 1, 2, 3, 4, 5] rfl 896 944 rfl rfl ?_
  iterate 3 refine And.intro trivial ?_
  refine r_add_vc _ _ Pp mo_P (by first | assumption | exact mod_ltR mo_P _ | exact pw_ltR mo_P _ _ | exact Nat.lt_trans (by assumption) mo_P.lt | decide) (by first | assumption | exact mod_ltR mo_P _ | exact pw_ltR mo_P _ _ | exact Nat.lt_trans (by assumption) mo_P.lt | decide) ?_
  iterate 2 refine And.intro (by first | exact trivial | exact ⟨trivial, rfl⟩) ?_
  refine vc_seq ?_
  refine vc_straight tyOK false [0, 1, 2, 3, 4] rfl 944 984 rfl rfl ?_
  iterate 3 refine And.intro trivial ?_
  refine r_sub_vc _ _ Pp mo_P (by first | assumption | exact mod_lt mo_P _ | exact pw_lt mo_P _ _) (by first | assumption | exact mod_lt mo_P _ | exact pw_lt mo_P _ _) ?_
  refine And.intro (by exact ⟨trivial, rfl⟩) ?_
  refine vc_seq ?_
  refine vc_straight tyOK false [0, 1, 2, 3, 4] rfl 984 1024 rfl rfl ?_
  iterate 3 refine And.intro trivial ?_
  show CallVC _ _ _ [.g [.many 8 (V 21)], .g [.many 8 (V _)], .g [.many 8 (V Pp)]] _ _ _
  refine r_mul_vc 21 _ Pp mo_P (by decide) (by first | assumption | exact mod_ltR mo_P _ | exact pw_ltR mo_P _ _ | exact Nat.lt_trans (by assumption) mo_P.lt | decide) ?_
  refine And.intro (by exact ⟨trivial, rfl⟩) ?_
  refine vc_seq ?_
  refine vc_drawn tyOK mixed false [0, 1, 2, 4, 5, 6, 8, 3, 7, 9, 10, 11] (by kernel_rfl) 1024 1120 rfl rfl ?_
  iterate 7 refine And.intro trivial ?_
  refine r_mul_vc _ _ Pp mo_P (by first | assumption | exact mod_ltR mo_P _ | exact pw_ltR mo_P _ _ | exact Nat.lt_trans (by assumption) mo_P.lt | decide) (by first | assumption | exact mod_ltR mo_P _ | exact pw_ltR mo_P _ _ | exact Nat.lt_trans (by assumption) mo_P.lt | decide) ?_
  refine r_mul_vc _ _ Pp mo_P (by first | assumption | exact mod_ltR mo_P _ | exact pw_ltR mo_P _ _ | exact Nat.lt_trans (by assumption) mo_P.lt | decide) (by first | assumption | exact mod_ltR mo_P _ | exact pw_ltR mo_P _ _ | exact Nat.lt_trans (by assumption) mo_P.lt | decide) ?_
  refine r_sub_vc _ _ Pp mo_P (by first | assumption | exact mod_lt mo_P _ | exact pw_lt mo_P _ _) (by first | assumption | exact mod_lt mo_P _ | exact pw_lt mo_P _ _) ?_
  iterate 2 refine And.intro (by first | exact trivial | exact ⟨trivial, rfl⟩) ?_
  refine vc_seq ?_
  refine vc_drawn tyOK mixed false [0, 1, 2, 3, 5, 6, 7, 9, 11, 12, 13, 15, 16, 17, 19, 4, 8, 10, 14, 18, 20, 21, 22] (by kernel_rfl) 1120 1304 rfl rfl ?_
  iterate 15 refine And.intro trivial ?_
  refine r_mul_vc _ _ Pp mo_P (by first | assumption | exact mod_ltR mo_P _ | exact pw_ltR mo_P _ _ | exact Nat.lt_trans (by assumption) mo_P.lt | decide) (by first | assumption | exact mod_ltR mo_P _ | exact pw_ltR mo_P _ _ | exact Nat.lt_trans (by assumption) mo_P.lt | decide) ?_
  refine r_mul_vc _ _ Pp mo_P (by first | assumption | exact mod_ltR mo_P _ | exact pw_ltR mo_P _ _ | exact Nat.lt_trans (by assumption) mo_P.lt | decide) (by first | assumption | exact mod_ltR mo_P _ | exact pw_ltR mo_P _ _ | exact Nat.lt_trans (by assumption) mo_P.lt | decide) ?_
  refine r_add_vc _ _ Pp mo_P (by first | assumption | exact mod_ltR mo_P _ | exact pw_ltR mo_P _ _ | exact Nat.lt_trans (by assumption) mo_P.lt | decide) (by first | assumption | exact mod_ltR mo_P _ | exact pw_ltR mo_P _ _ | exact Nat.lt_trans (by assumption) mo_P.lt | decide) ?_
  refine r_mul_vc _ _ Pp mo_P (by first | assumption | exact mod_ltR mo_P _ | exact pw_ltR mo_P _ _ | exact Nat.lt_trans (by assumption) mo_P.lt | decide) (by first | assumption | exact mod_ltR mo_P _ | exact pw_ltR mo_P _ _ | exact Nat.lt_trans (by assumption) mo_P.lt | decide) ?_
  refine r_mul_vc _ _ Pp mo_P (by first | assumption | exact mod_ltR mo_P _ | exact pw_ltR mo_P _ _ | exact Nat.lt_trans (by assumption) mo_P.lt | decide) (by first | assumption | exact mod_ltR mo_P _ | exact pw_ltR mo_P _ _ | exact Nat.lt_trans (by assumption) mo_P.lt | decide) ?_
  refine r_add_vc _ _ Pp mo_P (by first | assumption | exact mod_ltR mo_P _ | exact pw_ltR mo_P _ _ | exact Nat.lt_trans (by assumption) mo_P.lt | decide) (by first | assumption | exact mod_ltR mo_P _ | exact pw_ltR mo_P _ _ | exact Nat.lt_trans (by assumption) mo_P.lt | decide) ?_
  iterate 2 refine And.intro (by first | exact ⟨trivial, rfl⟩ | ((repeat' first | exact trivial | exact rfl | exact Nat.le_of_ble_eq_true rfl | decide | omega | refine And.intro ?_ ?_); done)) ?_
  refine vc_ret ?_
  refine And.intro (by first | exact trivial | exact ⟨trivial, trivial⟩ | exact ⟨trivial, trivial, trivial⟩) ?_
  rfl
theorem r_plus_vc (a b : J)  (ha : OkJ a) (hb : OkJ b) {eff : Bool} {σ : SSt} {nm : Nat} {K : SSt → SS → Prop}  (hk : K σ (.one ((.g (Pr (rplus a b)))))) : CallVC Go.Proofs.Try.prog eff (.fn 48) [(.g (Pr (a))), (.g (Pr (b)))] σ nm K := by
  exact call_plain (res := [(.g (Pr (rplus a b)))]) tyOK Go.Proofs.Try.func48 (c := (Go.Proofs.Try.f48).body.getD .skip) rfl (by kernel_rfl) (rs := [.cell 4 39]) rfl (Nat.le_of_ble_eq_true rfl) (by repeat first | exact plain_nil | exact okC_nil | refine plain_v ?_ | refine plain_g ?_ ?_ | refine okMany ?_ ?_ | refine okOne ?_ ?_ | exact rfl | exact W_cv _ | exact V_cv _ | exact Dd_cv _ | exact cells_cv _ _ _ | exact okPt _) (by repeat first | exact plain_nil | exact okC_nil | refine plain_v ?_ | refine plain_g ?_ ?_ | refine okMany ?_ ?_ | refine okOne ?_ ?_ | exact rfl | exact W_cv _ | exact V_cv _ | exact Dd_cv _ | exact cells_cv _ _ _ | exact okPt _) (fun w => r_plus_walk a b ha hb w) hk
def rtimesSt (k : Nat) (a : J) (j : Nat) : SSt := mkSt [(2, .one (.p 0 0)), (3, .one (.p 8 0)), (4, .one (.p 16 0)), (5, .one (.p 32 0)), (6, .one (.v (.int .i64 (255 - (j : Int)))))]
  [(0, ⟨[.many 8 (V k)], true⟩), (8, ⟨Pr a, true⟩), (16, ⟨[.many 8 (List.replicate 8 (.int .u32 0)), .many 8 (List.replicate 8 (.int .u32 0)), .many 8 (List.replicate 8 (.int .u32 0))], true⟩), (32, ⟨Pr (rtimes k a j), true⟩)] 56 22
theorem r_times_walk (k : Nat) (a : J) (ha : OkJ a) (w : World) : VC Go.Proofs.Try.prog (fun _ => False) w ((Go.Proofs.Try.f35).body.getD .skip) (mkSt (argSlots 0 [(.g [.many 8 (V (k))]), (.g (Pr (a)))]) [] 0 22) (endS Γ [.cell 4 39] (fun _ r => r = [(.g (Pr (rtimes k a 256)))])) := by
  unfold Go.Proofs.Try.f35
  dsimp only [Option.getD]
  refine vc_seq ?_
  refine vc_straight tyOK false [0, 1, 2] rfl 0 24 rfl rfl ?_
  iterate 3 refine And.intro trivial ?_
  refine vc_seq ?_
  refine vc_straight tyOK false [0, 1, 2] rfl 24 48 rfl rfl ?_
  refine r_zero_vc ?_
  iterate 2 refine And.intro (by first | exact trivial | exact ⟨trivial, rfl⟩) ?_
  refine vc_seq ?_
  refine vc_seq ?_
  refine vc_straight tyOK false [0] rfl 48 56 rfl rfl ?_
  refine And.intro trivial ?_
  refine vc_block ?_
  refine vc_loop (fun j : Nat => j ≤ 256) (rtimesSt k a) (fun j => 256 - j) 0 (by omega) (ent_mk rfl ⟨rfl, rfl, rfl, rfl, slot_int (by omega), trivial⟩ ⟨rfl, rfl, rfl, rfl, trivial⟩ rfl) ?_
  intro j hj
  refine vc_seq ?_
  refine vc_seq ?_
  refine vc_straight tyOK false [0, 1] rfl 56 72 rfl rfl ?_
  iterate 2 refine And.intro (by first | exact trivial | exact rfl) ?_
  refine vc_if rfl (fun hc1 => ?_) (fun hc1 => ?_)
  · obtain ⟨i, hi⟩ : ∃ i : Nat, 255 - (j : Int) = (i : Int) := ⟨255 - j, by have := of_decide_eq_true hc1; omega⟩
    have hji : 255 - j = i := by omega
    have hj' : j < 256 := by omega
    refine vc_skip ?_
    refine vc_seq ?_
    refine vc_block ?_
    refine vc_seq ?_
    refine vc_straight tyOK false [0, 1, 2, 3] rfl 72 104 rfl rfl ?_
    iterate 2 refine And.intro trivial ?_
    refine r_plus_vc (rtimes k a j) (rtimes k a j) (rtimes_ok j) (rtimes_ok j) ?_
    refine And.intro (by exact ⟨trivial, rfl⟩) ?_
    refine vc_seq ?_
    refine vc_straight tyOK false [0, 1, 2] rfl 104 128 rfl rfl ?_
    refine And.intro trivial ?_
    refine reg_name rfl rfl rfl rfl ?_ (fun v hv => ?_)
    · exact (by exact trivial)
    replace hv := hv.symm.trans (intn i hi)
    subst hv
    refine r_bit_vc k i (by omega) ?_
    refine vc_if rfl (fun hc2 => ?_) (fun hc2 => ?_)
    · have hbit : k / 2 ^ i % 2 = 1 := of_decide_eq_true hc2
      refine vc_straight tyOK false [0, 1, 2, 3] rfl 128 160 rfl rfl ?_
      iterate 2 refine And.intro trivial ?_
      refine r_plus_vc (rplus (rtimes k a j) (rtimes k a j)) a (rplus_ok _ _) ha ?_
      refine And.intro (by exact ⟨trivial, rfl⟩) ?_
      refine vc_straight tyOK false [0, 1, 2] rfl 160 184 rfl rfl ?_
      iterate 3 refine And.intro (by first | exact trivial | exact rfl) ?_
      refine ⟨j + 1, by omega, ent_mk rfl ⟨rfl, rfl, rfl, rfl, slot_int ((wrap_i64 (by omega) (by omega)).trans (by omega)), trivial⟩ ⟨rfl, rfl, rfl, blkPr (by rw [rtimes_step hji]; first | rw [if_pos hbit] | rw [if_neg hbit]), trivial⟩ rfl, by show 256 - (j + 1) < 256 - j; omega⟩
    · have hbit : ¬ k / 2 ^ i % 2 = 1 := of_decide_eq_false hc2
      refine vc_skip ?_
      refine vc_straight tyOK false [0, 1, 2] rfl 160 184 rfl rfl ?_
      iterate 3 refine And.intro (by first | exact trivial | exact rfl) ?_
      refine ⟨j + 1, by omega, ent_mk rfl ⟨rfl, rfl, rfl, rfl, slot_int ((wrap_i64 (by omega) (by omega)).trans (by omega)), trivial⟩ ⟨rfl, rfl, rfl, blkPr (by rw [rtimes_step hji]; first | rw [if_pos hbit] | rw [if_neg hbit]), trivial⟩ rfl, by show 256 - (j + 1) < 256 - j; omega⟩
  · obtain rfl : j = 256 := by have := of_decide_eq_false hc1; omega
    refine vc_exit ?_
    refine vc_seq ?_
    refine vc_straight tyOK false [0, 1] rfl 184 200 rfl rfl ?_
    iterate 2 refine And.intro (by first | exact trivial | exact ⟨trivial, rfl⟩) ?_
    refine vc_ret ?_
    refine And.intro (by first | exact trivial | exact ⟨trivial, trivial⟩ | exact ⟨trivial, trivial, trivial⟩) ?_
    rfl
theorem r_times_vc (k : Nat) (a : J)  (ha : OkJ a) {eff : Bool} {σ : SSt} {nm : Nat} {K : SSt → SS → Prop}  (hk : K σ (.one ((.g (Pr (rtimes k a 256)))))) : CallVC Go.Proofs.Try.prog eff (.fn 35) [(.g [.many 8 (V (k))]), (.g (Pr (a)))] σ nm K := by
  exact call_plain (res := [(.g (Pr (rtimes k a 256)))]) tyOK Go.Proofs.Try.func35 (c := (Go.Proofs.Try.f35).body.getD .skip) rfl (by kernel_rfl) (rs := [.cell 4 39]) rfl (Nat.le_of_ble_eq_true rfl) (by repeat first | exact plain_nil | exact okC_nil | refine plain_v ?_ | refine plain_g ?_ ?_ | refine okMany ?_ ?_ | refine okOne ?_ ?_ | exact rfl | exact W_cv _ | exact V_cv _ | exact Dd_cv _ | exact cells_cv _ _ _ | exact okPt _) (by repeat first | exact plain_nil | exact okC_nil | refine plain_v ?_ | refine plain_g ?_ ?_ | refine okMany ?_ ?_ | refine okOne ?_ ?_ | exact rfl | exact W_cv _ | exact V_cv _ | exact Dd_cv _ | exact cells_cv _ _ _ | exact okPt _) (fun w => r_times_walk k a ha w) hk
def liftA (x : Nat) (odd : Bool) (k : Nat) : SSt := mkSt [(1, .one (.v (.bool odd))), (2, .one (.p 0 0)), (4, .one (.p 8 0)), (6, .one (.p 32 0)), (7, .one (.p 128 0)), (8, .one (.p 152 0)), (9, .one (.v (.int .u32 (eC k : Nat)))), (10, .one (.v (.int .i64 (k : Nat))))]
  [(0, ⟨[.many 8 (V x)], true⟩), (8, ⟨[.many 8 (List.replicate 8 (.int .u32 0)), .many 8 (List.replicate 8 (.int .u32 0)), .many 8 (List.replicate 8 (.int .u32 0))], true⟩), (32, ⟨[.many 8 (V Pp)], true⟩), (128, ⟨[.many 8 (V (lsq x))], true⟩), (152, ⟨[.many 8 (V (eP k))], true⟩)] 184 101
def liftH (x : Nat) (odd : Bool) (r : Nat) : SSt := mkSt [(1, .one (.v (.bool odd))), (2, .one (.p 0 0)), (4, .one (.p 8 0)), (6, .one (.p 32 0)), (7, .one (.p 128 0)), (8, .one (.p 152 0)), (12, .one (.v (.int .i64 (r : Nat))))]
  [(0, ⟨[.many 8 (V x)], true⟩), (8, ⟨[.many 8 (List.replicate 8 (.int .u32 0)), .many 8 (List.replicate 8 (.int .u32 0)), .many 8 (List.replicate 8 (.int .u32 0))], true⟩), (32, ⟨[.many 8 (V Pp)], true⟩), (128, ⟨[.many 8 (V (lsq x))], true⟩), (152, ⟨[.many 8 (V (eH r))], true⟩)] 376 101
def liftC (x : Nat) (odd : Bool) (r k : Nat) : SSt := mkSt [(1, .one (.v (.bool odd))), (2, .one (.p 0 0)), (4, .one (.p 8 0)), (6, .one (.p 32 0)), (7, .one (.p 128 0)), (8, .one (.p 152 0)), (12, .one (.v (.int .i64 (r : Nat)))), (13, .one (.v (.int .i64 (k : Nat))))]
  [(0, ⟨[.many 8 (V x)], true⟩), (8, ⟨[.many 8 (List.replicate 8 (.int .u32 0)), .many 8 (List.replicate 8 (.int .u32 0)), .many 8 (List.replicate 8 (.int .u32 0))], true⟩), (32, ⟨[.many 8 (V Pp)], true⟩), (128, ⟨[.many 8 (V (lsq x))], true⟩), (152, ⟨[.many 8 (cells .u32 8 (halfU (eH r) k))], true⟩)] 400 101
theorem r_lift_walk (x : Nat) (odd : Bool) (hx : x < Pp) (w : World) : VC Go.Proofs.Try.prog (fun _ => False) w ((Go.Proofs.Try.f39).body.getD .skip) (mkSt (argSlots 0 [(.g [.many 8 (V (x))]), (.v (.bool odd))]) [] 0 101) (endS Γ [.cell 4 39, .tmp 5] (fun _ r => r = [(.g (Pr ((jlift x (oddN odd)).1))), (.v (.bool (jlift x (oddN odd)).2))])) := by
  unfold Go.Proofs.Try.f39
  dsimp only [Option.getD]
  refine vc_seq ?_
  refine vc_straight tyOK false [0, 1, 2] rfl 0 24 rfl rfl ?_
  iterate 3 refine And.intro trivial ?_
  refine vc_seq ?_
  refine vc_straight tyOK false [0, 1, 2] rfl 24 48 rfl rfl ?_
  refine r_P_vc ?_
  iterate 2 refine And.intro (by first | exact trivial | exact ⟨trivial, rfl⟩) ?_
  refine vc_seq ?_
  refine vc_drawn tyOK mixed false [0, 1, 2, 4, 5, 7, 8, 3, 6, 9, 10, 11] (by kernel_rfl) 48 144 rfl rfl ?_
  iterate 7 refine And.intro (by first | exact trivial | decide) ?_
  refine r_mul_vc _ _ Pp mo_P (by first | assumption | exact mod_ltR mo_P _ | exact pw_ltR mo_P _ _ | exact Nat.lt_trans (by assumption) mo_P.lt | decide) (by first | assumption | exact mod_ltR mo_P _ | exact pw_ltR mo_P _ _ | exact Nat.lt_trans (by assumption) mo_P.lt | decide) ?_
  refine r_mul_vc _ _ Pp mo_P (by first | assumption | exact mod_ltR mo_P _ | exact pw_ltR mo_P _ _ | exact Nat.lt_trans (by assumption) mo_P.lt | decide) (by first | assumption | exact mod_ltR mo_P _ | exact pw_ltR mo_P _ _ | exact Nat.lt_trans (by assumption) mo_P.lt | decide) ?_
  show CallVC _ _ _ [.g [.many 8 (V (x * x % Pp * x % Pp))], .g [.many 8 (V 7)], .g [.many 8 (V Pp)]] _ _ _
  refine r_add_vc _ 7 Pp mo_P (by first | assumption | exact mod_ltR mo_P _ | exact pw_ltR mo_P _ _ | exact Nat.lt_trans (by assumption) mo_P.lt | decide) (by decide) ?_
  iterate 2 refine And.intro (by first | exact trivial | exact ⟨trivial, rfl⟩) ?_
  refine vc_seq ?_
  refine vc_straight tyOK false [0, 1, 2] rfl 144 168 rfl rfl ?_
  iterate 3 refine And.intro (by first | exact trivial | exact ⟨trivial, rfl⟩) ?_
  refine vc_seq ?_
  refine vc_straight tyOK false [0] rfl 168 176 rfl rfl ?_
  refine And.intro trivial ?_
  refine vc_seq ?_
  refine vc_seq ?_
  refine vc_straight tyOK false [0] rfl 176 184 rfl rfl ?_
  refine And.intro trivial ?_
  refine vc_block ?_
  refine vc_loop (fun k : Nat => k ≤ 8) (liftA x odd) (fun k => 8 - k) 0 (by omega) (ent_mk rfl ⟨rfl, rfl, rfl, rfl, rfl, rfl, rfl, rfl, trivial⟩ ⟨rfl, rfl, rfl, rfl, rfl, trivial⟩ rfl) ?_
  intro k hk
  refine vc_seq ?_
  refine vc_seq ?_
  refine vc_straight tyOK false [0, 1] rfl 184 200 rfl rfl ?_
  iterate 2 refine And.intro (by first | exact trivial | exact rfl) ?_
  refine vc_if rfl (fun hc1 => ?_) (fun hc1 => ?_)
  · have hk8 : k < 8 := by have := of_decide_eq_true hc1; omega
    refine vc_skip ?_
    refine vc_seq ?_
    refine vc_block ?_
    refine vc_seq ?_
    refine vc_straight tyOK false [0, 1, 2, 3] rfl 200 232 rfl rfl ?_
    iterate 2 refine And.intro (by first | exact trivial | omega) ?_
    refine reg_name rfl rfl rfl rfl ?_ (fun v hv => ?_)
    · exact (by omega)
    replace hv := hv.symm.trans (V_get hk8)
    subst hv
    refine And.intro trivial ?_
    refine vc_seq ?_
    refine vc_straight tyOK false [0, 1, 2, 3, 4, 5, 6, 7] rfl 232 296 rfl rfl ?_
    iterate 3 refine And.intro (by first | exact trivial | omega) ?_
    refine reg_name rfl rfl rfl rfl ?_ (fun v hv => ?_)
    · exact (by omega)
    replace hv := hv.symm.trans (V_get hk8)
    subst hv
    refine And.intro trivial ?_
    refine reg_name rfl rfl rfl rfl ?_ (fun v hv => ?_)
    · exact (by exact rfl)
    replace hv := hv.symm.trans (u32n _ (addN _ _))
    subst hv
    iterate 2 refine And.intro (by first | omega | exact ⟨by omega, rfl, rfl⟩) ?_
    refine vc_seq ?_
    refine vc_straight tyOK false [0, 1, 2, 3, 4] rfl 296 336 rfl rfl ?_
    iterate 2 refine And.intro (by first | exact trivial | omega) ?_
    refine reg_name rfl rfl rfl rfl ?_ (fun v hv => ?_)
    · exact (by omega)
    replace hv := hv.symm.trans (set_getD (by rw [V_len]; omega))
    subst hv
    iterate 2 refine And.intro (by first | exact trivial | exact rfl) ?_
    refine vc_if rfl (fun hc2 => ?_) (fun hc2 => ?_)
    · skip
      refine vc_straight tyOK false [0] rfl 336 344 rfl rfl ?_
      refine And.intro trivial ?_
      refine vc_straight tyOK false [0, 1, 2] rfl 344 368 rfl rfl ?_
      iterate 3 refine And.intro (by first | exact trivial | exact rfl) ?_
      refine ⟨k + 1, by omega, ent_mk rfl ⟨rfl, rfl, rfl, rfl, rfl, rfl, rfl, slot_int (wrap_i64 (by omega) (by omega)), trivial⟩ ⟨rfl, rfl, rfl, rfl, blk_many (eP_set hk8), trivial⟩ rfl, by show 8 - (k + 1) < 8 - k; omega⟩
    · exact absurd (Int.ofNat_le.2 (eP_ge k hk8)) (of_decide_eq_false hc2)
  · obtain rfl : k = 8 := by have := of_decide_eq_false hc1; omega
    refine vc_exit ?_
    refine vc_seq ?_
    refine vc_seq ?_
    refine vc_straight tyOK false [0] rfl 368 376 rfl rfl ?_
    refine And.intro trivial ?_
    refine vc_block ?_
    refine vc_loop (fun r : Nat => r ≤ 2) (liftH x odd) (fun r => 2 - r) 0 (by omega) (ent_mk rfl ⟨rfl, rfl, rfl, rfl, rfl, rfl, rfl, trivial⟩ ⟨rfl, rfl, rfl, rfl, rfl, trivial⟩ rfl) ?_
    intro r hr
    refine vc_seq ?_
    refine vc_seq ?_
    refine vc_straight tyOK false [0, 1] rfl 376 392 rfl rfl ?_
    iterate 2 refine And.intro (by first | exact trivial | exact rfl) ?_
    refine vc_if rfl (fun hc3 => ?_) (fun hc3 => ?_)
    · have hr2 : r < 2 := by have := of_decide_eq_true hc3; omega
      refine vc_skip ?_
      refine vc_seq ?_
      refine vc_block ?_
      refine vc_seq ?_
      refine vc_straight tyOK false [0] rfl 392 400 rfl rfl ?_
      refine And.intro trivial ?_
      refine vc_block ?_
      refine vc_loop (fun k : Nat => k ≤ 8) (liftC x odd r) (fun k => 8 - k) 0 (by omega) (ent_mk rfl ⟨rfl, rfl, rfl, rfl, rfl, rfl, rfl, rfl, trivial⟩ ⟨rfl, rfl, rfl, rfl, blk_many (halfU_0 _), trivial⟩ rfl) ?_
      intro k hk
      refine vc_seq ?_
      refine vc_seq ?_
      refine vc_straight tyOK false [0, 1] rfl 400 416 rfl rfl ?_
      iterate 2 refine And.intro (by first | exact trivial | exact rfl) ?_
      refine vc_if rfl (fun hc4 => ?_) (fun hc4 => ?_)
      · have hk8 : k < 8 := by have := of_decide_eq_true hc4; omega
        refine vc_skip ?_
        refine vc_seq ?_
        refine vc_block ?_
        refine vc_seq ?_
        refine vc_straight tyOK false [0, 1, 2, 3, 4, 5, 6] rfl 416 472 rfl rfl ?_
        iterate 3 refine And.intro (by first | exact trivial | omega) ?_
        refine reg_name rfl rfl rfl rfl ?_ (fun v hv => ?_)
        · exact (by omega)
        replace hv := hv.symm.trans (halfU_get hk8 (Nat.le_refl _))
        subst hv
        refine reg_name rfl rfl rfl rfl ?_ (fun v hv => ?_)
        · exact (by decide)
        replace hv := hv.symm.trans (u32i (dig B32 (eH r) k / 2) (tdivn _ 2) (Nat.lt_of_le_of_lt (Nat.div_le_self _ _) (dig_lt B32_pos _ _)))
        subst hv
        iterate 2 refine And.intro (by first | omega | exact ⟨by omega, rfl, rfl⟩) ?_
        refine vc_seq ?_
        refine vc_straight tyOK false [0, 1, 2, 3, 4, 5, 6, 7, 8, 9] rfl 472 552 rfl rfl ?_
        iterate 2 refine And.intro (by first | exact trivial | exact rfl) ?_
        refine reg_bool rfl rfl rfl rfl (by exact trivial) (fun b hb2 => ?_)
        cases b with
        | false =>
          have hk7 : ¬ k < 7 := by have := of_decide_eq_false hb2; omega
          refine And.intro trivial ?_
          refine vc_if rfl (fun hc5 => ?_) (fun hc5 => ?_)
          · cases hc5
          · skip
            refine vc_skip ?_
            refine vc_straight tyOK false [0, 1, 2] rfl 608 632 rfl rfl ?_
            iterate 3 refine And.intro (by first | exact trivial | exact rfl) ?_
            refine ⟨k + 1, by omega, ent_mk rfl ⟨rfl, rfl, rfl, rfl, rfl, rfl, rfl, slot_int (wrap_i64 (by omega) (by omega)), trivial⟩ ⟨rfl, rfl, rfl, rfl, blk_many (by first | exact halfU_set (half_top (eH_lt r) hk7 hk8) | exact halfU_set (half_0 hc6) | exact set_twice (halfU_set (half_1 hc6))), trivial⟩ rfl, by show 8 - (k + 1) < 8 - k; omega⟩
        | true =>
          have hk7 : k < 7 := by have := of_decide_eq_true hb2; omega
          refine And.intro trivial ?_
          refine reg_name rfl rfl rfl rfl ?_ (fun v hv => ?_)
          · exact (by exact rfl)
          replace hv := hv.symm.trans (i64n (k + 1) (by omega) (by omega))
          subst hv
          refine And.intro (by omega) ?_
          refine reg_name rfl rfl rfl rfl ?_ (fun v hv => ?_)
          · exact (by omega)
          replace hv := hv.symm.trans ((set_getD_ne (show k ≠ k + 1 by omega)).trans (halfU_get (i := k + 1) (by omega) (by omega)))
          subst hv
          refine reg_name rfl rfl rfl rfl ?_ (fun v hv => ?_)
          · exact (by decide)
          replace hv := hv.symm.trans (intn _ (tmodn _ 2))
          subst hv
          iterate 2 refine And.intro (by first | exact trivial | exact rfl) ?_
          refine vc_if rfl (fun hc6 => ?_) (fun hc6 => ?_)
          · skip
            refine vc_straight tyOK false [0, 1, 2, 3, 4, 5, 6] rfl 552 608 rfl rfl ?_
            iterate 3 refine And.intro (by first | exact trivial | omega) ?_
            refine reg_name rfl rfl rfl rfl ?_ (fun v hv => ?_)
            · exact (by omega)
            replace hv := hv.symm.trans (set_getD (by rw [cells_len]; omega))
            subst hv
            refine reg_name rfl rfl rfl rfl ?_ (fun v hv => ?_)
            · exact (by exact rfl)
            replace hv := hv.symm.trans (u32i (dig B32 (eH r) k / 2 + 2147483648) (addN _ _) (by have : dig B32 (eH r) k < 4294967296 := dig_lt B32_pos _ _; show _ + 2147483648 < 4294967296; omega))
            subst hv
            iterate 2 refine And.intro (by first | omega | exact ⟨by omega, rfl, rfl⟩) ?_
            refine vc_straight tyOK false [0, 1, 2] rfl 608 632 rfl rfl ?_
            iterate 3 refine And.intro (by first | exact trivial | exact rfl) ?_
            refine ⟨k + 1, by omega, ent_mk rfl ⟨rfl, rfl, rfl, rfl, rfl, rfl, rfl, slot_int (wrap_i64 (by omega) (by omega)), trivial⟩ ⟨rfl, rfl, rfl, rfl, blk_many (by first | exact halfU_set (half_top (eH_lt r) hk7 hk8) | exact halfU_set (half_0 hc6) | exact set_twice (halfU_set (half_1 hc6))), trivial⟩ rfl, by show 8 - (k + 1) < 8 - k; omega⟩
          · skip
            refine vc_skip ?_
            refine vc_straight tyOK false [0, 1, 2] rfl 608 632 rfl rfl ?_
            iterate 3 refine And.intro (by first | exact trivial | exact rfl) ?_
            refine ⟨k + 1, by omega, ent_mk rfl ⟨rfl, rfl, rfl, rfl, rfl, rfl, rfl, slot_int (wrap_i64 (by omega) (by omega)), trivial⟩ ⟨rfl, rfl, rfl, rfl, blk_many (by first | exact halfU_set (half_top (eH_lt r) hk7 hk8) | exact halfU_set (half_0 hc6) | exact set_twice (halfU_set (half_1 hc6))), trivial⟩ rfl, by show 8 - (k + 1) < 8 - k; omega⟩
      · obtain rfl : k = 8 := by have := of_decide_eq_false hc4; omega
        refine vc_exit ?_
        refine vc_straight tyOK false [0, 1, 2] rfl 632 656 rfl rfl ?_
        iterate 3 refine And.intro (by first | exact trivial | exact rfl) ?_
        refine ⟨r + 1, by omega, ent_mk rfl ⟨rfl, rfl, rfl, rfl, rfl, rfl, slot_int (wrap_i64 (by omega) (by omega)), trivial⟩ ⟨rfl, rfl, rfl, rfl, blk_many ((halfU_8 _).trans (by rw [eH_step])), trivial⟩ rfl, by show 2 - (r + 1) < 2 - r; omega⟩
    · obtain rfl : r = 2 := by have := of_decide_eq_false hc3; omega
      refine vc_exit ?_
      refine vc_seq ?_
      refine vc_straight tyOK false [0, 1, 2, 3, 4, 5] rfl 656 704 rfl rfl ?_
      iterate 3 refine And.intro trivial ?_
      show CallVC _ _ _ [.g [.many 8 (V (lsq x))], .g [.many 8 (V Pq)], .g [.many 8 (V Pp)]] _ _ _
      refine r_pow_vc (lsq x) Pq Pp mo_P (mod_ltR mo_P _) ?_
      iterate 2 refine And.intro (by first | exact trivial | exact ⟨trivial, rfl⟩) ?_
      refine vc_seq ?_
      refine vc_seq ?_
      refine vc_drawn tyOK mixed false [0, 1, 2, 4, 3, 5] (by kernel_rfl) 704 752 rfl rfl ?_
      iterate 4 refine And.intro trivial ?_
      refine r_mul_vc _ _ Pp mo_P (by first | assumption | exact mod_ltR mo_P _ | exact pw_ltR mo_P _ _ | exact Nat.lt_trans (by assumption) mo_P.lt | decide) (by first | assumption | exact mod_ltR mo_P _ | exact pw_ltR mo_P _ _ | exact Nat.lt_trans (by assumption) mo_P.lt | decide) ?_
      refine And.intro (by (refine Cv.eq_side ?_ ?_ <;> first | exact Cv.isC_cells _ _ _ | exact Cv.isC_rep _ _ _)) ?_
      refine vc_if rfl (fun hc7 => ?_) (fun hc7 => ?_)
      · have h0 : ¬ fm (lroot x) (lroot x) = lsq x := V_ne (mod_ltR mo_P _) (mod_ltR mo_P _) hc7
        refine vc_seq ?_
        refine vc_straight tyOK false [0, 1, 2] rfl 752 776 rfl rfl ?_
        iterate 3 refine And.intro (by first | exact trivial | exact ⟨trivial, rfl⟩) ?_
        refine vc_ret ?_
        refine And.intro (by first | exact trivial | exact ⟨trivial, trivial⟩ | exact ⟨trivial, trivial, trivial⟩) ?_
        first
        | (rw [show jlift x (oddN odd) = ((0, 0, 0), false) from if_neg h0]; rfl)
        | (rw [show jlift x (oddN odd) = ((x, (Pp - lroot x) % Pp, 1), true) from (if_pos h0).trans (by rw [if_neg h1])]; exact rlift_neg x _ rfl)
        | (rw [show jlift x (oddN odd) = ((x, lroot x, 1), true) from (if_pos h0).trans (by rw [if_pos h1])]; exact rlift_pos x _ rfl)
      · have h0 : fm (lroot x) (lroot x) = lsq x := V_nne (mod_ltR mo_P _) (mod_ltR mo_P _) hc7
        refine vc_skip ?_
        refine vc_seq ?_
        refine vc_seq ?_
        refine vc_straight tyOK false [0, 1, 2, 3, 4, 5] rfl 776 824 rfl rfl ?_
        refine And.intro (by decide) ?_
        refine reg_name rfl rfl rfl rfl ?_ (fun v hv => ?_)
        · exact (by exact trivial)
        replace hv := hv.symm.trans (cells_at0 (by decide))
        subst hv
        refine reg_name rfl rfl rfl rfl ?_ (fun v hv => ?_)
        · exact (by decide)
        replace hv := hv.symm.trans (intn (dig B32 (lroot x) 0 % 2) (tmodn _ 2))
        subst hv
        iterate 3 refine And.intro (by first | exact trivial | exact rfl) ?_
        refine vc_if rfl (fun hc8 => ?_) (fun hc8 => ?_)
        · have h1 : ¬ lroot x % 2 = oddN odd := dig_0' (lroot x) ▸ odd_no hc8
          refine vc_straight tyOK false [0, 1, 2, 3, 4] rfl 824 864 rfl rfl ?_
          iterate 3 refine And.intro trivial ?_
          show CallVC _ _ _ [.g [.many 8 (V 0)], .g [.many 8 (V _)], .g [.many 8 (V Pp)]] _ _ _
          refine r_sub_vc 0 _ Pp mo_P (by decide) (by first | assumption | exact mod_lt mo_P _ | exact pw_lt mo_P _ _) ?_
          refine And.intro (by exact ⟨trivial, rfl⟩) ?_
          refine vc_seq ?_
          refine vc_straight tyOK false [0, 1, 2, 3, 4, 5] rfl 864 912 rfl rfl ?_
          iterate 6 refine And.intro (by first | exact trivial | exact ⟨trivial, rfl⟩ | decide | ((repeat' first | exact trivial | exact rfl | exact Nat.le_of_ble_eq_true rfl | decide | omega | refine And.intro ?_ ?_); done)) ?_
          refine vc_ret ?_
          refine And.intro (by first | exact trivial | exact ⟨trivial, trivial⟩ | exact ⟨trivial, trivial, trivial⟩) ?_
          first
          | (rw [show jlift x (oddN odd) = ((0, 0, 0), false) from if_neg h0]; rfl)
          | (rw [show jlift x (oddN odd) = ((x, (Pp - lroot x) % Pp, 1), true) from (if_pos h0).trans (by rw [if_neg h1])]; exact rlift_neg x _ rfl)
          | (rw [show jlift x (oddN odd) = ((x, lroot x, 1), true) from (if_pos h0).trans (by rw [if_pos h1])]; exact rlift_pos x _ rfl)
        · have h1 : lroot x % 2 = oddN odd := dig_0' (lroot x) ▸ odd_yes hc8
          refine vc_skip ?_
          refine vc_seq ?_
          refine vc_straight tyOK false [0, 1, 2, 3, 4, 5] rfl 864 912 rfl rfl ?_
          iterate 6 refine And.intro (by first | exact trivial | exact ⟨trivial, rfl⟩ | decide | ((repeat' first | exact trivial | exact rfl | exact Nat.le_of_ble_eq_true rfl | decide | omega | refine And.intro ?_ ?_); done)) ?_
          refine vc_ret ?_
          refine And.intro (by first | exact trivial | exact ⟨trivial, trivial⟩ | exact ⟨trivial, trivial, trivial⟩) ?_
          first
          | (rw [show jlift x (oddN odd) = ((0, 0, 0), false) from if_neg h0]; rfl)
          | (rw [show jlift x (oddN odd) = ((x, (Pp - lroot x) % Pp, 1), true) from (if_pos h0).trans (by rw [if_neg h1])]; exact rlift_neg x _ rfl)
          | (rw [show jlift x (oddN odd) = ((x, lroot x, 1), true) from (if_pos h0).trans (by rw [if_pos h1])]; exact rlift_pos x _ rfl)
theorem r_lift_vc (x : Nat) (odd : Bool)  (hx : x < Pp) {eff : Bool} {σ : SSt} {nm : Nat} {K : SSt → SS → Prop}  (hk : K σ (.tup [(.g (Pr ((jlift x (oddN odd)).1))), (.v (.bool (jlift x (oddN odd)).2))])) : CallVC Go.Proofs.Try.prog eff (.fn 39) [(.g [.many 8 (V (x))]), (.v (.bool odd))] σ nm K := by
  exact call_plain (res := [(.g (Pr ((jlift x (oddN odd)).1))), (.v (.bool (jlift x (oddN odd)).2))]) tyOK Go.Proofs.Try.func39 (c := (Go.Proofs.Try.f39).body.getD .skip) rfl (by kernel_rfl) (rs := [.cell 4 39, .tmp 5]) rfl (Nat.le_of_ble_eq_true rfl) (by repeat first | exact plain_nil | exact okC_nil | refine plain_v ?_ | refine plain_g ?_ ?_ | refine okMany ?_ ?_ | refine okOne ?_ ?_ | exact rfl | exact W_cv _ | exact V_cv _ | exact Dd_cv _ | exact cells_cv _ _ _ | exact okPt _) (by repeat first | exact plain_nil | exact okC_nil | refine plain_v ?_ | refine plain_g ?_ ?_ | refine okMany ?_ ?_ | refine okOne ?_ ?_ | exact rfl | exact W_cv _ | exact V_cv _ | exact Dd_cv _ | exact cells_cv _ _ _ | exact okPt _) (fun w => r_lift_walk x odd hx w) hk
end Go.Proofs.Ythjpppgibdfaeaa
