import Derived.Test.YthjpppgibdfaeaaCvAwake
import Derived.Test.YthjpppgibdfaeaaCvEq
/- The law on sums of keys and of points, walked. -/
namespace Go.Proofs.Ythjpppgibdfaeaa
open Go Go.SX Cv Go.RowKit Go.Lib
set_option maxRecDepth 100000
theorem adds_walk (f g h : Nat → Nat) (hf : ∀ i, f i < 256) (hg : ∀ i, g i < 256) (hh : ∀ i, h i < 256) (w : World) : VC Go.Proofs.Try.prog (fun _ => False) w ((Go.Proofs.Try.f5).body.getD .skip) (mkSt (argSlots 0 [(.g [.many 32 (cells .u8 32 (f))]), (.g [.many 32 (cells .u8 32 (g))]), (.g [.many 33 (cells .u8 33 (h))])]) [] 0 55) (endS Γ [.tmp 6] (fun _ r => r = [(.v (.bool true))])) := by
  unfold Go.Proofs.Try.f5
  dsimp only [Option.getD]
  refine vc_seq ?_
  refine vc_straight tyOK false [0, 1, 2, 3] rfl 0 32 rfl rfl ?_
  iterate 3 refine And.intro (by first | exact trivial | exact rfl | exact ⟨trivial, rfl⟩ | exact ⟨rfl, rfl⟩ | decide | omega | exact ⟨by omega, by omega⟩ | (show (_ : Nat) < _; omega) | exact ⟨by omega, rfl, rfl⟩ | (show (_ : Nat) ≤ _; omega) | (refine Cv.eq_side ?_ ?_ <;> first | exact Cv.isC_cells _ _ _ | exact Cv.isC_rep _ _ _) | ((repeat' first | exact trivial | exact rfl | exact Nat.le_of_ble_eq_true rfl | decide | omega | refine And.intro ?_ ?_); done)) ?_
  refine And.intro trivial ?_
  refine vc_seq ?_
  refine vc_seq ?_
  refine vc_straight tyOK false [0, 1] rfl 32 48 rfl rfl ?_
  refine awake_vc ?_
  refine And.intro trivial ?_
  refine vc_if rfl (fun hc1 => ?_) (fun hc1 => ?_)
  · cases hc1
  · skip
    refine vc_skip ?_
    refine vc_seq ?_
    refine vc_straight tyOK false [0, 1, 2, 3, 4, 5, 6, 7, 8] rfl 56 128 rfl rfl ?_
    iterate 2 refine And.intro (by first | exact trivial | exact rfl | exact ⟨trivial, rfl⟩ | exact ⟨rfl, rfl⟩ | decide | omega | exact ⟨by omega, by omega⟩ | (show (_ : Nat) < _; omega) | exact ⟨by omega, rfl, rfl⟩ | (show (_ : Nat) ≤ _; omega) | (refine Cv.eq_side ?_ ?_ <;> first | exact Cv.isC_cells _ _ _ | exact Cv.isC_rep _ _ _) | ((repeat' first | exact trivial | exact rfl | exact Nat.le_of_ble_eq_true rfl | decide | omega | refine And.intro ?_ ?_); done)) ?_
    refine c_addKey_vc f g hf hg ?_
    iterate 4 refine And.intro trivial ?_
    refine And.intro (by first | exact trivial | exact rfl | exact ⟨trivial, rfl⟩ | exact ⟨rfl, rfl⟩ | decide | omega | exact ⟨by omega, by omega⟩ | (show (_ : Nat) < _; omega) | exact ⟨by omega, rfl, rfl⟩ | (show (_ : Nat) ≤ _; omega) | (refine Cv.eq_side ?_ ?_ <;> first | exact Cv.isC_cells _ _ _ | exact Cv.isC_rep _ _ _) | ((repeat' first | exact trivial | exact rfl | exact Nat.le_of_ble_eq_true rfl | decide | omega | refine And.intro ?_ ?_); done)) ?_
    refine And.intro trivial ?_
    refine vc_seq ?_
    refine vc_straight tyOK false [0, 1, 2, 3, 4, 5, 6, 7, 8] rfl 128 200 rfl rfl ?_
    iterate 2 refine And.intro (by first | exact trivial | exact rfl | exact ⟨trivial, rfl⟩ | exact ⟨rfl, rfl⟩ | decide | omega | exact ⟨by omega, by omega⟩ | (show (_ : Nat) < _; omega) | exact ⟨by omega, rfl, rfl⟩ | (show (_ : Nat) ≤ _; omega) | (refine Cv.eq_side ?_ ?_ <;> first | exact Cv.isC_cells _ _ _ | exact Cv.isC_rep _ _ _) | ((repeat' first | exact trivial | exact rfl | exact Nat.le_of_ble_eq_true rfl | decide | omega | refine And.intro ?_ ?_); done)) ?_
    refine r_addKey_vc f g hf hg ?_
    iterate 4 refine And.intro trivial ?_
    refine And.intro (by first | exact trivial | exact rfl | exact ⟨trivial, rfl⟩ | exact ⟨rfl, rfl⟩ | decide | omega | exact ⟨by omega, by omega⟩ | (show (_ : Nat) < _; omega) | exact ⟨by omega, rfl, rfl⟩ | (show (_ : Nat) ≤ _; omega) | (refine Cv.eq_side ?_ ?_ <;> first | exact Cv.isC_cells _ _ _ | exact Cv.isC_rep _ _ _) | ((repeat' first | exact trivial | exact rfl | exact Nat.le_of_ble_eq_true rfl | decide | omega | refine And.intro ?_ ?_); done)) ?_
    refine And.intro trivial ?_
    refine vc_seq ?_
    refine vc_seq ?_
    refine vc_straight tyOK false [0, 1, 2, 3, 4, 5, 6, 7] rfl 200 264 rfl rfl ?_
    iterate 3 refine And.intro (by first | exact trivial | exact rfl | exact ⟨trivial, rfl⟩ | exact ⟨rfl, rfl⟩ | decide | omega | exact ⟨by omega, by omega⟩ | (show (_ : Nat) < _; omega) | exact ⟨by omega, rfl, rfl⟩ | (show (_ : Nat) ≤ _; omega) | (refine Cv.eq_side ?_ ?_ <;> first | exact Cv.isC_cells _ _ _ | exact Cv.isC_rep _ _ _) | ((repeat' first | exact trivial | exact rfl | exact Nat.le_of_ble_eq_true rfl | decide | omega | refine And.intro ?_ ?_); done)) ?_
    refine reg_bool rfl rfl rfl rfl (by first | exact trivial | exact rfl | exact ⟨trivial, rfl⟩ | exact ⟨rfl, rfl⟩ | decide | omega | exact ⟨by omega, by omega⟩ | (show (_ : Nat) < _; omega) | exact ⟨by omega, rfl, rfl⟩ | (show (_ : Nat) ≤ _; omega) | (refine Cv.eq_side ?_ ?_ <;> first | exact Cv.isC_cells _ _ _ | exact Cv.isC_rep _ _ _) | ((repeat' first | exact trivial | exact rfl | exact Nat.le_of_ble_eq_true rfl | decide | omega | refine And.intro ?_ ?_); done)) (fun b hb3 => ?_)
    cases b with
    | false =>
      skip
      iterate 2 refine And.intro trivial ?_
      refine And.intro (by first | exact trivial | exact rfl | exact ⟨trivial, rfl⟩ | exact ⟨rfl, rfl⟩ | decide | omega | exact ⟨by omega, by omega⟩ | (show (_ : Nat) < _; omega) | exact ⟨by omega, rfl, rfl⟩ | (show (_ : Nat) ≤ _; omega) | (refine Cv.eq_side ?_ ?_ <;> first | exact Cv.isC_cells _ _ _ | exact Cv.isC_rep _ _ _) | ((repeat' first | exact trivial | exact rfl | exact Nat.le_of_ble_eq_true rfl | decide | omega | refine And.intro ?_ ?_); done)) ?_
      refine And.intro trivial ?_
      refine vc_if rfl (fun hc2 => ?_) (fun hc2 => ?_)
      · exact absurd hc2 (by simp)
      · skip
        refine vc_skip ?_
        refine vc_seq ?_
        refine vc_straight tyOK false [0, 1, 2, 3, 4, 5, 6, 7, 8] rfl 272 344 rfl rfl ?_
        iterate 2 refine And.intro (by first | exact trivial | exact rfl | exact ⟨trivial, rfl⟩ | exact ⟨rfl, rfl⟩ | decide | omega | exact ⟨by omega, by omega⟩ | (show (_ : Nat) < _; omega) | exact ⟨by omega, rfl, rfl⟩ | (show (_ : Nat) ≤ _; omega) | (refine Cv.eq_side ?_ ?_ <;> first | exact Cv.isC_cells _ _ _ | exact Cv.isC_rep _ _ _) | ((repeat' first | exact trivial | exact rfl | exact Nat.le_of_ble_eq_true rfl | decide | omega | refine And.intro ?_ ?_); done)) ?_
        refine c_addPub_vc h g hh hg ?_
        iterate 4 refine And.intro trivial ?_
        refine And.intro (by first | exact trivial | exact rfl | exact ⟨trivial, rfl⟩ | exact ⟨rfl, rfl⟩ | decide | omega | exact ⟨by omega, by omega⟩ | (show (_ : Nat) < _; omega) | exact ⟨by omega, rfl, rfl⟩ | (show (_ : Nat) ≤ _; omega) | (refine Cv.eq_side ?_ ?_ <;> first | exact Cv.isC_cells _ _ _ | exact Cv.isC_rep _ _ _) | ((repeat' first | exact trivial | exact rfl | exact Nat.le_of_ble_eq_true rfl | decide | omega | refine And.intro ?_ ?_); done)) ?_
        refine And.intro trivial ?_
        refine vc_seq ?_
        refine vc_straight tyOK false [0, 1, 2, 3, 4, 5, 6, 7, 8] rfl 344 416 rfl rfl ?_
        iterate 2 refine And.intro (by first | exact trivial | exact rfl | exact ⟨trivial, rfl⟩ | exact ⟨rfl, rfl⟩ | decide | omega | exact ⟨by omega, by omega⟩ | (show (_ : Nat) < _; omega) | exact ⟨by omega, rfl, rfl⟩ | (show (_ : Nat) ≤ _; omega) | (refine Cv.eq_side ?_ ?_ <;> first | exact Cv.isC_cells _ _ _ | exact Cv.isC_rep _ _ _) | ((repeat' first | exact trivial | exact rfl | exact Nat.le_of_ble_eq_true rfl | decide | omega | refine And.intro ?_ ?_); done)) ?_
        refine r_addPub_vc h g hh hg ?_
        rw [addPub_eq h g]
        iterate 4 refine And.intro trivial ?_
        refine And.intro (by first | exact trivial | exact rfl | exact ⟨trivial, rfl⟩ | exact ⟨rfl, rfl⟩ | decide | omega | exact ⟨by omega, by omega⟩ | (show (_ : Nat) < _; omega) | exact ⟨by omega, rfl, rfl⟩ | (show (_ : Nat) ≤ _; omega) | (refine Cv.eq_side ?_ ?_ <;> first | exact Cv.isC_cells _ _ _ | exact Cv.isC_rep _ _ _) | ((repeat' first | exact trivial | exact rfl | exact Nat.le_of_ble_eq_true rfl | decide | omega | refine And.intro ?_ ?_); done)) ?_
        refine And.intro trivial ?_
        refine vc_seq ?_
        refine vc_straight tyOK false [0, 1, 2, 3, 4, 5, 6, 7, 8] rfl 416 488 rfl rfl ?_
        iterate 3 refine And.intro (by first | exact trivial | exact rfl | exact ⟨trivial, rfl⟩ | exact ⟨rfl, rfl⟩ | decide | omega | exact ⟨by omega, by omega⟩ | (show (_ : Nat) < _; omega) | exact ⟨by omega, rfl, rfl⟩ | (show (_ : Nat) ≤ _; omega) | (refine Cv.eq_side ?_ ?_ <;> first | exact Cv.isC_cells _ _ _ | exact Cv.isC_rep _ _ _) | ((repeat' first | exact trivial | exact rfl | exact Nat.le_of_ble_eq_true rfl | decide | omega | refine And.intro ?_ ?_); done)) ?_
        refine reg_bool rfl rfl rfl rfl (by first | exact trivial | exact rfl | exact ⟨trivial, rfl⟩ | exact ⟨rfl, rfl⟩ | decide | omega | exact ⟨by omega, by omega⟩ | (show (_ : Nat) < _; omega) | exact ⟨by omega, rfl, rfl⟩ | (show (_ : Nat) ≤ _; omega) | (refine Cv.eq_side ?_ ?_ <;> first | exact Cv.isC_cells _ _ _ | exact Cv.isC_rep _ _ _) | ((repeat' first | exact trivial | exact rfl | exact Nat.le_of_ble_eq_true rfl | decide | omega | refine And.intro ?_ ?_); done)) (fun b hb3 => ?_)
        cases b with
        | false =>
          exact absurd hb3 (by simp)
        | true =>
          skip
          iterate 2 refine And.intro trivial ?_
          refine And.intro (by first | exact trivial | exact rfl | exact ⟨trivial, rfl⟩ | exact ⟨rfl, rfl⟩ | decide | omega | exact ⟨by omega, by omega⟩ | (show (_ : Nat) < _; omega) | exact ⟨by omega, rfl, rfl⟩ | (show (_ : Nat) ≤ _; omega) | (refine Cv.eq_side ?_ ?_ <;> first | exact Cv.isC_cells _ _ _ | exact Cv.isC_rep _ _ _) | ((repeat' first | exact trivial | exact rfl | exact Nat.le_of_ble_eq_true rfl | decide | omega | refine And.intro ?_ ?_); done)) ?_
          iterate 2 refine And.intro trivial ?_
          refine vc_ret ?_
          refine And.intro (by first | exact trivial | exact ⟨trivial, trivial⟩ | exact ⟨trivial, trivial, trivial⟩) ?_
          show [SV.v (.bool _)] = [SV.v (.bool true)]
          simp
    | true =>
      exact absurd hb3 (by simp)
theorem adds_vc (f g h : Nat → Nat)  (hf : ∀ i, f i < 256) (hg : ∀ i, g i < 256) (hh : ∀ i, h i < 256) {eff : Bool} {σ : SSt} {nm : Nat} {K : SSt → SS → Prop}  (hk : K σ (.one ((.v (.bool true))))) : CallVC Go.Proofs.Try.prog eff (.fn 5) [(.g [.many 32 (cells .u8 32 (f))]), (.g [.many 32 (cells .u8 32 (g))]), (.g [.many 33 (cells .u8 33 (h))])] σ nm K := by
  exact call_plain (res := [(.v (.bool true))]) tyOK Go.Proofs.Try.func5 (c := (Go.Proofs.Try.f5).body.getD .skip) rfl (by kernel_rfl) (rs := [.tmp 6]) rfl (Nat.le_of_ble_eq_true rfl) (by repeat first | exact plain_nil | exact okC_nil | refine plain_v ?_ | refine plain_g ?_ ?_ | refine okMany ?_ ?_ | refine okOne ?_ ?_ | exact rfl | exact W_cv _ | exact V_cv _ | exact Dd_cv _ | exact cells_cv _ _ _ | exact okPt _) (by repeat first | exact plain_nil | exact okC_nil | refine plain_v ?_ | refine plain_g ?_ ?_ | refine okMany ?_ ?_ | refine okOne ?_ ?_ | exact rfl | exact W_cv _ | exact V_cv _ | exact Dd_cv _ | exact cells_cv _ _ _ | exact okPt _) (fun w => adds_walk f g h hf hg hh w) hk
end Go.Proofs.Ythjpppgibdfaeaa
