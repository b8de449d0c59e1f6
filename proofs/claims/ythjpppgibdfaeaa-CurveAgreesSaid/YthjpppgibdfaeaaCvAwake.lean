/- YthjpppgibdfaeaaCvAwake: a part of the proof: lemmas alone, of no statement. -/
import Derived.Test.YthjpppgibdfaeaaCvSpare
import Derived.Test.YthjpppgibdfaeaaCvTwo
/- The laws' fixed fact. -/
namespace Go.Proofs.Ythjpppgibdfaeaa
open Go Go.SX Cv Go.RowKit Go.Lib
set_option maxRecDepth 100000
theorem awake_walk   (w : World) : VC Go.Proofs.Try.prog (fun _ => False) w ((Go.Proofs.Try.f9).body.getD .skip) (mkSt (argSlots 0 []) [] 0 34) (endS Γ [.tmp 0] (fun _ r => r = [(.v (.bool true))])) := by
  unfold Go.Proofs.Try.f9
  dsimp only [Option.getD]
  refine vc_seq ?_
  refine vc_straight tyOK false [0] rfl 0 8 rfl rfl ?_
  refine And.intro trivial ?_
  refine vc_seq ?_
  refine vc_straight tyOK false [0, 1, 2, 3, 4, 5, 6, 7] rfl 8 72 rfl rfl ?_
  refine And.intro (by decide) ?_
  show CallVC _ _ _ [.g [.many 32 (cells .u8 32 oneF)]] _ _ _
  refine c_public_vc oneF oneF_lt ?_
  rw [pubOne]
  iterate 4 refine And.intro trivial ?_
  refine And.intro (by exact ⟨trivial, rfl⟩) ?_
  refine And.intro trivial ?_
  refine vc_seq ?_
  refine vc_straight tyOK false [0, 1, 2, 3, 4, 5, 6, 7, 8, 9, 10, 11, 12, 13, 14, 15, 16, 17, 18, 19, 20, 21, 22, 23, 24, 25, 26] rfl 72 288 rfl rfl ?_
  refine And.intro trivial ?_
  refine And.intro rfl ?_
  refine reg_bool rfl rfl rfl rfl (by exact trivial) (fun b hb2 => ?_)
  cases b with
  | false =>
    exact absurd hb2 (by decide)
  | true =>
    skip
    refine And.intro (by decide) ?_
    refine reg_name rfl rfl rfl rfl ?_ (fun v hv => ?_)
    · exact (by exact trivial)
    replace hv := hv.symm.trans (show _ = Value.int .u8 2 from (cells_at0 (by decide)).trans (by show Value.int .u8 ((gF 0 : Nat) : Int) = _; rw [gF0]; rfl))
    subst hv
    refine And.intro rfl ?_
    refine And.intro trivial ?_
    refine reg_bool rfl rfl rfl rfl (by exact trivial) (fun b hb7 => ?_)
    cases b with
    | false =>
      exact absurd hb7 (by decide)
    | true =>
      skip
      refine And.intro (by decide) ?_
      refine reg_name rfl rfl rfl rfl ?_ (fun v hv => ?_)
      · exact (by exact trivial)
      replace hv := hv.symm.trans (show _ = Value.int .u8 121 from (cells_at (i := 1) (by decide)).trans (by show Value.int .u8 ((gF 1 : Nat) : Int) = _; rw [gF1]; rfl))
      subst hv
      refine And.intro rfl ?_
      refine And.intro trivial ?_
      refine reg_bool rfl rfl rfl rfl (by exact trivial) (fun b hb12 => ?_)
      cases b with
      | false =>
        exact absurd hb12 (by decide)
      | true =>
        skip
        refine And.intro (by decide) ?_
        refine reg_name rfl rfl rfl rfl ?_ (fun v hv => ?_)
        · exact (by exact trivial)
        replace hv := hv.symm.trans (show _ = Value.int .u8 152 from (cells_atl (i := 32) (by decide)).trans (by show Value.int .u8 ((gF 32 : Nat) : Int) = _; rw [gF32]; rfl))
        subst hv
        refine And.intro rfl ?_
        refine And.intro trivial ?_
        refine reg_bool rfl rfl rfl rfl (by exact trivial) (fun b hb17 => ?_)
        cases b with
        | false =>
          exact absurd hb17 (by decide)
        | true =>
          skip
          refine And.intro (by decide) ?_
          show CallVC _ _ _ [.g [.many 32 (cells .u8 32 oneF)]] _ _ _
          refine c_valid_vc oneF oneF_lt ?_
          rw [key1]
          refine And.intro trivial ?_
          refine reg_bool rfl rfl rfl rfl (by exact trivial) (fun b hb21 => ?_)
          cases b with
          | false =>
            exact absurd hb21 (by decide)
          | true =>
            skip
            refine And.intro trivial ?_
            show CallVC _ _ _ [.g [.many 32 (cells .u8 32 zf)]] _ _ _
            refine c_valid_vc zf zf_lt ?_
            rw [key0]
            iterate 3 refine And.intro trivial ?_
            refine vc_ret ?_
            refine And.intro (by first | exact trivial | exact ⟨trivial, trivial⟩ | exact ⟨trivial, trivial, trivial⟩) ?_
            rfl
theorem awake_vc    {eff : Bool} {σ : SSt} {nm : Nat} {K : SSt → SS → Prop}  (hk : K σ (.one ((.v (.bool true))))) : CallVC Go.Proofs.Try.prog eff (.fn 9) [] σ nm K := by
  exact call_plain (res := [(.v (.bool true))]) tyOK Go.Proofs.Try.func9 (c := (Go.Proofs.Try.f9).body.getD .skip) rfl (by kernel_rfl) (rs := [.tmp 0]) rfl (Nat.le_of_ble_eq_true rfl) (by repeat first | exact plain_nil | exact okC_nil | refine plain_v ?_ | refine plain_g ?_ ?_ | refine okMany ?_ ?_ | refine okOne ?_ ?_ | exact rfl | exact W_cv _ | exact V_cv _ | exact Dd_cv _ | exact cells_cv _ _ _ | exact okPt _) (by repeat first | exact plain_nil | exact okC_nil | refine plain_v ?_ | refine plain_g ?_ ?_ | refine okMany ?_ ?_ | refine okOne ?_ ?_ | exact rfl | exact W_cv _ | exact V_cv _ | exact Dd_cv _ | exact cells_cv _ _ _ | exact okPt _) (fun w => awake_walk  w) hk
end Go.Proofs.Ythjpppgibdfaeaa
