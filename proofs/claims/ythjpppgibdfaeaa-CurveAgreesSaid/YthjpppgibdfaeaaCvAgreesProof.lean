/- CurveAgrees: the public key of a sum is the sum of the public keys, for every two keys. -/
import Derived.Test.YthjpppgibdfaeaaCvPub
import Derived.Test.YthjpppgibdfaeaaSxRow
import Derived.Test.YthjpppgibdfaeaaRows
namespace Go.Proofs.Ythjpppgibdfaeaa.CvAgreesProof
open Go Go.SX Cv Go.RowKit Go.ChangeShapes Go.WideShapes Go.ChangeAt Go.Proofs.Ythjpppgibdfaeaa
theorem own : ownKnob Go.Proofs.Try.prog.godebug = none := by kernel_rfl
theorem laidOut : laidOutB Go.Proofs.Try.prog = true := by kernel_rfl
set_option maxRecDepth 100000 in
theorem lifted (os : Os) (started : os.Started) (H : Type) (enc : TypeId × Value → H) :
    ReturnsInHanded {} Go.Proofs.Try.checked os 6 .any (Rows.curveAgreesSpec.pre6 enc Go.Proofs.Try.prog Go.Proofs.Try.f6 Rows.curveAgreesRow.domain false) (Rows.curveAgreesSpec.post enc Go.Proofs.Try.prog Go.Proofs.Try.f6 false true false false) := by
  refine returnsInHanded_of_change (C := Go.Proofs.Try.checked) own started (by kernel_rfl) Go.Proofs.Try.func6
    (ChangeSpec.witness6 (enc := enc) (C := Go.Proofs.Try.checked) false ⟨#[], #[.agg (Array.replicate 32 (.int .u8 0)), .agg (Array.replicate 32 (.int .u8 0))], []⟩ 8 (by kernel_rfl) (by kernel_rfl) (by kernel_rfl) (by kernel_rfl)) ?_
  intro W base args ds gs before hval0 hW hcnd _
  have hval : ∀ (j : Nat) t v, Go.Proofs.Try.f6.params[j]? = some t → args[j]? = some v → Value.okWide Go.Proofs.Try.prog W .any base t v := hval0
  have hW' := hW
  obtain ⟨p, q, hA0, hV, rfl, hfz, hnd⟩ := hW
  have hA : DataW.TrodAll enc Go.Proofs.Try.prog W 0 (fun _ => true) true Go.Proofs.Try.f6.params.toList args.toList ds p := hA0
  rw [Go.Proofs.Try.params6] at hA hval
  obtain ⟨v0, vs0, d0, ds0, p0, q0, hargs, rfl, rfl, h0, r0⟩ := trodAll_cons hA
  obtain ⟨v1, vs1, d1, ds1, p1, q1, rfl, rfl, rfl, h1, r1⟩ := trodAll_cons r0
  obtain ⟨rfl, rfl, rfl⟩ := trodAll_nil r1
  obtain rfl : args = #[v0, v1] := by cases args; simp_all
  obtain ⟨rfl, rfl⟩ := trodVars_none hV
  have lt0 : ∀ x ∈ p0, x.block < W.heap.size := by obtain ⟨m, hm⟩ := h0; exact DataW.trod_lt m _ _ _ hm
  have lt1 : ∀ x ∈ p1, x.block < W.heap.size := by obtain ⟨m, hm⟩ := h1; exact DataW.trod_lt m _ _ _ hm
  have key : Calls Go.Proofs.Try.prog 6 #[v0, v1] W (fun e w' => e = .returned (.bool true) ∧ Below W.heap.size W w') := by
    obtain ⟨f0, hf0, rfl⟩ := open_u8s (n := 32) Go.Proofs.Try.underlying22 Go.Proofs.Try.underlying5 (by kernel_rfl) (by kernel_rfl) (hval 0 22 v0 rfl rfl) h0
    obtain ⟨f1, hf1, rfl⟩ := open_u8s (n := 32) Go.Proofs.Try.underlying22 Go.Proofs.Try.underlying5 (by kernel_rfl) (by kernel_rfl) (hval 1 22 v1 rfl rfl) h1
    exact law_rows tyOK Go.Proofs.Try.func6 (c := (Go.Proofs.Try.f6).body.getD .skip) rfl (rs := [.tmp 4]) rfl (args := [.g [.many 32 (cells .u8 32 f0)], .g [.many 32 (cells .u8 32 f1)]]) [] (by first | rfl | (simp [SV.den, flat, CV.den, rowRho, cells]; done)) (Nat.le_of_ble_eq_true rfl) ⟨okMany (cells_cv _ _ _) okC_nil, okMany (cells_cv _ _ _) okC_nil, trivial⟩ trivial (agrees_walk f0 f1 hf0 hf1 W)
  refine key.mono fun e W' ⟨he, bel⟩ => ?_
  subst he
  exact ⟨_, rfl, _, _, _, [], _, [], hW', trodAll_mk1 (shut_bool Go.Proofs.Try.underlying4 _), (trodAll_cons_mk (Below.trod laidOut (by kernel_rfl) (of_decide_eq_true (by kernel_rfl)) h0 bel lt0) (trodAll_cons_mk (Below.trod laidOut (by kernel_rfl) (of_decide_eq_true (by kernel_rfl)) h1 bel lt1) trodAll_mk0)), rfl, bel.frame _, fun h => by cases h⟩
theorem over : Rows.curveAgreesRow.holds Try.pinned (OpenSpec.ofChange Rows.curveAgreesSpec) :=
  OpenClaim.holds_of_wide 6 Go.Proofs.Try.f6 rfl rfl rfl rfl rfl rfl rfl ⟨rfl, rfl, rfl, rfl, rfl⟩ rfl rfl rfl rfl rfl (by kernel_rfl) Go.Proofs.Try.func6 (by kernel_rfl)
    (of_decide_eq_true (by kernel_rfl)) (by unfold Func.isWrapper; first | (rw [if_pos (by decide +kernel)]; kernel_rfl) | (rw [if_neg (by decide +kernel)]; exact ⟨rfl, rfl⟩))
    (fun os started H enc _ => lifted os started H enc)
theorem proved : Rows.CurveAgreesSaid := over
#print axioms proved
end Go.Proofs.Ythjpppgibdfaeaa.CvAgreesProof
