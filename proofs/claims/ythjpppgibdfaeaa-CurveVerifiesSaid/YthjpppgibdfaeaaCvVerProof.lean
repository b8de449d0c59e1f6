/- CurveVerifies: any bytes are taken as a signature just where the document does, for every public key, message and signature. -/
import Derived.Test.YthjpppgibdfaeaaRows
import Derived.Test.YthjpppgibdfaeaaCvVer
import Derived.Test.YthjpppgibdfaeaaSxRow
namespace Go.Proofs.Ythjpppgibdfaeaa.CvVerProof
open Go Go.SX Cv Go.RowKit Go.ChangeShapes Go.WideShapes Go.ChangeAt Go.Proofs.Ythjpppgibdfaeaa
theorem own : ownKnob Go.Proofs.Try.prog.godebug = none := by kernel_rfl
theorem laidOut : laidOutB Go.Proofs.Try.prog = true := by kernel_rfl
set_option maxRecDepth 100000 in
theorem lifted (os : Os) (started : os.Started) (H : Type) (enc : TypeId × Value → H) :
    ReturnsInHanded {} Go.Proofs.Try.checked os 4 .any (Rows.curveVerifiesSpec.pre6 enc Go.Proofs.Try.prog Go.Proofs.Try.f4 Rows.curveVerifiesRow.domain false) (Rows.curveVerifiesSpec.post enc Go.Proofs.Try.prog Go.Proofs.Try.f4 false true false false) := by
  refine returnsInHanded_of_change (C := Go.Proofs.Try.checked) own started (by kernel_rfl) Go.Proofs.Try.func4
    (ChangeSpec.witness6 (enc := enc) (C := Go.Proofs.Try.checked) false ⟨#[], #[.slice none 0 0, .agg (Array.replicate 32 (.int .u8 0)), .slice none 0 0], []⟩ 8 (by kernel_rfl) (by kernel_rfl) (by kernel_rfl) (by kernel_rfl)) ?_
  intro W base args ds gs before hval0 hW hcnd _
  have hval : ∀ (j : Nat) t v, Go.Proofs.Try.f4.params[j]? = some t → args[j]? = some v → Value.okWide Go.Proofs.Try.prog W .any base t v := hval0
  have hW' := hW
  obtain ⟨p, q, hA0, hV, rfl, hfz, hnd⟩ := hW
  have hA : DataW.TrodAll enc Go.Proofs.Try.prog W 0 (fun _ => true) true Go.Proofs.Try.f4.params.toList args.toList ds p := hA0
  rw [Go.Proofs.Try.params4] at hA hval
  obtain ⟨v0, vs0, d0, ds0, p0, q0, hargs, rfl, rfl, h0, r0⟩ := trodAll_cons hA
  obtain ⟨v1, vs1, d1, ds1, p1, q1, rfl, rfl, rfl, h1, r1⟩ := trodAll_cons r0
  obtain ⟨v2, vs2, d2, ds2, p2, q2, rfl, rfl, rfl, h2, r2⟩ := trodAll_cons r1
  obtain ⟨rfl, rfl, rfl⟩ := trodAll_nil r2
  obtain rfl : args = #[v0, v1, v2] := by cases args; simp_all
  obtain ⟨rfl, rfl⟩ := trodVars_none hV
  have lt0 : ∀ x ∈ p0, x.block < W.heap.size := by obtain ⟨m, hm⟩ := h0; exact DataW.trod_lt m _ _ _ hm
  have lt1 : ∀ x ∈ p1, x.block < W.heap.size := by obtain ⟨m, hm⟩ := h1; exact DataW.trod_lt m _ _ _ hm
  have lt2 : ∀ x ∈ p2, x.block < W.heap.size := by obtain ⟨m, hm⟩ := h2; exact DataW.trod_lt m _ _ _ hm
  have key : Calls Go.Proofs.Try.prog 4 #[v0, v1, v2] W (fun e w' => e = .returned (.bool true) ∧ Below W.heap.size W w') := by
    rcases open_u8row Go.Proofs.Try.underlying23 Go.Proofs.Try.underlying5 (by kernel_rfl) (hval 0 23 v0 rfl rfl) h0 with ⟨a0, rfl⟩ | ⟨b0, off0, len0, cap0, f0, rfl, hl0, hm0, hf0, hb0⟩
    · obtain ⟨f1, hf1, rfl⟩ := open_u8s (n := 32) Go.Proofs.Try.underlying44 Go.Proofs.Try.underlying5 (by kernel_rfl) (by kernel_rfl) (hval 1 44 v1 rfl rfl) h1
      rcases open_u8row Go.Proofs.Try.underlying23 Go.Proofs.Try.underlying5 (by kernel_rfl) (hval 2 23 v2 rfl rfl) h2 with ⟨a2, rfl⟩ | ⟨b2, off2, len2, cap2, f2, rfl, hl2, hm2, hf2, hb2⟩
      · exact law_rows tyOK Go.Proofs.Try.func4 (c := (Go.Proofs.Try.f4).body.getD .skip) rfl (rs := [.tmp 6]) rfl (args := [.v (.slice a0 0 0), .g [.many 32 (cells .u8 32 f1)], .v (.slice a2 0 0)]) [] (by first | rfl | (simp [SV.den, flat, CV.den, rowRho, cells]; done)) (Nat.le_of_ble_eq_true rfl) ⟨trivial, okMany (cells_cv _ _ _) okC_nil, trivial, trivial⟩ trivial (verifies00_walk a0 f1 a2  hf1  W)
      · exact law_rows tyOK Go.Proofs.Try.func4 (c := (Go.Proofs.Try.f4).body.getD .skip) rfl (rs := [.tmp 6]) rfl (args := [.v (.slice a0 0 0), .g [.many 32 (cells .u8 32 f1)], .s 0 0 0 len2 cap2]) [(b2, off2, [.many cap2 (cells .u8 cap2 f2)])] (by first | rfl | (simp [SV.den, flat, CV.den, rowRho, cells]; done)) (Nat.le_of_ble_eq_true rfl) ⟨trivial, okMany (cells_cv _ _ _) okC_nil, (Nat.le_of_ble_eq_true rfl : (0 : Nat) < _), trivial⟩ ⟨⟨okMany (cells_cv _ _ _) okC_nil, hb2⟩, trivial⟩ (verifies01_walk a0 f1 len2 cap2 f2  hf1 hl2 hm2 hf2 W)
    · obtain ⟨f1, hf1, rfl⟩ := open_u8s (n := 32) Go.Proofs.Try.underlying44 Go.Proofs.Try.underlying5 (by kernel_rfl) (by kernel_rfl) (hval 1 44 v1 rfl rfl) h1
      rcases open_u8row Go.Proofs.Try.underlying23 Go.Proofs.Try.underlying5 (by kernel_rfl) (hval 2 23 v2 rfl rfl) h2 with ⟨a2, rfl⟩ | ⟨b2, off2, len2, cap2, f2, rfl, hl2, hm2, hf2, hb2⟩
      · exact law_rows tyOK Go.Proofs.Try.func4 (c := (Go.Proofs.Try.f4).body.getD .skip) rfl (rs := [.tmp 6]) rfl (args := [.s 0 0 0 len0 cap0, .g [.many 32 (cells .u8 32 f1)], .v (.slice a2 0 0)]) [(b0, off0, [.many cap0 (cells .u8 cap0 f0)])] (by first | rfl | (simp [SV.den, flat, CV.den, rowRho, cells]; done)) (Nat.le_of_ble_eq_true rfl) ⟨(Nat.le_of_ble_eq_true rfl : (0 : Nat) < _), okMany (cells_cv _ _ _) okC_nil, trivial, trivial⟩ ⟨⟨okMany (cells_cv _ _ _) okC_nil, hb0⟩, trivial⟩ (verifies10_walk len0 cap0 f0 f1 a2 hl0 hm0 hf0 hf1  W)
      · exact law_rows tyOK Go.Proofs.Try.func4 (c := (Go.Proofs.Try.f4).body.getD .skip) rfl (rs := [.tmp 6]) rfl (args := [.s 0 0 0 len0 cap0, .g [.many 32 (cells .u8 32 f1)], .s 1 0 0 len2 cap2]) [(b0, off0, [.many cap0 (cells .u8 cap0 f0)]), (b2, off2, [.many cap2 (cells .u8 cap2 f2)])] (by first | rfl | (simp [SV.den, flat, CV.den, rowRho, cells]; done)) (Nat.le_of_ble_eq_true rfl) ⟨(Nat.le_of_ble_eq_true rfl : (0 : Nat) < _), okMany (cells_cv _ _ _) okC_nil, (Nat.le_of_ble_eq_true rfl : (1 : Nat) < _), trivial⟩ ⟨⟨okMany (cells_cv _ _ _) okC_nil, hb0⟩, ⟨okMany (cells_cv _ _ _) okC_nil, hb2⟩, trivial⟩ (verifies11_walk len0 cap0 f0 f1 len2 cap2 f2 hl0 hm0 hf0 hf1 hl2 hm2 hf2 W)
  refine key.mono fun e W' ⟨he, bel⟩ => ?_
  subst he
  exact ⟨_, rfl, _, _, _, [], _, [], hW', trodAll_mk1 (shut_bool Go.Proofs.Try.underlying4 _), (trodAll_cons_mk (Below.trod laidOut (by kernel_rfl) (of_decide_eq_true (by kernel_rfl)) h0 bel lt0) (trodAll_cons_mk (Below.trod laidOut (by kernel_rfl) (of_decide_eq_true (by kernel_rfl)) h1 bel lt1) (trodAll_cons_mk (Below.trod laidOut (by kernel_rfl) (of_decide_eq_true (by kernel_rfl)) h2 bel lt2) trodAll_mk0))), rfl, bel.frame _, fun h => by cases h⟩
theorem over : Rows.curveVerifiesRow.holds Try.pinned (OpenSpec.ofChange Rows.curveVerifiesSpec) :=
  OpenClaim.holds_of_wide 4 Go.Proofs.Try.f4 rfl rfl rfl rfl rfl rfl rfl ⟨rfl, rfl, rfl, rfl, rfl⟩ rfl rfl rfl rfl rfl (by kernel_rfl) Go.Proofs.Try.func4 (by kernel_rfl)
    (of_decide_eq_true (by kernel_rfl)) (by unfold Func.isWrapper; first | (rw [if_pos (by decide +kernel)]; kernel_rfl) | (rw [if_neg (by decide +kernel)]; exact ⟨rfl, rfl⟩))
    (fun os started H enc _ => lifted os started H enc)
theorem proved : Rows.CurveVerifiesSaid := over
#print axioms proved
end Go.Proofs.Ythjpppgibdfaeaa.CvVerProof
