import Derived.Test.YthjpppgibdfaeaaCvCurve
/- The program's points and the reference's stand for points of the curve. Plain. -/
namespace Cv
open Go Go.SX
set_option maxRecDepth 10000
/-- the program's: x/z^2, y/z^3 -/
def JR (a : J) : Aff → Prop
  | .inf => a.2.2 = 0
  | .pt x y => a.2.2 ≠ 0 ∧ cF a.1 = cF a.2.2 * cF a.2.2 * x ∧ cF a.2.1 = cF a.2.2 * cF a.2.2 * cF a.2.2 * y
/-- the reference's: x/z, y/z -/
def PR (a : J) : Aff → Prop
  | .inf => cF a.1 = 0 ∧ cF a.2.1 ≠ 0 ∧ a.2.2 = 0
  | .pt x y => a.2.2 ≠ 0 ∧ cF a.1 = cF a.2.2 * x ∧ cF a.2.1 = cF a.2.2 * y
theorem jr_dbl {a : J} {P : Aff} (ha : OkJ a) (hP : On P) (h : JR a P) : JR (jdbl a) (aadd P P) := by
  obtain ⟨X, Y, Z⟩ := a
  obtain ⟨hX, hY, hZ⟩ := ha
  simp only at hX hY hZ
  cases P with
  | inf =>
    simp only [JR] at h
    rw [jdbl, if_pos h]; exact h
  | pt x y =>
    obtain ⟨h0, h1, h2⟩ := h
    simp only at h0 h1 h2
    have hy := on_y hP
    have hz := cF_ne hZ h0
    have hl := slope_dbl (x := x) hy
    rw [jdbl, if_neg h0, aadd, if_neg (by rintro ⟨_, h | h⟩; exact h rfl; exact hy h)]
    simp only [JR, chord]
    generalize slope x y x y = l at *
    have ez : cF (fa (fm Y Z) (fm Y Z)) = cF Z * cF Z * cF Z * cF Z * (2 * y) := by
      rw [cF_fa, cF_fm, h2]; grind
    have ne : fa (fm Y Z) (fm Y Z) ≠ 0 := by
      intro e
      have : cF (fa (fm Y Z) (fm Y Z)) = 0 := by rw [e]; rfl
      rw [ez] at this
      exact mul_ne (mul_ne (mul_ne (mul_ne hz hz) hz) hz) (mul_ne two_ne hy) this
    refine ⟨ne, ?_, ?_⟩
    · rw [ez]
      simp only [cF_fs (fa_lt _ _), cF_fm, cF_fa, h1, h2]
      generalize cF Z = z at *
      grind
    · rw [ez]
      simp only [cF_fs (fa_lt _ _), cF_fs (fs_lt _ _), cF_fm, cF_fa, h1, h2]
      generalize cF Z = z at *
      grind
theorem jr_add {a b : J} {P Q : Aff} (ha : OkJ a) (hb : OkJ b) (hP : On P) (hQ : On Q) (h : JR a P) (k : JR b Q) : JR (jadd a b) (aadd P Q) := by
  cases P with
  | inf =>
    simp only [JR] at h
    rw [jadd, if_pos h, aadd]; exact k
  | pt x1 y1 =>
    cases Q with
    | inf =>
      have h0 := h.1
      simp only [JR] at k
      rw [jadd, if_neg h0, if_pos k]; exact h
    | pt x2 y2 =>
      have hd := jr_dbl ha hP h
      obtain ⟨X, Y, Z⟩ := a
      obtain ⟨X', Y', Z'⟩ := b
      obtain ⟨hX, hY, hZ⟩ := ha
      obtain ⟨hX', hY', hZ'⟩ := hb
      obtain ⟨h0, h1, h2⟩ := h
      obtain ⟨k0, k1, k2⟩ := k
      simp only at hX hY hZ hX' hY' hZ' h0 h1 h2 k0 k1 k2
      have hz := cF_ne hZ h0
      have kz := cF_ne hZ' k0
      have eh : cF (fs (fm X' (fm Z Z)) (fm X (fm Z' Z'))) = cF Z * cF Z * (cF Z' * cF Z') * (x2 - x1) := by
        rw [cF_fs (fm_lt _ _)]; simp only [cF_fm, h1, k1]; grind
      have er : cF (fs (fm Y' (fm Z (fm Z Z))) (fm Y (fm Z' (fm Z' Z')))) = cF Z * cF Z * cF Z * (cF Z' * cF Z' * cF Z') * (y2 - y1) := by
        rw [cF_fs (fm_lt _ _)]; simp only [cF_fm, h2, k2]; grind
      have zz := mul_ne (mul_ne hz hz) (mul_ne kz kz)
      have zzz := mul_ne (mul_ne (mul_ne hz hz) hz) (mul_ne (mul_ne kz kz) kz)
      have ih : fs (fm X' (fm Z Z)) (fm X (fm Z' Z')) = 0 ↔ x1 = x2 := by
        constructor
        · intro e
          have : cF (fs (fm X' (fm Z Z)) (fm X (fm Z' Z'))) = 0 := by rw [e]; rfl
          rw [eh] at this
          have := (mul_0 this).resolve_left zz
          grind
        · rintro rfl
          refine cF_eq0 (fs_lt _ _) ?_
          rw [eh]; grind
      have ir : fs (fm Y' (fm Z (fm Z Z))) (fm Y (fm Z' (fm Z' Z'))) = 0 ↔ y1 = y2 := by
        constructor
        · intro e
          have : cF (fs (fm Y' (fm Z (fm Z Z))) (fm Y (fm Z' (fm Z' Z')))) = 0 := by rw [e]; rfl
          rw [er] at this
          have := (mul_0 this).resolve_left zzz
          grind
        · rintro rfl
          refine cF_eq0 (fs_lt _ _) ?_
          rw [er]; grind
      by_cases hx : x1 = x2
      · by_cases hy : y1 = y2
        · subst hx; subst hy
          rw [show jadd (X, Y, Z) (X', Y', Z') = jdbl (X, Y, Z) from (if_neg h0).trans ((if_neg k0).trans ((if_pos (ih.2 rfl)).trans (if_pos (ir.2 rfl))))]
          exact hd
        · rw [show jadd (X, Y, Z) (X', Y', Z') = (0, 0, 0) from (if_neg h0).trans ((if_neg k0).trans ((if_pos (ih.2 hx)).trans (if_neg (fun e => hy (ir.1 e)))))]
          rw [aadd, if_pos ⟨hx, .inl hy⟩]; rfl
      · have hl := slope_ne (y1 := y1) (y2 := y2) hx
        rw [show jadd (X, Y, Z) (X', Y', Z') = _ from (if_neg h0).trans ((if_neg k0).trans (if_neg (fun e => hx (ih.1 e))))]
        rw [aadd, if_neg (fun hh => hx hh.1)]
        simp only [JR, chord]
        generalize slope x1 y1 x2 y2 = l at *
        have hd : x2 - x1 ≠ 0 := fun e => hx (by grind)
        have ez : cF (fm (fs (fm X' (fm Z Z)) (fm X (fm Z' Z'))) (fm Z Z')) = cF Z * cF Z * cF Z * (cF Z' * cF Z' * cF Z') * (x2 - x1) := by
          rw [cF_fm, cF_fm, eh]; grind
        refine ⟨?_, ?_, ?_⟩
        · intro e
          have : cF (fm (fs (fm X' (fm Z Z)) (fm X (fm Z' Z'))) (fm Z Z')) = 0 := by rw [e]; rfl
          rw [ez] at this
          exact mul_ne zzz hd this
        · rw [ez]
          simp only [cF_fs (fa_lt _ _), cF_fs (fm_lt _ _), cF_fm, cF_fa, h1, k1, h2, k2]
          generalize cF Z = z at *
          generalize cF Z' = z' at *
          grind
        · rw [ez]
          simp only [cF_fs (fa_lt _ _), cF_fs (fm_lt _ _), cF_fs (fs_lt _ _), cF_fm, cF_fa, h1, k1, h2, k2]
          generalize cF Z = z at *
          generalize cF Z' = z' at *
          grind
end Cv
