import Derived.Test.YthjpppgibdfaeaaCvStand
import Derived.Test.YthjpppgibdfaeaaCvRSpec
/- The reference's points stand for points of the curve. Plain. -/
namespace Cv
open Go Go.SX
set_option maxRecDepth 10000
structure RPl (a b : J) (X Y Z : F) : Prop where
  x : cF (rplus a b).1 = X
  y : cF (rplus a b).2.1 = Y
  z : cF (rplus a b).2.2 = Z
theorem neg_sq (y : F) : -y * -y = y * y := by grind
theorem cF_21 : cF 21 = 21 := rfl
/-- the formula, over the field -/
theorem rplus_F {a b : J} : RPl a b
    ((cF a.1 * cF b.2.1 + cF b.1 * cF a.2.1) * (cF a.2.1 * cF b.2.1 - 21 * (cF a.2.2 * cF b.2.2)) - (cF a.2.1 * cF b.2.2 + cF b.2.1 * cF a.2.2) * (21 * (cF a.1 * cF b.2.2 + cF b.1 * cF a.2.2)))
    ((cF a.2.1 * cF b.2.1 - 21 * (cF a.2.2 * cF b.2.2)) * (cF a.2.1 * cF b.2.1 + 21 * (cF a.2.2 * cF b.2.2)) + 21 * (cF a.1 * cF b.2.2 + cF b.1 * cF a.2.2) * (3 * (cF a.1 * cF b.1)))
    ((cF a.2.1 * cF b.2.1 + 21 * (cF a.2.2 * cF b.2.2)) * (cF a.2.1 * cF b.2.2 + cF b.2.1 * cF a.2.2) + 3 * (cF a.1 * cF b.1) * (cF a.1 * cF b.2.1 + cF b.1 * cF a.2.1)) := by
  refine ⟨?_, ?_, ?_⟩ <;> simp only [rplus, cF_fs (fa_lt _ _), cF_fs (fm_lt _ _), cF_fm, cF_fa, cF_21] <;> grind
theorem key_z {x1 y1 x2 y2 m : F} (h1 : y1 * y1 = x1 * x1 * x1 + 7) (h2 : y2 * y2 = x2 * x2 * x2 + 7) (hm : m * (x2 - x1) = -y2 - y1) :
    (y1 * y2 + 21) * (y1 + y2) + 3 * x1 * x2 * (x1 * y2 + x2 * y1) = (m * (x1 - (m * m - x1 - x2)) - y1) * ((x2 - x1) * (x2 - x1) * (x2 - x1)) := by
  have e : (m * (x1 - (m * m - x1 - x2)) - y1) * ((x2 - x1) * (x2 - x1) * (x2 - x1)) = (m * (x2 - x1)) * (2 * x1 + x2) * ((x2 - x1) * (x2 - x1)) - (m * (x2 - x1)) * (m * (x2 - x1)) * (m * (x2 - x1)) - y1 * ((x2 - x1) * (x2 - x1) * (x2 - x1)) := by grind
  rw [e, hm]
  clear e hm
  grind
theorem pr_add {a b : J} {P Q : Aff} (ha : OkJ a) (hb : OkJ b) (hP : On P) (hQ : On Q) (h : PR a P) (k : PR b Q) : PR (rplus a b) (aadd P Q) := by
  obtain ⟨ex, ey, ez⟩ := @rplus_F a b
  have hok := rplus_ok a b
  generalize rplus a b = c at *
  obtain ⟨X, Y, Z⟩ := a
  obtain ⟨X', Y', Z'⟩ := b
  obtain ⟨hX, hY, hZ⟩ := ha
  obtain ⟨hX', hY', hZ'⟩ := hb
  simp only at hX hY hZ hX' hY' hZ' ex ey ez
  cases P with
  | inf =>
    obtain ⟨h1, h2, h3⟩ := h
    simp only at h1 h2 h3
    subst h3
    rw [h1, cF_zero] at ex ey ez
    cases Q with
    | inf =>
      obtain ⟨k1, k2, k3⟩ := k
      simp only at k1 k2 k3
      subst k3
      rw [k1, cF_zero] at ex ey ez
      refine ⟨?_, ?_, cF_eq0 hok.z ?_⟩
      · rw [ex]; grind
      · rw [ey]
        have := mul_ne (mul_ne h2 k2) (mul_ne h2 k2)
        grind
      · rw [ez]; grind
    | pt x y =>
      obtain ⟨k1, k2, k3⟩ := k
      simp only at k1 k2 k3
      have kz := cF_ne hZ' k1
      have hy := on_y hQ
      have e : cF c.2.2 = cF Y * cF Y * (cF Z' * y) * cF Z' := by rw [ez, k2, k3]; grind
      refine ⟨?_, ?_, ?_⟩
      · intro e0
        have : cF c.2.2 = 0 := by rw [e0]; rfl
        rw [e] at this
        exact mul_ne (mul_ne (mul_ne h2 h2) (mul_ne kz hy)) kz this
      · rw [e, ex, k2, k3]; grind
      · rw [e, ey, k2, k3]; grind
  | pt x1 y1 =>
    obtain ⟨h1, h2, h3⟩ := h
    simp only at h1 h2 h3
    have hz := cF_ne hZ h1
    have hy1 := on_y hP
    cases Q with
    | inf =>
      obtain ⟨k1, k2, k3⟩ := k
      simp only at k1 k2 k3
      subst k3
      rw [k1, cF_zero] at ex ey ez
      have e : cF c.2.2 = cF Y' * cF Y' * (cF Z * y1) * cF Z := by rw [ez, h2, h3]; grind
      refine ⟨?_, ?_, ?_⟩
      · intro e0
        have : cF c.2.2 = 0 := by rw [e0]; rfl
        rw [e] at this
        exact mul_ne (mul_ne (mul_ne k2 k2) (mul_ne hz hy1)) hz this
      · rw [e, ex, h2, h3]; grind
      · rw [e, ey, h2, h3]; grind
    | pt x2 y2 =>
      obtain ⟨k1, k2, k3⟩ := k
      simp only at k1 k2 k3
      have kz := cF_ne hZ' k1
      have hy2 := on_y hQ
      rw [h2, h3, k2, k3] at ex ey ez
      generalize cF Z = z at *
      generalize cF Z' = z' at *
      have zz := mul_ne hz kz
      simp only [On] at hP hQ
      by_cases hx : x1 = x2
      · subst hx
        by_cases hy : y1 = y2
        · subst hy
          have hl := slope_dbl (x := x1) hy1
          rw [aadd, if_neg (by rintro ⟨_, h | h⟩; exact h rfl; exact hy1 h)]
          simp only [PR, chord]
          generalize slope x1 y1 x1 y1 = l at *
          have e : cF c.2.2 = z * z' * (z * z') * (2 * y1 * (2 * y1) * (2 * y1)) := by rw [ez]; grind
          refine ⟨?_, ?_, ?_⟩
          · intro e0
            have : cF c.2.2 = 0 := by rw [e0]; rfl
            rw [e] at this
            exact mul_ne (mul_ne zz zz) (mul_ne (mul_ne (mul_ne two_ne hy1) (mul_ne two_ne hy1)) (mul_ne two_ne hy1)) this
          · rw [e, ex]; grind
          · rw [e, ey]; grind
        · have hneg : y2 = -y1 := by
            have : (y1 - y2) * (y1 + y2) = 0 := by grind
            rcases mul_0 this with h | h
            · exact absurd (by grind) hy
            · grind
          subst hneg
          rw [aadd, if_pos ⟨rfl, .inl hy⟩]
          refine ⟨?_, ?_, cF_eq0 hok.z ?_⟩
          · rw [ex]; grind
          · rw [ey]
            intro e0
            have e1 : z * z' * (z * z') * (y1 * y1 * (y1 * y1) + 126 * (y1 * y1) - 1323) = 0 := by rw [← e0]; grind
            have e2 := (mul_0 e1).resolve_left (mul_ne zz zz)
            -- twice the point has a y of its own
            have hl := slope_dbl (x := x1) hy1
            have hon := dbl_on hP hy1 hl
            refine on_y hon ?_
            generalize slope x1 y1 x1 y1 = l at *
            refine cancel (mul_ne (mul_ne two_ne hy1) (mul_ne (mul_ne two_ne hy1) (mul_ne two_ne hy1))) ?_
            grind
          · rw [ez]; grind
      · have hl := slope_ne (y1 := y1) (y2 := y2) hx
        have hd : x2 - x1 ≠ 0 := fun e => hx (by grind)
        rw [aadd, if_neg (fun hh => hx hh.1)]
        simp only [PR, chord]
        -- the difference of the points has a y of its own
        have hm := slope_ne (y1 := y1) (y2 := -y2) hx
        have hmo := chord_on (y2 := -y2) hP ((neg_sq y2).trans hQ) hx hm
        have hmy := on_y hmo
        have e0 : cF c.2.2 = z * z' * (z * z') * ((y1 * y2 + 21) * (y1 + y2) + 3 * x1 * x2 * (x1 * y2 + x2 * y1)) := by rw [ez]; clear hm hmo hmy hl ex ey ez hP hQ; grind
        have e := e0
        rw [key_z hP hQ hm] at e
        have ne : (slope x1 y1 x2 (-y2) * (x1 - (slope x1 y1 x2 (-y2) * slope x1 y1 x2 (-y2) - x1 - x2)) - y1) * ((x2 - x1) * (x2 - x1) * (x2 - x1)) ≠ 0 := mul_ne hmy (mul_ne (mul_ne hd hd) hd)
        have e' := e0
        refine ⟨?_, ?_, ?_⟩
        · intro e0
          have : cF c.2.2 = 0 := by rw [e0]; rfl
          rw [e] at this
          exact mul_ne (mul_ne zz zz) ne this
        · rw [e', ex]
          refine cancel (mul_ne hd hd) ?_
          clear hm hmo hmy e ne e' e0 ey ez
          generalize slope x1 y1 x2 y2 = l at *
          grind
        · rw [e', ey]
          refine cancel (mul_ne (mul_ne hd hd) hd) ?_
          clear hm hmo hmy e ne e' e0 ex ez
          generalize slope x1 y1 x2 y2 = l at *
          grind
end Cv
