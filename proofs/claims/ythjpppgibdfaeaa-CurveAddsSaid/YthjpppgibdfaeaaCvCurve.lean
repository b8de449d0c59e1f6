import Derived.Test.YthjpppgibdfaeaaCvPrimes
import Derived.Test.YthjpppgibdfaeaaCvG
/- The curve over the field of p elements: points, their sums; the program's and the reference's points stand for them. Plain. -/
namespace Cv
open Go Go.SX
set_option maxRecDepth 10000
instance : NeZero Pp := ⟨by decide⟩
abbrev F := Fin Pp
def cF (x : Nat) : F := Fin.ofNat Pp x
theorem Pp_pos : 0 < Pp := by decide
theorem cF_val (x : Nat) : (cF x).val = x % Pp := rfl
theorem cF_of {a : F} : cF a.val = a := Fin.ext (Nat.mod_eq_of_lt a.isLt)
theorem cF_fm (x y : Nat) : cF (fm x y) = cF x * cF y := Fin.ext (by
  rw [Fin.val_mul, cF_val, cF_val, cF_val, fm, Nat.mod_mod, ← Nat.mul_mod])
theorem cF_fa (x y : Nat) : cF (fa x y) = cF x + cF y := Fin.ext (by
  rw [Fin.val_add, cF_val, cF_val, cF_val, fa, Nat.mod_mod, ← Nat.add_mod])
theorem fs_fa {x y : Nat} (hy : y < Pp) : fa (fs x y) y = x % Pp := by
  unfold fa fs
  rw [Nat.add_comm, Nat.add_mod_mod, show y + (x + Pp - y) = x + Pp from by omega, Nat.add_mod_right]
theorem cF_mod (x : Nat) : cF (x % Pp) = cF x := Fin.ext (by rw [cF_val, cF_val, Nat.mod_mod])
theorem cF_fs {x y : Nat} (hy : y < Pp) : cF (fs x y) = cF x - cF y := by
  have h := congrArg cF (fs_fa (x := x) hy)
  rw [cF_fa, cF_mod] at h
  rw [← h]; grind
theorem cF_inj {x y : Nat} (hx : x < Pp) (hy : y < Pp) (h : cF x = cF y) : x = y := by
  have := congrArg Fin.val h
  rw [cF_val, cF_val, Nat.mod_eq_of_lt hx, Nat.mod_eq_of_lt hy] at this; exact this
theorem cF_zero : cF 0 = 0 := rfl
theorem cF_one : cF 1 = 1 := rfl
theorem cF_ne {x : Nat} (hx : x < Pp) (h : x ≠ 0) : cF x ≠ 0 := fun e => h (cF_inj hx Pp_pos e)
theorem cF_eq0 {x : Nat} (hx : x < Pp) (h : cF x = 0) : x = 0 := cF_inj hx Pp_pos h
/-! inverses -/
def inv (a : F) : F := cF (pw Pp a.val (Pp - 2))
theorem inv_mul {a : F} (h : a ≠ 0) : inv a * a = 1 := by
  have hv : a.val % Pp ≠ 0 := by
    rw [Nat.mod_eq_of_lt a.isLt]
    intro h0; exact h (Fin.ext h0)
  refine Fin.ext ?_
  rw [Fin.val_mul, inv, cF_val, pw_eq mo_P (by decide), Nat.mod_mod, Nat.mod_mul_mod, ← Nat.pow_succ]
  rw [show (Pp - 2).succ = Pp - 1 from by decide, fermat_P _ hv]; rfl
theorem mul_0 {a b : F} (h : a * b = 0) : a = 0 ∨ b = 0 := by
  by_cases ha : a = 0
  · exact .inl ha
  · right
    have := inv_mul ha
    grind
theorem mul_ne {a b : F} (ha : a ≠ 0) (hb : b ≠ 0) : a * b ≠ 0 := fun h => (mul_0 h).elim ha hb
theorem cancel {a b c : F} (hc : c ≠ 0) (h : a * c = b * c) : a = b := by
  have := inv_mul hc
  grind
/-- no x with a y that is 0 -/
theorem no_root (x : F) : x * x * x + 7 ≠ 0 := by
  intro h
  have hx : x ≠ 0 := by rintro rfl; revert h; decide
  have hv : x.val % Pp ≠ 0 := by
    rw [Nat.mod_eq_of_lt x.isLt]
    intro h0; exact hx (Fin.ext h0)
  have h3 : x * x * x = cF (Pp - 7) := by
    have : cF (Pp - 7) + 7 = 0 := by decide
    grind
  have h4 := congrArg Fin.val h3
  rw [Fin.val_mul, Fin.val_mul, Nat.mod_mul_mod, cF_val, show (Pp - 7) % Pp = Pp - 7 from by decide] at h4
  have h5 := fermat_P _ hv
  have h6 : (Pp - 7) ^ ((Pp - 1) / 3) % Pp = 1 := by
    rw [← h4, ← Nat.pow_mod, show x.val * x.val * x.val = x.val ^ 3 from by rw [Nat.pow_succ, Nat.pow_succ, Nat.pow_succ, Nat.pow_zero, Nat.one_mul], ← Nat.pow_mul, show 3 * ((Pp - 1) / 3) = Pp - 1 from by decide]
    exact h5
  rw [← pw_eq mo_P (by decide)] at h6
  exact absurd h6 (by decide +kernel)
/-! points -/
inductive Aff where
  | inf
  | pt (x y : F)
def On : Aff → Prop
  | .inf => True
  | .pt x y => y * y = x * x * x + 7
theorem on_y {x y : F} (h : On (.pt x y)) : y ≠ 0 := by
  rintro rfl
  exact no_root x (by simp only [On] at h; grind)
def slope (x1 y1 x2 y2 : F) : F := if x1 = x2 then 3 * x1 * x1 * inv (2 * y1) else (y2 - y1) * inv (x2 - x1)
def chord (l x1 y1 x2 : F) : Aff := .pt (l * l - x1 - x2) (l * (x1 - (l * l - x1 - x2)) - y1)
def aadd : Aff → Aff → Aff
  | .inf, Q => Q
  | P, .inf => P
  | .pt x1 y1, .pt x2 y2 => if x1 = x2 ∧ (y1 ≠ y2 ∨ y1 = 0) then .inf else chord (slope x1 y1 x2 y2) x1 y1 x2
theorem two_ne : (2 : F) ≠ 0 := by decide
theorem slope_dbl {x y : F} (hy : y ≠ 0) : slope x y x y * (2 * y) = 3 * x * x := by
  have := inv_mul (mul_ne two_ne hy)
  unfold slope; rw [if_pos rfl]; grind
theorem slope_ne {x1 y1 x2 y2 : F} (h : x1 ≠ x2) : slope x1 y1 x2 y2 * (x2 - x1) = y2 - y1 := by
  have hd : x2 - x1 ≠ 0 := fun e => h (by grind)
  have := inv_mul hd
  unfold slope; rw [if_neg h]; grind
theorem chord_on {l x1 y1 x2 y2 : F} (h1 : y1 * y1 = x1 * x1 * x1 + 7) (h2 : y2 * y2 = x2 * x2 * x2 + 7) (h : x1 ≠ x2) (hl : l * (x2 - x1) = y2 - y1) : On (chord l x1 y1 x2) := by
  have hd : x2 - x1 ≠ 0 := fun e => h (by grind)
  simp only [On, chord]
  refine cancel hd ?_
  grind
theorem dbl_on {l x y : F} (h1 : y * y = x * x * x + 7) (hy : y ≠ 0) (hl : l * (2 * y) = 3 * x * x) : On (chord l x y x) := by
  simp only [On, chord]
  refine cancel (mul_ne two_ne hy) ?_
  grind
theorem aadd_on {P Q : Aff} (hP : On P) (hQ : On Q) : On (aadd P Q) := by
  cases P with
  | inf => exact hQ
  | pt x1 y1 =>
    cases Q with
    | inf => exact hP
    | pt x2 y2 =>
      simp only [aadd]
      split
      · trivial
      · rename_i h
        by_cases hx : x1 = x2
        · subst hx
          have hy : y1 = y2 := Classical.byContradiction fun hh => h ⟨rfl, .inl hh⟩
          subst hy
          exact dbl_on hP (on_y hP) (slope_dbl (on_y hP))
        · exact chord_on hP hQ hx (slope_ne hx)
end Cv
