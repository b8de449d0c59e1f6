import Derived.Test.YthjpppgibdfaeaaCvLaw0
/- The base point, reckoned. -/
namespace Cv
open Go Go.SX
def Gy : Nat := 32670510020758816978083085130507043184471273380659243275938904335757337482424
theorem jG_eq : jG = (Gx, Gy, 1) := by
  have h1 : fm (lroot Gx) (lroot Gx) = lsq Gx := by decide +kernel
  have h2 : (if lroot Gx % 2 = 0 then lroot Gx else (Pp - lroot Gx) % Pp) = Gy := by decide +kernel
  unfold jG jlift
  rw [if_pos h1, h2]
theorem jtimes_zero {k : Nat} {a : J} : ∀ n, (∀ i, i < n → ¬ k / 2 ^ (255 - i) % 2 = 1) → jtimes k a n = (0, 0, 0)
  | 0, _ => rfl
  | n + 1, h => by
    simp only [jtimes]
    rw [if_neg (h n (by omega)), jtimes_zero n (fun i hi => h i (by omega))]
    exact if_pos rfl
theorem jtimes_one (a : J) : jtimes 1 a 256 = a := by
  have h := jtimes_zero (k := 1) (a := a) 255 (fun i hi => by
    have : 1 < 2 ^ (255 - i) := Nat.one_lt_two_pow (by omega)
    rw [Nat.div_eq_of_lt this]; decide)
  rw [show (256 : Nat) = 255 + 1 from rfl, jtimes_step (i := 0) rfl, if_pos (by decide), h]
  rfl
theorem pw_one {m e : Nat} (hm : Mo m) (he : e < R) : pw m 1 e = 1 := by
  rw [pw_eq hm he, Nat.one_pow, Nat.mod_eq_of_lt (one_lt hm)]
theorem jflat_1 {x y : Nat} (hx : x < Pp) (hy : y < Pp) : jflat (x, y, 1) = (x, y) := by
  have hw : jw (x, y, 1) = 1 := pw_one mo_P (by decide)
  unfold jflat
  rw [hw]
  have h1 : fm 1 1 = 1 := by decide
  have h2 : ∀ z, z < Pp → fm z 1 = z := fun z hz => by unfold fm; rw [Nat.mul_one, Nat.mod_eq_of_lt hz]
  rw [h1, h1, h2 x hx, h2 y hy]
def oneF (i : Nat) : Nat := if i = 31 then 1 else 0
theorem oneF_lt (i : Nat) : oneF i < 256 := by unfold oneF; split <;> decide
theorem zf_lt (i : Nat) : zf i < 256 := by show 0 < 256; decide
def gF : Nat → Nat := pk33 Gx Gy
theorem pubOne : pubOf oneF = (gF, 0) := by
  rw [pubOf_yes (by decide), show be oneF 32 = 1 from by decide, jtimes_one, jG_eq]
  unfold jpack
  rw [jflat_1 (by decide) (by decide)]; rfl
theorem gF0 : gF 0 = 2 := by decide
theorem gF1 : gF 1 = 121 := by decide
theorem gF32 : gF 32 = 152 := by decide
theorem key1 : keyOK (be oneF 32) = true := by decide
theorem key0 : keyOK (be zf 32) = false := by decide
end Cv
