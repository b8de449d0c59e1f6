import Derived.Test.YthjpppgibdfaeaaCvWords
/- Sums and differences modulo m, as the program takes them. Plain. -/
namespace Cv
open Go Go.SX
/-- a modulus: above half of 2^256, and not far below it -/
structure Mo (m : Nat) : Prop where
  lt : m < R
  two : R < 2 * m
  near : R - m < 680564733841876926926749214863536422912
def Dd (m : Nat) : List Value := cells .u64 3 (dig B64 (R - m))
theorem Dd_cv {D' : Nat → Prop} (m : Nat) : (CV.many 3 (Dd m)).ok D' := cells_cv _ _ _
/-- a field's cells -/
abbrev Fl (m : Nat) : List CV := [.many 4 (W m), .many 3 (Dd m)]
def Pp : Nat := 115792089237316195423570985008687907853269984665640564039457584007908834671663
def Nn : Nat := 115792089237316195423570985008687907852837564279074904382605163141518161494337
theorem mo_P : Mo Pp := ⟨by decide, by decide, by decide⟩
theorem mo_N : Mo Nn := ⟨by decide, by decide, by decide⟩
theorem Mo.pos {m : Nat} (h : Mo m) : 0 < m := by have := h.lt; have := h.two; omega
theorem mod_lt {m : Nat} (h : Mo m) (x : Nat) : x % m < m := Nat.mod_lt _ h.pos
theorem mod_ltR {m : Nat} (h : Mo m) (x : Nat) : x % m < R := Nat.lt_trans (mod_lt h x) h.lt
theorem in_ge {x m : Nat} (h : Mo m) (hx : x < R) (hm : ¬ x < m) : (x + R - m) % R = x % m := by
  have := h.lt; have := h.two
  rw [Nat.mod_eq_sub_mod (by omega : m ≤ x), Nat.mod_eq_of_lt (by omega : x - m < m), show x + R - m = (x - m) + R from by omega, Nat.add_mod_right, Nat.mod_eq_of_lt (by omega)]
theorem add_ge {x y m : Nat} (h : Mo m) (hx : x < m) (hy : y < m) (hc : (x + y) / R = 1) : ((x + y) % R + R - m) % R = (x + y) % m := by
  have := h.lt; have := h.two
  have hR := Nat.div_add_mod (x + y) R
  rw [hc] at hR
  rw [show (x + y) % R + R - m = x + y - m from by omega, Nat.mod_eq_of_lt (a := x + y - m) (by omega), Nat.mod_eq_sub_mod (by omega : m ≤ x + y), Nat.mod_eq_of_lt (a := x + y - m) (by omega)]
theorem add_lt {x y m : Nat} (h : Mo m) (hx : x < m) (hy : y < m) (hc : ¬ (x + y) / R = 1) : (x + y) % R = x + y := by
  have := h.lt; have := h.two
  have hR := Nat.div_add_mod (x + y) R
  have hl := Nat.mod_lt (x + y) R_pos
  refine Nat.mod_eq_of_lt ?_
  rcases Nat.lt_or_ge (x + y) R with h | h
  · exact h
  · exfalso; apply hc
    exact Nat.div_eq_of_lt_le (by omega) (by omega)
theorem neg_ne {x m : Nat} (h : Mo m) (hx : x < m) (h0 : x ≠ 0) : (m + R - x) % R = (m - x) % m := by
  have := h.lt
  rw [Nat.mod_eq_of_lt (a := m - x) (by omega), show m + R - x = (m - x) + R from by omega, Nat.add_mod_right, Nat.mod_eq_of_lt (by omega)]
theorem sub_mod {x y m : Nat} (hy : y < m) : (x + (m - y) % m) % m = (x + m - y) % m := by
  rw [Nat.add_mod_mod, show x + (m - y) = x + m - y from by omega]
/-- powers modulo m, bit by bit from above: the kernel can reckon them -/
def pwStep (m x b q : Nat) : Nat := if b = 1 then q * q % m * x % m else q * q % m
def pwGo (m x e : Nat) : Nat → Nat
  | 0 => 1
  | j + 1 => pwStep m x (e / 2 ^ (255 - j) % 2) (pwGo m x e j)
def pw (m x e : Nat) : Nat := pwGo m x e 256
theorem one_lt {m : Nat} (h : Mo m) : 1 < m := by have := h.two; unfold R at this; omega
theorem pwGo_lt {m : Nat} (h : Mo m) (x e : Nat) : ∀ j, pwGo m x e j < m
  | 0 => one_lt h
  | j + 1 => by
    simp only [pwGo, pwStep]; split
    · exact mod_lt h _
    · exact mod_lt h _
theorem pw_lt {m : Nat} (h : Mo m) (x e : Nat) : pw m x e < m := pwGo_lt h x e 256
theorem pw_ltR {m : Nat} (h : Mo m) (x e : Nat) : pw m x e < R := Nat.lt_trans (pw_lt h x e) h.lt
theorem pwGo_ltR {m : Nat} (h : Mo m) (x e j : Nat) : pwGo m x e j < R := Nat.lt_trans (pwGo_lt h x e j) h.lt
theorem pwGo_step {m x e j i : Nat} (hi : 255 - j = i) : pwGo m x e (j + 1) = if e / 2 ^ i % 2 = 1 then pwGo m x e j * pwGo m x e j % m * x % m else pwGo m x e j * pwGo m x e j % m := by rw [← hi]; rfl
theorem pwGo_eq {m x e : Nat} (h : Mo m) (he : e < 2 ^ 256) : ∀ j, j ≤ 256 → pwGo m x e j = x ^ (e / 2 ^ (256 - j)) % m
  | 0, _ => by
    show 1 = _
    rw [Nat.sub_zero, Nat.div_eq_of_lt he, Nat.pow_zero, Nat.mod_eq_of_lt (one_lt h)]
  | j + 1, hj => by
    rw [pwGo_step rfl, pwGo_eq h he j (by omega), show 256 - (j + 1) = 255 - j from by omega, show 256 - j = 255 - j + 1 from by omega]
    generalize 255 - j = i
    have e2 : e / 2 ^ i = 2 * (e / 2 ^ (i + 1)) + e / 2 ^ i % 2 := by rw [Nat.pow_succ, ← Nat.div_div_eq_div_mul]; omega
    split
    · rename_i hb
      rw [hb] at e2
      rw [← Nat.mul_mod, ← Nat.pow_add, Nat.mod_mul_mod, ← Nat.pow_succ, e2]
      congr 2; omega
    · rename_i hb
      rw [show e / 2 ^ i % 2 = 0 from by omega] at e2
      rw [← Nat.mul_mod, ← Nat.pow_add, e2]
      congr 2; omega
theorem pw_eq {m x e : Nat} (h : Mo m) (he : e < R) : pw m x e = x ^ e % m := by
  have := pwGo_eq (x := x) h (show e < 2 ^ 256 from he) 256 (Nat.le_refl _)
  rw [Nat.sub_self, Nat.pow_zero, Nat.div_one] at this
  exact this
theorem bit_word (e i : Nat) : dig B64 e (i / 64) / 2 ^ (i % 64) % 2 = e / 2 ^ i % 2 := by
  have hi := Nat.div_add_mod i 64
  simp only [dig]
  rw [show B64 = 2 ^ 64 from rfl, ← Nat.pow_mul]
  have e2 : (2 : Nat) ^ 64 = 2 ^ (i % 64) * (2 * 2 ^ (63 - i % 64)) := by
    rw [← Nat.pow_succ', ← Nat.pow_add]; congr 1; omega
  rw [e2, Nat.mod_mul_right_div_self, Nat.mod_mul_right_mod, Nat.div_div_eq_div_mul, ← Nat.pow_add, hi]
theorem and_1 {a : Nat} (ha : a < B64) : intb .and .u64 (a : Int) 1 = ((a % 2 : Nat) : Int) := by
  have := and_u64 (a := a) (b := 1) ha (by decide)
  rw [show a &&& 1 = a % 2 from Nat.and_two_pow_sub_one_eq_mod a 1] at this
  exact this
theorem W_1 : (List.replicate 4 (.int .u64 0)).set 0 (.int .u64 1) = W 1 := rfl
theorem W_2 : (List.replicate 4 (.int .u64 0)).set 0 (.int .u64 2) = W 2 := rfl
theorem W_7 : (List.replicate 4 (.int .u64 0)).set 0 (.int .u64 7) = W 7 := rfl
end Cv
