
/- Numbers as digits to a base: sums, differences, products by columns. Plain; no program. -/
namespace Cv
/-- the number of the first k digits -/
def num (B : Nat) (z : Nat → Nat) : Nat → Nat
  | 0 => 0
  | k + 1 => num B z k + z k * B ^ k
/-- a digit of a number -/
def dig (B x i : Nat) : Nat := x / B ^ i % B

theorem num_lt {B : Nat} (hB : 0 < B) {z : Nat → Nat} : ∀ k, (∀ i, i < k → z i < B) → num B z k < B ^ k
  | 0, _ => by simp [num]
  | k + 1, h => by
    have h1 := num_lt hB k (fun i hi => h i (by omega))
    have h2 := h k (by omega)
    have h3 : (z k + 1) * B ^ k ≤ B * B ^ k := Nat.mul_le_mul_right _ h2
    simp only [num, Nat.pow_succ]
    rw [Nat.add_mul, Nat.one_mul] at h3
    rw [Nat.mul_comm (B ^ k) B]
    omega
theorem num_congr {B : Nat} {z z' : Nat → Nat} : ∀ k, (∀ i, i < k → z i = z' i) → num B z k = num B z' k
  | 0, _ => rfl
  | k + 1, h => by simp only [num, num_congr k (fun i hi => h i (by omega)), h k (by omega)]
/-- the first k digits of x are x modulo B^k -/
theorem num_dig {B : Nat} (x : Nat) : ∀ k, num B (dig B x) k = x % B ^ k
  | 0 => by simp [num, Nat.mod_one]
  | k + 1 => by
    simp only [num, num_dig x k, dig]
    rw [Nat.pow_succ, Nat.mod_mul, Nat.mul_comm]
theorem num_split {B : Nat} {z : Nat → Nat} (i : Nat) : ∀ k, num B z (i + k) = num B z i + B ^ i * num B (fun j => z (i + j)) k
  | 0 => by simp [num]
  | k + 1 => by
    rw [← Nat.add_assoc]
    simp only [num, num_split i k, Nat.mul_add, Nat.pow_add]
    rw [Nat.add_assoc]
    congr 2
    rw [← Nat.mul_assoc, Nat.mul_comm (z (i + k)) (B ^ i), Nat.mul_assoc, Nat.mul_comm (z (i + k)), Nat.mul_comm (B ^ k)]
theorem dig_num {B : Nat} (hB : 0 < B) {z : Nat → Nat} {n i : Nat} (hz : ∀ i, i < n → z i < B) (hi : i < n) : dig B (num B z n) i = z i := by
  have h1 := num_split (B := B) (z := z) i (n - i)
  rw [show i + (n - i) = n from by omega] at h1
  have h2 := num_split (B := B) (z := fun j => z (i + j)) 1 (n - i - 1)
  rw [show 1 + (n - i - 1) = n - i from by omega] at h2
  have h3 := num_lt hB i (fun j hj => hz j (by omega))
  simp only [dig, h1, h2]
  rw [Nat.add_mul_div_left _ _ (Nat.pow_pos hB), Nat.div_eq_of_lt h3, Nat.zero_add]
  simp only [num, Nat.pow_zero, Nat.mul_one, Nat.pow_one, Nat.zero_add, Nat.add_zero]
  rw [Nat.add_mul_mod_self_left, Nat.mod_eq_of_lt (hz i hi)]
theorem dig_lt {B : Nat} (hB : 0 < B) (x i : Nat) : dig B x i < B := Nat.mod_lt _ hB
/-- a number is its digits' -/
theorem eq_of_dig {B n x : Nat} (hx : x < B ^ n) {z : Nat → Nat} (hz : ∀ i, i < n → dig B x i = z i) : x = num B z n := by
  rw [← num_congr n hz, num_dig, Nat.mod_eq_of_lt hx]

/-! sums, by columns -/
def carry (B : Nat) (x y : Nat → Nat) (c : Nat) : Nat → Nat
  | 0 => c
  | k + 1 => (x k + y k + carry B x y c k) / B
def sumd (B : Nat) (x y : Nat → Nat) (c k : Nat) : Nat := (x k + y k + carry B x y c k) % B
theorem sum_inv {B : Nat} {x y : Nat → Nat} {c : Nat} : ∀ k, num B (sumd B x y c) k + carry B x y c k * B ^ k = num B x k + num B y k + c
  | 0 => by simp [num, carry]
  | k + 1 => by
    have ih := sum_inv (B := B) (x := x) (y := y) (c := c) k
    simp only [num, carry, sumd, Nat.pow_succ]
    have hd := Nat.div_add_mod (x k + y k + carry B x y c k) B
    generalize hq : (x k + y k + carry B x y c k) / B = q at *
    generalize hr : (x k + y k + carry B x y c k) % B = r at *
    have e : q * (B ^ k * B) = (B * q) * B ^ k := by rw [Nat.mul_comm (B ^ k) B, ← Nat.mul_assoc, Nat.mul_comm q B]
    have e2 : (B * q + r) * B ^ k = (x k + y k + carry B x y c k) * B ^ k := by rw [hd]
    simp only [Nat.add_mul] at e2
    rw [e]; omega
theorem carry_le {B : Nat} (hB : 0 < B) {x y : Nat → Nat} {c n : Nat} (hx : ∀ i, i < n → x i < B) (hy : ∀ i, i < n → y i < B) (hc : c ≤ 1) : ∀ k, k ≤ n → carry B x y c k ≤ 1
  | 0, _ => hc
  | k + 1, hk => by
    have ih := carry_le hB hx hy hc k (by omega)
    have h1 := hx k (by omega)
    have h2 := hy k (by omega)
    simp only [carry]
    exact Nat.lt_succ_iff.1 ((Nat.div_lt_iff_lt_mul hB).2 (by omega))

theorem sumd_lt {B : Nat} (hB : 0 < B) (x y : Nat → Nat) (c k : Nat) : sumd B x y c k < B := Nat.mod_lt _ hB

/-! differences -/
def borrow (x y : Nat → Nat) : Nat → Nat
  | 0 => 0
  | k + 1 => if x k < y k + borrow x y k then 1 else 0
def difd (B : Nat) (x y : Nat → Nat) (k : Nat) : Nat := (x k + B - y k - borrow x y k) % B
theorem borrow_le (x y : Nat → Nat) (k : Nat) : borrow x y k ≤ 1 := by cases k <;> simp [borrow]; split <;> omega
theorem dif_inv {B : Nat} {x y : Nat → Nat} {n : Nat} (hx : ∀ i, i < n → x i < B) (hy : ∀ i, i < n → y i < B) : ∀ k, k ≤ n → num B (difd B x y) k + num B y k = num B x k + borrow x y k * B ^ k
  | 0, _ => by simp [num, borrow]
  | k + 1, hk => by
    have ih := dif_inv hx hy k (by omega)
    have h1 := hx k (by omega)
    have h2 := hy k (by omega)
    have hb := borrow_le x y k
    simp only [num, borrow, difd, Nat.pow_succ]
    generalize hbk : borrow x y k = b at *
    have key : (x k + B - y k - b) % B + y k + b = x k + (if x k < y k + b then 1 else 0) * B := by
      split
      · rename_i hlt
        rw [Nat.mod_eq_of_lt (by omega)]; omega
      · rename_i hge
        rw [show x k + B - y k - b = (x k - y k - b) + B from by omega, Nat.add_mod_right, Nat.mod_eq_of_lt (by omega)]; omega
    have e := congrArg (· * B ^ k) key
    simp only [Nat.add_mul] at e
    generalize (x k + B - y k - b) % B = r at *
    generalize (if x k < y k + b then 1 else 0) = s at *
    have e2 : s * (B ^ k * B) = s * B * B ^ k := by rw [Nat.mul_comm (B ^ k) B, ← Nat.mul_assoc]
    rw [e2]; omega
theorem difd_lt {B : Nat} (hB : 0 < B) (x y : Nat → Nat) (k : Nat) : difd B x y k < B := Nat.mod_lt _ hB

/-- the difference of two numbers of n digits, modulo B^n; and whether it went below 0 -/
theorem dif_num {B : Nat} (hB : 0 < B) {n x y : Nat} (hx : x < B ^ n) (hy : y < B ^ n) :
    num B (difd B (dig B x) (dig B y)) n = (x + B ^ n - y) % B ^ n ∧ (borrow (dig B x) (dig B y) n = 1 ↔ x < y) := by
  have h := dif_inv (B := B) (x := dig B x) (y := dig B y) (n := n) (fun i _ => dig_lt hB _ _) (fun i _ => dig_lt hB _ _) n (Nat.le_refl _)
  rw [num_dig, num_dig, Nat.mod_eq_of_lt hx, Nat.mod_eq_of_lt hy] at h
  have hlt := num_lt hB (z := difd B (dig B x) (dig B y)) n (fun i _ => difd_lt hB _ _ _)
  have hb := borrow_le (dig B x) (dig B y) n
  generalize num B (difd B (dig B x) (dig B y)) n = d at *
  generalize borrow (dig B x) (dig B y) n = b at *
  have : b = 0 ∨ b = 1 := by omega
  rcases this with rfl | rfl
  · refine ⟨?_, by omega⟩
    rw [show x + B ^ n - y = d + B ^ n from by omega, Nat.add_mod_right, Nat.mod_eq_of_lt hlt]
  · refine ⟨?_, by omega⟩
    rw [show x + B ^ n - y = d from by omega, Nat.mod_eq_of_lt hlt]
theorem sum_num {B : Nat} (hB : 0 < B) {n x y : Nat} (hx : x < B ^ n) (hy : y < B ^ n) :
    num B (sumd B (dig B x) (dig B y) 0) n = (x + y) % B ^ n ∧ carry B (dig B x) (dig B y) 0 n = (x + y) / B ^ n := by
  have h := sum_inv (B := B) (x := dig B x) (y := dig B y) (c := 0) n
  rw [num_dig, num_dig, Nat.mod_eq_of_lt hx, Nat.mod_eq_of_lt hy, Nat.add_zero] at h
  have hlt := num_lt hB (z := sumd B (dig B x) (dig B y) 0) n (fun i _ => Nat.mod_lt _ hB)
  rw [← h]
  rw [Nat.mul_comm]
  refine ⟨by rw [Nat.add_mul_mod_self_left, Nat.mod_eq_of_lt hlt], ?_⟩
  rw [Nat.add_mul_div_left _ _ (Nat.pow_pos hB), Nat.div_eq_of_lt hlt, Nat.zero_add]
end Cv
