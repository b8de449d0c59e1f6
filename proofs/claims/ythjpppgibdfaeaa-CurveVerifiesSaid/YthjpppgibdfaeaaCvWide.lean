import Derived.Test.YthjpppgibdfaeaaCvMod
/- Products by columns; what lies above 2^256, folded. Plain. -/
namespace Cv
open Go Go.SX
theorem mask32 {a : Nat} (ha : a < B64) : intb .and .u64 (a : Int) 4294967295 = ((a % 4294967296 : Nat) : Int) := by
  have := and_u64 (a := a) (b := 4294967295) ha (by decide)
  rw [show a &&& 4294967295 = a % 4294967296 from Nat.and_two_pow_sub_one_eq_mod a 32] at this
  exact this
theorem mulN (a b : Nat) : (a : Int) * (b : Int) = ((a * b : Nat) : Int) := (Int.natCast_mul a b).symm
theorem addN (a b : Nat) : (a : Int) + (b : Int) = ((a + b : Nat) : Int) := (Int.natCast_add a b).symm
structure M64 (x y : Nat) : Prop where
  d : x % 4294967296 * (y % 4294967296) < B64
  b : x / 4294967296 * (y % 4294967296) < B64
  t : x / 4294967296 * (y % 4294967296) + x % 4294967296 * (y % 4294967296) / 4294967296 < B64
  c : x % 4294967296 * (y / 4294967296) < B64
  w : (x / 4294967296 * (y % 4294967296) + x % 4294967296 * (y % 4294967296) / 4294967296) % 4294967296 + x % 4294967296 * (y / 4294967296) < B64
  a : x / 4294967296 * (y / 4294967296) < B64
  h1 : x / 4294967296 * (y / 4294967296) + (x / 4294967296 * (y % 4294967296) + x % 4294967296 * (y % 4294967296) / 4294967296) / 4294967296 < B64
  h : x / 4294967296 * (y / 4294967296) + (x / 4294967296 * (y % 4294967296) + x % 4294967296 * (y % 4294967296) / 4294967296) / 4294967296 +
    ((x / 4294967296 * (y % 4294967296) + x % 4294967296 * (y % 4294967296) / 4294967296) % 4294967296 + x % 4294967296 * (y / 4294967296)) / 4294967296 < B64
  eq : x / 4294967296 * (y / 4294967296) + (x / 4294967296 * (y % 4294967296) + x % 4294967296 * (y % 4294967296) / 4294967296) / 4294967296 +
    ((x / 4294967296 * (y % 4294967296) + x % 4294967296 * (y % 4294967296) / 4294967296) % 4294967296 + x % 4294967296 * (y / 4294967296)) / 4294967296 = x * y / B64
theorem m64 {x y : Nat} (hx : x < B64) (hy : y < B64) : M64 x y := by
  unfold B64 at hx hy
  obtain ⟨bd, bt, bw, hhi⟩ := Lib.mul64_hi x y hx hy
  have ba := Lib.half_mul_le (a := x / 4294967296) (b := y / 4294967296) (by omega) (by omega)
  have bb := Lib.half_mul_le (a := x / 4294967296) (b := y % 4294967296) (by omega) (by omega)
  have bc := Lib.half_mul_le (a := x % 4294967296) (b := y / 4294967296) (by omega) (by omega)
  refine ⟨bd, ?_, bt, ?_, bw, ?_, ?_, ?_, hhi⟩ <;> unfold B64 <;> omega
/-- one word changed -/
def chg (t : Nat → Nat) (m v : Nat) (j : Nat) : Nat := if j = m then v else t j
theorem chg_set {k : IntKind} {n m v : Nat} {t : Nat → Nat} : (cells k n t).set m (.int k (v : Int)) = cells k n (chg t m v) := cells_set
theorem num_chg {B : Nat} {t : Nat → Nat} {m v : Nat} : ∀ n, m < n → num B (chg t m v) n + t m * B ^ m = num B t n + v * B ^ m
  | 0, h => by omega
  | n + 1, h => by
    simp only [num]
    by_cases he : n = m
    · subst he
      have : num B (chg t n v) n = num B t n := num_congr n fun i hi => if_neg (by omega)
      rw [this]; simp only [chg, if_true]; omega
    · have ih := num_chg (B := B) (t := t) (m := m) (v := v) n (by omega)
      simp only [show chg t m v n = t n from by simp [chg, he]]
      omega
theorem chg_lt {B : Nat} {t : Nat → Nat} {m v : Nat} (ht : ∀ j, t j < B) (hv : v < B) : ∀ j, chg t m v j < B := by
  intro j; unfold chg; split
  · exact hv
  · exact ht j
/-- a times b, and what stands there, and the carry -/
structure Mac (a b t c : Nat) : Prop where
  hi : a * b / B64 + (a * b % B64 + c) / B64 < B64
  hj : a * b / B64 + (a * b % B64 + c) / B64 + (t + (a * b % B64 + c) % B64) / B64 < B64
  low : (t + (a * b % B64 + c) % B64) % B64 = (t + a * b + c) % B64
  up : a * b / B64 + (a * b % B64 + c) / B64 + (t + (a * b % B64 + c) % B64) / B64 = (t + a * b + c) / B64
theorem mac {a b t c : Nat} (ha : a < B64) (hb : b < B64) (ht : t < B64) (hc : c < B64) : Mac a b t c := by
  have h1 : a * b ≤ (B64 - 1) * (B64 - 1) := Nat.mul_le_mul (by omega) (by omega)
  have e : (B64 - 1) * (B64 - 1) = 340282366920938463426481119284349108225 := by decide
  rw [e] at h1
  have key : ∀ p : Nat, p ≤ 340282366920938463426481119284349108225 → p / B64 + (p % B64 + c) / B64 < B64 ∧ p / B64 + (p % B64 + c) / B64 + (t + (p % B64 + c) % B64) / B64 < B64 ∧
      (t + (p % B64 + c) % B64) % B64 = (t + p + c) % B64 ∧ p / B64 + (p % B64 + c) / B64 + (t + (p % B64 + c) % B64) / B64 = (t + p + c) / B64 := by
    intro p hp
    unfold B64 at *
    refine ⟨?_, ?_, ?_, ?_⟩ <;> omega
  obtain ⟨k1, k2, k3, k4⟩ := key _ h1
  exact ⟨k1, k2, k3, k4⟩
theorem mac_lt {a b t c : Nat} (ha : a < B64) (hb : b < B64) (ht : t < B64) (hc : c < B64) : (t + a * b + c) / B64 < B64 := by
  have := (mac ha hb ht hc).hj; rw [(mac ha hb ht hc).up] at this; exact this
theorem mac_set {t : Nat → Nat} {a b c m : Nat} (q : Mac a b (t m) c) {v : Value} (hv : v = .int .u64 (((t m + (a * b % B64 + c) % B64) % B64 : Nat) : Int)) : (cells .u64 8 t).set m v = cells .u64 8 (chg t m ((t m + a * b + c) % B64)) := by
  rw [hv, q.low]; exact chg_set
/-- a row's step -/
theorem row_step {t : Nat → Nat} {a b c m n V : Nat} (hm : m < n) (h : num B64 t n + c * B64 ^ m = V) :
    num B64 (chg t m ((t m + a * b + c) % B64)) n + (t m + a * b + c) / B64 * B64 ^ (m + 1) = V + a * b * B64 ^ m := by
  have h1 := num_chg (B := B64) (t := t) (m := m) (v := (t m + a * b + c) % B64) n hm
  have h2 := Nat.div_add_mod (t m + a * b + c) B64
  generalize (t m + a * b + c) % B64 = v at *
  generalize (t m + a * b + c) / B64 = q at *
  have e1 : q * B64 ^ (m + 1) = B64 * q * B64 ^ m := by rw [Nat.pow_succ, Nat.mul_comm (B64 ^ m) B64, ← Nat.mul_assoc, Nat.mul_comm q B64]
  have e2 := congrArg (· * B64 ^ m) h2
  simp only [Nat.add_mul] at e2
  rw [e1]
  omega
theorem num_zero {B : Nat} : ∀ n, num B (fun _ => 0) n = 0
  | 0 => rfl
  | n + 1 => by simp [num, num_zero n]
theorem num_x {x : Nat} (hx : x < R) : num B64 (dig B64 x) 4 = x := by rw [num_dig, R_64, Nat.mod_eq_of_lt hx]
/-- rows of a product: ahead of a row; and within it -/
structure MulO (x y : Nat) (q : Nat × (Nat → Nat)) : Prop where
  le : q.1 ≤ 4
  lt : ∀ j, q.2 j < B64
  eq : num B64 q.2 8 = num B64 (dig B64 x) q.1 * y
  zero : ∀ j, q.1 + 4 ≤ j → q.2 j = 0
structure MulI (x y i : Nat) (q : Nat × (Nat → Nat) × Nat) : Prop where
  le : q.1 ≤ 4
  lt : ∀ j, q.2.1 j < B64
  c : q.2.2 < B64
  eq : num B64 q.2.1 8 + q.2.2 * B64 ^ (i + q.1) = num B64 (dig B64 x) i * y + dig B64 x i * num B64 (dig B64 y) q.1 * B64 ^ i
  zero : ∀ j, i + 4 ≤ j → q.2.1 j = 0
theorem mulO_0 (x y : Nat) : MulO x y (0, fun _ => 0) := ⟨by omega, fun _ => B64_pos, (num_zero 8).trans (Nat.zero_mul y).symm, fun _ _ => rfl⟩
theorem mulI_0e {a b d e p : Nat} {z : Nat → Nat} (h : a = b) : a + 0 * p = b + d * num B64 z 0 * e := by
  have : num B64 z 0 = 0 := rfl
  rw [this, Nat.zero_mul, Nat.mul_zero, Nat.zero_mul, h]
theorem mulI_0 {x y i : Nat} {t : Nat → Nat} (h : MulO x y (i, t)) : MulI x y i (0, t, 0) := ⟨by omega, h.lt, B64_pos, mulI_0e h.eq, h.zero⟩
theorem mulI_step {x y i k c : Nat} {t : Nat → Nat} (hi : i < 4) (hk : k < 4) (h : MulI x y i (k, t, c)) :
    MulI x y i (k + 1, chg t (i + k) ((t (i + k) + dig B64 x i * dig B64 y k + c) % B64), (t (i + k) + dig B64 x i * dig B64 y k + c) / B64) := by
  refine ⟨by show k + 1 ≤ 4; omega, chg_lt h.lt (Nat.mod_lt _ B64_pos), mac_lt (dig_lt B64_pos _ _) (dig_lt B64_pos _ _) (h.lt _) h.c, ?_, fun j hj => ?_⟩
  · have h1 := row_step (a := dig B64 x i) (b := dig B64 y k) (m := i + k) (n := 8) (by omega) h.eq
    simp only at h1 ⊢
    rw [show i + (k + 1) = i + k + 1 from by omega, h1]
    simp only [num]
    rw [Nat.mul_add, Nat.add_mul, Nat.add_assoc, Nat.pow_add]
    congr 2
    rw [Nat.mul_comm (B64 ^ i) (B64 ^ k), ← Nat.mul_assoc, ← Nat.mul_assoc]
  · have := h.zero j hj
    simp only at this ⊢
    rw [chg, if_neg (by omega)]; exact this
theorem mulO_step {x y i c : Nat} {t : Nat → Nat} (hi : i < 4) (hy : y < R) (h : MulI x y i (4, t, c)) : MulO x y (i + 1, chg t (i + 4) c) := by
  refine ⟨by show i + 1 ≤ 4; omega, chg_lt h.lt h.c, ?_, fun j hj => ?_⟩
  · have h1 := num_chg (B := B64) (t := t) (m := i + 4) (v := c) 8 (by omega)
    have h2 := h.zero (i + 4) (Nat.le_refl _)
    have h3 := h.eq
    simp only at h2 h3 ⊢
    rw [h2, Nat.zero_mul, Nat.add_zero] at h1
    rw [h1, h3, num_x hy]
    simp only [num]
    rw [Nat.add_mul]
    congr 1
    rw [Nat.mul_assoc, Nat.mul_comm y, ← Nat.mul_assoc]
  · have := h.zero j (by simp only at hj; omega)
    simp only at this hj ⊢
    rw [chg, if_neg (by omega)]; exact this
theorem mulO_end {x y : Nat} {t : Nat → Nat} (hx : x < R) (h : MulO x y (4, t)) : num B64 t 8 = x * y := by
  have := h.eq; simp only at this; rw [this, num_x hx]
/-! what lies above 2^256, folded -/
def hig (t : Nat → Nat) (j : Nat) : Nat := t (4 + j)
def loz (t : Nat → Nat) (j : Nat) : Nat := if j < 4 then t j else 0
structure FoldO (T m : Nat) (t : Nat → Nat) : Prop where
  lt : ∀ j, t j < B64
  eq : num B64 t 8 % m = T % m
structure FoldI (m : Nat) (t0 : Nat → Nat) (q : Nat × (Nat → Nat)) : Prop where
  le : q.1 ≤ 4
  lt : ∀ j, q.2 j < B64
  eq : num B64 q.2 8 = num B64 t0 4 + num B64 (hig t0) q.1 * (R - m)
structure FoldK (m : Nat) (t0 : Nat → Nat) (i : Nat) (q : Nat × (Nat → Nat) × Nat) : Prop where
  le : q.1 ≤ 3
  lt : ∀ j, q.2.1 j < B64
  c : q.2.2 < B64
  eq : num B64 q.2.1 8 + q.2.2 * B64 ^ (i + q.1) = num B64 t0 4 + num B64 (hig t0) i * (R - m) + hig t0 i * num B64 (dig B64 (R - m)) q.1 * B64 ^ i
structure FoldC (m : Nat) (t0 : Nat → Nat) (i : Nat) (q : Nat × (Nat → Nat) × Nat) : Prop where
  le : i + 3 ≤ q.1
  lt : ∀ j, q.2.1 j < B64
  c : q.2.2 < B64
  eq : num B64 q.2.1 8 + q.2.2 * B64 ^ q.1 = num B64 t0 4 + num B64 (hig t0) (i + 1) * (R - m)
theorem num_mono {B : Nat} {z : Nat → Nat} {a : Nat} : ∀ b, num B z a ≤ num B z (a + b)
  | 0 => Nat.le_refl _
  | b + 1 => by
    have := num_mono (B := B) (z := z) (a := a) b
    rw [← Nat.add_assoc, num]; omega
theorem num8 (t : Nat → Nat) : num B64 t 8 = num B64 t 4 + R * num B64 (hig t) 4 := by
  rw [← R_64]; exact num_split 4 4
theorem fold_lt {m : Nat} {t0 : Nat → Nat} (hm : Mo m) (ht : ∀ j, t0 j < B64) {i : Nat} (hi : i ≤ 4) : num B64 t0 4 + num B64 (hig t0) i * (R - m) < B64 ^ 8 := by
  have h1 := num8 t0
  have h2 := num_lt B64_pos (z := t0) 8 (fun j _ => ht j)
  have h3 := num_mono (B := B64) (z := hig t0) (a := i) (4 - i)
  rw [show i + (4 - i) = 4 from by omega] at h3
  have h4 : num B64 (hig t0) i * (R - m) ≤ num B64 (hig t0) 4 * R := Nat.mul_le_mul h3 (by omega)
  rw [Nat.mul_comm R] at h1
  omega
theorem d_num {m : Nat} (hm : Mo m) : num B64 (dig B64 (R - m)) 3 = R - m := by
  rw [num_dig, Nat.mod_eq_of_lt]
  refine Nat.lt_trans hm.near (by decide)
theorem foldI_0 (m : Nat) {t : Nat → Nat} (ht : ∀ j, t j < B64) : FoldI m t (0, loz t) := by
  refine ⟨by omega, fun j => ?_, ?_⟩
  · show loz t j < B64
    unfold loz; split
    · exact ht j
    · exact B64_pos
  · show num B64 (loz t) 8 = num B64 t 4 + num B64 (hig t) 0 * (R - m)
    have e0 : num B64 (hig t) 0 = 0 := rfl
    rw [num8 (loz t), e0, Nat.zero_mul, Nat.add_zero, num_congr (z := hig (loz t)) (z' := fun _ => 0) 4 (fun i _ => if_neg (by omega)), num_zero, Nat.mul_zero, Nat.add_zero]
    exact num_congr 4 fun i hi => by simp [loz, hi]
theorem foldK_0 {m i : Nat} {t0 t : Nat → Nat} (h : FoldI m t0 (i, t)) : FoldK m t0 i (0, t, 0) := ⟨by omega, h.lt, B64_pos, mulI_0e h.eq⟩
theorem foldK_step {m i k c : Nat} {t0 t : Nat → Nat} (hi : i < 4) (hk : k < 3) (h0 : ∀ j, t0 j < B64) (h : FoldK m t0 i (k, t, c)) :
    FoldK m t0 i (k + 1, chg t (i + k) ((t (i + k) + hig t0 i * dig B64 (R - m) k + c) % B64), (t (i + k) + hig t0 i * dig B64 (R - m) k + c) / B64) := by
  refine ⟨by show k + 1 ≤ 3; omega, chg_lt h.lt (Nat.mod_lt _ B64_pos), mac_lt (h0 _) (dig_lt B64_pos _ _) (h.lt _) h.c, ?_⟩
  have h1 := row_step (a := hig t0 i) (b := dig B64 (R - m) k) (m := i + k) (n := 8) (by omega) h.eq
  simp only at h1 ⊢
  rw [show i + (k + 1) = i + k + 1 from by omega, h1]
  simp only [num]
  rw [Nat.mul_add, Nat.add_mul, ← Nat.add_assoc, Nat.pow_add]
  congr 1
  rw [Nat.mul_comm (B64 ^ i) (B64 ^ k), ← Nat.mul_assoc, ← Nat.mul_assoc]
theorem foldC_0 {m i c : Nat} {t0 t : Nat → Nat} (hm : Mo m) (h : FoldK m t0 i (3, t, c)) : FoldC m t0 i (i + 3, t, c) := by
  refine ⟨Nat.le_refl _, h.lt, h.c, ?_⟩
  have h1 := h.eq
  simp only at h1 ⊢
  rw [h1, d_num hm]
  simp only [num]
  rw [Nat.add_mul, ← Nat.add_assoc]
  congr 1
  rw [Nat.mul_assoc, Nat.mul_assoc, Nat.mul_comm (R - m)]
theorem foldC_lt {m i k c : Nat} {t0 t : Nat → Nat} (hm : Mo m) (h0 : ∀ j, t0 j < B64) (hi : i < 4) (h : FoldC m t0 i (k, t, c)) (hc : c ≠ 0) : k < 8 := by
  have h1 := h.eq
  have h2 := fold_lt hm h0 (i := i + 1) (by omega)
  simp only at h1
  rw [← h1] at h2
  rcases Nat.lt_or_ge k 8 with hk | hk
  · exact hk
  · exfalso
    have h3 : B64 ^ 8 ≤ B64 ^ k := Nat.pow_le_pow_right B64_pos hk
    have h4 : 1 * B64 ^ k ≤ c * B64 ^ k := Nat.mul_le_mul_right _ (by omega)
    omega
theorem foldC_step {m i k c : Nat} {t0 t : Nat → Nat} (hk : k < 8) (h : FoldC m t0 i (k, t, c)) : FoldC m t0 i (k + 1, chg t k ((t k + c) % B64), (t k + c) / B64) := by
  have hle := h.le
  have hc := h.c
  have ht := h.lt k
  refine ⟨by simp only at hle ⊢; omega, chg_lt h.lt (Nat.mod_lt _ B64_pos), by simp only at hc ht ⊢; unfold B64 at *; omega, ?_⟩
  have h1 := row_step (a := 0) (b := 0) (m := k) (n := 8) hk h.eq
  simp only [Nat.mul_zero, Nat.add_zero, Nat.zero_mul] at h1 ⊢
  exact h1
theorem zmul {a p b : Nat} (h : a + 0 * p = b) : a = b := by rw [Nat.zero_mul] at h; exact h
theorem foldI_step {m i k : Nat} {t0 t : Nat → Nat} (hi : i < 4) (h : FoldC m t0 i (k, t, 0)) : FoldI m t0 (i + 1, t) := by
  refine ⟨by show i + 1 ≤ 4; omega, h.lt, ?_⟩
  exact zmul h.eq
theorem fold_arith {a h d m r : Nat} (hr : r = d + m) : (a + h * d) % m = (a + r * h) % m := by
  rw [hr, Nat.mul_comm (d + m), Nat.mul_add, ← Nat.add_assoc, Nat.add_mul_mod_self_right]
theorem foldO_step {T m : Nat} {t0 t : Nat → Nat} (hm : Mo m) (h0 : FoldO T m t0) (h : FoldI m t0 (4, t)) : FoldO T m t := by
  refine ⟨h.lt, ?_⟩
  have h1 := h.eq
  have h2 := h0.eq
  simp only at h1
  rw [← h2, h1, num8 t0]
  exact fold_arith (by have := hm.lt; omega)
theorem fold_down {m : Nat} {t0 t : Nat → Nat} (hm : Mo m) (h : FoldI m t0 (4, t)) (hz : num B64 (hig t0) 4 ≠ 0) : num B64 t 8 < num B64 t0 8 := by
  have h1 := h.eq
  simp only at h1
  rw [h1, num8 t0, Nat.mul_comm R]
  have h2 : num B64 (hig t0) 4 * (R - m) < num B64 (hig t0) 4 * R := Nat.mul_lt_mul_of_pos_left (by have := hm.pos; have := hm.lt; omega) (by omega)
  omega
theorem fold_end {T m : Nat} {t : Nat → Nat} (h : FoldO T m t) (h4 : t 4 = 0) (h5 : t 5 = 0) (h6 : t 6 = 0) (h7 : t 7 = 0) : num B64 t 4 % m = T % m := by
  rw [← h.eq, num8 t]
  have : num B64 (hig t) 4 = 0 := by simp [num, hig, h4, h5, h6, h7]
  rw [this, Nat.mul_zero, Nat.add_zero]
theorem fold_ne {t : Nat → Nat} (h : num B64 (hig t) 4 = 0) : t 4 = 0 ∧ t 5 = 0 ∧ t 6 = 0 ∧ t 7 = 0 := by
  simp only [num, hig, Nat.zero_add, Nat.add_zero, Nat.add_eq_zero_iff] at h
  simp [B64] at h
  omega
theorem loz_blk (t : Nat → Nat) (r : Bool) : BlkEq ⟨[.many 4 ((cells .u64 8 t).take 4), .one (.int .u64 0), .one (.int .u64 0), .one (.int .u64 0), .one (.int .u64 0)], r⟩ ⟨[.many 8 (cells .u64 8 (loz t))], r⟩ :=
  ⟨rfl, fun _ => rfl, fun _ _ => cells_ok _ _ _⟩
end Cv
