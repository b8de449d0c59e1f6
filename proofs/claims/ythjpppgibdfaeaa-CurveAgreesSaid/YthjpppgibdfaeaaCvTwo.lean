/- CvTwo: a part of the proof: lemmas alone, of no statement. -/
import Derived.Test.YthjpppgibdfaeaaCvOne
/- The reference's numbers of eight words: comparison, differences, products, what lies above 2^256. Plain. -/
namespace Cv
open Go Go.SX
theorem V_num {x : Nat} (hx : x < R) : num B32 (dig B32 x) 8 = x := by rw [num_dig, R_32, Nat.mod_eq_of_lt hx]
theorem V_1 : (List.replicate 8 (.int .u32 0)).set 0 (.int .u32 1) = V 1 := rfl
theorem V_ne {a b : Nat} (ha : a < R) (hb : b < R) (h : (!decide ((V a ++ []).map toI = (V b ++ []).map toI)) = true) : a ≠ b := by
  simp only [List.append_nil, V_eq ha hb, Bool.not_eq_true', decide_eq_false_iff_not] at h; exact h
theorem V_nne {a b : Nat} (ha : a < R) (hb : b < R) (h : (!decide ((V a ++ []).map toI = (V b ++ []).map toI)) = false) : a = b := by
  simp only [List.append_nil, V_eq ha hb, Bool.not_eq_false', decide_eq_true_eq] at h; exact h
/-! which is the lesser: from the upper word on -/
theorem div_top {x y n : Nat} (hx : x < R) (hy : y < R) (h : ∀ l, n ≤ l → l < 8 → dig B32 x l = dig B32 y l) : x / B32 ^ n = y / B32 ^ n := by
  by_cases hn : n ≤ 8
  · have key : ∀ k, k ≤ 8 - n → x / B32 ^ (8 - k) = y / B32 ^ (8 - k) := by
      intro k
      induction k with
      | zero => intro _; rw [Nat.sub_zero, R_32, Nat.div_eq_of_lt hx, Nat.div_eq_of_lt hy]
      | succ k ih =>
        intro hk
        have i1 := ih (by omega)
        have i2 := h (8 - (k + 1)) (by omega) (by omega)
        unfold dig at i2
        rw [show 8 - k = (8 - (k + 1)) + 1 from by omega, Nat.pow_succ, ← Nat.div_div_eq_div_mul, ← Nat.div_div_eq_div_mul] at i1
        have e1 := Nat.div_add_mod (x / B32 ^ (8 - (k + 1))) B32
        have e2 := Nat.div_add_mod (y / B32 ^ (8 - (k + 1))) B32
        rw [i1, i2] at e1
        omega
    have := key (8 - n) (Nat.le_refl _)
    rw [show 8 - (8 - n) = n from by omega] at this
    exact this
  · have : R ≤ B32 ^ n := by rw [← R_32]; exact Nat.pow_le_pow_right B32_pos (by omega)
    rw [Nat.div_eq_of_lt (by omega), Nat.div_eq_of_lt (by omega)]
theorem less_at {x y i : Nat} (hx : x < R) (hy : y < R) (h : ∀ l, i + 1 ≤ l → l < 8 → dig B32 x l = dig B32 y l) (hne : dig B32 x i ≠ dig B32 y i) : (decide (((dig B32 x i : Nat) : Int) < ((dig B32 y i : Nat) : Int))) = decide (x < y) := by
  have h1 := div_top hx hy h
  unfold dig at hne
  rw [Nat.pow_succ, ← Nat.div_div_eq_div_mul, ← Nat.div_div_eq_div_mul] at h1
  have e1 := Nat.div_add_mod (x / B32 ^ i) B32
  have e2 := Nat.div_add_mod (y / B32 ^ i) B32
  rw [h1] at e1
  have hB : 0 < B32 ^ i := Nat.pow_pos B32_pos
  have key : ∀ {u v : Nat}, u / B32 ^ i < v / B32 ^ i → u < v := by
    intro u v huv
    have a1 := Nat.div_add_mod' v (B32 ^ i)
    have a2 : u < u / B32 ^ i * B32 ^ i + B32 ^ i := Nat.lt_div_mul_add hB
    have a3 : (u / B32 ^ i + 1) * B32 ^ i ≤ v / B32 ^ i * B32 ^ i := Nat.mul_le_mul_right _ huv
    rw [Nat.add_mul, Nat.one_mul] at a3
    generalize v % B32 ^ i = r at *
    omega
  unfold dig
  rw [Bool.eq_iff_iff, decide_eq_true_eq, decide_eq_true_eq]
  constructor
  · intro hlt
    exact key (by omega)
  · intro hlt
    rcases Nat.lt_or_ge (x / B32 ^ i % B32) (y / B32 ^ i % B32) with hh | hh
    · omega
    · have := key (u := y) (v := x) (by omega)
      omega
theorem less_not {x y : Nat} (hx : x < R) (hy : y < R) (h : ∀ l, l < 8 → dig B32 x l = dig B32 y l) : false = decide (x < y) := by
  have := div_top (n := 0) hx hy (fun l _ hl => h l hl)
  simp only [Nat.pow_zero, Nat.div_one] at this
  subst this; simp
/-! of 32 bytes -/
def numV (f : Nat → Nat) (st k w : Nat) : Nat := be (fun i => f (st + (4 * (7 - w) + i))) (min (k - 4 * (7 - w)) 4)
theorem numV_lt {f : Nat → Nat} (hf : ∀ i, f i < 256) {st k : Nat} : numV f st k (7 - k / 4) < 16777216 ∨ 32 ≤ k := by
  rcases Nat.lt_or_ge k 32 with hk | hk
  · left
    have := be_lt (f := fun i => f (st + (4 * (7 - (7 - k / 4)) + i))) (min (k - 4 * (7 - (7 - k / 4))) 4) (fun i _ => hf _)
    refine Nat.lt_of_lt_of_le this ?_
    rw [show (16777216 : Nat) = 256 ^ 3 from rfl]
    exact Nat.pow_le_pow_right (by decide) (by omega)
  · exact .inr hk
theorem numV_step {f : Nat → Nat} {st k : Nat} (hk : k < 32) : (cells .u32 8 (numV f st k)).set (7 - k / 4) (.int .u32 ((numV f st k (7 - k / 4) * 256 + f (st + k) : Nat) : Int)) = cells .u32 8 (numV f st (k + 1)) := by
  rw [cells_set]
  refine cells_congr fun i hi => ?_
  by_cases h : i = 7 - k / 4
  · subst h
    rw [if_pos rfl]
    unfold numV
    rw [show min (k + 1 - 4 * (7 - (7 - k / 4))) 4 = min (k - 4 * (7 - (7 - k / 4))) 4 + 1 from by omega, be]
    rw [show st + (4 * (7 - (7 - k / 4)) + min (k - 4 * (7 - (7 - k / 4))) 4) = st + k from by omega]
  · rw [if_neg h]
    unfold numV
    rw [show min (k + 1 - 4 * (7 - i)) 4 = min (k - 4 * (7 - i)) 4 from by omega]
theorem numV_0 (f : Nat → Nat) (st : Nat) : List.replicate 8 (.int .u32 0) = cells .u32 8 (numV f st 0) := (cells_zero _ _).trans (cells_congr fun i _ => by simp [numV, be])
theorem be_words32 (f : Nat → Nat) : num B32 (fun w => be (fun i => f (4 * (7 - w) + i)) 4) 8 = be f 32 := by
  have e : ∀ k, k ≤ 8 → num B32 (fun w => be (fun i => f (4 * (7 - w) + i)) 4) k = be (fun i => f (32 - 4 * k + i)) (4 * k) := by
    intro k
    induction k with
    | zero => intro _; rfl
    | succ k ih =>
      intro hk
      have h1 := be_split (fun i => f (32 - 4 * (k + 1) + i)) 4 (4 * k)
      rw [show 4 * (k + 1) = 4 + 4 * k from by omega] at *
      rw [h1, num, ih (by omega)]
      have e1 : be (fun i => f (32 - (4 + 4 * k) + (4 + i))) (4 * k) = be (fun i => f (32 - 4 * k + i)) (4 * k) := be_congr _ fun i _ => by congr 1; omega
      have e2 : be (fun i => f (4 * (7 - k) + i)) 4 = be (fun i => f (32 - (4 + 4 * k) + i)) 4 := be_congr _ fun i _ => by congr 1; omega
      rw [e1, e2, show B32 = 256 ^ 4 from rfl, ← Nat.pow_mul]
      omega
  have := e 8 (Nat.le_refl _)
  rw [this]
  exact be_congr _ fun i _ => by congr 1; omega
theorem numV_end {f : Nat → Nat} (hf : ∀ i, f i < 256) (st : Nat) : cells .u32 8 (numV f st 32) = V (be (fun i => f (st + i)) 32) := by
  rw [← be_words32, ← num_congr (z := numV f st 32) 8 (fun w hw => by unfold numV; rw [show min (32 - 4 * (7 - w)) 4 = 4 from by omega])]
  refine V_of ?_
  intro w hw
  unfold numV
  have := be_lt (f := fun i => f (st + (4 * (7 - w) + i))) (min (32 - 4 * (7 - w)) 4) (fun i _ => hf _)
  refine Nat.lt_of_lt_of_le this ?_
  rw [show B32 = 256 ^ 4 from rfl]
  exact Nat.pow_le_pow_right (by decide) (by omega)
theorem byte_word32 {x i : Nat} (_hi : i < 32) : (dig B32 x (7 - i / 4) / 2 ^ (24 - 8 * (i % 4))) % 256 = dig 256 x (31 - i) := by
  simp only [dig]
  rw [show B32 = 2 ^ 32 from rfl, show (256 : Nat) = 2 ^ 8 from rfl, ← Nat.pow_mul, ← Nat.pow_mul]
  have e : (2 : Nat) ^ 32 = 2 ^ (24 - 8 * (i % 4)) * 2 ^ (8 + 8 * (i % 4)) := by rw [← Nat.pow_add]; congr 1; omega
  rw [e, Nat.mod_mul_right_div_self, Nat.div_div_eq_div_mul, ← Nat.pow_add, Nat.pow_add 2 8, Nat.mod_mul_right_mod]
  congr 2
  congr 1; omega
/-! differences -/
theorem dif_word {a b c : Nat} (ha : a < B32) (hb : b < B32) (hc : c ≤ 1) (h : (a : Int) - (b : Int) - (c : Int) < 0) : (a : Int) - (b : Int) - (c : Int) + 4294967296 = (((a + B32 - b - c) % B32 : Nat) : Int) ∧ (if a < b + c then 1 else 0) = 1 := by
  unfold B32 at *
  rw [Nat.mod_eq_of_lt (by omega)]
  exact ⟨by omega, if_pos (by omega)⟩
theorem dif_word' {a b c : Nat} (ha : a < B32) (hb : b < B32) (hc : c ≤ 1) (h : ¬ (a : Int) - (b : Int) - (c : Int) < 0) : (a : Int) - (b : Int) - (c : Int) = (((a + B32 - b - c) % B32 : Nat) : Int) ∧ (if a < b + c then 1 else 0) = 0 := by
  unfold B32 at *
  rw [show a + 4294967296 - b - c = a - b - c + 4294967296 from by omega, Nat.add_mod_right, Nat.mod_eq_of_lt (by omega)]
  exact ⟨by omega, if_neg (by omega)⟩
theorem minus_out {x y : Nat} (hx : x < R) (hy : y < R) : V (num B32 (difd B32 (dig B32 x) (dig B32 y)) 8) = V ((x + R - y) % R) := by
  have := (dif_num B32_pos (n := 8) (x := x) (y := y) (R_32 ▸ hx) (R_32 ▸ hy)).1
  rw [this, R_32]
/-! products by columns -/
theorem rowB {B : Nat} {t : Nat → Nat} {p c m n X : Nat} (hm : m < n) (h : num B t n + c * B ^ m = X) :
    num B (chg t m ((p + t m + c) % B)) n + (p + t m + c) / B * B ^ (m + 1) = X + p * B ^ m := by
  have h1 := num_chg (B := B) (t := t) (m := m) (v := (p + t m + c) % B) n hm
  have h2 := Nat.div_add_mod (p + t m + c) B
  generalize (p + t m + c) % B = v at *
  generalize (p + t m + c) / B = q at *
  have e1 : q * B ^ (m + 1) = B * q * B ^ m := by rw [Nat.pow_succ, Nat.mul_comm (B ^ m) B, ← Nat.mul_assoc, Nat.mul_comm q B]
  have e2 := congrArg (· * B ^ m) h2
  simp only [Nat.add_mul] at e2
  rw [e1]
  omega
theorem mac32 {a b t c : Nat} (ha : a < B32) (hb : b < B32) (ht : t < B32) (hc : c < B32) : a * b + t + c < B64 ∧ a * b < B64 ∧ a * b + t < B64 ∧ (a * b + t + c) / B32 < B32 := by
  have h1 : a * b ≤ (B32 - 1) * (B32 - 1) := Nat.mul_le_mul (by omega) (by omega)
  rw [show (B32 - 1) * (B32 - 1) = 18446744065119617025 from by decide] at h1
  generalize a * b = p at *
  unfold B32 B64 at *
  refine ⟨?_, ?_, ?_, ?_⟩ <;> omega
structure RMulO (x y : Nat) (q : Nat × (Nat → Nat)) : Prop where
  le : q.1 ≤ 8
  lt : ∀ j, q.2 j < B32
  eq : num B32 q.2 17 = num B32 (dig B32 x) q.1 * y
  zero : ∀ j, q.1 + 8 ≤ j → q.2 j = 0
structure RMulI (x y i : Nat) (q : Nat × (Nat → Nat) × Nat) : Prop where
  le : q.1 ≤ 8
  lt : ∀ j, q.2.1 j < B32
  c : q.2.2 < B32
  eq : num B32 q.2.1 17 + q.2.2 * B32 ^ (i + q.1) = num B32 (dig B32 x) i * y + dig B32 x i * num B32 (dig B32 y) q.1 * B32 ^ i
  zero : ∀ j, i + 8 ≤ j → q.2.1 j = 0
theorem rmulO_0 (x y : Nat) : RMulO x y (0, fun _ => 0) := ⟨by omega, fun _ => B32_pos, (num_zero 17).trans (Nat.zero_mul y).symm, fun _ _ => rfl⟩
theorem r0e {B a b d e p : Nat} {z : Nat → Nat} (h : a = b) : a + 0 * p = b + d * num B z 0 * e := by
  have : num B z 0 = 0 := rfl
  rw [this, Nat.zero_mul, Nat.mul_zero, Nat.zero_mul, h]
theorem rmulI_0 {x y i : Nat} {t : Nat → Nat} (h : RMulO x y (i, t)) : RMulI x y i (0, t, 0) := ⟨by omega, h.lt, B32_pos, r0e h.eq, h.zero⟩
theorem rmulI_step {x y i k c : Nat} {t : Nat → Nat} (hi : i < 8) (hk : k < 8) (h : RMulI x y i (k, t, c)) :
    RMulI x y i (k + 1, chg t (i + k) ((dig B32 x i * dig B32 y k + t (i + k) + c) % B32), (dig B32 x i * dig B32 y k + t (i + k) + c) / B32) := by
  refine ⟨by show k + 1 ≤ 8; omega, chg_lt h.lt (Nat.mod_lt _ B32_pos), (mac32 (dig_lt B32_pos _ _) (dig_lt B32_pos _ _) (h.lt _) h.c).2.2.2, ?_, fun j hj => ?_⟩
  · have h1 := rowB (p := dig B32 x i * dig B32 y k) (m := i + k) (n := 17) (by omega) h.eq
    simp only at h1 ⊢
    rw [show i + (k + 1) = i + k + 1 from by omega, h1]
    simp only [num]
    rw [Nat.mul_add, Nat.add_mul, Nat.add_assoc, Nat.pow_add]
    congr 2
    rw [Nat.mul_comm (B32 ^ i) (B32 ^ k), ← Nat.mul_assoc, ← Nat.mul_assoc]
  · have := h.zero j hj
    simp only at this ⊢
    rw [chg, if_neg (by omega)]; exact this
theorem rmulO_step {x y i c : Nat} {t : Nat → Nat} (hi : i < 8) (hy : y < R) (h : RMulI x y i (8, t, c)) : RMulO x y (i + 1, chg t (i + 8) c) := by
  refine ⟨by show i + 1 ≤ 8; omega, chg_lt h.lt h.c, ?_, fun j hj => ?_⟩
  · have h1 := num_chg (B := B32) (t := t) (m := i + 8) (v := c) 17 (by omega)
    have h2 := h.zero (i + 8) (Nat.le_refl _)
    have h3 := h.eq
    simp only at h2 h3 ⊢
    rw [h2, Nat.zero_mul, Nat.add_zero] at h1
    rw [h1, h3, V_num hy]
    simp only [num]
    rw [Nat.add_mul]
    congr 1
    rw [Nat.mul_assoc, Nat.mul_comm y, ← Nat.mul_assoc]
  · have := h.zero j (by simp only at hj; omega)
    simp only at this hj ⊢
    rw [chg, if_neg (by omega)]; exact this
theorem rmulO_end {x y : Nat} {t : Nat → Nat} (hx : x < R) (h : RMulO x y (8, t)) : num B32 t 17 = x * y := by
  have := h.eq; simp only at this; rw [this, V_num hx]
/-! sums: nine words of seventeen -/
def sum9 (x y i : Nat) : Nat := if i < 8 then sumd B32 (dig B32 x) (dig B32 y) 0 i else if i = 8 then carry B32 (dig B32 x) (dig B32 y) 0 8 else 0
theorem sum9_lt (x y i : Nat) : sum9 x y i < B32 := by
  unfold sum9; split
  · exact sumd_lt B32_pos _ _ _ _
  · split
    · have := carry_le B32_pos (x := dig B32 x) (y := dig B32 y) (c := 0) (n := 8) (fun i _ => dig_lt B32_pos _ _) (fun i _ => dig_lt B32_pos _ _) (by omega) 8 (by omega)
      exact Nat.lt_of_le_of_lt this (by decide)
    · exact B32_pos
theorem sum9_num {x y : Nat} (hx : x < R) (hy : y < R) : num B32 (sum9 x y) 17 = x + y := by
  have h := sum_inv (B := B32) (x := dig B32 x) (y := dig B32 y) (c := 0) 8
  rw [V_num hx, V_num hy, Nat.add_zero] at h
  have h2 : num B32 (sum9 x y) 8 = num B32 (sumd B32 (dig B32 x) (dig B32 y) 0) 8 := num_congr 8 fun i hi => if_pos hi
  have h4 : sum9 x y 8 = carry B32 (dig B32 x) (dig B32 y) 0 8 := (if_neg (by omega)).trans (if_pos rfl)
  have h5 : num B32 (fun j => sum9 x y (9 + j)) 8 = 0 := (num_congr (z' := fun _ => 0) 8 fun j _ => (if_neg (by omega)).trans (if_neg (by omega))).trans (num_zero 8)
  have h6 : num B32 (sum9 x y) 9 = x + y := by rw [← h, ← h2, ← h4]; rfl
  have h3 := num_split (B := B32) (z := sum9 x y) 9 8
  rw [h5, h6, Nat.mul_zero, Nat.add_zero] at h3
  exact h3
theorem sum9_step {x y k : Nat} (hk : k < 8) {v : Nat} (hv : v = sumd B32 (dig B32 x) (dig B32 y) 0 k) : (cells .u32 17 fun i => if i < k then sumd B32 (dig B32 x) (dig B32 y) 0 i else 0).set k (.int .u32 (v : Int)) = cells .u32 17 fun i => if i < k + 1 then sumd B32 (dig B32 x) (dig B32 y) 0 i else 0 := by
  rw [hv]; exact step_cells _ rfl
theorem sum9_blk (x y : Nat) (r : Bool) : BlkEq ⟨[.many 8 ((cells .u32 17 fun i => if i < 8 then sumd B32 (dig B32 x) (dig B32 y) 0 i else 0).take 8), .one (.int .u32 ((carry B32 (dig B32 x) (dig B32 y) 0 8 : Nat) : Int)),
    .many 8 ((cells .u32 17 fun i => if i < 8 then sumd B32 (dig B32 x) (dig B32 y) 0 i else 0).drop 9)], r⟩ ⟨[.many 17 (cells .u32 17 (sum9 x y))], r⟩ :=
  ⟨rfl, fun _ => rfl, fun _ _ => cells_ok _ _ _⟩
/-! seventeen words, brought to eight -/
def hi8 (t : Nat → Nat) (j : Nat) : Nat := t (8 + j)
def lo8 (t : Nat → Nat) (j : Nat) : Nat := if j < 8 then t j else 0
theorem num17 (t : Nat → Nat) : num B32 t 17 = num B32 t 8 + R * num B32 (hi8 t) 9 := by
  rw [← R_32]; exact num_split 8 9
/-- how great it may be still -/
def bnd : Nat → Nat
  | 0 => 57586096570152913699974892898380567793532123114264532903689671329431521032595044740083720782129802971518987656109067457577065805510327036019308994315074097345724416
  | 1 => 676921312041214565326761275425557544784286395355423968547480366360991530225982818124993751490268451683933401113623918903558144
  | 2 => 7957171782556586274486115970349133441607298412757563479047423630290551952200534008528896
  | 3 => 115792089237316195423570985102224012642447771430676393333299697265892812390400
  | _ => 115792089237316195423570985008687907853269984665640564039457584007913129639936
structure RO (T m : Nat) (q : Nat × (Nat → Nat)) : Prop where
  le : q.1 ≤ 6
  lt : ∀ j, q.2 j < B32
  eq : num B32 q.2 17 % m = T % m
  bd : num B32 q.2 17 < bnd q.1
structure RI (m : Nat) (t0 : Nat → Nat) (q : Nat × (Nat → Nat)) : Prop where
  le : q.1 ≤ 9
  lt : ∀ j, q.2 j < B32
  eq : num B32 q.2 17 = num B32 t0 8 + num B32 (hi8 t0) q.1 * (R - m)
structure RK (m : Nat) (t0 : Nat → Nat) (i : Nat) (q : Nat × (Nat → Nat) × Nat) : Prop where
  le : q.1 ≤ 8
  lt : ∀ j, q.2.1 j < B32
  c : q.2.2 < B32
  eq : num B32 q.2.1 17 + q.2.2 * B32 ^ (i + q.1) = num B32 t0 8 + num B32 (hi8 t0) i * (R - m) + hi8 t0 i * num B32 (dig B32 (R - m)) q.1 * B32 ^ i
structure RC (m : Nat) (t0 : Nat → Nat) (i : Nat) (q : Nat × (Nat → Nat) × Nat) : Prop where
  le : 8 + i ≤ q.1 ∧ q.1 ≤ 17
  lt : ∀ j, q.2.1 j < B32
  c : q.2.2 < B32
  eq : num B32 q.2.1 17 + q.2.2 * B32 ^ q.1 = num B32 t0 8 + num B32 (hi8 t0) (i + 1) * (R - m)
theorem rO_0 {m : Nat} {z : Nat → Nat} (hz : ∀ j, z j < B32) : RO (num B32 z 17) m (0, z) := ⟨by omega, hz, rfl, by
  have := num_lt B32_pos (z := z) 17 (fun j _ => hz j)
  show num B32 z 17 < 57586096570152913699974892898380567793532123114264532903689671329431521032595044740083720782129802971518987656109067457577065805510327036019308994315074097345724416
  exact Nat.lt_of_lt_of_le this (by decide)⟩
theorem rI_0 (m : Nat) {t : Nat → Nat} (ht : ∀ j, t j < B32) : RI m t (0, lo8 t) := by
  refine ⟨by omega, fun j => ?_, ?_⟩
  · show lo8 t j < B32
    unfold lo8; split
    · exact ht j
    · exact B32_pos
  · show num B32 (lo8 t) 17 = num B32 t 8 + num B32 (hi8 t) 0 * (R - m)
    have e0 : num B32 (hi8 t) 0 = 0 := rfl
    rw [num17 (lo8 t), e0, Nat.zero_mul, Nat.add_zero, num_congr (z := hi8 (lo8 t)) (z' := fun _ => 0) 9 (fun i _ => if_neg (by omega)), num_zero, Nat.mul_zero, Nat.add_zero]
    exact num_congr 8 fun i hi => by simp [lo8, hi]
theorem rK_0 {m i : Nat} {t0 t : Nat → Nat} (h : RI m t0 (i, t)) : RK m t0 i (0, t, 0) := ⟨by omega, h.lt, B32_pos, r0e h.eq⟩
theorem rK_step {m i k c : Nat} {t0 t : Nat → Nat} (hi : i < 9) (hk : k < 8) (h0 : ∀ j, t0 j < B32) (h : RK m t0 i (k, t, c)) :
    RK m t0 i (k + 1, chg t (i + k) ((t0 (8 + i) * dig B32 (R - m) k + t (i + k) + c) % B32), (t0 (8 + i) * dig B32 (R - m) k + t (i + k) + c) / B32) := by
  refine ⟨by show k + 1 ≤ 8; omega, chg_lt h.lt (Nat.mod_lt _ B32_pos), (mac32 (h0 _) (dig_lt B32_pos _ _) (h.lt _) h.c).2.2.2, ?_⟩
  have h1 := rowB (p := t0 (8 + i) * dig B32 (R - m) k) (m := i + k) (n := 17) (by omega) h.eq
  simp only [hi8] at h1 ⊢
  rw [show i + (k + 1) = i + k + 1 from by omega, h1]
  simp only [num]
  rw [Nat.mul_add, Nat.add_mul, ← Nat.add_assoc, Nat.pow_add]
  congr 1
  rw [Nat.mul_comm (B32 ^ i) (B32 ^ k), ← Nat.mul_assoc, ← Nat.mul_assoc]
theorem rC_0 {m i c : Nat} {t0 t : Nat → Nat} (hm : Mo m) (hi : i < 9) (h : RK m t0 i (8, t, c)) : RC m t0 i (8 + i, t, c) := by
  refine ⟨⟨Nat.le_refl _, by show 8 + i ≤ 17; omega⟩, h.lt, h.c, ?_⟩
  have h1 := h.eq
  simp only at h1 ⊢
  rw [Nat.add_comm 8 i, h1, V_num (by have := hm.pos; unfold R; omega)]
  simp only [num]
  rw [Nat.add_mul, ← Nat.add_assoc]
  congr 1
  rw [Nat.mul_assoc, Nat.mul_assoc, Nat.mul_comm (R - m)]
theorem rC_fit {m i : Nat} {t0 : Nat → Nat} (hm : Mo m) (h0 : ∀ j, t0 j < B32) (hi : i ≤ 9) : num B32 t0 8 + num B32 (hi8 t0) i * (R - m) < B32 ^ 17 := by
  have h1 := num_lt B32_pos (z := t0) 8 (fun j _ => h0 j)
  have h2 := num_lt B32_pos (z := hi8 t0) i (fun j _ => h0 _)
  have h3 : B32 ^ i ≤ B32 ^ 9 := Nat.pow_le_pow_right B32_pos hi
  have h4 : num B32 (hi8 t0) i * (R - m) ≤ B32 ^ 9 * 680564733841876926926749214863536422912 := Nat.mul_le_mul (Nat.le_trans (Nat.le_of_lt h2) h3) (Nat.le_of_lt hm.near)
  have h5 : B32 ^ 8 + B32 ^ 9 * 680564733841876926926749214863536422912 < B32 ^ 17 := by
    show 4294967296 ^ 8 + 4294967296 ^ 9 * 680564733841876926926749214863536422912 < 4294967296 ^ 17
    decide
  exact Nat.lt_trans (Nat.add_lt_add_of_lt_of_le h1 h4) h5
theorem rC_lt {m i c : Nat} {t0 t : Nat → Nat} (hm : Mo m) (h0 : ∀ j, t0 j < B32) (hi : i < 9) (h : RC m t0 i (17, t, c)) : c = 0 := by
  have h1 := h.eq
  have h2 := rC_fit hm h0 (i := i + 1) (by omega)
  simp only at h1
  rw [← h1] at h2
  rcases Nat.eq_zero_or_pos c with hc | hc
  · exact hc
  · exfalso
    have h4 : 1 * B32 ^ 17 ≤ c * B32 ^ 17 := Nat.mul_le_mul_right _ hc
    omega
theorem rC_step {m i k c : Nat} {t0 t : Nat → Nat} (hk : k < 17) (h : RC m t0 i (k, t, c)) : RC m t0 i (k + 1, chg t k ((t k + c) % B32), (t k + c) / B32) := by
  have hle := h.le
  have hc := h.c
  have ht := h.lt k
  refine ⟨by simp only at hle ⊢; omega, chg_lt h.lt (Nat.mod_lt _ B32_pos), by simp only at hc ht ⊢; unfold B32 at *; omega, ?_⟩
  have h1 := rowB (p := 0) (m := k) (n := 17) hk h.eq
  simp only [Nat.add_zero, Nat.zero_mul, Nat.zero_add] at h1 ⊢
  exact h1
theorem rI_step {m i k : Nat} {t0 t : Nat → Nat} (hi : i < 9) (h : RC m t0 i (k, t, 0)) : RI m t0 (i + 1, t) := by
  refine ⟨by show i + 1 ≤ 9; omega, h.lt, ?_⟩
  exact zmul h.eq
theorem rI_step' {m i c : Nat} {t0 t : Nat → Nat} (hm : Mo m) (h0 : ∀ j, t0 j < B32) (hi : i < 9) (h : RC m t0 i (17, t, c)) : RI m t0 (i + 1, t) := by
  obtain rfl := rC_lt hm h0 hi h
  exact rI_step hi h
theorem bnd_step {k lo hi d : Nat} (hk : k ≤ 5) (hlo : lo < R) (hd : d ≤ 680564733841876926926749214863536422912) (hb : lo + R * hi < bnd k) (h0 : hi ≠ 0) : lo + hi * d < bnd (k + 1) := by
  have mul : ∀ {a b : Nat}, a ≤ b → a * d ≤ b * 680564733841876926926749214863536422912 := fun h => Nat.mul_le_mul h hd
  match k, hk, hb with
  | 0, _, hb =>
    simp only [bnd, R] at *
    have h1 : hi ≤ 497323236409786642155382248146820840100456150797347717440463976893159497012533375533056 := by omega
    have h2 := mul h1
    simp only [Nat.reduceMul] at h2
    generalize hi * d = p at *
    omega
  | 1, _, hb =>
    simp only [bnd, R] at *
    have h1 : hi ≤ 5846006549323611672814739330865132078623730171904 := by omega
    have h2 := mul h1
    simp only [Nat.reduceMul] at h2
    generalize hi * d = p at *
    omega
  | 2, _, hb =>
    simp only [bnd, R] at *
    have h1 : hi ≤ 68719476736 := by omega
    have h2 := mul h1
    simp only [Nat.reduceMul] at h2
    generalize hi * d = p at *
    omega
  | 3, _, hb =>
    simp only [bnd, R] at *
    obtain rfl : hi = 1 := by omega
    omega
  | 4, _, hb => exfalso; simp only [bnd, R] at *; omega
  | 5, _, hb => exfalso; simp only [bnd, R] at *; omega
theorem rO_step {T m k : Nat} {t0 t : Nat → Nat} (hm : Mo m) (hk : k < 6) (h0 : RO T m (k, t0)) (hne : num B32 (hi8 t0) 9 ≠ 0) (h : RI m t0 (9, t)) : RO T m (k + 1, t) := by
  have h1 := h.eq
  have h2 := h0.eq
  have h3 := h0.bd
  simp only at h1 h2 h3
  refine ⟨by show k + 1 ≤ 6; omega, h.lt, ?_, ?_⟩
  · show num B32 t 17 % m = T % m
    rw [← h2, h1, num17 t0]
    exact fold_arith (by have := hm.lt; omega)
  · show num B32 t 17 < bnd (k + 1)
    rw [h1]
    rw [num17 t0] at h3
    exact bnd_step (by omega) (R_32 ▸ num_lt B32_pos (z := t0) 8 (fun j _ => h0.lt j)) (by have := hm.near; omega) h3 hne
theorem rO_low {T m k : Nat} {t : Nat → Nat} (h0 : RO T m (k, t)) (hz : num B32 (hi8 t) 9 = 0 ∨ k = 6) : num B32 t 8 % m = T % m := by
  have h1 := h0.eq
  have h2 := h0.bd
  simp only at h1 h2
  rw [num17 t] at h1 h2
  have : num B32 (hi8 t) 9 = 0 := by
    rcases hz with h | h
    · exact h
    · subst h
      simp only [bnd] at h2
      unfold R at h2
      omega
  rw [this, Nat.mul_zero, Nat.add_zero] at h1
  exact h1
theorem rO_ltR {T m k : Nat} {t : Nat → Nat} (h0 : RO T m (k, t)) : num B32 t 8 < R := R_32 ▸ num_lt B32_pos (z := t) 8 (fun j _ => h0.lt j)
/-- is one of the upper words, up to the i-th, not 0? -/
def hiB (t : Nat → Nat) (i : Nat) : Bool := decide (num B32 (hi8 t) i ≠ 0)
theorem hiB_step {t : Nat → Nat} {i : Nat} : hiB t (i + 1) = (hiB t i || decide (t (8 + i) ≠ 0)) := by
  have hn : num B32 (hi8 t) (i + 1) = num B32 (hi8 t) i + t (8 + i) * B32 ^ i := rfl
  unfold hiB
  rw [hn]
  have hp : 0 < B32 ^ i := Nat.pow_pos B32_pos
  by_cases h0 : t (8 + i) = 0
  · simp [h0]
  · have : 0 < t (8 + i) * B32 ^ i := Nat.mul_pos (by omega) hp
    simp only [h0, ne_eq, not_false_eq_true, decide_true, Bool.or_true, decide_eq_true_eq]
    omega
/-- less m, as often as it goes -/
structure RL (T m : Nat) (q : Nat × Nat) : Prop where
  le : q.1 ≤ 3
  lt : q.2 < R
  eq : q.2 % m = T % m
  low : q.1 ≠ 0 → q.2 < m
theorem rL_step {T m k x : Nat} (hm : Mo m) (hk : k < 3) (h : RL T m (k, x)) (hx : ¬ x < m) : RL T m (k + 1, (x + R - m) % R) := by
  have h1 := h.lt
  have h2 := h.eq
  simp only at h1 h2
  have h3 := in_ge hm h1 hx
  refine ⟨by show k + 1 ≤ 3; omega, Nat.mod_lt _ R_pos, ?_, fun _ => ?_⟩
  · show (x + R - m) % R % m = T % m
    rw [h3, Nat.mod_mod, h2]
  · show (x + R - m) % R < m
    rw [h3]; exact mod_lt hm _
theorem rL_end {T m k x : Nat} (h : RL T m (k, x)) (hx : x < m ∨ k = 3) : x = T % m := by
  have h2 := h.eq
  simp only at h2
  rw [← h2, Nat.mod_eq_of_lt]
  rcases hx with hx | hx
  · exact hx
  · exact h.low (by show k ≠ 0; omega)
end Cv

/- The reference's points and what it makes of them: plain copies of its formulas. -/
namespace Cv
open Go Go.SX
/-- a point's cells -/
abbrev Pr (a : J) : List CV := [.many 8 (V a.1), .many 8 (V a.2.1), .many 8 (V a.2.2)]
theorem okPr {D : Nat → Prop} (a : J) : okC D (Pr a) := okMany (V_cv _) (okMany (V_cv _) (okMany (V_cv _) okC_nil))
theorem blkPr {a b : J} {r : Bool} (h : a = b) : some (Blk.mk (Pr a) r) = some (Blk.mk (Pr b) r) := by rw [h]
def rplus (a b : J) : J :=
  let t0 := fm a.1 b.1
  let t1 := fm a.2.1 b.2.1
  let t2 := fm a.2.2 b.2.2
  let t3 := fs (fm (fa a.1 a.2.1) (fa b.1 b.2.1)) (fa t0 t1)
  let t4 := fs (fm (fa a.2.1 a.2.2) (fa b.2.1 b.2.2)) (fa t1 t2)
  let y := fs (fm (fa a.1 a.2.2) (fa b.1 b.2.2)) (fa t0 t2)
  let t0 := fa (fa t0 t0) t0
  let t2 := fm 21 t2
  let z := fa t1 t2
  let t1 := fs t1 t2
  let y := fm 21 y
  let x := fs (fm t3 t1) (fm t4 y)
  (x, fa (fm t1 z) (fm y t0), fa (fm z t4) (fm t0 t3))
theorem rplus_ok (a b : J) : OkJ (rplus a b) := ⟨fs_lt _ _, fa_lt _ _, fa_lt _ _⟩
def rtimes (k : Nat) (a : J) : Nat → J
  | 0 => (0, 1, 0)
  | n + 1 => let q := rplus (rtimes k a n) (rtimes k a n); if k / 2 ^ (255 - n) % 2 = 1 then rplus q a else q
theorem okJ_1 : OkJ (0, 1, 0) := ⟨by decide, by decide, by decide⟩
theorem rtimes_ok {k : Nat} {a : J} : ∀ n, OkJ (rtimes k a n)
  | 0 => okJ_1
  | n + 1 => by
    simp only [rtimes]; split
    · exact rplus_ok _ _
    · exact rplus_ok _ _
theorem rtimes_step {k j i : Nat} {a : J} (hi : 255 - j = i) : rtimes k a (j + 1) = if k / 2 ^ i % 2 = 1 then rplus (rplus (rtimes k a j) (rtimes k a j)) a else rplus (rtimes k a j) (rtimes k a j) := by rw [← hi]; rfl
def rflat (a : J) : Nat × Nat := (fm a.1 (jw a), fm a.2.1 (jw a))
def rpack (a : J) : Nat → Nat := pk33 (rflat a).1 (rflat a).2
theorem rpack_lt (a : J) (i : Nat) : rpack a i < 256 := pk33_lt _ _ _
theorem Pr_1 (r : Bool) : some (Blk.mk [.many 8 (List.replicate 8 (.int .u32 0)), .many 8 ((List.replicate 8 (.int .u32 0)).set 0 (.int .u32 1)), .many 8 (List.replicate 8 (.int .u32 0))] r) = some (Blk.mk (Pr (0, 1, 0)) r) := by
  rw [V_1, V_0]
/-! the exponent of the root: (p + 1) / 4, made of words -/
def eP (k : Nat) : Nat := if k = 0 then Pp else Pp + 1
def eC (k : Nat) : Nat := if k = 0 then 1 else 0
theorem eP_word : ∀ k, k < 8 → ∀ i, i < 8 → (if i = k then (dig B32 (eP k) k + eC k) % B32 else dig B32 (eP k) i) = dig B32 (eP (k + 1)) i := by decide
theorem eP_ge : ∀ k, k < 8 → dig B32 (eP k) k ≤ (dig B32 (eP k) k + eC k) % B32 := by decide
theorem eP_set {k : Nat} (hk : k < 8) : (V (eP k)).set k (.int .u32 (((dig B32 (eP k) k + eC k) % B32 : Nat) : Int)) = V (eP (k + 1)) := by
  rw [V, cells_set]
  exact cells_congr fun i hi => eP_word k hk i hi
def eH (r : Nat) : Nat := (Pp + 1) / 2 ^ r
theorem eH_lt (r : Nat) : eH r < R := Nat.lt_of_le_of_lt (Nat.div_le_self _ _) (by decide)
def halfV (x i : Nat) : Nat := dig B32 x i / 2 + dig B32 x (i + 1) % 2 * 2147483648
def halfU (x k i : Nat) : Nat := if i < k then halfV x i else dig B32 x i
theorem halfV_dig (x i : Nat) : halfV x i = dig B32 (x / 2) i := by
  unfold halfV dig
  rw [Nat.div_div_eq_div_mul x 2, Nat.mul_comm 2, ← Nat.div_div_eq_div_mul, Nat.pow_succ, ← Nat.div_div_eq_div_mul]
  generalize x / B32 ^ i = q
  unfold B32
  omega
theorem halfU_0 (x : Nat) : V x = cells .u32 8 (halfU x 0) := cells_congr fun i _ => by simp [halfU]
theorem halfU_8 (x : Nat) : cells .u32 8 (halfU x 8) = V (x / 2) := cells_congr fun i hi => by rw [halfU, if_pos hi, halfV_dig]
theorem halfU_get {x k i : Nat} (h : i < 8) (hk : k ≤ i) : (cells .u32 8 (halfU x k)).getD i undef = .int .u32 (dig B32 x i : Nat) := by
  rw [cells_get h, halfU, if_neg (by omega)]
theorem halfU_set {x k v : Nat} (hv : v = halfV x k) : (cells .u32 8 (halfU x k)).set k (.int .u32 (v : Int)) = cells .u32 8 (halfU x (k + 1)) := by
  rw [cells_set]
  refine cells_congr fun i _ => ?_
  by_cases h : i = k
  · subst h; simp [halfU, hv]
  · simp only [h, if_false, halfU]
    by_cases h2 : i < k
    · simp [h2, show i < k + 1 from by omega]
    · simp [h2, show ¬ i < k + 1 from by omega]
theorem dig_8 {x : Nat} (hx : x < R) : dig B32 x 8 = 0 := by
  unfold dig; rw [R_32, Nat.div_eq_of_lt hx]; rfl
theorem half_top {x k : Nat} (hx : x < R) (hk : ¬ k < 7) (h8 : k < 8) : dig B32 x k / 2 = halfV x k := by
  obtain rfl : k = 7 := by omega
  simp [halfV, dig_8 hx]
theorem half_0 {x k : Nat} (h : (((dig B32 x (k + 1) % 2 : Nat) : Int) == 1) = false) : dig B32 x k / 2 = halfV x k := by
  have := nbeqn 1 h
  unfold halfV; omega
theorem half_1 {x k : Nat} (h : (((dig B32 x (k + 1) % 2 : Nat) : Int) == 1) = true) : dig B32 x k / 2 + 2147483648 = halfV x k := by
  have := beqn 1 h
  unfold halfV; omega
theorem set_getD {xs : List Value} {k : Nat} {v : Value} (h : k < xs.length) : (xs.set k v).getD k undef = v := by
  simp [List.getD_eq_getElem?_getD, h]
theorem set_getD_ne {xs : List Value} {k i : Nat} {v : Value} (h : k ≠ i) : (xs.set k v).getD i undef = xs.getD i undef := by
  simp [List.getD_eq_getElem?_getD, List.getElem?_set_ne h]
theorem set_twice {xs ys : List Value} {k : Nat} {u v : Value} (h : xs.set k v = ys) : (xs.set k u).set k v = ys := by rw [List.set_set]; exact h
theorem eH_step (r : Nat) : eH r / 2 = eH (r + 1) := by unfold eH; rw [Nat.div_div_eq_div_mul, Nat.pow_succ]
theorem eH_2 : eH 2 = Pq := by decide
def oddN (b : Bool) : Nat := if b = true then 1 else 0
theorem oddN_lt (b : Bool) : oddN b < 2 := by cases b <;> decide
theorem odd_yes {a : Nat} {b : Bool} (h : (!((((a % 2 : Nat) : Int) == 1) == b)) = false) : a % 2 = oddN b := by
  cases b
  · have : (((a % 2 : Nat) : Int) == 1) = false := by simpa using h
    have := nbeqn 1 this
    show a % 2 = 0
    omega
  · have : (((a % 2 : Nat) : Int) == 1) = true := by simpa using h
    exact beqn 1 this
theorem odd_no {a : Nat} {b : Bool} (h : (!((((a % 2 : Nat) : Int) == 1) == b)) = true) : ¬ a % 2 = oddN b := by
  cases b
  · have : (((a % 2 : Nat) : Int) == 1) = true := by simpa using h
    have := beqn 1 this
    show ¬ a % 2 = 0
    omega
  · have : (((a % 2 : Nat) : Int) == 1) = false := by simpa using h
    exact nbeqn 1 this
theorem dig_0' (x : Nat) : dig B32 x 0 % 2 = x % 2 := by
  unfold dig B32; omega
theorem rlift_neg (x r : Nat) (h : r = lroot x) : [SV.g [.many 8 (V x), .many 8 (V ((0 + Pp - r) % Pp)), .many 8 ((List.replicate 8 (Value.int .u32 0)).set 0 (Value.int .u32 1))], SV.v (.bool true)] = [SV.g (Pr (x, (Pp - lroot x) % Pp, 1)), SV.v (.bool true)] := by
  rw [h, V_1, Nat.zero_add]
theorem rlift_pos (x r : Nat) (h : r = lroot x) : [SV.g [.many 8 (V x), .many 8 (V r), .many 8 ((List.replicate 8 (Value.int .u32 0)).set 0 (Value.int .u32 1))], SV.v (.bool true)] = [SV.g (Pr (x, lroot x, 1)), SV.v (.bool true)] := by
  rw [h, V_1]
def rpub (f : Nat → Nat) : (Nat → Nat) × Bool := if keyOK (be f 32) = true then (rpack (rtimes (be f 32) jG 256), true) else (zf, false)
def raddPub (f g : Nat → Nat) : (Nat → Nat) × Nat :=
  if be g 32 < Nn then (if (junpack f 0 33).2 = true then (if (rplus (junpack f 0 33).1 (rtimes (be g 32) jG 256)).2.2 = 0 then (zf, 7) else (rpack (rplus (junpack f 0 33).1 (rtimes (be g 32) jG 256)), 0)) else (zf, 3)) else (zf, 1)
def rsigPt (p : J) (e r s : Nat) : J := rplus (rtimes (e % Nn * pw Nn s (Nn - 2) % Nn) jG 256) (rtimes (r * pw Nn s (Nn - 2) % Nn) p 256)
def rverPt (p : J) (e r s : Nat) : Bool := if (rsigPt p e r s).2.2 = 0 then false else decide ((rflat (rsigPt p e r s)).1 % Nn = r)
def rverify (f : Nat → Nat) (st len : Nat) (m : Nat → Nat) (g : Nat → Nat) (st' len' : Nat) : Bool :=
  if len' = 64 ∧ (junpack f st len).2 = true ∧ keyOK (be (fun i => g (st' + i)) 32) = true ∧ keyOK (be (fun i => g (st' + 32 + i)) 32) = true then
    rverPt (junpack f st len).1 (be m 32) (be (fun i => g (st' + i)) 32) (be (fun i => g (st' + 32 + i)) 32)
  else false
theorem rpub_no {f : Nat → Nat} (h : ¬ keyOK (be f 32) = true) : rpub f = (zf, false) := if_neg h
theorem rpub_yes {f : Nat → Nat} (h : keyOK (be f 32) = true) : rpub f = (rpack (rtimes (be f 32) jG 256), true) := if_pos h
theorem raddPub_no {f g : Nat → Nat} (h : ¬ be g 32 < Nn) : raddPub f g = (zf, 1) := if_neg h
theorem raddPub_form {f g : Nat → Nat} (h : be g 32 < Nn) (h2 : ¬ (junpack f 0 33).2 = true) : raddPub f g = (zf, 3) := by
  unfold raddPub; rw [if_pos h, if_neg h2]
theorem raddPub_0 {f g : Nat → Nat} (h : be g 32 < Nn) (h2 : (junpack f 0 33).2 = true) (h3 : (rplus (junpack f 0 33).1 (rtimes (be g 32) jG 256)).2.2 = 0) : raddPub f g = (zf, 7) := by
  unfold raddPub; rw [if_pos h, if_pos h2, if_pos h3]
theorem raddPub_yes {f g : Nat → Nat} (h : be g 32 < Nn) (h2 : (junpack f 0 33).2 = true) (h3 : ¬ (rplus (junpack f 0 33).1 (rtimes (be g 32) jG 256)).2.2 = 0) :
    raddPub f g = (rpack (rplus (junpack f 0 33).1 (rtimes (be g 32) jG 256)), 0) := by
  unfold raddPub; rw [if_pos h, if_pos h2, if_neg h3]
theorem rverify_no {f : Nat → Nat} {st len : Nat} {m g : Nat → Nat} {st' len' : Nat} (h : ¬ (len' = 64 ∧ (junpack f st len).2 = true ∧ keyOK (be (fun i => g (st' + i)) 32) = true ∧ keyOK (be (fun i => g (st' + 32 + i)) 32) = true)) :
    rverify f st len m g st' len' = false := if_neg h
theorem rverify_yes {f : Nat → Nat} {st len : Nat} {m g : Nat → Nat} {st' : Nat} (h : (junpack f st len).2 = true) (h2 : keyOK (be (fun i => g (st' + i)) 32) = true) (h3 : keyOK (be (fun i => g (st' + 32 + i)) 32) = true) :
    rverify f st len m g st' 64 = rverPt (junpack f st len).1 (be m 32) (be (fun i => g (st' + i)) 32) (be (fun i => g (st' + 32 + i)) 32) := if_pos ⟨rfl, h, h2, h3⟩
theorem rverPt_0 {p : J} {e r s : Nat} (h : (rsigPt p e r s).2.2 = 0) : rverPt p e r s = false := if_pos h
theorem rverPt_1 {p : J} {e r s : Nat} (h : ¬ (rsigPt p e r s).2.2 = 0) : rverPt p e r s = decide ((rflat (rsigPt p e r s)).1 % Nn = r) := if_neg h
theorem verEq' {a b : Nat} (ha : a < R) (hb : b < R) : [SV.v (.bool (decide ((V a ++ []).map toI = (V b ++ []).map toI)))] = [SV.v (.bool (decide (a = b)))] := by
  simp only [List.append_nil, V_eq ha hb]
theorem V_zero {a : Nat} (ha : a < R) : (decide ((V a ++ []).map toI = (List.replicate 8 (Value.int .u32 0) ++ []).map toI)) = decide (a = 0) := by
  rw [V_0]; simp only [List.append_nil, V_eq ha R_pos]
theorem V_is0 {a : Nat} (ha : a < R) (h : (decide ((V a ++ []).map toI = (List.replicate 8 (Value.int .u32 0) ++ []).map toI)) = true) : a = 0 := by
  rw [V_zero ha] at h; exact of_decide_eq_true h
theorem V_isn0 {a : Nat} (ha : a < R) (h : (decide ((V a ++ []).map toI = (List.replicate 8 (Value.int .u32 0) ++ []).map toI)) = false) : ¬ a = 0 := by
  rw [V_zero ha] at h; exact of_decide_eq_false h
theorem rkey_no {k : Nat} (hk : k < R) (h : (!(decide ((V k ++ []).map toI = (List.replicate 8 (Value.int .u32 0) ++ []).map toI))) = false) : false = keyOK k := by
  rw [V_zero hk] at h; exact key_no h
theorem rkey_yes {k : Nat} (hk : k < R) (h : (!(decide ((V k ++ []).map toI = (List.replicate 8 (Value.int .u32 0) ++ []).map toI))) = true) : decide (k < Nn) = keyOK k := by
  rw [V_zero hk] at h; exact key_yes h
theorem odd3 {a : Nat} (h : a = 2 ∨ a = 3) : oddN (((a : Nat) : Int) == 3) = a % 2 := by
  rcases h with rfl | rfl <;> rfl
theorem pk_blk (x y : Nat) (r : Bool) : BlkEq ⟨[.one (.int .u8 ((2 + y % 2 : Nat) : Int)), .many 32 ((List.replicate 33 (.int .u8 0)).drop 1)], r⟩ ⟨[.many 33 (cells .u8 33 fun i => if i < 1 then pk33 x y i else 0)], r⟩ :=
  ⟨rfl, fun _ => rfl, fun _ _ => cells_ok _ _ _⟩
theorem pk33_succ (x y k : Nat) (hk : k < 32) : dig 256 x (31 - k) = pk33 x y (k + 1) := by
  rw [pk33, if_neg (by omega), show 32 - (k + 1) = 31 - k from by omega]
end Cv

/- The laws' own helpers: a copy with tinted room behind it. Plain. -/
namespace Cv
open Go Go.SX
def spareF (f : Nat → Nat) (st len i : Nat) : Nat := if i < len then f (st + i) else (201 + i) % 256
theorem spareF_lt {f : Nat → Nat} (hf : ∀ i, f i < 256) (st len i : Nat) : spareF f st len i < 256 := by
  unfold spareF; split
  · exact hf _
  · omega
theorem spareF_in {f : Nat → Nat} {st len i : Nat} (h : i < len) : f (st + i) = spareF f st len i := (if_pos h).symm
theorem spareF_out {f : Nat → Nat} {st len i : Nat} (h : ¬ i < len) : (201 + i) % 256 = spareF f st len i := (if_neg h).symm
theorem step_cells0 {n k : Nat} {kd : IntKind} {z : Nat → Nat} (v : Nat) (hv : v = z k) : (cells kd n fun i => if i < k then z i else 0).set (0 + k) (.int kd (v : Int)) = cells kd n fun i => if i < k + 1 then z i else 0 := by
  rw [Nat.zero_add]; exact step_cells v hv
end Cv

/- The base point, reckoned. -/
namespace Cv
open Go Go.SX
def Gy : Nat := 32670510020758816978083085130507043184471273380659243275938904335757337482424
theorem jG_eq : jG = (Gx, Gy, 1) := by
  have h1 : fm (lroot Gx) (lroot Gx) = lsq Gx := by decide +kernel
  have h2 : (if lroot Gx % 2 = 0 then lroot Gx else (Pp - lroot Gx) % Pp) = Gy := by decide +kernel
  unfold jG jlift
  rw [if_pos h1, h2]
theorem jtimes_zero {k : Nat} {a : J} : ∀ n, (∀ i, i < n → ¬ k / 2 ^ (255 - i) % 2 = 1) → jtimes k a n = (0, 0, 0)
  | 0, _ => rfl
  | n + 1, h => by
    simp only [jtimes]
    rw [if_neg (h n (by omega)), jtimes_zero n (fun i hi => h i (by omega))]
    exact if_pos rfl
theorem jtimes_one (a : J) : jtimes 1 a 256 = a := by
  have h := jtimes_zero (k := 1) (a := a) 255 (fun i hi => by
    have : 1 < 2 ^ (255 - i) := Nat.one_lt_two_pow (by omega)
    rw [Nat.div_eq_of_lt this]; decide)
  rw [show (256 : Nat) = 255 + 1 from rfl, jtimes_step (i := 0) rfl, if_pos (by decide), h]
  rfl
theorem pw_one {m e : Nat} (hm : Mo m) (he : e < R) : pw m 1 e = 1 := by
  rw [pw_eq hm he, Nat.one_pow, Nat.mod_eq_of_lt (one_lt hm)]
theorem jflat_1 {x y : Nat} (hx : x < Pp) (hy : y < Pp) : jflat (x, y, 1) = (x, y) := by
  have hw : jw (x, y, 1) = 1 := pw_one mo_P (by decide)
  unfold jflat
  rw [hw]
  have h1 : fm 1 1 = 1 := by decide
  have h2 : ∀ z, z < Pp → fm z 1 = z := fun z hz => by unfold fm; rw [Nat.mul_one, Nat.mod_eq_of_lt hz]
  rw [h1, h1, h2 x hx, h2 y hy]
def oneF (i : Nat) : Nat := if i = 31 then 1 else 0
theorem oneF_lt (i : Nat) : oneF i < 256 := by unfold oneF; split <;> decide
theorem zf_lt (i : Nat) : zf i < 256 := by show 0 < 256; decide
def gF : Nat → Nat := pk33 Gx Gy
theorem pubOne : pubOf oneF = (gF, 0) := by
  rw [pubOf_yes (by decide), show be oneF 32 = 1 from by decide, jtimes_one, jG_eq]
  unfold jpack
  rw [jflat_1 (by decide) (by decide)]; rfl
theorem gF0 : gF 0 = 2 := by decide
theorem gF1 : gF 1 = 121 := by decide
theorem gF32 : gF 32 = 152 := by decide
theorem key1 : keyOK (be oneF 32) = true := by decide
theorem key0 : keyOK (be zf 32) = false := by decide
end Cv
