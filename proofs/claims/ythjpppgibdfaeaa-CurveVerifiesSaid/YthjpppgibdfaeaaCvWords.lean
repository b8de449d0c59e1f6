import Derived.Test.YthjpppgibdfaeaaSxCall
import Derived.Test.YthjpppgibdfaeaaCvDigits
import Derived.Shelf.Spec.BitsCarry
import Derived.Lib.Mul64
import Derived.Laws.Bits64b
/- Words in cells; what is said of Add64, Sub64. -/
namespace Cv
open Go Go.SX
def B64 : Nat := 18446744073709551616
def B32 : Nat := 4294967296
theorem B64_pos : 0 < B64 := by decide
theorem B32_pos : 0 < B32 := by decide
def cells (k : IntKind) (n : Nat) (z : Nat → Nat) : List Value := (List.range n).map fun i => .int k (z i : Int)
theorem cells_len (k : IntKind) (n : Nat) (z : Nat → Nat) : (cells k n z).length = n := by simp [cells]
theorem cells_cellish (k : IntKind) (n : Nat) (z : Nat → Nat) : ∀ x ∈ cells k n z, cellish x = true := by
  intro x hx
  simp only [cells, List.mem_map] at hx
  obtain ⟨i, _, rfl⟩ := hx; rfl
theorem cells_isI (k : IntKind) (n : Nat) (z : Nat → Nat) : ∀ x ∈ cells k n z, isI k x := by
  intro x hx
  simp only [cells, List.mem_map] at hx
  obtain ⟨i, _, rfl⟩ := hx; rfl
structure IsCells (k : IntKind) (n : Nat) (xs : List Value) : Prop where
  len : xs.length = n
  all : ∀ x ∈ xs, isI k x
theorem isC_cells (k : IntKind) (n : Nat) (z : Nat → Nat) : IsCells k n (cells k n z) := ⟨cells_len k n z, cells_isI k n z⟩
theorem isC_rep (k : IntKind) (n : Nat) (v : Int) : IsCells k n (List.replicate n (.int k v)) := ⟨by simp, fun x hx => by rw [List.eq_of_mem_replicate hx]; rfl⟩
theorem eq_side {k : IntKind} {n : Nat} {xs ys : List Value} (hx : IsCells k n xs) (hy : IsCells k n ys) : (xs ++ []).length = n ∧ (ys ++ []).length = n ∧ (∀ x ∈ xs ++ [], isI k x) ∧ (∀ y ∈ ys ++ [], isI k y) := by
  simp only [List.append_nil]; exact ⟨hx.len, hy.len, hx.all, hy.all⟩
theorem cells_ok {D : Nat → Prop} (k : IntKind) (n : Nat) (z : Nat → Nat) : okC D [.many n (cells k n z)] := by
  intro c hc
  simp only [List.mem_singleton] at hc; subst hc
  exact ⟨cells_len k n z, cells_cellish k n z⟩
theorem cells_get {k : IntKind} {n i : Nat} {z : Nat → Nat} (h : i < n) : (cells k n z).getD i undef = .int k (z i : Int) := by simp [cells, h]
theorem cells_at {k : IntKind} {n i : Nat} {z : Nat → Nat} (h : i < n) : (((cells k n z).drop i).take 1).getD 0 undef = .int k (z i : Int) := by simp [cells, h]
theorem cells_atl {k : IntKind} {n i : Nat} {z : Nat → Nat} (h : i < n) : ((cells k n z).drop i).getD 0 undef = .int k (z i : Int) := by simp [cells, h]
theorem cells_at0 {k : IntKind} {n : Nat} {z : Nat → Nat} (h : 0 < n) : ((cells k n z).take 1).getD 0 undef = .int k (z 0 : Int) := by simp [cells, h]
theorem cells_congr {k : IntKind} {n : Nat} {z z' : Nat → Nat} (h : ∀ i, i < n → z i = z' i) : cells k n z = cells k n z' := by
  simp only [cells]
  exact List.map_congr_left fun i hi => by rw [h i (List.mem_range.1 hi)]
theorem cells_set {k : IntKind} {n i v : Nat} {z : Nat → Nat} : (cells k n z).set i (.int k (v : Int)) = cells k n (fun j => if j = i then v else z j) := by
  apply List.ext_getElem?
  intro j
  simp only [cells, List.getElem?_set, List.getElem?_map, List.length_map, List.length_range]
  by_cases h : i = j
  · subst h
    by_cases h2 : i < n
    · simp [h2]
    · simp [h2]
  · by_cases h2 : j < n
    · simp [h, h2, Ne.symm h]
    · simp [h, h2]
theorem cells_zero (k : IntKind) (n : Nat) : List.replicate n (.int k 0) = cells k n (fun _ => 0) := by
  apply List.ext_getElem?
  intro j
  simp only [cells, List.getElem?_replicate, List.getElem?_map]
  by_cases h2 : j < n
  · simp [h2]
  · simp [h2]
theorem cells_inj {k : IntKind} {n : Nat} {z z' : Nat → Nat} : (cells k n z).map toI = (cells k n z').map toI ↔ ∀ i, i < n → z i = z' i := by
  simp only [cells, List.map_map]
  constructor
  · intro h i hi
    have := congrArg (fun l => l[i]?) h
    have h2 : (z i : Int) = (z' i : Int) := by simpa [hi, toI] using this
    exact Int.ofNat.inj h2
  · intro h
    exact List.map_congr_left fun i hi => by simp [toI, h i (List.mem_range.1 hi)]
/-- a number below 2^256 in four words; in eight -/
def W (x : Nat) : List Value := cells .u64 4 (dig B64 x)
def V (x : Nat) : List Value := cells .u32 8 (dig B32 x)
theorem W_of {z : Nat → Nat} (hz : ∀ i, i < 4 → z i < B64) : cells .u64 4 z = W (num B64 z 4) := cells_congr fun _ hi => (dig_num B64_pos hz hi).symm
theorem V_of {z : Nat → Nat} (hz : ∀ i, i < 8 → z i < B32) : cells .u32 8 z = V (num B32 z 8) := cells_congr fun _ hi => (dig_num B32_pos hz hi).symm
theorem W_inj {x y : Nat} (hx : x < B64 ^ 4) (hy : y < B64 ^ 4) : (W x).map toI = (W y).map toI ↔ x = y := by
  rw [W, W, cells_inj]
  refine ⟨fun h => ?_, fun h => by subst h; exact fun _ _ => rfl⟩
  rw [eq_of_dig hx h, num_dig, Nat.mod_eq_of_lt hy]
theorem V_inj {x y : Nat} (hx : x < B32 ^ 8) (hy : y < B32 ^ 8) : (V x).map toI = (V y).map toI ↔ x = y := by
  rw [V, V, cells_inj]
  refine ⟨fun h => ?_, fun h => by subst h; exact fun _ _ => rfl⟩
  rw [eq_of_dig hx h, num_dig, Nat.mod_eq_of_lt hy]
theorem wrap_u64 (n : Nat) : IntKind.u64.wrap (n : Int) = ((n % B64 : Nat) : Int) := by rw [IntKind.wrap_u64]; unfold B64; omega
theorem wrap_u32 (n : Nat) : IntKind.u32.wrap (n : Int) = ((n % B32 : Nat) : Int) := by
  have : IntKind.u32.wrap (n : Int) = (n : Int) % 4294967296 := rfl
  rw [this]; unfold B32; omega
theorem wrap_i64 {n : Int} (h0 : -9223372036854775808 ≤ n) (h : n ≤ 9223372036854775807) : IntKind.i64.wrap n = n := Go.IntWalk.i64_in n ⟨h0, h⟩
theorem i64n {a : Int} (n : Nat) (h : a = (n : Int)) (hn : n < 9223372036854775808) : Value.int .i64 (IntKind.i64.wrap a) = .int .i64 (n : Int) := by rw [h, wrap_i64 (by omega) (by omega)]
theorem u64n {a : Int} (n : Nat) (h : a = (n : Int)) : Value.int .u64 (IntKind.u64.wrap a) = .int .u64 ((n % B64 : Nat) : Int) := by rw [h, wrap_u64]
theorem u64i {a : Int} (n : Nat) (h : a = (n : Int)) (hn : n < B64) : Value.int .u64 (IntKind.u64.wrap a) = .int .u64 (n : Int) := by rw [h, wrap_u64, Nat.mod_eq_of_lt hn]
theorem u32i {a : Int} (n : Nat) (h : a = (n : Int)) (hn : n < B32) : Value.int .u32 (IntKind.u32.wrap a) = .int .u32 (n : Int) := by rw [h, wrap_u32, Nat.mod_eq_of_lt hn]
theorem u32n {a : Int} (n : Nat) (h : a = (n : Int)) : Value.int .u32 (IntKind.u32.wrap a) = .int .u32 ((n % B32 : Nat) : Int) := by rw [h, wrap_u32]
theorem intn {k : IntKind} {a : Int} (n : Nat) (h : a = (n : Int)) : Value.int k a = .int k (n : Int) := by rw [h]
theorem u8n {a : Int} (n : Nat) (h : a = (n : Int)) : Value.int .u8 (IntKind.u8.wrap a) = .int .u8 ((n % 256 : Nat) : Int) := by
  rw [h, show IntKind.u8.wrap (n : Int) = (n : Int) % 256 from rfl]; congr 1
theorem u8i {a : Int} (n : Nat) (h : a = (n : Int)) (hn : n < 256) : Value.int .u8 (IntKind.u8.wrap a) = .int .u8 (n : Int) := by rw [u8n n h, Nat.mod_eq_of_lt hn]
theorem fdiv2 {a n : Nat} (k : Nat) : ((a : Nat) : Int).fdiv (2 ^ (min (k : Int).toNat n)) = ((a / 2 ^ (min k n) : Nat) : Int) := by
  rw [Int.fdiv_eq_ediv_of_nonneg _ (by exact_mod_cast Nat.zero_le _)]
  simp
theorem tdivn (a b : Nat) : (a : Int).tdiv (b : Int) = ((a / b : Nat) : Int) := rfl
theorem tmodn (a b : Nat) : (a : Int).tmod (b : Int) = ((a % b : Nat) : Int) := rfl
theorem shr64 (a k : Nat) (h : k < 64) : (a : Int).fdiv (2 ^ (min (k : Int).toNat IntKind.u64.bits)) = ((a / 2 ^ k : Nat) : Int) := by
  rw [fdiv2]
  show ((a / 2 ^ (min k 64) : Nat) : Int) = _
  rw [Nat.min_eq_left (by omega)]
theorem shr32 (a k : Nat) (h : k < 32) : (a : Int).fdiv (2 ^ (min (k : Int).toNat IntKind.u32.bits)) = ((a / 2 ^ k : Nat) : Int) := by
  rw [fdiv2]
  show ((a / 2 ^ (min k 32) : Nat) : Int) = _
  rw [Nat.min_eq_left (by omega)]
theorem beqn {a : Nat} (n : Nat) (h : ((a : Int) == (n : Int)) = true) : a = n := Int.ofNat.inj (eq_of_beq h)
theorem nbeqn {a : Nat} (n : Nat) (h : ((a : Int) == (n : Int)) = false) : a ≠ n := fun e => by subst e; simp at h
theorem bnen {a b : Nat} (h : ((a : Int) != (b : Int)) = true) : a ≠ b := fun e => by subst e; simp at h
theorem nbnen {a b : Nat} (h : ((a : Int) != (b : Int)) = false) : a = b := Int.ofNat.inj (by simpa using h)
theorem slot_int {k : IntKind} {a b : Int} (h : a = b) : some (SS.one (SV.v (Value.int k a))) = some (SS.one (SV.v (Value.int k b))) := by rw [h]
theorem slot_bool {a b : Bool} (h : a = b) : some (SS.one (SV.v (Value.bool a))) = some (SS.one (SV.v (Value.bool b))) := by rw [h]
theorem blk_many {n : Nat} {xs ys : List Value} {r : Bool} (h : xs = ys) : some (Blk.mk [CV.many n xs] r) = some (Blk.mk [CV.many n ys] r) := by rw [h]
def R : Nat := 115792089237316195423570985008687907853269984665640564039457584007913129639936
theorem R_64 : B64 ^ 4 = R := by decide
theorem R_32 : B32 ^ 8 = R := by decide
theorem R_pos : 0 < R := by decide
theorem W_eq {x y : Nat} (hx : x < R) (hy : y < R) : (W x).map toI = (W y).map toI ↔ x = y := W_inj (R_64 ▸ hx) (R_64 ▸ hy)
theorem V_eq {x y : Nat} (hx : x < R) (hy : y < R) : (V x).map toI = (V y).map toI ↔ x = y := V_inj (R_32 ▸ hx) (R_32 ▸ hy)
theorem W_len (x : Nat) : (W x).length = 4 := cells_len _ _ _
theorem V_len (x : Nat) : (V x).length = 8 := cells_len _ _ _
theorem W_isI (x : Nat) : ∀ v ∈ W x, isI .u64 v := cells_isI _ _ _
theorem V_isI (x : Nat) : ∀ v ∈ V x, isI .u32 v := cells_isI _ _ _
theorem W_get {x i : Nat} (h : i < 4) : (W x).getD i undef = .int .u64 (dig B64 x i : Int) := cells_get h
theorem V_get {x i : Nat} (h : i < 8) : (V x).getD i undef = .int .u32 (dig B32 x i : Int) := cells_get h
theorem W_0 : List.replicate 4 (.int .u64 0) = W 0 := by
  rw [cells_zero]; exact cells_congr fun i _ => by simp [dig]
theorem V_0 : List.replicate 8 (.int .u32 0) = V 0 := by
  rw [cells_zero]; exact cells_congr fun i _ => by simp [dig]
theorem cells_cv {D : Nat → Prop} (k : IntKind) (n : Nat) (z : Nat → Nat) : (CV.many n (cells k n z)).ok D := ⟨cells_len k n z, cells_cellish k n z⟩
theorem W_cv {D : Nat → Prop} (x : Nat) : (CV.many 4 (W x)).ok D := cells_cv _ _ _
theorem V_cv {D : Nat → Prop} (x : Nat) : (CV.many 8 (V x)).ok D := cells_cv _ _ _
theorem okMany {D : Nat → Prop} {n : Nat} {xs : List Value} {r : List CV} (h : (CV.many n xs).ok D) (hr : okC D r) : okC D (.many n xs :: r) := okC_cons.2 ⟨h, hr⟩
theorem okOne {D : Nat → Prop} {v : Value} {r : List CV} (h : (CV.one v).ok D) (hr : okC D r) : okC D (.one v :: r) := okC_cons.2 ⟨h, hr⟩

theorem sub_out {x y : Nat} (hx : x < R) (hy : y < R) : [SV.g [CV.many 4 (W (num B64 (difd B64 (dig B64 x) (dig B64 y)) 4))], SV.v (.bool (((borrow (dig B64 x) (dig B64 y) 4 : Nat) : Int) == 1))] = [SV.g [CV.many 4 (W ((x + R - y) % R))], SV.v (.bool (decide (x < y)))] := by
  obtain ⟨h1, h2⟩ := dif_num B64_pos (n := 4) (x := x) (y := y) (R_64 ▸ hx) (R_64 ▸ hy)
  rw [h1, R_64]
  have : (((borrow (dig B64 x) (dig B64 y) 4 : Nat) : Int) == 1) = decide (x < y) := by
    rw [Bool.eq_iff_iff]; simp only [beq_iff_eq, decide_eq_true_eq]; omega
  rw [this]

theorem plus_out {x y : Nat} (hx : x < R) (hy : y < R) : [SV.g [CV.many 4 (W (num B64 (sumd B64 (dig B64 x) (dig B64 y) 0) 4))], SV.v (.int .u64 ((carry B64 (dig B64 x) (dig B64 y) 0 4 : Nat) : Int))] = [SV.g [CV.many 4 (W ((x + y) % R))], SV.v (.int .u64 (((x + y) / R : Nat) : Int))] := by
  obtain ⟨h1, h2⟩ := sum_num B64_pos (n := 4) (x := x) (y := y) (R_64 ▸ hx) (R_64 ▸ hy)
  rw [h1, h2, R_64]

theorem W_ne {a b : Nat} (ha : a < R) (hb : b < R) (h : (!decide ((W a ++ []).map toI = (W b ++ []).map toI)) = true) : a ≠ b := by
  simp only [List.append_nil, W_eq ha hb, Bool.not_eq_true', decide_eq_false_iff_not] at h; exact h
theorem W_nne {a b : Nat} (ha : a < R) (hb : b < R) (h : (!decide ((W a ++ []).map toI = (W b ++ []).map toI)) = false) : a = b := by
  simp only [List.append_nil, W_eq ha hb, Bool.not_eq_false', decide_eq_true_eq] at h; exact h
/-! rows that fill up, cell by cell -/
theorem step_cells {n k : Nat} {kd : IntKind} {z : Nat → Nat} (v : Nat) (hv : v = z k) : (cells kd n fun i => if i < k then z i else 0).set k (.int kd (v : Int)) = cells kd n fun i => if i < k + 1 then z i else 0 := by
  rw [cells_set]
  refine cells_congr fun i _ => ?_
  by_cases h : i = k
  · subst h; simp [hv]
  · simp only [h, if_false]
    by_cases h2 : i < k
    · simp [h2, show i < k + 1 from by omega]
    · simp [h2, show ¬ i < k + 1 from by omega]
theorem cells_all {n : Nat} {kd : IntKind} {z : Nat → Nat} : (cells kd n fun i => if i < n then z i else 0) = cells kd n z := cells_congr fun i hi => by simp [hi]

/-! bits -/
theorem intb_or {k : IntKind} {a b : Nat} (h : IntKind.wrap k ((a ||| b : Nat) : Int) = ((a ||| b : Nat) : Int)) (ha : a < 2 ^ k.bits) (hb : b < 2 ^ k.bits) : intb .or k (a : Int) (b : Int) = ((a ||| b : Nat) : Int) := by
  simp only [intb, BitVec.ofInt_natCast, BitVec.toNat_or, BitVec.toNat_ofNat, Nat.mod_eq_of_lt ha, Nat.mod_eq_of_lt hb]; exact h
theorem intb_and {k : IntKind} {a b : Nat} (h : IntKind.wrap k ((a &&& b : Nat) : Int) = ((a &&& b : Nat) : Int)) (ha : a < 2 ^ k.bits) (hb : b < 2 ^ k.bits) : intb .and k (a : Int) (b : Int) = ((a &&& b : Nat) : Int) := by
  simp only [intb, BitVec.ofInt_natCast, BitVec.toNat_and, BitVec.toNat_ofNat, Nat.mod_eq_of_lt ha, Nat.mod_eq_of_lt hb]; exact h
theorem or_u64 {a b : Nat} (ha : a < B64) (hb : b < B64) : intb .or .u64 (a : Int) (b : Int) = ((a ||| b : Nat) : Int) := by
  refine intb_or ?_ ha hb
  rw [wrap_u64, Nat.mod_eq_of_lt (show a ||| b < B64 from Nat.or_lt_two_pow (n := 64) ha hb)]
theorem and_u64 {a b : Nat} (ha : a < B64) (hb : b < B64) : intb .and .u64 (a : Int) (b : Int) = ((a &&& b : Nat) : Int) := by
  refine intb_and ?_ ha hb
  rw [wrap_u64, Nat.mod_eq_of_lt (show a &&& b < B64 from Nat.and_lt_two_pow (n := 64) a hb)]
/-- a word's upper part and its lower one, put together -/
theorem or_add {a b : Nat} (i : Nat) (hb : b < 2 ^ i) : a * 2 ^ i ||| b = a * 2 ^ i + b := by
  rw [← Nat.shiftLeft_eq, Nat.shiftLeft_add_eq_or_of_lt hb]
theorem half_word {a t : Nat} (ha : a < B64) (_ht : t < B64) : intb .or .u64 (((a : Nat) : Int).fdiv (2 ^ (min (1 : Int).toNat IntKind.u64.bits))) (IntKind.u64.wrap ((t : Int) * 2 ^ (min (63 : Int).toNat IntKind.u64.bits))) = ((a / 2 + t % 2 * 9223372036854775808 : Nat) : Int) := by
  have e1 : ((a : Nat) : Int).fdiv (2 ^ (min (1 : Int).toNat IntKind.u64.bits)) = ((a / 2 : Nat) : Int) := by
    show (a : Int).fdiv 2 = _
    rw [Int.fdiv_eq_ediv_of_nonneg _ (by omega)]; omega
  have e2 : IntKind.u64.wrap ((t : Int) * 2 ^ (min (63 : Int).toNat IntKind.u64.bits)) = ((t % 2 * 9223372036854775808 : Nat) : Int) := by
    show IntKind.u64.wrap ((t : Int) * 9223372036854775808) = _
    rw [show (t : Int) * 9223372036854775808 = ((t * 9223372036854775808 : Nat) : Int) from by omega, wrap_u64]
    unfold B64; omega
  rw [e1, e2, or_u64 (by unfold B64 at *; omega) (by unfold B64 at *; omega), Nat.or_comm]
  rw [show (9223372036854775808 : Nat) = 2 ^ 63 from rfl, or_add 63 (by unfold B64 at *; omega), Nat.add_comm]
def halfW (x top i : Nat) : Nat := dig B64 x i / 2 + (if i < 3 then dig B64 x (i + 1) else top) % 2 * 9223372036854775808
theorem halfW_lt (x t i : Nat) : halfW x t i < B64 := by
  have := dig_lt B64_pos x i
  unfold halfW B64 at *; omega
theorem half_out {x t : Nat} (hx : x < R) : W (num B64 (halfW x t) 4) = W (x / 2 + t % 2 * 57896044618658097711785492504343953926634992332820282019728792003956564819968) := by
  congr 1
  have h := num_dig (B := B64) x 4
  rw [R_64, Nat.mod_eq_of_lt hx] at h
  simp only [num, halfW] at h ⊢
  simp only [show (0 : Nat) < 3 from by decide, show (1 : Nat) < 3 from by decide, show (2 : Nat) < 3 from by decide, show ¬ (3 : Nat) < 3 from by decide, if_true, if_false] at *
  generalize dig B64 x 0 = a at *
  generalize dig B64 x 1 = b at *
  generalize dig B64 x 2 = c at *
  generalize dig B64 x 3 = d at *
  unfold B64 at *
  simp only [Nat.reducePow, Nat.reduceAdd] at *
  omega

/-! numbers as bytes, the greatest first -/
def be (f : Nat → Nat) : Nat → Nat
  | 0 => 0
  | k + 1 => be f k * 256 + f k
def Y (x : Nat) : List Value := cells .u8 32 fun i => dig 256 x (31 - i)
theorem be_lt {f : Nat → Nat} : ∀ k, (∀ i, i < k → f i < 256) → be f k < 256 ^ k
  | 0, _ => by simp [be]
  | k + 1, h => by
    have h1 := be_lt k (fun i hi => h i (by omega))
    have h2 := h k (by omega)
    simp only [be, Nat.pow_succ]; omega
theorem be_split (f : Nat → Nat) (n : Nat) : ∀ k, be f (n + k) = be f n * 256 ^ k + be (fun i => f (n + i)) k
  | 0 => by simp [be]
  | k + 1 => by
    rw [← Nat.add_assoc]
    simp only [be, be_split f n k, Nat.pow_succ, Nat.add_mul, Nat.mul_assoc, Nat.add_assoc]
theorem be_words (f : Nat → Nat) : num B64 (fun w => be (fun i => f (8 * (3 - w) + i)) 8) 4 = be f 32 := by
  rw [show (32 : Nat) = 8 + 24 from rfl, be_split f 8 24, show (24 : Nat) = 8 + 16 from rfl, be_split _ 8 16, show (16 : Nat) = 8 + 8 from rfl, be_split _ 8 8]
  simp only [num, B64]
  rw [show (fun i => f (8 * (3 - 0) + i)) = fun i => f (8 + (8 + (8 + i))) from funext fun i => by congr 1; omega,
    show (fun i => f (8 * (3 - 1) + i)) = fun i => f (8 + (8 + i)) from funext fun i => by congr 1; omega,
    show (fun i => f (8 * (3 - 2) + i)) = fun i => f (8 + i) from funext fun i => by congr 1,
    show (fun i => f (8 * (3 - 3) + i)) = f from funext fun i => by congr 1; omega]
  omega
theorem be_congr {f g : Nat → Nat} : ∀ k, (∀ i, i < k → f i = g i) → be f k = be g k
  | 0, _ => rfl
  | k + 1, h => by simp only [be, be_congr k (fun i hi => h i (by omega)), h k (by omega)]
theorem be_dig (x : Nat) : ∀ k n, be (fun i => dig 256 x (n + k - 1 - i)) k = x / 256 ^ n % 256 ^ k
  | 0, n => by simp [be, Nat.mod_one]
  | k + 1, n => by
    have e : be (fun i => dig 256 x (n + (k + 1) - 1 - i)) k = be (fun i => dig 256 x ((n + 1) + k - 1 - i)) k := be_congr k fun i hi => by congr 1; omega
    simp only [be]
    rw [e, be_dig x k (n + 1), show n + (k + 1) - 1 - k = n from by omega, dig]
    rw [Nat.pow_succ 256 k, Nat.mul_comm (256 ^ k) 256, Nat.mod_mul, Nat.div_div_eq_div_mul, ← Nat.pow_succ]
    show _ = x / 256 ^ n % 256 + 256 * (x / 256 ^ (n + 1) % 256 ^ k)
    omega
/-- a number's bytes, read back -/
theorem be_Y {x : Nat} (hx : x < R) : be (fun i => dig 256 x (31 - i)) 32 = x := by
  have h := be_dig x 32 0
  simp only [Nat.pow_zero, Nat.div_one] at h
  rw [show (256 : Nat) ^ 32 = R from by decide, Nat.mod_eq_of_lt hx] at h
  refine Eq.trans (be_congr 32 fun i hi => ?_) h
  rw [show 0 + 32 - 1 - i = 31 - i from by omega]
theorem be_lt_R {f : Nat → Nat} (h : ∀ i, i < 32 → f i < 256) : be f 32 < R := be_lt 32 h
theorem byte_word {x i : Nat} (_hi : i < 32) : (dig B64 x (3 - i / 8) / 2 ^ (56 - 8 * (i % 8))) % 256 = dig 256 x (31 - i) := by
  simp only [dig]
  rw [show B64 = 2 ^ 64 from rfl, show (256 : Nat) = 2 ^ 8 from rfl, ← Nat.pow_mul, ← Nat.pow_mul]
  have e : (2 : Nat) ^ 64 = 2 ^ (56 - 8 * (i % 8)) * 2 ^ (8 + 8 * (i % 8)) := by rw [← Nat.pow_add]; congr 1; omega
  rw [e, Nat.mod_mul_right_div_self, Nat.div_div_eq_div_mul, ← Nat.pow_add, Nat.pow_add 2 8, Nat.mod_mul_right_mod]
  congr 2
  congr 1; omega

def numZ (f : Nat → Nat) (st k w : Nat) : Nat := be (fun i => f (st + (8 * (3 - w) + i))) (min (k - 8 * (3 - w)) 8)
theorem numZ_step {f : Nat → Nat} (hf : ∀ i, f i < 256) {st k : Nat} (hk : k < 32) {v : Value} (hv : v = .int .u64 (intb .or .u64 ((numZ f st k (3 - k / 8) * 256 % B64 : Nat) : Int) ((f (st + k) : Nat) : Int))) :
    (cells .u64 4 (numZ f st k)).set (3 - k / 8) v = cells .u64 4 (numZ f st (k + 1)) := by
  have hb : numZ f st k (3 - k / 8) < 2 ^ 56 := by
    have := be_lt (f := fun i => f (st + (8 * (3 - (3 - k / 8)) + i))) (min (k - 8 * (3 - (3 - k / 8))) 8) (fun i _ => hf _)
    refine Nat.lt_of_lt_of_le this ?_
    rw [show (2 : Nat) ^ 56 = 256 ^ 7 from rfl]
    exact Nat.pow_le_pow_right (by decide) (by omega)
  have hfk := hf (st + k)
  rw [Nat.mod_eq_of_lt (by unfold B64; omega), or_u64 (by unfold B64; omega) (by unfold B64; omega), show (256 : Nat) = 2 ^ 8 from rfl, or_add 8 (by omega)] at hv
  rw [hv, cells_set]
  refine cells_congr fun i hi => ?_
  by_cases h : i = 3 - k / 8
  · subst h
    rw [if_pos rfl]
    unfold numZ
    rw [show min (k + 1 - 8 * (3 - (3 - k / 8))) 8 = min (k - 8 * (3 - (3 - k / 8))) 8 + 1 from by omega, be]
    rw [show st + (8 * (3 - (3 - k / 8)) + min (k - 8 * (3 - (3 - k / 8))) 8) = st + k from by omega]
  · rw [if_neg h]
    unfold numZ
    rw [show min (k + 1 - 8 * (3 - i)) 8 = min (k - 8 * (3 - i)) 8 from by omega]
theorem numZ_0 (f : Nat → Nat) (st : Nat) : List.replicate 4 (.int .u64 0) = cells .u64 4 (numZ f st 0) := (cells_zero _ _).trans (cells_congr fun i _ => by simp [numZ, be])
theorem numZ_end {f : Nat → Nat} (hf : ∀ i, f i < 256) (st : Nat) : cells .u64 4 (numZ f st 32) = W (be (fun i => f (st + i)) 32) := by
  rw [← be_words, ← num_congr (z := numZ f st 32) 4 (fun w hw => by unfold numZ; rw [show min (32 - 8 * (3 - w)) 8 = 8 from by omega])]
  refine W_of ?_
  · intro w hw
    unfold numZ
    have := be_lt (f := fun i => f (st + (8 * (3 - w) + i))) (min (32 - 8 * (3 - w)) 8) (fun i _ => hf _)
    refine Nat.lt_of_lt_of_le this ?_
    rw [show B64 = 256 ^ 8 from rfl]
    exact Nat.pow_le_pow_right (by decide) (by omega)

/-! callees of plain values -/
theorem invokes_val {P : Program} {f : FuncId} {args : Array Value} {w : World} {v : Value} (h : (callFunc f args).run P w = .ok (.value v) w) : Invokes P f args w (fun v' w' => v' = v ∧ w' = w) := .inr ⟨v, w, h, rfl, rfl⟩
theorem plain_call {P : Program} {eff : Bool} {f : FuncId} {args : List SV} {vals : Array Value} {σ : SSt} {nm : Nat} {K : SSt → SS → Prop} (res : SS) (v : Value)
    (ha : ∀ ρ, (args.map (SV.den ρ)).toArray = vals) (hd : ∀ ρ, res.den ρ = v) (hok : res.ok σ.dom) (h : ∀ w, Invokes P f vals w (fun v' w' => v' = v ∧ Frame' (fun _ => False) w w')) (hk : K σ res) : CallVC P eff (.fn f) args σ nm K :=
  callVC_val res hok (fun ρ w _ => by rw [ha ρ, hd ρ]; exact h w) hk
theorem same_frame {P : Program} {f : FuncId} {args : Array Value} {w : World} {v : Value} (h : Invokes P f args w (fun v' w' => v' = v ∧ w' = w)) : Invokes P f args w (fun v' w' => v' = v ∧ Frame' (fun _ => False) w w') :=
  h.mono fun _ _ ⟨h1, h2⟩ => ⟨h1, by rw [h2]; exact Frame'.refl _ _⟩
theorem ok_tup2 {D : Nat → Prop} {a b : Value} : (SS.tup [.v a, .v b]).ok D := by
  intro s hs
  simp only [List.mem_cons, List.not_mem_nil, or_false] at hs
  rcases hs with rfl | rfl <;> trivial
end Cv
