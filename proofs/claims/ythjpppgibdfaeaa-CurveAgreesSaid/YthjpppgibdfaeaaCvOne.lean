/- CvOne: a part of the proof: lemmas alone, of no statement. -/
import Derived.Test.YthjpppgibdfaeaaSxThree
import Derived.Shelf.Spec.BitsCarry
import Derived.Lib.Mul64
import Derived.Laws.Bits64b
/- Numbers as digits to a base: sums, differences, products by columns. Plain; no program. -/
namespace Cv
/-- the number of the first k digits -/
def num (B : Nat) (z : Nat → Nat) : Nat → Nat
  | 0 => 0
  | k + 1 => num B z k + z k * B ^ k
/-- a digit of a number -/
def dig (B x i : Nat) : Nat := x / B ^ i % B

theorem num_lt {B : Nat} (hB : 0 < B) {z : Nat → Nat} : ∀ k, (∀ i, i < k → z i < B) → num B z k < B ^ k
  | 0, _ => by simp [num]
  | k + 1, h => by
    have h1 := num_lt hB k (fun i hi => h i (by omega))
    have h2 := h k (by omega)
    have h3 : (z k + 1) * B ^ k ≤ B * B ^ k := Nat.mul_le_mul_right _ h2
    simp only [num, Nat.pow_succ]
    rw [Nat.add_mul, Nat.one_mul] at h3
    rw [Nat.mul_comm (B ^ k) B]
    omega
theorem num_congr {B : Nat} {z z' : Nat → Nat} : ∀ k, (∀ i, i < k → z i = z' i) → num B z k = num B z' k
  | 0, _ => rfl
  | k + 1, h => by simp only [num, num_congr k (fun i hi => h i (by omega)), h k (by omega)]
/-- the first k digits of x are x modulo B^k -/
theorem num_dig {B : Nat} (x : Nat) : ∀ k, num B (dig B x) k = x % B ^ k
  | 0 => by simp [num, Nat.mod_one]
  | k + 1 => by
    simp only [num, num_dig x k, dig]
    rw [Nat.pow_succ, Nat.mod_mul, Nat.mul_comm]
theorem num_split {B : Nat} {z : Nat → Nat} (i : Nat) : ∀ k, num B z (i + k) = num B z i + B ^ i * num B (fun j => z (i + j)) k
  | 0 => by simp [num]
  | k + 1 => by
    rw [← Nat.add_assoc]
    simp only [num, num_split i k, Nat.mul_add, Nat.pow_add]
    rw [Nat.add_assoc]
    congr 2
    rw [← Nat.mul_assoc, Nat.mul_comm (z (i + k)) (B ^ i), Nat.mul_assoc, Nat.mul_comm (z (i + k)), Nat.mul_comm (B ^ k)]
theorem dig_num {B : Nat} (hB : 0 < B) {z : Nat → Nat} {n i : Nat} (hz : ∀ i, i < n → z i < B) (hi : i < n) : dig B (num B z n) i = z i := by
  have h1 := num_split (B := B) (z := z) i (n - i)
  rw [show i + (n - i) = n from by omega] at h1
  have h2 := num_split (B := B) (z := fun j => z (i + j)) 1 (n - i - 1)
  rw [show 1 + (n - i - 1) = n - i from by omega] at h2
  have h3 := num_lt hB i (fun j hj => hz j (by omega))
  simp only [dig, h1, h2]
  rw [Nat.add_mul_div_left _ _ (Nat.pow_pos hB), Nat.div_eq_of_lt h3, Nat.zero_add]
  simp only [num, Nat.pow_zero, Nat.mul_one, Nat.pow_one, Nat.zero_add, Nat.add_zero]
  rw [Nat.add_mul_mod_self_left, Nat.mod_eq_of_lt (hz i hi)]
theorem dig_lt {B : Nat} (hB : 0 < B) (x i : Nat) : dig B x i < B := Nat.mod_lt _ hB
/-- a number is its digits' -/
theorem eq_of_dig {B n x : Nat} (hx : x < B ^ n) {z : Nat → Nat} (hz : ∀ i, i < n → dig B x i = z i) : x = num B z n := by
  rw [← num_congr n hz, num_dig, Nat.mod_eq_of_lt hx]

/-! sums, by columns -/
def carry (B : Nat) (x y : Nat → Nat) (c : Nat) : Nat → Nat
  | 0 => c
  | k + 1 => (x k + y k + carry B x y c k) / B
def sumd (B : Nat) (x y : Nat → Nat) (c k : Nat) : Nat := (x k + y k + carry B x y c k) % B
theorem sum_inv {B : Nat} {x y : Nat → Nat} {c : Nat} : ∀ k, num B (sumd B x y c) k + carry B x y c k * B ^ k = num B x k + num B y k + c
  | 0 => by simp [num, carry]
  | k + 1 => by
    have ih := sum_inv (B := B) (x := x) (y := y) (c := c) k
    simp only [num, carry, sumd, Nat.pow_succ]
    have hd := Nat.div_add_mod (x k + y k + carry B x y c k) B
    generalize hq : (x k + y k + carry B x y c k) / B = q at *
    generalize hr : (x k + y k + carry B x y c k) % B = r at *
    have e : q * (B ^ k * B) = (B * q) * B ^ k := by rw [Nat.mul_comm (B ^ k) B, ← Nat.mul_assoc, Nat.mul_comm q B]
    have e2 : (B * q + r) * B ^ k = (x k + y k + carry B x y c k) * B ^ k := by rw [hd]
    simp only [Nat.add_mul] at e2
    rw [e]; omega
theorem carry_le {B : Nat} (hB : 0 < B) {x y : Nat → Nat} {c n : Nat} (hx : ∀ i, i < n → x i < B) (hy : ∀ i, i < n → y i < B) (hc : c ≤ 1) : ∀ k, k ≤ n → carry B x y c k ≤ 1
  | 0, _ => hc
  | k + 1, hk => by
    have ih := carry_le hB hx hy hc k (by omega)
    have h1 := hx k (by omega)
    have h2 := hy k (by omega)
    simp only [carry]
    exact Nat.lt_succ_iff.1 ((Nat.div_lt_iff_lt_mul hB).2 (by omega))

theorem sumd_lt {B : Nat} (hB : 0 < B) (x y : Nat → Nat) (c k : Nat) : sumd B x y c k < B := Nat.mod_lt _ hB

/-! differences -/
def borrow (x y : Nat → Nat) : Nat → Nat
  | 0 => 0
  | k + 1 => if x k < y k + borrow x y k then 1 else 0
def difd (B : Nat) (x y : Nat → Nat) (k : Nat) : Nat := (x k + B - y k - borrow x y k) % B
theorem borrow_le (x y : Nat → Nat) (k : Nat) : borrow x y k ≤ 1 := by cases k <;> simp [borrow]; split <;> omega
theorem dif_inv {B : Nat} {x y : Nat → Nat} {n : Nat} (hx : ∀ i, i < n → x i < B) (hy : ∀ i, i < n → y i < B) : ∀ k, k ≤ n → num B (difd B x y) k + num B y k = num B x k + borrow x y k * B ^ k
  | 0, _ => by simp [num, borrow]
  | k + 1, hk => by
    have ih := dif_inv hx hy k (by omega)
    have h1 := hx k (by omega)
    have h2 := hy k (by omega)
    have hb := borrow_le x y k
    simp only [num, borrow, difd, Nat.pow_succ]
    generalize hbk : borrow x y k = b at *
    have key : (x k + B - y k - b) % B + y k + b = x k + (if x k < y k + b then 1 else 0) * B := by
      split
      · rename_i hlt
        rw [Nat.mod_eq_of_lt (by omega)]; omega
      · rename_i hge
        rw [show x k + B - y k - b = (x k - y k - b) + B from by omega, Nat.add_mod_right, Nat.mod_eq_of_lt (by omega)]; omega
    have e := congrArg (· * B ^ k) key
    simp only [Nat.add_mul] at e
    generalize (x k + B - y k - b) % B = r at *
    generalize (if x k < y k + b then 1 else 0) = s at *
    have e2 : s * (B ^ k * B) = s * B * B ^ k := by rw [Nat.mul_comm (B ^ k) B, ← Nat.mul_assoc]
    rw [e2]; omega
theorem difd_lt {B : Nat} (hB : 0 < B) (x y : Nat → Nat) (k : Nat) : difd B x y k < B := Nat.mod_lt _ hB

/-- the difference of two numbers of n digits, modulo B^n; and whether it went below 0 -/
theorem dif_num {B : Nat} (hB : 0 < B) {n x y : Nat} (hx : x < B ^ n) (hy : y < B ^ n) :
    num B (difd B (dig B x) (dig B y)) n = (x + B ^ n - y) % B ^ n ∧ (borrow (dig B x) (dig B y) n = 1 ↔ x < y) := by
  have h := dif_inv (B := B) (x := dig B x) (y := dig B y) (n := n) (fun i _ => dig_lt hB _ _) (fun i _ => dig_lt hB _ _) n (Nat.le_refl _)
  rw [num_dig, num_dig, Nat.mod_eq_of_lt hx, Nat.mod_eq_of_lt hy] at h
  have hlt := num_lt hB (z := difd B (dig B x) (dig B y)) n (fun i _ => difd_lt hB _ _ _)
  have hb := borrow_le (dig B x) (dig B y) n
  generalize num B (difd B (dig B x) (dig B y)) n = d at *
  generalize borrow (dig B x) (dig B y) n = b at *
  have : b = 0 ∨ b = 1 := by omega
  rcases this with rfl | rfl
  · refine ⟨?_, by omega⟩
    rw [show x + B ^ n - y = d + B ^ n from by omega, Nat.add_mod_right, Nat.mod_eq_of_lt hlt]
  · refine ⟨?_, by omega⟩
    rw [show x + B ^ n - y = d from by omega, Nat.mod_eq_of_lt hlt]
theorem sum_num {B : Nat} (hB : 0 < B) {n x y : Nat} (hx : x < B ^ n) (hy : y < B ^ n) :
    num B (sumd B (dig B x) (dig B y) 0) n = (x + y) % B ^ n ∧ carry B (dig B x) (dig B y) 0 n = (x + y) / B ^ n := by
  have h := sum_inv (B := B) (x := dig B x) (y := dig B y) (c := 0) n
  rw [num_dig, num_dig, Nat.mod_eq_of_lt hx, Nat.mod_eq_of_lt hy, Nat.add_zero] at h
  have hlt := num_lt hB (z := sumd B (dig B x) (dig B y) 0) n (fun i _ => Nat.mod_lt _ hB)
  rw [← h]
  rw [Nat.mul_comm]
  refine ⟨by rw [Nat.add_mul_mod_self_left, Nat.mod_eq_of_lt hlt], ?_⟩
  rw [Nat.add_mul_div_left _ _ (Nat.pow_pos hB), Nat.div_eq_of_lt hlt, Nat.zero_add]
end Cv

/- Words in cells; what is said of Add64, Sub64. -/
namespace Cv
open Go Go.SX
def B64 : Nat := 18446744073709551616
def B32 : Nat := 4294967296
theorem B64_pos : 0 < B64 := by decide
theorem B32_pos : 0 < B32 := by decide
def cells (k : IntKind) (n : Nat) (z : Nat → Nat) : List Value := (List.range n).map fun i => .int k (z i : Int)
theorem cells_len (k : IntKind) (n : Nat) (z : Nat → Nat) : (cells k n z).length = n := by simp [cells]
theorem cells_cellish (k : IntKind) (n : Nat) (z : Nat → Nat) : ∀ x ∈ cells k n z, cellish x = true := by
  intro x hx
  simp only [cells, List.mem_map] at hx
  obtain ⟨i, _, rfl⟩ := hx; rfl
theorem cells_isI (k : IntKind) (n : Nat) (z : Nat → Nat) : ∀ x ∈ cells k n z, isI k x := by
  intro x hx
  simp only [cells, List.mem_map] at hx
  obtain ⟨i, _, rfl⟩ := hx; rfl
structure IsCells (k : IntKind) (n : Nat) (xs : List Value) : Prop where
  len : xs.length = n
  all : ∀ x ∈ xs, isI k x
theorem isC_cells (k : IntKind) (n : Nat) (z : Nat → Nat) : IsCells k n (cells k n z) := ⟨cells_len k n z, cells_isI k n z⟩
theorem isC_rep (k : IntKind) (n : Nat) (v : Int) : IsCells k n (List.replicate n (.int k v)) := ⟨by simp, fun x hx => by rw [List.eq_of_mem_replicate hx]; rfl⟩
theorem eq_side {k : IntKind} {n : Nat} {xs ys : List Value} (hx : IsCells k n xs) (hy : IsCells k n ys) : (xs ++ []).length = n ∧ (ys ++ []).length = n ∧ (∀ x ∈ xs ++ [], isI k x) ∧ (∀ y ∈ ys ++ [], isI k y) := by
  simp only [List.append_nil]; exact ⟨hx.len, hy.len, hx.all, hy.all⟩
theorem cells_ok {D : Nat → Prop} (k : IntKind) (n : Nat) (z : Nat → Nat) : okC D [.many n (cells k n z)] := by
  intro c hc
  simp only [List.mem_singleton] at hc; subst hc
  exact ⟨cells_len k n z, cells_cellish k n z⟩
theorem cells_get {k : IntKind} {n i : Nat} {z : Nat → Nat} (h : i < n) : (cells k n z).getD i undef = .int k (z i : Int) := by simp [cells, h]
theorem cells_at {k : IntKind} {n i : Nat} {z : Nat → Nat} (h : i < n) : (((cells k n z).drop i).take 1).getD 0 undef = .int k (z i : Int) := by simp [cells, h]
theorem cells_atl {k : IntKind} {n i : Nat} {z : Nat → Nat} (h : i < n) : ((cells k n z).drop i).getD 0 undef = .int k (z i : Int) := by simp [cells, h]
theorem cells_at0 {k : IntKind} {n : Nat} {z : Nat → Nat} (h : 0 < n) : ((cells k n z).take 1).getD 0 undef = .int k (z 0 : Int) := by simp [cells, h]
theorem cells_congr {k : IntKind} {n : Nat} {z z' : Nat → Nat} (h : ∀ i, i < n → z i = z' i) : cells k n z = cells k n z' := by
  simp only [cells]
  exact List.map_congr_left fun i hi => by rw [h i (List.mem_range.1 hi)]
theorem cells_set {k : IntKind} {n i v : Nat} {z : Nat → Nat} : (cells k n z).set i (.int k (v : Int)) = cells k n (fun j => if j = i then v else z j) := by
  apply List.ext_getElem?
  intro j
  simp only [cells, List.getElem?_set, List.getElem?_map, List.length_map, List.length_range]
  by_cases h : i = j
  · subst h
    by_cases h2 : i < n
    · simp [h2]
    · simp [h2]
  · by_cases h2 : j < n
    · simp [h, h2, Ne.symm h]
    · simp [h, h2]
theorem cells_zero (k : IntKind) (n : Nat) : List.replicate n (.int k 0) = cells k n (fun _ => 0) := by
  apply List.ext_getElem?
  intro j
  simp only [cells, List.getElem?_replicate, List.getElem?_map]
  by_cases h2 : j < n
  · simp [h2]
  · simp [h2]
theorem cells_inj {k : IntKind} {n : Nat} {z z' : Nat → Nat} : (cells k n z).map toI = (cells k n z').map toI ↔ ∀ i, i < n → z i = z' i := by
  simp only [cells, List.map_map]
  constructor
  · intro h i hi
    have := congrArg (fun l => l[i]?) h
    have h2 : (z i : Int) = (z' i : Int) := by simpa [hi, toI] using this
    exact Int.ofNat.inj h2
  · intro h
    exact List.map_congr_left fun i hi => by simp [toI, h i (List.mem_range.1 hi)]
/-- a number below 2^256 in four words; in eight -/
def W (x : Nat) : List Value := cells .u64 4 (dig B64 x)
def V (x : Nat) : List Value := cells .u32 8 (dig B32 x)
theorem W_of {z : Nat → Nat} (hz : ∀ i, i < 4 → z i < B64) : cells .u64 4 z = W (num B64 z 4) := cells_congr fun _ hi => (dig_num B64_pos hz hi).symm
theorem V_of {z : Nat → Nat} (hz : ∀ i, i < 8 → z i < B32) : cells .u32 8 z = V (num B32 z 8) := cells_congr fun _ hi => (dig_num B32_pos hz hi).symm
theorem W_inj {x y : Nat} (hx : x < B64 ^ 4) (hy : y < B64 ^ 4) : (W x).map toI = (W y).map toI ↔ x = y := by
  rw [W, W, cells_inj]
  refine ⟨fun h => ?_, fun h => by subst h; exact fun _ _ => rfl⟩
  rw [eq_of_dig hx h, num_dig, Nat.mod_eq_of_lt hy]
theorem V_inj {x y : Nat} (hx : x < B32 ^ 8) (hy : y < B32 ^ 8) : (V x).map toI = (V y).map toI ↔ x = y := by
  rw [V, V, cells_inj]
  refine ⟨fun h => ?_, fun h => by subst h; exact fun _ _ => rfl⟩
  rw [eq_of_dig hx h, num_dig, Nat.mod_eq_of_lt hy]
theorem wrap_u64 (n : Nat) : IntKind.u64.wrap (n : Int) = ((n % B64 : Nat) : Int) := by rw [IntKind.wrap_u64]; unfold B64; omega
theorem wrap_u32 (n : Nat) : IntKind.u32.wrap (n : Int) = ((n % B32 : Nat) : Int) := by
  have : IntKind.u32.wrap (n : Int) = (n : Int) % 4294967296 := rfl
  rw [this]; unfold B32; omega
theorem wrap_i64 {n : Int} (h0 : -9223372036854775808 ≤ n) (h : n ≤ 9223372036854775807) : IntKind.i64.wrap n = n := Go.IntWalk.i64_in n ⟨h0, h⟩
theorem i64n {a : Int} (n : Nat) (h : a = (n : Int)) (hn : n < 9223372036854775808) : Value.int .i64 (IntKind.i64.wrap a) = .int .i64 (n : Int) := by rw [h, wrap_i64 (by omega) (by omega)]
theorem u64n {a : Int} (n : Nat) (h : a = (n : Int)) : Value.int .u64 (IntKind.u64.wrap a) = .int .u64 ((n % B64 : Nat) : Int) := by rw [h, wrap_u64]
theorem u64i {a : Int} (n : Nat) (h : a = (n : Int)) (hn : n < B64) : Value.int .u64 (IntKind.u64.wrap a) = .int .u64 (n : Int) := by rw [h, wrap_u64, Nat.mod_eq_of_lt hn]
theorem u32i {a : Int} (n : Nat) (h : a = (n : Int)) (hn : n < B32) : Value.int .u32 (IntKind.u32.wrap a) = .int .u32 (n : Int) := by rw [h, wrap_u32, Nat.mod_eq_of_lt hn]
theorem u32n {a : Int} (n : Nat) (h : a = (n : Int)) : Value.int .u32 (IntKind.u32.wrap a) = .int .u32 ((n % B32 : Nat) : Int) := by rw [h, wrap_u32]
theorem intn {k : IntKind} {a : Int} (n : Nat) (h : a = (n : Int)) : Value.int k a = .int k (n : Int) := by rw [h]
theorem u8n {a : Int} (n : Nat) (h : a = (n : Int)) : Value.int .u8 (IntKind.u8.wrap a) = .int .u8 ((n % 256 : Nat) : Int) := by
  rw [h, show IntKind.u8.wrap (n : Int) = (n : Int) % 256 from rfl]; congr 1
theorem u8i {a : Int} (n : Nat) (h : a = (n : Int)) (hn : n < 256) : Value.int .u8 (IntKind.u8.wrap a) = .int .u8 (n : Int) := by rw [u8n n h, Nat.mod_eq_of_lt hn]
theorem fdiv2 {a n : Nat} (k : Nat) : ((a : Nat) : Int).fdiv (2 ^ (min (k : Int).toNat n)) = ((a / 2 ^ (min k n) : Nat) : Int) := by
  rw [Int.fdiv_eq_ediv_of_nonneg _ (by exact_mod_cast Nat.zero_le _)]
  simp
theorem tdivn (a b : Nat) : (a : Int).tdiv (b : Int) = ((a / b : Nat) : Int) := rfl
theorem tmodn (a b : Nat) : (a : Int).tmod (b : Int) = ((a % b : Nat) : Int) := rfl
theorem shr64 (a k : Nat) (h : k < 64) : (a : Int).fdiv (2 ^ (min (k : Int).toNat IntKind.u64.bits)) = ((a / 2 ^ k : Nat) : Int) := by
  rw [fdiv2]
  show ((a / 2 ^ (min k 64) : Nat) : Int) = _
  rw [Nat.min_eq_left (by omega)]
theorem shr32 (a k : Nat) (h : k < 32) : (a : Int).fdiv (2 ^ (min (k : Int).toNat IntKind.u32.bits)) = ((a / 2 ^ k : Nat) : Int) := by
  rw [fdiv2]
  show ((a / 2 ^ (min k 32) : Nat) : Int) = _
  rw [Nat.min_eq_left (by omega)]
theorem beqn {a : Nat} (n : Nat) (h : ((a : Int) == (n : Int)) = true) : a = n := Int.ofNat.inj (eq_of_beq h)
theorem nbeqn {a : Nat} (n : Nat) (h : ((a : Int) == (n : Int)) = false) : a ≠ n := fun e => by subst e; simp at h
theorem bnen {a b : Nat} (h : ((a : Int) != (b : Int)) = true) : a ≠ b := fun e => by subst e; simp at h
theorem nbnen {a b : Nat} (h : ((a : Int) != (b : Int)) = false) : a = b := Int.ofNat.inj (by simpa using h)
theorem slot_int {k : IntKind} {a b : Int} (h : a = b) : some (SS.one (SV.v (Value.int k a))) = some (SS.one (SV.v (Value.int k b))) := by rw [h]
theorem slot_bool {a b : Bool} (h : a = b) : some (SS.one (SV.v (Value.bool a))) = some (SS.one (SV.v (Value.bool b))) := by rw [h]
theorem blk_many {n : Nat} {xs ys : List Value} {r : Bool} (h : xs = ys) : some (Blk.mk [CV.many n xs] r) = some (Blk.mk [CV.many n ys] r) := by rw [h]
def R : Nat := 115792089237316195423570985008687907853269984665640564039457584007913129639936
theorem R_64 : B64 ^ 4 = R := by decide
theorem R_32 : B32 ^ 8 = R := by decide
theorem R_pos : 0 < R := by decide
theorem W_eq {x y : Nat} (hx : x < R) (hy : y < R) : (W x).map toI = (W y).map toI ↔ x = y := W_inj (R_64 ▸ hx) (R_64 ▸ hy)
theorem V_eq {x y : Nat} (hx : x < R) (hy : y < R) : (V x).map toI = (V y).map toI ↔ x = y := V_inj (R_32 ▸ hx) (R_32 ▸ hy)
theorem W_len (x : Nat) : (W x).length = 4 := cells_len _ _ _
theorem V_len (x : Nat) : (V x).length = 8 := cells_len _ _ _
theorem W_isI (x : Nat) : ∀ v ∈ W x, isI .u64 v := cells_isI _ _ _
theorem V_isI (x : Nat) : ∀ v ∈ V x, isI .u32 v := cells_isI _ _ _
theorem W_get {x i : Nat} (h : i < 4) : (W x).getD i undef = .int .u64 (dig B64 x i : Int) := cells_get h
theorem V_get {x i : Nat} (h : i < 8) : (V x).getD i undef = .int .u32 (dig B32 x i : Int) := cells_get h
theorem W_0 : List.replicate 4 (.int .u64 0) = W 0 := by
  rw [cells_zero]; exact cells_congr fun i _ => by simp [dig]
theorem V_0 : List.replicate 8 (.int .u32 0) = V 0 := by
  rw [cells_zero]; exact cells_congr fun i _ => by simp [dig]
theorem cells_cv {D : Nat → Prop} (k : IntKind) (n : Nat) (z : Nat → Nat) : (CV.many n (cells k n z)).ok D := ⟨cells_len k n z, cells_cellish k n z⟩
theorem W_cv {D : Nat → Prop} (x : Nat) : (CV.many 4 (W x)).ok D := cells_cv _ _ _
theorem V_cv {D : Nat → Prop} (x : Nat) : (CV.many 8 (V x)).ok D := cells_cv _ _ _
theorem okMany {D : Nat → Prop} {n : Nat} {xs : List Value} {r : List CV} (h : (CV.many n xs).ok D) (hr : okC D r) : okC D (.many n xs :: r) := okC_cons.2 ⟨h, hr⟩
theorem okOne {D : Nat → Prop} {v : Value} {r : List CV} (h : (CV.one v).ok D) (hr : okC D r) : okC D (.one v :: r) := okC_cons.2 ⟨h, hr⟩

theorem sub_out {x y : Nat} (hx : x < R) (hy : y < R) : [SV.g [CV.many 4 (W (num B64 (difd B64 (dig B64 x) (dig B64 y)) 4))], SV.v (.bool (((borrow (dig B64 x) (dig B64 y) 4 : Nat) : Int) == 1))] = [SV.g [CV.many 4 (W ((x + R - y) % R))], SV.v (.bool (decide (x < y)))] := by
  obtain ⟨h1, h2⟩ := dif_num B64_pos (n := 4) (x := x) (y := y) (R_64 ▸ hx) (R_64 ▸ hy)
  rw [h1, R_64]
  have : (((borrow (dig B64 x) (dig B64 y) 4 : Nat) : Int) == 1) = decide (x < y) := by
    rw [Bool.eq_iff_iff]; simp only [beq_iff_eq, decide_eq_true_eq]; omega
  rw [this]

theorem plus_out {x y : Nat} (hx : x < R) (hy : y < R) : [SV.g [CV.many 4 (W (num B64 (sumd B64 (dig B64 x) (dig B64 y) 0) 4))], SV.v (.int .u64 ((carry B64 (dig B64 x) (dig B64 y) 0 4 : Nat) : Int))] = [SV.g [CV.many 4 (W ((x + y) % R))], SV.v (.int .u64 (((x + y) / R : Nat) : Int))] := by
  obtain ⟨h1, h2⟩ := sum_num B64_pos (n := 4) (x := x) (y := y) (R_64 ▸ hx) (R_64 ▸ hy)
  rw [h1, h2, R_64]

theorem W_ne {a b : Nat} (ha : a < R) (hb : b < R) (h : (!decide ((W a ++ []).map toI = (W b ++ []).map toI)) = true) : a ≠ b := by
  simp only [List.append_nil, W_eq ha hb, Bool.not_eq_true', decide_eq_false_iff_not] at h; exact h
theorem W_nne {a b : Nat} (ha : a < R) (hb : b < R) (h : (!decide ((W a ++ []).map toI = (W b ++ []).map toI)) = false) : a = b := by
  simp only [List.append_nil, W_eq ha hb, Bool.not_eq_false', decide_eq_true_eq] at h; exact h
/-! rows that fill up, cell by cell -/
theorem step_cells {n k : Nat} {kd : IntKind} {z : Nat → Nat} (v : Nat) (hv : v = z k) : (cells kd n fun i => if i < k then z i else 0).set k (.int kd (v : Int)) = cells kd n fun i => if i < k + 1 then z i else 0 := by
  rw [cells_set]
  refine cells_congr fun i _ => ?_
  by_cases h : i = k
  · subst h; simp [hv]
  · simp only [h, if_false]
    by_cases h2 : i < k
    · simp [h2, show i < k + 1 from by omega]
    · simp [h2, show ¬ i < k + 1 from by omega]
theorem cells_all {n : Nat} {kd : IntKind} {z : Nat → Nat} : (cells kd n fun i => if i < n then z i else 0) = cells kd n z := cells_congr fun i hi => by simp [hi]

/-! bits -/
theorem intb_or {k : IntKind} {a b : Nat} (h : IntKind.wrap k ((a ||| b : Nat) : Int) = ((a ||| b : Nat) : Int)) (ha : a < 2 ^ k.bits) (hb : b < 2 ^ k.bits) : intb .or k (a : Int) (b : Int) = ((a ||| b : Nat) : Int) := by
  simp only [intb, BitVec.ofInt_natCast, BitVec.toNat_or, BitVec.toNat_ofNat, Nat.mod_eq_of_lt ha, Nat.mod_eq_of_lt hb]; exact h
theorem intb_and {k : IntKind} {a b : Nat} (h : IntKind.wrap k ((a &&& b : Nat) : Int) = ((a &&& b : Nat) : Int)) (ha : a < 2 ^ k.bits) (hb : b < 2 ^ k.bits) : intb .and k (a : Int) (b : Int) = ((a &&& b : Nat) : Int) := by
  simp only [intb, BitVec.ofInt_natCast, BitVec.toNat_and, BitVec.toNat_ofNat, Nat.mod_eq_of_lt ha, Nat.mod_eq_of_lt hb]; exact h
theorem or_u64 {a b : Nat} (ha : a < B64) (hb : b < B64) : intb .or .u64 (a : Int) (b : Int) = ((a ||| b : Nat) : Int) := by
  refine intb_or ?_ ha hb
  rw [wrap_u64, Nat.mod_eq_of_lt (show a ||| b < B64 from Nat.or_lt_two_pow (n := 64) ha hb)]
theorem and_u64 {a b : Nat} (ha : a < B64) (hb : b < B64) : intb .and .u64 (a : Int) (b : Int) = ((a &&& b : Nat) : Int) := by
  refine intb_and ?_ ha hb
  rw [wrap_u64, Nat.mod_eq_of_lt (show a &&& b < B64 from Nat.and_lt_two_pow (n := 64) a hb)]
/-- a word's upper part and its lower one, put together -/
theorem or_add {a b : Nat} (i : Nat) (hb : b < 2 ^ i) : a * 2 ^ i ||| b = a * 2 ^ i + b := by
  rw [← Nat.shiftLeft_eq, Nat.shiftLeft_add_eq_or_of_lt hb]
theorem half_word {a t : Nat} (ha : a < B64) (_ht : t < B64) : intb .or .u64 (((a : Nat) : Int).fdiv (2 ^ (min (1 : Int).toNat IntKind.u64.bits))) (IntKind.u64.wrap ((t : Int) * 2 ^ (min (63 : Int).toNat IntKind.u64.bits))) = ((a / 2 + t % 2 * 9223372036854775808 : Nat) : Int) := by
  have e1 : ((a : Nat) : Int).fdiv (2 ^ (min (1 : Int).toNat IntKind.u64.bits)) = ((a / 2 : Nat) : Int) := by
    show (a : Int).fdiv 2 = _
    rw [Int.fdiv_eq_ediv_of_nonneg _ (by omega)]; omega
  have e2 : IntKind.u64.wrap ((t : Int) * 2 ^ (min (63 : Int).toNat IntKind.u64.bits)) = ((t % 2 * 9223372036854775808 : Nat) : Int) := by
    show IntKind.u64.wrap ((t : Int) * 9223372036854775808) = _
    rw [show (t : Int) * 9223372036854775808 = ((t * 9223372036854775808 : Nat) : Int) from by omega, wrap_u64]
    unfold B64; omega
  rw [e1, e2, or_u64 (by unfold B64 at *; omega) (by unfold B64 at *; omega), Nat.or_comm]
  rw [show (9223372036854775808 : Nat) = 2 ^ 63 from rfl, or_add 63 (by unfold B64 at *; omega), Nat.add_comm]
def halfW (x top i : Nat) : Nat := dig B64 x i / 2 + (if i < 3 then dig B64 x (i + 1) else top) % 2 * 9223372036854775808
theorem halfW_lt (x t i : Nat) : halfW x t i < B64 := by
  have := dig_lt B64_pos x i
  unfold halfW B64 at *; omega
theorem half_out {x t : Nat} (hx : x < R) : W (num B64 (halfW x t) 4) = W (x / 2 + t % 2 * 57896044618658097711785492504343953926634992332820282019728792003956564819968) := by
  congr 1
  have h := num_dig (B := B64) x 4
  rw [R_64, Nat.mod_eq_of_lt hx] at h
  simp only [num, halfW] at h ⊢
  simp only [show (0 : Nat) < 3 from by decide, show (1 : Nat) < 3 from by decide, show (2 : Nat) < 3 from by decide, show ¬ (3 : Nat) < 3 from by decide, if_true, if_false] at *
  generalize dig B64 x 0 = a at *
  generalize dig B64 x 1 = b at *
  generalize dig B64 x 2 = c at *
  generalize dig B64 x 3 = d at *
  unfold B64 at *
  simp only [Nat.reducePow, Nat.reduceAdd] at *
  omega

/-! numbers as bytes, the greatest first -/
def be (f : Nat → Nat) : Nat → Nat
  | 0 => 0
  | k + 1 => be f k * 256 + f k
def Y (x : Nat) : List Value := cells .u8 32 fun i => dig 256 x (31 - i)
theorem be_lt {f : Nat → Nat} : ∀ k, (∀ i, i < k → f i < 256) → be f k < 256 ^ k
  | 0, _ => by simp [be]
  | k + 1, h => by
    have h1 := be_lt k (fun i hi => h i (by omega))
    have h2 := h k (by omega)
    simp only [be, Nat.pow_succ]; omega
theorem be_split (f : Nat → Nat) (n : Nat) : ∀ k, be f (n + k) = be f n * 256 ^ k + be (fun i => f (n + i)) k
  | 0 => by simp [be]
  | k + 1 => by
    rw [← Nat.add_assoc]
    simp only [be, be_split f n k, Nat.pow_succ, Nat.add_mul, Nat.mul_assoc, Nat.add_assoc]
theorem be_words (f : Nat → Nat) : num B64 (fun w => be (fun i => f (8 * (3 - w) + i)) 8) 4 = be f 32 := by
  rw [show (32 : Nat) = 8 + 24 from rfl, be_split f 8 24, show (24 : Nat) = 8 + 16 from rfl, be_split _ 8 16, show (16 : Nat) = 8 + 8 from rfl, be_split _ 8 8]
  simp only [num, B64]
  rw [show (fun i => f (8 * (3 - 0) + i)) = fun i => f (8 + (8 + (8 + i))) from funext fun i => by congr 1; omega,
    show (fun i => f (8 * (3 - 1) + i)) = fun i => f (8 + (8 + i)) from funext fun i => by congr 1; omega,
    show (fun i => f (8 * (3 - 2) + i)) = fun i => f (8 + i) from funext fun i => by congr 1,
    show (fun i => f (8 * (3 - 3) + i)) = f from funext fun i => by congr 1; omega]
  omega
theorem be_congr {f g : Nat → Nat} : ∀ k, (∀ i, i < k → f i = g i) → be f k = be g k
  | 0, _ => rfl
  | k + 1, h => by simp only [be, be_congr k (fun i hi => h i (by omega)), h k (by omega)]
theorem be_dig (x : Nat) : ∀ k n, be (fun i => dig 256 x (n + k - 1 - i)) k = x / 256 ^ n % 256 ^ k
  | 0, n => by simp [be, Nat.mod_one]
  | k + 1, n => by
    have e : be (fun i => dig 256 x (n + (k + 1) - 1 - i)) k = be (fun i => dig 256 x ((n + 1) + k - 1 - i)) k := be_congr k fun i hi => by congr 1; omega
    simp only [be]
    rw [e, be_dig x k (n + 1), show n + (k + 1) - 1 - k = n from by omega, dig]
    rw [Nat.pow_succ 256 k, Nat.mul_comm (256 ^ k) 256, Nat.mod_mul, Nat.div_div_eq_div_mul, ← Nat.pow_succ]
    show _ = x / 256 ^ n % 256 + 256 * (x / 256 ^ (n + 1) % 256 ^ k)
    omega
/-- a number's bytes, read back -/
theorem be_Y {x : Nat} (hx : x < R) : be (fun i => dig 256 x (31 - i)) 32 = x := by
  have h := be_dig x 32 0
  simp only [Nat.pow_zero, Nat.div_one] at h
  rw [show (256 : Nat) ^ 32 = R from by decide, Nat.mod_eq_of_lt hx] at h
  refine Eq.trans (be_congr 32 fun i hi => ?_) h
  rw [show 0 + 32 - 1 - i = 31 - i from by omega]
theorem be_lt_R {f : Nat → Nat} (h : ∀ i, i < 32 → f i < 256) : be f 32 < R := be_lt 32 h
theorem byte_word {x i : Nat} (_hi : i < 32) : (dig B64 x (3 - i / 8) / 2 ^ (56 - 8 * (i % 8))) % 256 = dig 256 x (31 - i) := by
  simp only [dig]
  rw [show B64 = 2 ^ 64 from rfl, show (256 : Nat) = 2 ^ 8 from rfl, ← Nat.pow_mul, ← Nat.pow_mul]
  have e : (2 : Nat) ^ 64 = 2 ^ (56 - 8 * (i % 8)) * 2 ^ (8 + 8 * (i % 8)) := by rw [← Nat.pow_add]; congr 1; omega
  rw [e, Nat.mod_mul_right_div_self, Nat.div_div_eq_div_mul, ← Nat.pow_add, Nat.pow_add 2 8, Nat.mod_mul_right_mod]
  congr 2
  congr 1; omega

def numZ (f : Nat → Nat) (st k w : Nat) : Nat := be (fun i => f (st + (8 * (3 - w) + i))) (min (k - 8 * (3 - w)) 8)
theorem numZ_step {f : Nat → Nat} (hf : ∀ i, f i < 256) {st k : Nat} (hk : k < 32) {v : Value} (hv : v = .int .u64 (intb .or .u64 ((numZ f st k (3 - k / 8) * 256 % B64 : Nat) : Int) ((f (st + k) : Nat) : Int))) :
    (cells .u64 4 (numZ f st k)).set (3 - k / 8) v = cells .u64 4 (numZ f st (k + 1)) := by
  have hb : numZ f st k (3 - k / 8) < 2 ^ 56 := by
    have := be_lt (f := fun i => f (st + (8 * (3 - (3 - k / 8)) + i))) (min (k - 8 * (3 - (3 - k / 8))) 8) (fun i _ => hf _)
    refine Nat.lt_of_lt_of_le this ?_
    rw [show (2 : Nat) ^ 56 = 256 ^ 7 from rfl]
    exact Nat.pow_le_pow_right (by decide) (by omega)
  have hfk := hf (st + k)
  rw [Nat.mod_eq_of_lt (by unfold B64; omega), or_u64 (by unfold B64; omega) (by unfold B64; omega), show (256 : Nat) = 2 ^ 8 from rfl, or_add 8 (by omega)] at hv
  rw [hv, cells_set]
  refine cells_congr fun i hi => ?_
  by_cases h : i = 3 - k / 8
  · subst h
    rw [if_pos rfl]
    unfold numZ
    rw [show min (k + 1 - 8 * (3 - (3 - k / 8))) 8 = min (k - 8 * (3 - (3 - k / 8))) 8 + 1 from by omega, be]
    rw [show st + (8 * (3 - (3 - k / 8)) + min (k - 8 * (3 - (3 - k / 8))) 8) = st + k from by omega]
  · rw [if_neg h]
    unfold numZ
    rw [show min (k + 1 - 8 * (3 - i)) 8 = min (k - 8 * (3 - i)) 8 from by omega]
theorem numZ_0 (f : Nat → Nat) (st : Nat) : List.replicate 4 (.int .u64 0) = cells .u64 4 (numZ f st 0) := (cells_zero _ _).trans (cells_congr fun i _ => by simp [numZ, be])
theorem numZ_end {f : Nat → Nat} (hf : ∀ i, f i < 256) (st : Nat) : cells .u64 4 (numZ f st 32) = W (be (fun i => f (st + i)) 32) := by
  rw [← be_words, ← num_congr (z := numZ f st 32) 4 (fun w hw => by unfold numZ; rw [show min (32 - 8 * (3 - w)) 8 = 8 from by omega])]
  refine W_of ?_
  · intro w hw
    unfold numZ
    have := be_lt (f := fun i => f (st + (8 * (3 - w) + i))) (min (32 - 8 * (3 - w)) 8) (fun i _ => hf _)
    refine Nat.lt_of_lt_of_le this ?_
    rw [show B64 = 256 ^ 8 from rfl]
    exact Nat.pow_le_pow_right (by decide) (by omega)

/-! callees of plain values -/
theorem invokes_val {P : Program} {f : FuncId} {args : Array Value} {w : World} {v : Value} (h : (callFunc f args).run P w = .ok (.value v) w) : Invokes P f args w (fun v' w' => v' = v ∧ w' = w) := .inr ⟨v, w, h, rfl, rfl⟩
theorem plain_call {P : Program} {eff : Bool} {f : FuncId} {args : List SV} {vals : Array Value} {σ : SSt} {nm : Nat} {K : SSt → SS → Prop} (res : SS) (v : Value)
    (ha : ∀ ρ, (args.map (SV.den ρ)).toArray = vals) (hd : ∀ ρ, res.den ρ = v) (hok : res.ok σ.dom) (h : ∀ w, Invokes P f vals w (fun v' w' => v' = v ∧ Frame' (fun _ => False) w w')) (hk : K σ res) : CallVC P eff (.fn f) args σ nm K :=
  callVC_val res hok (fun ρ w _ => by rw [ha ρ, hd ρ]; exact h w) hk
theorem same_frame {P : Program} {f : FuncId} {args : Array Value} {w : World} {v : Value} (h : Invokes P f args w (fun v' w' => v' = v ∧ w' = w)) : Invokes P f args w (fun v' w' => v' = v ∧ Frame' (fun _ => False) w w') :=
  h.mono fun _ _ ⟨h1, h2⟩ => ⟨h1, by rw [h2]; exact Frame'.refl _ _⟩
theorem ok_tup2 {D : Nat → Prop} {a b : Value} : (SS.tup [.v a, .v b]).ok D := by
  intro s hs
  simp only [List.mem_cons, List.not_mem_nil, or_false] at hs
  rcases hs with rfl | rfl <;> trivial
end Cv

/- Sums and differences modulo m, as the program takes them. Plain. -/
namespace Cv
open Go Go.SX
/-- a modulus: above half of 2^256, and not far below it -/
structure Mo (m : Nat) : Prop where
  lt : m < R
  two : R < 2 * m
  near : R - m < 680564733841876926926749214863536422912
def Dd (m : Nat) : List Value := cells .u64 3 (dig B64 (R - m))
theorem Dd_cv {D' : Nat → Prop} (m : Nat) : (CV.many 3 (Dd m)).ok D' := cells_cv _ _ _
/-- a field's cells -/
abbrev Fl (m : Nat) : List CV := [.many 4 (W m), .many 3 (Dd m)]
def Pp : Nat := 115792089237316195423570985008687907853269984665640564039457584007908834671663
def Nn : Nat := 115792089237316195423570985008687907852837564279074904382605163141518161494337
theorem mo_P : Mo Pp := ⟨by decide, by decide, by decide⟩
theorem mo_N : Mo Nn := ⟨by decide, by decide, by decide⟩
theorem Mo.pos {m : Nat} (h : Mo m) : 0 < m := by have := h.lt; have := h.two; omega
theorem mod_lt {m : Nat} (h : Mo m) (x : Nat) : x % m < m := Nat.mod_lt _ h.pos
theorem mod_ltR {m : Nat} (h : Mo m) (x : Nat) : x % m < R := Nat.lt_trans (mod_lt h x) h.lt
theorem in_ge {x m : Nat} (h : Mo m) (hx : x < R) (hm : ¬ x < m) : (x + R - m) % R = x % m := by
  have := h.lt; have := h.two
  rw [Nat.mod_eq_sub_mod (by omega : m ≤ x), Nat.mod_eq_of_lt (by omega : x - m < m), show x + R - m = (x - m) + R from by omega, Nat.add_mod_right, Nat.mod_eq_of_lt (by omega)]
theorem add_ge {x y m : Nat} (h : Mo m) (hx : x < m) (hy : y < m) (hc : (x + y) / R = 1) : ((x + y) % R + R - m) % R = (x + y) % m := by
  have := h.lt; have := h.two
  have hR := Nat.div_add_mod (x + y) R
  rw [hc] at hR
  rw [show (x + y) % R + R - m = x + y - m from by omega, Nat.mod_eq_of_lt (a := x + y - m) (by omega), Nat.mod_eq_sub_mod (by omega : m ≤ x + y), Nat.mod_eq_of_lt (a := x + y - m) (by omega)]
theorem add_lt {x y m : Nat} (h : Mo m) (hx : x < m) (hy : y < m) (hc : ¬ (x + y) / R = 1) : (x + y) % R = x + y := by
  have := h.lt; have := h.two
  have hR := Nat.div_add_mod (x + y) R
  have hl := Nat.mod_lt (x + y) R_pos
  refine Nat.mod_eq_of_lt ?_
  rcases Nat.lt_or_ge (x + y) R with h | h
  · exact h
  · exfalso; apply hc
    exact Nat.div_eq_of_lt_le (by omega) (by omega)
theorem neg_ne {x m : Nat} (h : Mo m) (hx : x < m) (h0 : x ≠ 0) : (m + R - x) % R = (m - x) % m := by
  have := h.lt
  rw [Nat.mod_eq_of_lt (a := m - x) (by omega), show m + R - x = (m - x) + R from by omega, Nat.add_mod_right, Nat.mod_eq_of_lt (by omega)]
theorem sub_mod {x y m : Nat} (hy : y < m) : (x + (m - y) % m) % m = (x + m - y) % m := by
  rw [Nat.add_mod_mod, show x + (m - y) = x + m - y from by omega]
/-- powers modulo m, bit by bit from above: the kernel can reckon them -/
def pwStep (m x b q : Nat) : Nat := if b = 1 then q * q % m * x % m else q * q % m
def pwGo (m x e : Nat) : Nat → Nat
  | 0 => 1
  | j + 1 => pwStep m x (e / 2 ^ (255 - j) % 2) (pwGo m x e j)
def pw (m x e : Nat) : Nat := pwGo m x e 256
theorem one_lt {m : Nat} (h : Mo m) : 1 < m := by have := h.two; unfold R at this; omega
theorem pwGo_lt {m : Nat} (h : Mo m) (x e : Nat) : ∀ j, pwGo m x e j < m
  | 0 => one_lt h
  | j + 1 => by
    simp only [pwGo, pwStep]; split
    · exact mod_lt h _
    · exact mod_lt h _
theorem pw_lt {m : Nat} (h : Mo m) (x e : Nat) : pw m x e < m := pwGo_lt h x e 256
theorem pw_ltR {m : Nat} (h : Mo m) (x e : Nat) : pw m x e < R := Nat.lt_trans (pw_lt h x e) h.lt
theorem pwGo_ltR {m : Nat} (h : Mo m) (x e j : Nat) : pwGo m x e j < R := Nat.lt_trans (pwGo_lt h x e j) h.lt
theorem pwGo_step {m x e j i : Nat} (hi : 255 - j = i) : pwGo m x e (j + 1) = if e / 2 ^ i % 2 = 1 then pwGo m x e j * pwGo m x e j % m * x % m else pwGo m x e j * pwGo m x e j % m := by rw [← hi]; rfl
theorem pwGo_eq {m x e : Nat} (h : Mo m) (he : e < 2 ^ 256) : ∀ j, j ≤ 256 → pwGo m x e j = x ^ (e / 2 ^ (256 - j)) % m
  | 0, _ => by
    show 1 = _
    rw [Nat.sub_zero, Nat.div_eq_of_lt he, Nat.pow_zero, Nat.mod_eq_of_lt (one_lt h)]
  | j + 1, hj => by
    rw [pwGo_step rfl, pwGo_eq h he j (by omega), show 256 - (j + 1) = 255 - j from by omega, show 256 - j = 255 - j + 1 from by omega]
    generalize 255 - j = i
    have e2 : e / 2 ^ i = 2 * (e / 2 ^ (i + 1)) + e / 2 ^ i % 2 := by rw [Nat.pow_succ, ← Nat.div_div_eq_div_mul]; omega
    split
    · rename_i hb
      rw [hb] at e2
      rw [← Nat.mul_mod, ← Nat.pow_add, Nat.mod_mul_mod, ← Nat.pow_succ, e2]
      congr 2; omega
    · rename_i hb
      rw [show e / 2 ^ i % 2 = 0 from by omega] at e2
      rw [← Nat.mul_mod, ← Nat.pow_add, e2]
      congr 2; omega
theorem pw_eq {m x e : Nat} (h : Mo m) (he : e < R) : pw m x e = x ^ e % m := by
  have := pwGo_eq (x := x) h (show e < 2 ^ 256 from he) 256 (Nat.le_refl _)
  rw [Nat.sub_self, Nat.pow_zero, Nat.div_one] at this
  exact this
theorem bit_word (e i : Nat) : dig B64 e (i / 64) / 2 ^ (i % 64) % 2 = e / 2 ^ i % 2 := by
  have hi := Nat.div_add_mod i 64
  simp only [dig]
  rw [show B64 = 2 ^ 64 from rfl, ← Nat.pow_mul]
  have e2 : (2 : Nat) ^ 64 = 2 ^ (i % 64) * (2 * 2 ^ (63 - i % 64)) := by
    rw [← Nat.pow_succ', ← Nat.pow_add]; congr 1; omega
  rw [e2, Nat.mod_mul_right_div_self, Nat.mod_mul_right_mod, Nat.div_div_eq_div_mul, ← Nat.pow_add, hi]
theorem and_1 {a : Nat} (ha : a < B64) : intb .and .u64 (a : Int) 1 = ((a % 2 : Nat) : Int) := by
  have := and_u64 (a := a) (b := 1) ha (by decide)
  rw [show a &&& 1 = a % 2 from Nat.and_two_pow_sub_one_eq_mod a 1] at this
  exact this
theorem W_1 : (List.replicate 4 (.int .u64 0)).set 0 (.int .u64 1) = W 1 := rfl
theorem W_2 : (List.replicate 4 (.int .u64 0)).set 0 (.int .u64 2) = W 2 := rfl
theorem W_7 : (List.replicate 4 (.int .u64 0)).set 0 (.int .u64 7) = W 7 := rfl
end Cv

/- Products by columns; what lies above 2^256, folded. Plain. -/
namespace Cv
open Go Go.SX
theorem mask32 {a : Nat} (ha : a < B64) : intb .and .u64 (a : Int) 4294967295 = ((a % 4294967296 : Nat) : Int) := by
  have := and_u64 (a := a) (b := 4294967295) ha (by decide)
  rw [show a &&& 4294967295 = a % 4294967296 from Nat.and_two_pow_sub_one_eq_mod a 32] at this
  exact this
theorem mulN (a b : Nat) : (a : Int) * (b : Int) = ((a * b : Nat) : Int) := (Int.natCast_mul a b).symm
theorem addN (a b : Nat) : (a : Int) + (b : Int) = ((a + b : Nat) : Int) := (Int.natCast_add a b).symm
structure M64 (x y : Nat) : Prop where
  d : x % 4294967296 * (y % 4294967296) < B64
  b : x / 4294967296 * (y % 4294967296) < B64
  t : x / 4294967296 * (y % 4294967296) + x % 4294967296 * (y % 4294967296) / 4294967296 < B64
  c : x % 4294967296 * (y / 4294967296) < B64
  w : (x / 4294967296 * (y % 4294967296) + x % 4294967296 * (y % 4294967296) / 4294967296) % 4294967296 + x % 4294967296 * (y / 4294967296) < B64
  a : x / 4294967296 * (y / 4294967296) < B64
  h1 : x / 4294967296 * (y / 4294967296) + (x / 4294967296 * (y % 4294967296) + x % 4294967296 * (y % 4294967296) / 4294967296) / 4294967296 < B64
  h : x / 4294967296 * (y / 4294967296) + (x / 4294967296 * (y % 4294967296) + x % 4294967296 * (y % 4294967296) / 4294967296) / 4294967296 +
    ((x / 4294967296 * (y % 4294967296) + x % 4294967296 * (y % 4294967296) / 4294967296) % 4294967296 + x % 4294967296 * (y / 4294967296)) / 4294967296 < B64
  eq : x / 4294967296 * (y / 4294967296) + (x / 4294967296 * (y % 4294967296) + x % 4294967296 * (y % 4294967296) / 4294967296) / 4294967296 +
    ((x / 4294967296 * (y % 4294967296) + x % 4294967296 * (y % 4294967296) / 4294967296) % 4294967296 + x % 4294967296 * (y / 4294967296)) / 4294967296 = x * y / B64
theorem m64 {x y : Nat} (hx : x < B64) (hy : y < B64) : M64 x y := by
  unfold B64 at hx hy
  obtain ⟨bd, bt, bw, hhi⟩ := Lib.mul64_hi x y hx hy
  have ba := Lib.half_mul_le (a := x / 4294967296) (b := y / 4294967296) (by omega) (by omega)
  have bb := Lib.half_mul_le (a := x / 4294967296) (b := y % 4294967296) (by omega) (by omega)
  have bc := Lib.half_mul_le (a := x % 4294967296) (b := y / 4294967296) (by omega) (by omega)
  refine ⟨bd, ?_, bt, ?_, bw, ?_, ?_, ?_, hhi⟩ <;> unfold B64 <;> omega
/-- one word changed -/
def chg (t : Nat → Nat) (m v : Nat) (j : Nat) : Nat := if j = m then v else t j
theorem chg_set {k : IntKind} {n m v : Nat} {t : Nat → Nat} : (cells k n t).set m (.int k (v : Int)) = cells k n (chg t m v) := cells_set
theorem num_chg {B : Nat} {t : Nat → Nat} {m v : Nat} : ∀ n, m < n → num B (chg t m v) n + t m * B ^ m = num B t n + v * B ^ m
  | 0, h => by omega
  | n + 1, h => by
    simp only [num]
    by_cases he : n = m
    · subst he
      have : num B (chg t n v) n = num B t n := num_congr n fun i hi => if_neg (by omega)
      rw [this]; simp only [chg, if_true]; omega
    · have ih := num_chg (B := B) (t := t) (m := m) (v := v) n (by omega)
      simp only [show chg t m v n = t n from by simp [chg, he]]
      omega
theorem chg_lt {B : Nat} {t : Nat → Nat} {m v : Nat} (ht : ∀ j, t j < B) (hv : v < B) : ∀ j, chg t m v j < B := by
  intro j; unfold chg; split
  · exact hv
  · exact ht j
/-- a times b, and what stands there, and the carry -/
structure Mac (a b t c : Nat) : Prop where
  hi : a * b / B64 + (a * b % B64 + c) / B64 < B64
  hj : a * b / B64 + (a * b % B64 + c) / B64 + (t + (a * b % B64 + c) % B64) / B64 < B64
  low : (t + (a * b % B64 + c) % B64) % B64 = (t + a * b + c) % B64
  up : a * b / B64 + (a * b % B64 + c) / B64 + (t + (a * b % B64 + c) % B64) / B64 = (t + a * b + c) / B64
theorem mac {a b t c : Nat} (ha : a < B64) (hb : b < B64) (ht : t < B64) (hc : c < B64) : Mac a b t c := by
  have h1 : a * b ≤ (B64 - 1) * (B64 - 1) := Nat.mul_le_mul (by omega) (by omega)
  have e : (B64 - 1) * (B64 - 1) = 340282366920938463426481119284349108225 := by decide
  rw [e] at h1
  have key : ∀ p : Nat, p ≤ 340282366920938463426481119284349108225 → p / B64 + (p % B64 + c) / B64 < B64 ∧ p / B64 + (p % B64 + c) / B64 + (t + (p % B64 + c) % B64) / B64 < B64 ∧
      (t + (p % B64 + c) % B64) % B64 = (t + p + c) % B64 ∧ p / B64 + (p % B64 + c) / B64 + (t + (p % B64 + c) % B64) / B64 = (t + p + c) / B64 := by
    intro p hp
    unfold B64 at *
    refine ⟨?_, ?_, ?_, ?_⟩ <;> omega
  obtain ⟨k1, k2, k3, k4⟩ := key _ h1
  exact ⟨k1, k2, k3, k4⟩
theorem mac_lt {a b t c : Nat} (ha : a < B64) (hb : b < B64) (ht : t < B64) (hc : c < B64) : (t + a * b + c) / B64 < B64 := by
  have := (mac ha hb ht hc).hj; rw [(mac ha hb ht hc).up] at this; exact this
theorem mac_set {t : Nat → Nat} {a b c m : Nat} (q : Mac a b (t m) c) {v : Value} (hv : v = .int .u64 (((t m + (a * b % B64 + c) % B64) % B64 : Nat) : Int)) : (cells .u64 8 t).set m v = cells .u64 8 (chg t m ((t m + a * b + c) % B64)) := by
  rw [hv, q.low]; exact chg_set
/-- a row's step -/
theorem row_step {t : Nat → Nat} {a b c m n V : Nat} (hm : m < n) (h : num B64 t n + c * B64 ^ m = V) :
    num B64 (chg t m ((t m + a * b + c) % B64)) n + (t m + a * b + c) / B64 * B64 ^ (m + 1) = V + a * b * B64 ^ m := by
  have h1 := num_chg (B := B64) (t := t) (m := m) (v := (t m + a * b + c) % B64) n hm
  have h2 := Nat.div_add_mod (t m + a * b + c) B64
  generalize (t m + a * b + c) % B64 = v at *
  generalize (t m + a * b + c) / B64 = q at *
  have e1 : q * B64 ^ (m + 1) = B64 * q * B64 ^ m := by rw [Nat.pow_succ, Nat.mul_comm (B64 ^ m) B64, ← Nat.mul_assoc, Nat.mul_comm q B64]
  have e2 := congrArg (· * B64 ^ m) h2
  simp only [Nat.add_mul] at e2
  rw [e1]
  omega
theorem num_zero {B : Nat} : ∀ n, num B (fun _ => 0) n = 0
  | 0 => rfl
  | n + 1 => by simp [num, num_zero n]
theorem num_x {x : Nat} (hx : x < R) : num B64 (dig B64 x) 4 = x := by rw [num_dig, R_64, Nat.mod_eq_of_lt hx]
/-- rows of a product: ahead of a row; and within it -/
structure MulO (x y : Nat) (q : Nat × (Nat → Nat)) : Prop where
  le : q.1 ≤ 4
  lt : ∀ j, q.2 j < B64
  eq : num B64 q.2 8 = num B64 (dig B64 x) q.1 * y
  zero : ∀ j, q.1 + 4 ≤ j → q.2 j = 0
structure MulI (x y i : Nat) (q : Nat × (Nat → Nat) × Nat) : Prop where
  le : q.1 ≤ 4
  lt : ∀ j, q.2.1 j < B64
  c : q.2.2 < B64
  eq : num B64 q.2.1 8 + q.2.2 * B64 ^ (i + q.1) = num B64 (dig B64 x) i * y + dig B64 x i * num B64 (dig B64 y) q.1 * B64 ^ i
  zero : ∀ j, i + 4 ≤ j → q.2.1 j = 0
theorem mulO_0 (x y : Nat) : MulO x y (0, fun _ => 0) := ⟨by omega, fun _ => B64_pos, (num_zero 8).trans (Nat.zero_mul y).symm, fun _ _ => rfl⟩
theorem mulI_0e {a b d e p : Nat} {z : Nat → Nat} (h : a = b) : a + 0 * p = b + d * num B64 z 0 * e := by
  have : num B64 z 0 = 0 := rfl
  rw [this, Nat.zero_mul, Nat.mul_zero, Nat.zero_mul, h]
theorem mulI_0 {x y i : Nat} {t : Nat → Nat} (h : MulO x y (i, t)) : MulI x y i (0, t, 0) := ⟨by omega, h.lt, B64_pos, mulI_0e h.eq, h.zero⟩
theorem mulI_step {x y i k c : Nat} {t : Nat → Nat} (hi : i < 4) (hk : k < 4) (h : MulI x y i (k, t, c)) :
    MulI x y i (k + 1, chg t (i + k) ((t (i + k) + dig B64 x i * dig B64 y k + c) % B64), (t (i + k) + dig B64 x i * dig B64 y k + c) / B64) := by
  refine ⟨by show k + 1 ≤ 4; omega, chg_lt h.lt (Nat.mod_lt _ B64_pos), mac_lt (dig_lt B64_pos _ _) (dig_lt B64_pos _ _) (h.lt _) h.c, ?_, fun j hj => ?_⟩
  · have h1 := row_step (a := dig B64 x i) (b := dig B64 y k) (m := i + k) (n := 8) (by omega) h.eq
    simp only at h1 ⊢
    rw [show i + (k + 1) = i + k + 1 from by omega, h1]
    simp only [num]
    rw [Nat.mul_add, Nat.add_mul, Nat.add_assoc, Nat.pow_add]
    congr 2
    rw [Nat.mul_comm (B64 ^ i) (B64 ^ k), ← Nat.mul_assoc, ← Nat.mul_assoc]
  · have := h.zero j hj
    simp only at this ⊢
    rw [chg, if_neg (by omega)]; exact this
theorem mulO_step {x y i c : Nat} {t : Nat → Nat} (hi : i < 4) (hy : y < R) (h : MulI x y i (4, t, c)) : MulO x y (i + 1, chg t (i + 4) c) := by
  refine ⟨by show i + 1 ≤ 4; omega, chg_lt h.lt h.c, ?_, fun j hj => ?_⟩
  · have h1 := num_chg (B := B64) (t := t) (m := i + 4) (v := c) 8 (by omega)
    have h2 := h.zero (i + 4) (Nat.le_refl _)
    have h3 := h.eq
    simp only at h2 h3 ⊢
    rw [h2, Nat.zero_mul, Nat.add_zero] at h1
    rw [h1, h3, num_x hy]
    simp only [num]
    rw [Nat.add_mul]
    congr 1
    rw [Nat.mul_assoc, Nat.mul_comm y, ← Nat.mul_assoc]
  · have := h.zero j (by simp only at hj; omega)
    simp only at this hj ⊢
    rw [chg, if_neg (by omega)]; exact this
theorem mulO_end {x y : Nat} {t : Nat → Nat} (hx : x < R) (h : MulO x y (4, t)) : num B64 t 8 = x * y := by
  have := h.eq; simp only at this; rw [this, num_x hx]
/-! what lies above 2^256, folded -/
def hig (t : Nat → Nat) (j : Nat) : Nat := t (4 + j)
def loz (t : Nat → Nat) (j : Nat) : Nat := if j < 4 then t j else 0
structure FoldO (T m : Nat) (t : Nat → Nat) : Prop where
  lt : ∀ j, t j < B64
  eq : num B64 t 8 % m = T % m
structure FoldI (m : Nat) (t0 : Nat → Nat) (q : Nat × (Nat → Nat)) : Prop where
  le : q.1 ≤ 4
  lt : ∀ j, q.2 j < B64
  eq : num B64 q.2 8 = num B64 t0 4 + num B64 (hig t0) q.1 * (R - m)
structure FoldK (m : Nat) (t0 : Nat → Nat) (i : Nat) (q : Nat × (Nat → Nat) × Nat) : Prop where
  le : q.1 ≤ 3
  lt : ∀ j, q.2.1 j < B64
  c : q.2.2 < B64
  eq : num B64 q.2.1 8 + q.2.2 * B64 ^ (i + q.1) = num B64 t0 4 + num B64 (hig t0) i * (R - m) + hig t0 i * num B64 (dig B64 (R - m)) q.1 * B64 ^ i
structure FoldC (m : Nat) (t0 : Nat → Nat) (i : Nat) (q : Nat × (Nat → Nat) × Nat) : Prop where
  le : i + 3 ≤ q.1
  lt : ∀ j, q.2.1 j < B64
  c : q.2.2 < B64
  eq : num B64 q.2.1 8 + q.2.2 * B64 ^ q.1 = num B64 t0 4 + num B64 (hig t0) (i + 1) * (R - m)
theorem num_mono {B : Nat} {z : Nat → Nat} {a : Nat} : ∀ b, num B z a ≤ num B z (a + b)
  | 0 => Nat.le_refl _
  | b + 1 => by
    have := num_mono (B := B) (z := z) (a := a) b
    rw [← Nat.add_assoc, num]; omega
theorem num8 (t : Nat → Nat) : num B64 t 8 = num B64 t 4 + R * num B64 (hig t) 4 := by
  rw [← R_64]; exact num_split 4 4
theorem fold_lt {m : Nat} {t0 : Nat → Nat} (hm : Mo m) (ht : ∀ j, t0 j < B64) {i : Nat} (hi : i ≤ 4) : num B64 t0 4 + num B64 (hig t0) i * (R - m) < B64 ^ 8 := by
  have h1 := num8 t0
  have h2 := num_lt B64_pos (z := t0) 8 (fun j _ => ht j)
  have h3 := num_mono (B := B64) (z := hig t0) (a := i) (4 - i)
  rw [show i + (4 - i) = 4 from by omega] at h3
  have h4 : num B64 (hig t0) i * (R - m) ≤ num B64 (hig t0) 4 * R := Nat.mul_le_mul h3 (by omega)
  rw [Nat.mul_comm R] at h1
  omega
theorem d_num {m : Nat} (hm : Mo m) : num B64 (dig B64 (R - m)) 3 = R - m := by
  rw [num_dig, Nat.mod_eq_of_lt]
  refine Nat.lt_trans hm.near (by decide)
theorem foldI_0 (m : Nat) {t : Nat → Nat} (ht : ∀ j, t j < B64) : FoldI m t (0, loz t) := by
  refine ⟨by omega, fun j => ?_, ?_⟩
  · show loz t j < B64
    unfold loz; split
    · exact ht j
    · exact B64_pos
  · show num B64 (loz t) 8 = num B64 t 4 + num B64 (hig t) 0 * (R - m)
    have e0 : num B64 (hig t) 0 = 0 := rfl
    rw [num8 (loz t), e0, Nat.zero_mul, Nat.add_zero, num_congr (z := hig (loz t)) (z' := fun _ => 0) 4 (fun i _ => if_neg (by omega)), num_zero, Nat.mul_zero, Nat.add_zero]
    exact num_congr 4 fun i hi => by simp [loz, hi]
theorem foldK_0 {m i : Nat} {t0 t : Nat → Nat} (h : FoldI m t0 (i, t)) : FoldK m t0 i (0, t, 0) := ⟨by omega, h.lt, B64_pos, mulI_0e h.eq⟩
theorem foldK_step {m i k c : Nat} {t0 t : Nat → Nat} (hi : i < 4) (hk : k < 3) (h0 : ∀ j, t0 j < B64) (h : FoldK m t0 i (k, t, c)) :
    FoldK m t0 i (k + 1, chg t (i + k) ((t (i + k) + hig t0 i * dig B64 (R - m) k + c) % B64), (t (i + k) + hig t0 i * dig B64 (R - m) k + c) / B64) := by
  refine ⟨by show k + 1 ≤ 3; omega, chg_lt h.lt (Nat.mod_lt _ B64_pos), mac_lt (h0 _) (dig_lt B64_pos _ _) (h.lt _) h.c, ?_⟩
  have h1 := row_step (a := hig t0 i) (b := dig B64 (R - m) k) (m := i + k) (n := 8) (by omega) h.eq
  simp only at h1 ⊢
  rw [show i + (k + 1) = i + k + 1 from by omega, h1]
  simp only [num]
  rw [Nat.mul_add, Nat.add_mul, ← Nat.add_assoc, Nat.pow_add]
  congr 1
  rw [Nat.mul_comm (B64 ^ i) (B64 ^ k), ← Nat.mul_assoc, ← Nat.mul_assoc]
theorem foldC_0 {m i c : Nat} {t0 t : Nat → Nat} (hm : Mo m) (h : FoldK m t0 i (3, t, c)) : FoldC m t0 i (i + 3, t, c) := by
  refine ⟨Nat.le_refl _, h.lt, h.c, ?_⟩
  have h1 := h.eq
  simp only at h1 ⊢
  rw [h1, d_num hm]
  simp only [num]
  rw [Nat.add_mul, ← Nat.add_assoc]
  congr 1
  rw [Nat.mul_assoc, Nat.mul_assoc, Nat.mul_comm (R - m)]
theorem foldC_lt {m i k c : Nat} {t0 t : Nat → Nat} (hm : Mo m) (h0 : ∀ j, t0 j < B64) (hi : i < 4) (h : FoldC m t0 i (k, t, c)) (hc : c ≠ 0) : k < 8 := by
  have h1 := h.eq
  have h2 := fold_lt hm h0 (i := i + 1) (by omega)
  simp only at h1
  rw [← h1] at h2
  rcases Nat.lt_or_ge k 8 with hk | hk
  · exact hk
  · exfalso
    have h3 : B64 ^ 8 ≤ B64 ^ k := Nat.pow_le_pow_right B64_pos hk
    have h4 : 1 * B64 ^ k ≤ c * B64 ^ k := Nat.mul_le_mul_right _ (by omega)
    omega
theorem foldC_step {m i k c : Nat} {t0 t : Nat → Nat} (hk : k < 8) (h : FoldC m t0 i (k, t, c)) : FoldC m t0 i (k + 1, chg t k ((t k + c) % B64), (t k + c) / B64) := by
  have hle := h.le
  have hc := h.c
  have ht := h.lt k
  refine ⟨by simp only at hle ⊢; omega, chg_lt h.lt (Nat.mod_lt _ B64_pos), by simp only at hc ht ⊢; unfold B64 at *; omega, ?_⟩
  have h1 := row_step (a := 0) (b := 0) (m := k) (n := 8) hk h.eq
  simp only [Nat.mul_zero, Nat.add_zero, Nat.zero_mul] at h1 ⊢
  exact h1
theorem zmul {a p b : Nat} (h : a + 0 * p = b) : a = b := by rw [Nat.zero_mul] at h; exact h
theorem foldI_step {m i k : Nat} {t0 t : Nat → Nat} (hi : i < 4) (h : FoldC m t0 i (k, t, 0)) : FoldI m t0 (i + 1, t) := by
  refine ⟨by show i + 1 ≤ 4; omega, h.lt, ?_⟩
  exact zmul h.eq
theorem fold_arith {a h d m r : Nat} (hr : r = d + m) : (a + h * d) % m = (a + r * h) % m := by
  rw [hr, Nat.mul_comm (d + m), Nat.mul_add, ← Nat.add_assoc, Nat.add_mul_mod_self_right]
theorem foldO_step {T m : Nat} {t0 t : Nat → Nat} (hm : Mo m) (h0 : FoldO T m t0) (h : FoldI m t0 (4, t)) : FoldO T m t := by
  refine ⟨h.lt, ?_⟩
  have h1 := h.eq
  have h2 := h0.eq
  simp only at h1
  rw [← h2, h1, num8 t0]
  exact fold_arith (by have := hm.lt; omega)
theorem fold_down {m : Nat} {t0 t : Nat → Nat} (hm : Mo m) (h : FoldI m t0 (4, t)) (hz : num B64 (hig t0) 4 ≠ 0) : num B64 t 8 < num B64 t0 8 := by
  have h1 := h.eq
  simp only at h1
  rw [h1, num8 t0, Nat.mul_comm R]
  have h2 : num B64 (hig t0) 4 * (R - m) < num B64 (hig t0) 4 * R := Nat.mul_lt_mul_of_pos_left (by have := hm.pos; have := hm.lt; omega) (by omega)
  omega
theorem fold_end {T m : Nat} {t : Nat → Nat} (h : FoldO T m t) (h4 : t 4 = 0) (h5 : t 5 = 0) (h6 : t 6 = 0) (h7 : t 7 = 0) : num B64 t 4 % m = T % m := by
  rw [← h.eq, num8 t]
  have : num B64 (hig t) 4 = 0 := by simp [num, hig, h4, h5, h6, h7]
  rw [this, Nat.mul_zero, Nat.add_zero]
theorem fold_ne {t : Nat → Nat} (h : num B64 (hig t) 4 = 0) : t 4 = 0 ∧ t 5 = 0 ∧ t 6 = 0 ∧ t 7 = 0 := by
  simp only [num, hig, Nat.zero_add, Nat.add_zero, Nat.add_eq_zero_iff] at h
  simp [B64] at h
  omega
theorem loz_blk (t : Nat → Nat) (r : Bool) : BlkEq ⟨[.many 4 ((cells .u64 8 t).take 4), .one (.int .u64 0), .one (.int .u64 0), .one (.int .u64 0), .one (.int .u64 0)], r⟩ ⟨[.many 8 (cells .u64 8 (loz t))], r⟩ :=
  ⟨rfl, fun _ => rfl, fun _ _ => cells_ok _ _ _⟩
end Cv

/- The program's points and what it makes of them: plain copies of its formulas. -/
namespace Cv
open Go Go.SX
def fm (x y : Nat) : Nat := x * y % Pp
def fa (x y : Nat) : Nat := (x + y) % Pp
def fs (x y : Nat) : Nat := (x + Pp - y) % Pp
abbrev J := Nat × Nat × Nat
/-- a point's cells -/
abbrev Pt (a : J) : List CV := [.many 4 (W a.1), .many 4 (W a.2.1), .many 4 (W a.2.2)]
/-- the two fields' cells -/
abbrev Gl : List CV := [.many 4 (W Pp), .many 3 (Dd Pp), .many 4 (W Nn), .many 3 (Dd Nn)]
structure OkJ (a : J) : Prop where
  x : a.1 < Pp
  y : a.2.1 < Pp
  z : a.2.2 < Pp
theorem okJ_0 : OkJ (0, 0, 0) := ⟨by decide, by decide, by decide⟩
theorem fm_lt (x y : Nat) : fm x y < Pp := mod_lt mo_P _
theorem fa_lt (x y : Nat) : fa x y < Pp := mod_lt mo_P _
theorem fs_lt (x y : Nat) : fs x y < Pp := mod_lt mo_P _
def jdbl (a : J) : J :=
  if a.2.2 = 0 then a else
    let yy := fm a.2.1 a.2.1
    let s0 := fm a.1 yy
    let s := fa (fa s0 s0) (fa s0 s0)
    let xx := fm a.1 a.1
    let m := fa (fa xx xx) xx
    let x := fs (fm m m) (fa s s)
    let e0 := fm yy yy
    let e := fa (fa e0 e0) (fa e0 e0)
    let z := fm a.2.1 a.2.2
    (x, fs (fm m (fs s x)) (fa e e), fa z z)
theorem jdbl_ok {a : J} (h : OkJ a) : OkJ (jdbl a) := by
  unfold jdbl; split
  · exact h
  · exact ⟨fs_lt _ _, fs_lt _ _, fa_lt _ _⟩
def jadd (a b : J) : J :=
  if a.2.2 = 0 then b else if b.2.2 = 0 then a else
    let aa := fm a.2.2 a.2.2
    let bb := fm b.2.2 b.2.2
    let u := fm a.1 bb
    let v := fm b.1 aa
    let s := fm a.2.1 (fm b.2.2 bb)
    let t := fm b.2.1 (fm a.2.2 aa)
    let h := fs v u
    let r := fs t s
    if h = 0 then (if r = 0 then jdbl a else (0, 0, 0)) else
      let hh := fm h h
      let hhh := fm h hh
      let q := fm u hh
      let x := fs (fs (fm r r) hhh) (fa q q)
      (x, fs (fm r (fs q x)) (fm s hhh), fm h (fm a.2.2 b.2.2))
theorem jadd_ok {a b : J} (ha : OkJ a) (hb : OkJ b) : OkJ (jadd a b) := by
  unfold jadd
  split
  · exact hb
  · split
    · exact ha
    · dsimp only; split
      · split
        · exact jdbl_ok ha
        · exact okJ_0
      · exact ⟨fs_lt _ _, fs_lt _ _, fm_lt _ _⟩
/-- k times a point, the upper bits first: after all but the lowest n bits of k -/
def jtimes (k : Nat) (a : J) : Nat → J
  | 0 => (0, 0, 0)
  | n + 1 => let q := jdbl (jtimes k a n); if k / 2 ^ (255 - n) % 2 = 1 then jadd q a else q
theorem jtimes_ok {k : Nat} {a : J} (ha : OkJ a) : ∀ n, OkJ (jtimes k a n)
  | 0 => okJ_0
  | n + 1 => by
    simp only [jtimes]; split
    · exact jadd_ok (jdbl_ok (jtimes_ok ha n)) ha
    · exact jdbl_ok (jtimes_ok ha n)
theorem jtimes_step {k j i : Nat} {a : J} (hi : 255 - j = i) : jtimes k a (j + 1) = if k / 2 ^ i % 2 = 1 then jadd (jdbl (jtimes k a j)) a else jdbl (jtimes k a j) := by rw [← hi]; rfl
/-- the root that is tried, and the point of an x -/
def Pq : Nat := 28948022309329048855892746252171976963317496166410141009864396001977208667916
def lsq (x : Nat) : Nat := fa (fm (fm x x) x) 7
def lroot (x : Nat) : Nat := pw Pp (lsq x) Pq
def jlift (x odd : Nat) : J × Bool :=
  if fm (lroot x) (lroot x) = lsq x then ((x, if lroot x % 2 = odd then lroot x else (Pp - lroot x) % Pp, 1), true) else ((0, 0, 0), false)
theorem jlift_ok {x odd : Nat} (hx : x < Pp) : OkJ (jlift x odd).1 := by
  unfold jlift; split
  · refine ⟨hx, ?_, (by decide : 1 < Pp)⟩
    show (if lroot x % 2 = odd then lroot x else (Pp - lroot x) % Pp) < Pp
    split
    · exact pw_lt mo_P _ _
    · exact mod_lt mo_P _
  · exact okJ_0
theorem dig_0 (x : Nat) : dig B64 x 0 % 2 = x % 2 := by
  unfold dig B64; omega
theorem Pt_0 (r : Bool) : some (Blk.mk [.many 4 (List.replicate 4 (.int .u64 0)), .many 4 (List.replicate 4 (.int .u64 0)), .many 4 (List.replicate 4 (.int .u64 0))] r) = some (Blk.mk (Pt (0, 0, 0)) r) := by
  rw [W_0]
theorem blkPt {a b : J} {r : Bool} (h : a = b) : some (Blk.mk (Pt a) r) = some (Blk.mk (Pt b) r) := by rw [h]
theorem lift_neg (x r : Nat) (h : r = lroot x) : [SV.g [.many 4 (W x), .many 4 (W ((Pp - r) % Pp)), .many 4 ((List.replicate 4 (Value.int .u64 0)).set 0 (Value.int .u64 1))], SV.v (.bool true)] = [SV.g (Pt (x, (Pp - lroot x) % Pp, 1)), SV.v (.bool true)] := by
  rw [h, W_1]
theorem lift_pos (x r : Nat) (h : r = lroot x) : [SV.g [.many 4 (W x), .many 4 (W r), .many 4 ((List.replicate 4 (Value.int .u64 0)).set 0 (Value.int .u64 1))], SV.v (.bool true)] = [SV.g (Pt (x, lroot x, 1)), SV.v (.bool true)] := by
  rw [h, W_1]
theorem okPt {D : Nat → Prop} (a : J) : okC D (Pt a) := okMany (W_cv _) (okMany (W_cv _) (okMany (W_cv _) okC_nil))
def Gx : Nat := 55066263022277343669578718895168534326250603453777594175500187360389116729240
def jG : J := (jlift Gx 0).1
def jw (a : J) : Nat := pw Pp a.2.2 (Pp - 2)
def jflat (a : J) : Nat × Nat := (fm a.1 (fm (jw a) (jw a)), fm a.2.1 (fm (jw a) (fm (jw a) (jw a))))
theorem Gx_lt : Gx < Pp := by decide
theorem jG_ok : OkJ jG := by unfold jG; exact jlift_ok (x := Gx) (odd := 0) Gx_lt
def keyOK (k : Nat) : Bool := decide (k ≠ 0 ∧ k < Nn)
theorem key_no {k : Nat} (h : (!decide (k = 0)) = false) : false = keyOK k := by
  have : k = 0 := by simpa using h
  subst this; rfl
theorem key_yes {k : Nat} (h : (!decide (k = 0)) = true) : decide (k < Nn) = keyOK k := by
  have : k ≠ 0 := by simpa using h
  simp [keyOK, this]
/-- bytes as a point -/
def junpack (f : Nat → Nat) (st len : Nat) : J × Bool :=
  if len = 33 ∧ f st / 2 = 1 ∧ be (fun i => f (st + 1 + i)) 32 < Pp then jlift (be (fun i => f (st + 1 + i)) 32) (f st % 2) else ((0, 0, 0), false)
theorem junpack_ok (f : Nat → Nat) (st len : Nat) : OkJ (junpack f st len).1 := by
  unfold junpack; split
  · rename_i h; exact jlift_ok h.2.2
  · exact okJ_0
/-- a point's 33 bytes: of x and of y -/
def pk33 (x y : Nat) (i : Nat) : Nat := if i = 0 then 2 + y % 2 else dig 256 x (32 - i)
theorem pk33_lt (x y i : Nat) : pk33 x y i < 256 := by
  unfold pk33; split
  · omega
  · exact Nat.mod_lt _ (by decide)
def jpack (a : J) : Nat → Nat := pk33 (jflat a).1 (jflat a).2
theorem pk33_blk (x y : Nat) (r : Bool) : BlkEq ⟨[.one (.int .u8 ((2 + y % 2 : Nat) : Int)), .many 32 (Y x)], r⟩ ⟨[.many 33 (cells .u8 33 (pk33 x y))], r⟩ := by
  refine ⟨rfl, fun ρ => ?_, fun _ _ => cells_ok _ _ _⟩
  show Value.int .u8 ((2 + y % 2 : Nat) : Int) :: (Y x ++ []) = cells .u8 33 (pk33 x y) ++ []
  rw [List.append_nil, List.append_nil]
  apply List.ext_getElem?
  intro j
  cases j with
  | zero => simp [cells, pk33]
  | succ j =>
    simp only [Y, cells, List.getElem?_cons_succ, List.getElem?_map]
    by_cases h : j < 32
    · rw [List.getElem?_range h, List.getElem?_range (show j + 1 < 33 by omega)]
      show some (Value.int .u8 ((dig 256 x (31 - j) : Nat) : Int)) = some (Value.int .u8 ((pk33 x y (j + 1) : Nat) : Int))
      rw [pk33, if_neg (by omega), show 31 - j = 32 - (j + 1) from by omega]
    · rw [List.getElem?_eq_none (by simp; omega), List.getElem?_eq_none (by simp; omega)]; rfl
theorem rep_cv {D : Nat → Prop} (k : IntKind) (v : Int) (n m i : Nat) (h : n - i = m) : (CV.many m ((List.replicate n (.int k v)).drop i)).ok D := by
  refine ⟨by simp [h], fun x hx => ?_⟩
  rw [List.eq_of_mem_replicate (List.mem_of_mem_drop hx)]; rfl
theorem junpack_len {f : Nat → Nat} {st len : Nat} (h : len ≠ 33) : junpack f st len = ((0, 0, 0), false) := if_neg fun hh => h hh.1
theorem junpack_head {f : Nat → Nat} {st len : Nat} (h : f st / 2 * 2 ≠ 2) : junpack f st len = ((0, 0, 0), false) := if_neg fun hh => h (by rw [hh.2.1])
theorem junpack_big {f : Nat → Nat} {st len : Nat} (h : ¬ be (fun i => f (st + 1 + i)) 32 < Pp) : junpack f st len = ((0, 0, 0), false) := if_neg fun hh => h hh.2.2
theorem junpack_yes {f : Nat → Nat} {st : Nat} (h : f st / 2 * 2 = 2) (h2 : be (fun i => f (st + 1 + i)) 32 < Pp) : junpack f st 33 = jlift (be (fun i => f (st + 1 + i)) 32) (f st % 2) := if_pos ⟨rfl, by omega, h2⟩
set_option maxRecDepth 100000 in
theorem andNot1 {a : Nat} (ha : a < 256) : intb .andNot .u8 (a : Int) 1 = ((a / 2 * 2 : Nat) : Int) := by
  have : ∀ a : Fin 256, intb .andNot .u8 ((a.1 : Nat) : Int) 1 = ((a.1 / 2 * 2 : Nat) : Int) := by decide
  exact this ⟨a, ha⟩
set_option maxRecDepth 100000 in
theorem and1_u8 {a : Nat} (ha : a < 256) : intb .and .u8 (a : Int) 1 = ((a % 2 : Nat) : Int) := by
  have : ∀ a : Fin 256, intb .and .u8 ((a.1 : Nat) : Int) 1 = ((a.1 % 2 : Nat) : Int) := by decide
  exact this ⟨a, ha⟩
end Cv

/- What the program's exported functions of the curve give: plain copies. -/
namespace Cv
open Go Go.SX
/-- a number's 32 bytes -/
def by32 (x : Nat) (i : Nat) : Nat := dig 256 x (31 - i)
theorem Y_by (x : Nat) : Y x = cells .u8 32 (by32 x) := rfl
theorem by32_lt (x i : Nat) : by32 x i < 256 := Nat.mod_lt _ (by decide)
theorem jpack_lt (a : J) (i : Nat) : jpack a i < 256 := pk33_lt _ _ _
def zf (_ : Nat) : Nat := 0
theorem zero_bytes (n : Nat) : List.replicate n (.int .u8 0) = cells .u8 n zf := cells_zero _ _
/-- a key's public key, and the error -/
def pubOf (f : Nat → Nat) : (Nat → Nat) × Nat := if keyOK (be f 32) = true then (jpack (jtimes (be f 32) jG 256), 0) else (zf, 1)
def addKey (f g : Nat → Nat) : (Nat → Nat) × Nat :=
  if keyOK (be f 32) = true ∧ be g 32 < Nn then (if (be f 32 + be g 32) % Nn = 0 then (zf, 7) else (by32 ((be f 32 + be g 32) % Nn), 0)) else (zf, 1)
def addPub (f g : Nat → Nat) : (Nat → Nat) × Nat :=
  if be g 32 < Nn then (if (junpack f 0 33).2 = true then (if (jadd (junpack f 0 33).1 (jtimes (be g 32) jG 256)).2.2 = 0 then (zf, 7) else (jpack (jadd (junpack f 0 33).1 (jtimes (be g 32) jG 256)), 0)) else (zf, 3)) else (zf, 1)
/-- the point that a signature comes to -/
def sigPt (p : J) (e r s : Nat) : J := jadd (jtimes (e % Nn * pw Nn s (Nn - 2) % Nn) jG 256) (jtimes (r * pw Nn s (Nn - 2) % Nn) p 256)
def verPt (p : J) (e r s : Nat) : Bool := if (sigPt p e r s).2.2 = 0 then false else decide ((jflat (sigPt p e r s)).1 % Nn = r)
def verify (f : Nat → Nat) (st len : Nat) (m : Nat → Nat) (g : Nat → Nat) (st' len' : Nat) : Bool :=
  if len' = 64 ∧ (junpack f st len).2 = true ∧ keyOK (be (fun i => g (st' + i)) 32) = true ∧ keyOK (be (fun i => g (st' + 32 + i)) 32) = true then
    verPt (junpack f st len).1 (be m 32) (be (fun i => g (st' + i)) 32) (be (fun i => g (st' + 32 + i)) 32)
  else false
theorem keyOK_lt {k : Nat} (h : keyOK k = true) : k < Nn := by
  simp only [keyOK, decide_eq_true_eq] at h; exact h.2
theorem keyOK_ne {k : Nat} (h : keyOK k = true) : k ≠ 0 := by
  simp only [keyOK, decide_eq_true_eq] at h; exact h.1
theorem sigPt_ok {p : J} (hp : OkJ p) (e r s : Nat) : OkJ (sigPt p e r s) := jadd_ok (jtimes_ok jG_ok _) (jtimes_ok hp _)
theorem pubOf_no {f : Nat → Nat} (h : ¬ keyOK (be f 32) = true) : pubOf f = (zf, 1) := if_neg h
theorem pubOf_yes {f : Nat → Nat} (h : keyOK (be f 32) = true) : pubOf f = (jpack (jtimes (be f 32) jG 256), 0) := if_pos h
theorem addKey_no {f g : Nat → Nat} (h : ¬ (keyOK (be f 32) = true ∧ be g 32 < Nn)) : addKey f g = (zf, 1) := if_neg h
theorem addKey_0 {f g : Nat → Nat} (h : keyOK (be f 32) = true) (h2 : be g 32 < Nn) (h3 : (be f 32 + be g 32) % Nn = 0) : addKey f g = (zf, 7) := by
  unfold addKey; rw [if_pos ⟨h, h2⟩, if_pos h3]
theorem addKey_yes {f g : Nat → Nat} (h : keyOK (be f 32) = true) (h2 : be g 32 < Nn) (h3 : ¬ (be f 32 + be g 32) % Nn = 0) : addKey f g = (by32 ((be f 32 + be g 32) % Nn), 0) := by
  unfold addKey; rw [if_pos ⟨h, h2⟩, if_neg h3]
theorem addPub_no {f g : Nat → Nat} (h : ¬ be g 32 < Nn) : addPub f g = (zf, 1) := if_neg h
theorem addPub_form {f g : Nat → Nat} (h : be g 32 < Nn) (h2 : ¬ (junpack f 0 33).2 = true) : addPub f g = (zf, 3) := by
  unfold addPub; rw [if_pos h, if_neg h2]
theorem addPub_0 {f g : Nat → Nat} (h : be g 32 < Nn) (h2 : (junpack f 0 33).2 = true) (h3 : (jadd (junpack f 0 33).1 (jtimes (be g 32) jG 256)).2.2 = 0) : addPub f g = (zf, 7) := by
  unfold addPub; rw [if_pos h, if_pos h2, if_pos h3]
theorem addPub_yes {f g : Nat → Nat} (h : be g 32 < Nn) (h2 : (junpack f 0 33).2 = true) (h3 : ¬ (jadd (junpack f 0 33).1 (jtimes (be g 32) jG 256)).2.2 = 0) :
    addPub f g = (jpack (jadd (junpack f 0 33).1 (jtimes (be g 32) jG 256)), 0) := by
  unfold addPub; rw [if_pos h, if_pos h2, if_neg h3]
theorem verify_no {f : Nat → Nat} {st len : Nat} {m g : Nat → Nat} {st' len' : Nat} (h : ¬ (len' = 64 ∧ (junpack f st len).2 = true ∧ keyOK (be (fun i => g (st' + i)) 32) = true ∧ keyOK (be (fun i => g (st' + 32 + i)) 32) = true)) :
    verify f st len m g st' len' = false := if_neg h
theorem verify_yes {f : Nat → Nat} {st len : Nat} {m g : Nat → Nat} {st' : Nat} (h : (junpack f st len).2 = true) (h2 : keyOK (be (fun i => g (st' + i)) 32) = true) (h3 : keyOK (be (fun i => g (st' + 32 + i)) 32) = true) :
    verify f st len m g st' 64 = verPt (junpack f st len).1 (be m 32) (be (fun i => g (st' + i)) 32) (be (fun i => g (st' + 32 + i)) 32) := if_pos ⟨rfl, h, h2, h3⟩
theorem verPt_0 {p : J} {e r s : Nat} (h : (sigPt p e r s).2.2 = 0) : verPt p e r s = false := if_pos h
theorem verPt_1 {p : J} {e r s : Nat} (h : ¬ (sigPt p e r s).2.2 = 0) : verPt p e r s = decide ((jflat (sigPt p e r s)).1 % Nn = r) := if_neg h
theorem cells_sub {k : IntKind} {n : Nat} {g : Nat → Nat} {j m : Nat} (h : j + m ≤ n) : ((cells k n g).drop j).take m = cells k m fun i => g (j + i) := by
  apply List.ext_getElem?
  intro i
  simp only [cells, List.getElem?_take, List.getElem?_drop, List.getElem?_map]
  by_cases hi : i < m
  · rw [if_pos hi, List.getElem?_range (by omega), List.getElem?_range hi]; rfl
  · rw [if_neg hi, List.getElem?_eq_none (by simp; omega)]; rfl
theorem sv_cells {k : IntKind} {n : Nat} {g : Nat → Nat} {j m : Nat} (h : j + m ≤ n) : SV.g [.many m (((cells k n g).drop j).take m)] = SV.g [.many m (cells k m fun i => g (j + i))] := by rw [cells_sub h]
theorem verEq {a b : Nat} (ha : a < R) (hb : b < R) : [SV.v (.bool (decide ((W a ++ []).map toI = (W b ++ []).map toI)))] = [SV.v (.bool (decide (a = b)))] := by
  simp only [List.append_nil, W_eq ha hb]
end Cv
