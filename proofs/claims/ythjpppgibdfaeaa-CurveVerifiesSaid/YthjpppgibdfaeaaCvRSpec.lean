import Derived.Test.YthjpppgibdfaeaaCvRef
import Derived.Test.YthjpppgibdfaeaaCvSpec
/- The reference's points and what it makes of them: plain copies of its formulas. -/
namespace Cv
open Go Go.SX
/-- a point's cells -/
abbrev Pr (a : J) : List CV := [.many 8 (V a.1), .many 8 (V a.2.1), .many 8 (V a.2.2)]
theorem okPr {D : Nat → Prop} (a : J) : okC D (Pr a) := okMany (V_cv _) (okMany (V_cv _) (okMany (V_cv _) okC_nil))
theorem blkPr {a b : J} {r : Bool} (h : a = b) : some (Blk.mk (Pr a) r) = some (Blk.mk (Pr b) r) := by rw [h]
def rplus (a b : J) : J :=
  let t0 := fm a.1 b.1
  let t1 := fm a.2.1 b.2.1
  let t2 := fm a.2.2 b.2.2
  let t3 := fs (fm (fa a.1 a.2.1) (fa b.1 b.2.1)) (fa t0 t1)
  let t4 := fs (fm (fa a.2.1 a.2.2) (fa b.2.1 b.2.2)) (fa t1 t2)
  let y := fs (fm (fa a.1 a.2.2) (fa b.1 b.2.2)) (fa t0 t2)
  let t0 := fa (fa t0 t0) t0
  let t2 := fm 21 t2
  let z := fa t1 t2
  let t1 := fs t1 t2
  let y := fm 21 y
  let x := fs (fm t3 t1) (fm t4 y)
  (x, fa (fm t1 z) (fm y t0), fa (fm z t4) (fm t0 t3))
theorem rplus_ok (a b : J) : OkJ (rplus a b) := ⟨fs_lt _ _, fa_lt _ _, fa_lt _ _⟩
def rtimes (k : Nat) (a : J) : Nat → J
  | 0 => (0, 1, 0)
  | n + 1 => let q := rplus (rtimes k a n) (rtimes k a n); if k / 2 ^ (255 - n) % 2 = 1 then rplus q a else q
theorem okJ_1 : OkJ (0, 1, 0) := ⟨by decide, by decide, by decide⟩
theorem rtimes_ok {k : Nat} {a : J} : ∀ n, OkJ (rtimes k a n)
  | 0 => okJ_1
  | n + 1 => by
    simp only [rtimes]; split
    · exact rplus_ok _ _
    · exact rplus_ok _ _
theorem rtimes_step {k j i : Nat} {a : J} (hi : 255 - j = i) : rtimes k a (j + 1) = if k / 2 ^ i % 2 = 1 then rplus (rplus (rtimes k a j) (rtimes k a j)) a else rplus (rtimes k a j) (rtimes k a j) := by rw [← hi]; rfl
def rflat (a : J) : Nat × Nat := (fm a.1 (jw a), fm a.2.1 (jw a))
def rpack (a : J) : Nat → Nat := pk33 (rflat a).1 (rflat a).2
theorem rpack_lt (a : J) (i : Nat) : rpack a i < 256 := pk33_lt _ _ _
theorem Pr_1 (r : Bool) : some (Blk.mk [.many 8 (List.replicate 8 (.int .u32 0)), .many 8 ((List.replicate 8 (.int .u32 0)).set 0 (.int .u32 1)), .many 8 (List.replicate 8 (.int .u32 0))] r) = some (Blk.mk (Pr (0, 1, 0)) r) := by
  rw [V_1, V_0]
/-! the exponent of the root: (p + 1) / 4, made of words -/
def eP (k : Nat) : Nat := if k = 0 then Pp else Pp + 1
def eC (k : Nat) : Nat := if k = 0 then 1 else 0
theorem eP_word : ∀ k, k < 8 → ∀ i, i < 8 → (if i = k then (dig B32 (eP k) k + eC k) % B32 else dig B32 (eP k) i) = dig B32 (eP (k + 1)) i := by decide
theorem eP_ge : ∀ k, k < 8 → dig B32 (eP k) k ≤ (dig B32 (eP k) k + eC k) % B32 := by decide
theorem eP_set {k : Nat} (hk : k < 8) : (V (eP k)).set k (.int .u32 (((dig B32 (eP k) k + eC k) % B32 : Nat) : Int)) = V (eP (k + 1)) := by
  rw [V, cells_set]
  exact cells_congr fun i hi => eP_word k hk i hi
def eH (r : Nat) : Nat := (Pp + 1) / 2 ^ r
theorem eH_lt (r : Nat) : eH r < R := Nat.lt_of_le_of_lt (Nat.div_le_self _ _) (by decide)
def halfV (x i : Nat) : Nat := dig B32 x i / 2 + dig B32 x (i + 1) % 2 * 2147483648
def halfU (x k i : Nat) : Nat := if i < k then halfV x i else dig B32 x i
theorem halfV_dig (x i : Nat) : halfV x i = dig B32 (x / 2) i := by
  unfold halfV dig
  rw [Nat.div_div_eq_div_mul x 2, Nat.mul_comm 2, ← Nat.div_div_eq_div_mul, Nat.pow_succ, ← Nat.div_div_eq_div_mul]
  generalize x / B32 ^ i = q
  unfold B32
  omega
theorem halfU_0 (x : Nat) : V x = cells .u32 8 (halfU x 0) := cells_congr fun i _ => by simp [halfU]
theorem halfU_8 (x : Nat) : cells .u32 8 (halfU x 8) = V (x / 2) := cells_congr fun i hi => by rw [halfU, if_pos hi, halfV_dig]
theorem halfU_get {x k i : Nat} (h : i < 8) (hk : k ≤ i) : (cells .u32 8 (halfU x k)).getD i undef = .int .u32 (dig B32 x i : Nat) := by
  rw [cells_get h, halfU, if_neg (by omega)]
theorem halfU_set {x k v : Nat} (hv : v = halfV x k) : (cells .u32 8 (halfU x k)).set k (.int .u32 (v : Int)) = cells .u32 8 (halfU x (k + 1)) := by
  rw [cells_set]
  refine cells_congr fun i _ => ?_
  by_cases h : i = k
  · subst h; simp [halfU, hv]
  · simp only [h, if_false, halfU]
    by_cases h2 : i < k
    · simp [h2, show i < k + 1 from by omega]
    · simp [h2, show ¬ i < k + 1 from by omega]
theorem dig_8 {x : Nat} (hx : x < R) : dig B32 x 8 = 0 := by
  unfold dig; rw [R_32, Nat.div_eq_of_lt hx]; rfl
theorem half_top {x k : Nat} (hx : x < R) (hk : ¬ k < 7) (h8 : k < 8) : dig B32 x k / 2 = halfV x k := by
  obtain rfl : k = 7 := by omega
  simp [halfV, dig_8 hx]
theorem half_0 {x k : Nat} (h : (((dig B32 x (k + 1) % 2 : Nat) : Int) == 1) = false) : dig B32 x k / 2 = halfV x k := by
  have := nbeqn 1 h
  unfold halfV; omega
theorem half_1 {x k : Nat} (h : (((dig B32 x (k + 1) % 2 : Nat) : Int) == 1) = true) : dig B32 x k / 2 + 2147483648 = halfV x k := by
  have := beqn 1 h
  unfold halfV; omega
theorem set_getD {xs : List Value} {k : Nat} {v : Value} (h : k < xs.length) : (xs.set k v).getD k undef = v := by
  simp [List.getD_eq_getElem?_getD, h]
theorem set_getD_ne {xs : List Value} {k i : Nat} {v : Value} (h : k ≠ i) : (xs.set k v).getD i undef = xs.getD i undef := by
  simp [List.getD_eq_getElem?_getD, List.getElem?_set_ne h]
theorem set_twice {xs ys : List Value} {k : Nat} {u v : Value} (h : xs.set k v = ys) : (xs.set k u).set k v = ys := by rw [List.set_set]; exact h
theorem eH_step (r : Nat) : eH r / 2 = eH (r + 1) := by unfold eH; rw [Nat.div_div_eq_div_mul, Nat.pow_succ]
theorem eH_2 : eH 2 = Pq := by decide
def oddN (b : Bool) : Nat := if b = true then 1 else 0
theorem oddN_lt (b : Bool) : oddN b < 2 := by cases b <;> decide
theorem odd_yes {a : Nat} {b : Bool} (h : (!((((a % 2 : Nat) : Int) == 1) == b)) = false) : a % 2 = oddN b := by
  cases b
  · have : (((a % 2 : Nat) : Int) == 1) = false := by simpa using h
    have := nbeqn 1 this
    show a % 2 = 0
    omega
  · have : (((a % 2 : Nat) : Int) == 1) = true := by simpa using h
    exact beqn 1 this
theorem odd_no {a : Nat} {b : Bool} (h : (!((((a % 2 : Nat) : Int) == 1) == b)) = true) : ¬ a % 2 = oddN b := by
  cases b
  · have : (((a % 2 : Nat) : Int) == 1) = true := by simpa using h
    have := beqn 1 this
    show ¬ a % 2 = 0
    omega
  · have : (((a % 2 : Nat) : Int) == 1) = false := by simpa using h
    exact nbeqn 1 this
theorem dig_0' (x : Nat) : dig B32 x 0 % 2 = x % 2 := by
  unfold dig B32; omega
theorem rlift_neg (x r : Nat) (h : r = lroot x) : [SV.g [.many 8 (V x), .many 8 (V ((0 + Pp - r) % Pp)), .many 8 ((List.replicate 8 (Value.int .u32 0)).set 0 (Value.int .u32 1))], SV.v (.bool true)] = [SV.g (Pr (x, (Pp - lroot x) % Pp, 1)), SV.v (.bool true)] := by
  rw [h, V_1, Nat.zero_add]
theorem rlift_pos (x r : Nat) (h : r = lroot x) : [SV.g [.many 8 (V x), .many 8 (V r), .many 8 ((List.replicate 8 (Value.int .u32 0)).set 0 (Value.int .u32 1))], SV.v (.bool true)] = [SV.g (Pr (x, lroot x, 1)), SV.v (.bool true)] := by
  rw [h, V_1]
def rpub (f : Nat → Nat) : (Nat → Nat) × Bool := if keyOK (be f 32) = true then (rpack (rtimes (be f 32) jG 256), true) else (zf, false)
def raddPub (f g : Nat → Nat) : (Nat → Nat) × Nat :=
  if be g 32 < Nn then (if (junpack f 0 33).2 = true then (if (rplus (junpack f 0 33).1 (rtimes (be g 32) jG 256)).2.2 = 0 then (zf, 7) else (rpack (rplus (junpack f 0 33).1 (rtimes (be g 32) jG 256)), 0)) else (zf, 3)) else (zf, 1)
def rsigPt (p : J) (e r s : Nat) : J := rplus (rtimes (e % Nn * pw Nn s (Nn - 2) % Nn) jG 256) (rtimes (r * pw Nn s (Nn - 2) % Nn) p 256)
def rverPt (p : J) (e r s : Nat) : Bool := if (rsigPt p e r s).2.2 = 0 then false else decide ((rflat (rsigPt p e r s)).1 % Nn = r)
def rverify (f : Nat → Nat) (st len : Nat) (m : Nat → Nat) (g : Nat → Nat) (st' len' : Nat) : Bool :=
  if len' = 64 ∧ (junpack f st len).2 = true ∧ keyOK (be (fun i => g (st' + i)) 32) = true ∧ keyOK (be (fun i => g (st' + 32 + i)) 32) = true then
    rverPt (junpack f st len).1 (be m 32) (be (fun i => g (st' + i)) 32) (be (fun i => g (st' + 32 + i)) 32)
  else false
theorem rpub_no {f : Nat → Nat} (h : ¬ keyOK (be f 32) = true) : rpub f = (zf, false) := if_neg h
theorem rpub_yes {f : Nat → Nat} (h : keyOK (be f 32) = true) : rpub f = (rpack (rtimes (be f 32) jG 256), true) := if_pos h
theorem raddPub_no {f g : Nat → Nat} (h : ¬ be g 32 < Nn) : raddPub f g = (zf, 1) := if_neg h
theorem raddPub_form {f g : Nat → Nat} (h : be g 32 < Nn) (h2 : ¬ (junpack f 0 33).2 = true) : raddPub f g = (zf, 3) := by
  unfold raddPub; rw [if_pos h, if_neg h2]
theorem raddPub_0 {f g : Nat → Nat} (h : be g 32 < Nn) (h2 : (junpack f 0 33).2 = true) (h3 : (rplus (junpack f 0 33).1 (rtimes (be g 32) jG 256)).2.2 = 0) : raddPub f g = (zf, 7) := by
  unfold raddPub; rw [if_pos h, if_pos h2, if_pos h3]
theorem raddPub_yes {f g : Nat → Nat} (h : be g 32 < Nn) (h2 : (junpack f 0 33).2 = true) (h3 : ¬ (rplus (junpack f 0 33).1 (rtimes (be g 32) jG 256)).2.2 = 0) :
    raddPub f g = (rpack (rplus (junpack f 0 33).1 (rtimes (be g 32) jG 256)), 0) := by
  unfold raddPub; rw [if_pos h, if_pos h2, if_neg h3]
theorem rverify_no {f : Nat → Nat} {st len : Nat} {m g : Nat → Nat} {st' len' : Nat} (h : ¬ (len' = 64 ∧ (junpack f st len).2 = true ∧ keyOK (be (fun i => g (st' + i)) 32) = true ∧ keyOK (be (fun i => g (st' + 32 + i)) 32) = true)) :
    rverify f st len m g st' len' = false := if_neg h
theorem rverify_yes {f : Nat → Nat} {st len : Nat} {m g : Nat → Nat} {st' : Nat} (h : (junpack f st len).2 = true) (h2 : keyOK (be (fun i => g (st' + i)) 32) = true) (h3 : keyOK (be (fun i => g (st' + 32 + i)) 32) = true) :
    rverify f st len m g st' 64 = rverPt (junpack f st len).1 (be m 32) (be (fun i => g (st' + i)) 32) (be (fun i => g (st' + 32 + i)) 32) := if_pos ⟨rfl, h, h2, h3⟩
theorem rverPt_0 {p : J} {e r s : Nat} (h : (rsigPt p e r s).2.2 = 0) : rverPt p e r s = false := if_pos h
theorem rverPt_1 {p : J} {e r s : Nat} (h : ¬ (rsigPt p e r s).2.2 = 0) : rverPt p e r s = decide ((rflat (rsigPt p e r s)).1 % Nn = r) := if_neg h
theorem verEq' {a b : Nat} (ha : a < R) (hb : b < R) : [SV.v (.bool (decide ((V a ++ []).map toI = (V b ++ []).map toI)))] = [SV.v (.bool (decide (a = b)))] := by
  simp only [List.append_nil, V_eq ha hb]
theorem V_zero {a : Nat} (ha : a < R) : (decide ((V a ++ []).map toI = (List.replicate 8 (Value.int .u32 0) ++ []).map toI)) = decide (a = 0) := by
  rw [V_0]; simp only [List.append_nil, V_eq ha R_pos]
theorem V_is0 {a : Nat} (ha : a < R) (h : (decide ((V a ++ []).map toI = (List.replicate 8 (Value.int .u32 0) ++ []).map toI)) = true) : a = 0 := by
  rw [V_zero ha] at h; exact of_decide_eq_true h
theorem V_isn0 {a : Nat} (ha : a < R) (h : (decide ((V a ++ []).map toI = (List.replicate 8 (Value.int .u32 0) ++ []).map toI)) = false) : ¬ a = 0 := by
  rw [V_zero ha] at h; exact of_decide_eq_false h
theorem rkey_no {k : Nat} (hk : k < R) (h : (!(decide ((V k ++ []).map toI = (List.replicate 8 (Value.int .u32 0) ++ []).map toI))) = false) : false = keyOK k := by
  rw [V_zero hk] at h; exact key_no h
theorem rkey_yes {k : Nat} (hk : k < R) (h : (!(decide ((V k ++ []).map toI = (List.replicate 8 (Value.int .u32 0) ++ []).map toI))) = true) : decide (k < Nn) = keyOK k := by
  rw [V_zero hk] at h; exact key_yes h
theorem odd3 {a : Nat} (h : a = 2 ∨ a = 3) : oddN (((a : Nat) : Int) == 3) = a % 2 := by
  rcases h with rfl | rfl <;> rfl
theorem pk_blk (x y : Nat) (r : Bool) : BlkEq ⟨[.one (.int .u8 ((2 + y % 2 : Nat) : Int)), .many 32 ((List.replicate 33 (.int .u8 0)).drop 1)], r⟩ ⟨[.many 33 (cells .u8 33 fun i => if i < 1 then pk33 x y i else 0)], r⟩ :=
  ⟨rfl, fun _ => rfl, fun _ _ => cells_ok _ _ _⟩
theorem pk33_succ (x y k : Nat) (hk : k < 32) : dig 256 x (31 - k) = pk33 x y (k + 1) := by
  rw [pk33, if_neg (by omega), show 32 - (k + 1) = 31 - k from by omega]
end Cv
