import Derived.Test.YthjpppgibdfaeaaCvMod
/- The program's points and what it makes of them: plain copies of its formulas. -/
namespace Cv
open Go Go.SX
def fm (x y : Nat) : Nat := x * y % Pp
def fa (x y : Nat) : Nat := (x + y) % Pp
def fs (x y : Nat) : Nat := (x + Pp - y) % Pp
abbrev J := Nat × Nat × Nat
/-- a point's cells -/
abbrev Pt (a : J) : List CV := [.many 4 (W a.1), .many 4 (W a.2.1), .many 4 (W a.2.2)]
/-- the two fields' cells -/
abbrev Gl : List CV := [.many 4 (W Pp), .many 3 (Dd Pp), .many 4 (W Nn), .many 3 (Dd Nn)]
structure OkJ (a : J) : Prop where
  x : a.1 < Pp
  y : a.2.1 < Pp
  z : a.2.2 < Pp
theorem okJ_0 : OkJ (0, 0, 0) := ⟨by decide, by decide, by decide⟩
theorem fm_lt (x y : Nat) : fm x y < Pp := mod_lt mo_P _
theorem fa_lt (x y : Nat) : fa x y < Pp := mod_lt mo_P _
theorem fs_lt (x y : Nat) : fs x y < Pp := mod_lt mo_P _
def jdbl (a : J) : J :=
  if a.2.2 = 0 then a else
    let yy := fm a.2.1 a.2.1
    let s0 := fm a.1 yy
    let s := fa (fa s0 s0) (fa s0 s0)
    let xx := fm a.1 a.1
    let m := fa (fa xx xx) xx
    let x := fs (fm m m) (fa s s)
    let e0 := fm yy yy
    let e := fa (fa e0 e0) (fa e0 e0)
    let z := fm a.2.1 a.2.2
    (x, fs (fm m (fs s x)) (fa e e), fa z z)
theorem jdbl_ok {a : J} (h : OkJ a) : OkJ (jdbl a) := by
  unfold jdbl; split
  · exact h
  · exact ⟨fs_lt _ _, fs_lt _ _, fa_lt _ _⟩
def jadd (a b : J) : J :=
  if a.2.2 = 0 then b else if b.2.2 = 0 then a else
    let aa := fm a.2.2 a.2.2
    let bb := fm b.2.2 b.2.2
    let u := fm a.1 bb
    let v := fm b.1 aa
    let s := fm a.2.1 (fm b.2.2 bb)
    let t := fm b.2.1 (fm a.2.2 aa)
    let h := fs v u
    let r := fs t s
    if h = 0 then (if r = 0 then jdbl a else (0, 0, 0)) else
      let hh := fm h h
      let hhh := fm h hh
      let q := fm u hh
      let x := fs (fs (fm r r) hhh) (fa q q)
      (x, fs (fm r (fs q x)) (fm s hhh), fm h (fm a.2.2 b.2.2))
theorem jadd_ok {a b : J} (ha : OkJ a) (hb : OkJ b) : OkJ (jadd a b) := by
  unfold jadd
  split
  · exact hb
  · split
    · exact ha
    · dsimp only; split
      · split
        · exact jdbl_ok ha
        · exact okJ_0
      · exact ⟨fs_lt _ _, fs_lt _ _, fm_lt _ _⟩
/-- k times a point, the upper bits first: after all but the lowest n bits of k -/
def jtimes (k : Nat) (a : J) : Nat → J
  | 0 => (0, 0, 0)
  | n + 1 => let q := jdbl (jtimes k a n); if k / 2 ^ (255 - n) % 2 = 1 then jadd q a else q
theorem jtimes_ok {k : Nat} {a : J} (ha : OkJ a) : ∀ n, OkJ (jtimes k a n)
  | 0 => okJ_0
  | n + 1 => by
    simp only [jtimes]; split
    · exact jadd_ok (jdbl_ok (jtimes_ok ha n)) ha
    · exact jdbl_ok (jtimes_ok ha n)
theorem jtimes_step {k j i : Nat} {a : J} (hi : 255 - j = i) : jtimes k a (j + 1) = if k / 2 ^ i % 2 = 1 then jadd (jdbl (jtimes k a j)) a else jdbl (jtimes k a j) := by rw [← hi]; rfl
/-- the root that is tried, and the point of an x -/
def Pq : Nat := 28948022309329048855892746252171976963317496166410141009864396001977208667916
def lsq (x : Nat) : Nat := fa (fm (fm x x) x) 7
def lroot (x : Nat) : Nat := pw Pp (lsq x) Pq
def jlift (x odd : Nat) : J × Bool :=
  if fm (lroot x) (lroot x) = lsq x then ((x, if lroot x % 2 = odd then lroot x else (Pp - lroot x) % Pp, 1), true) else ((0, 0, 0), false)
theorem jlift_ok {x odd : Nat} (hx : x < Pp) : OkJ (jlift x odd).1 := by
  unfold jlift; split
  · refine ⟨hx, ?_, (by decide : 1 < Pp)⟩
    show (if lroot x % 2 = odd then lroot x else (Pp - lroot x) % Pp) < Pp
    split
    · exact pw_lt mo_P _ _
    · exact mod_lt mo_P _
  · exact okJ_0
theorem dig_0 (x : Nat) : dig B64 x 0 % 2 = x % 2 := by
  unfold dig B64; omega
theorem Pt_0 (r : Bool) : some (Blk.mk [.many 4 (List.replicate 4 (.int .u64 0)), .many 4 (List.replicate 4 (.int .u64 0)), .many 4 (List.replicate 4 (.int .u64 0))] r) = some (Blk.mk (Pt (0, 0, 0)) r) := by
  rw [W_0]
theorem blkPt {a b : J} {r : Bool} (h : a = b) : some (Blk.mk (Pt a) r) = some (Blk.mk (Pt b) r) := by rw [h]
theorem lift_neg (x r : Nat) (h : r = lroot x) : [SV.g [.many 4 (W x), .many 4 (W ((Pp - r) % Pp)), .many 4 ((List.replicate 4 (Value.int .u64 0)).set 0 (Value.int .u64 1))], SV.v (.bool true)] = [SV.g (Pt (x, (Pp - lroot x) % Pp, 1)), SV.v (.bool true)] := by
  rw [h, W_1]
theorem lift_pos (x r : Nat) (h : r = lroot x) : [SV.g [.many 4 (W x), .many 4 (W r), .many 4 ((List.replicate 4 (Value.int .u64 0)).set 0 (Value.int .u64 1))], SV.v (.bool true)] = [SV.g (Pt (x, lroot x, 1)), SV.v (.bool true)] := by
  rw [h, W_1]
theorem okPt {D : Nat → Prop} (a : J) : okC D (Pt a) := okMany (W_cv _) (okMany (W_cv _) (okMany (W_cv _) okC_nil))
def Gx : Nat := 55066263022277343669578718895168534326250603453777594175500187360389116729240
def jG : J := (jlift Gx 0).1
def jw (a : J) : Nat := pw Pp a.2.2 (Pp - 2)
def jflat (a : J) : Nat × Nat := (fm a.1 (fm (jw a) (jw a)), fm a.2.1 (fm (jw a) (fm (jw a) (jw a))))
theorem Gx_lt : Gx < Pp := by decide
theorem jG_ok : OkJ jG := by unfold jG; exact jlift_ok (x := Gx) (odd := 0) Gx_lt
def keyOK (k : Nat) : Bool := decide (k ≠ 0 ∧ k < Nn)
theorem key_no {k : Nat} (h : (!decide (k = 0)) = false) : false = keyOK k := by
  have : k = 0 := by simpa using h
  subst this; rfl
theorem key_yes {k : Nat} (h : (!decide (k = 0)) = true) : decide (k < Nn) = keyOK k := by
  have : k ≠ 0 := by simpa using h
  simp [keyOK, this]
/-- bytes as a point -/
def junpack (f : Nat → Nat) (st len : Nat) : J × Bool :=
  if len = 33 ∧ f st / 2 = 1 ∧ be (fun i => f (st + 1 + i)) 32 < Pp then jlift (be (fun i => f (st + 1 + i)) 32) (f st % 2) else ((0, 0, 0), false)
theorem junpack_ok (f : Nat → Nat) (st len : Nat) : OkJ (junpack f st len).1 := by
  unfold junpack; split
  · rename_i h; exact jlift_ok h.2.2
  · exact okJ_0
/-- a point's 33 bytes: of x and of y -/
def pk33 (x y : Nat) (i : Nat) : Nat := if i = 0 then 2 + y % 2 else dig 256 x (32 - i)
theorem pk33_lt (x y i : Nat) : pk33 x y i < 256 := by
  unfold pk33; split
  · omega
  · exact Nat.mod_lt _ (by decide)
def jpack (a : J) : Nat → Nat := pk33 (jflat a).1 (jflat a).2
theorem pk33_blk (x y : Nat) (r : Bool) : BlkEq ⟨[.one (.int .u8 ((2 + y % 2 : Nat) : Int)), .many 32 (Y x)], r⟩ ⟨[.many 33 (cells .u8 33 (pk33 x y))], r⟩ := by
  refine ⟨rfl, fun ρ => ?_, fun _ _ => cells_ok _ _ _⟩
  show Value.int .u8 ((2 + y % 2 : Nat) : Int) :: (Y x ++ []) = cells .u8 33 (pk33 x y) ++ []
  rw [List.append_nil, List.append_nil]
  apply List.ext_getElem?
  intro j
  cases j with
  | zero => simp [cells, pk33]
  | succ j =>
    simp only [Y, cells, List.getElem?_cons_succ, List.getElem?_map]
    by_cases h : j < 32
    · rw [List.getElem?_range h, List.getElem?_range (show j + 1 < 33 by omega)]
      show some (Value.int .u8 ((dig 256 x (31 - j) : Nat) : Int)) = some (Value.int .u8 ((pk33 x y (j + 1) : Nat) : Int))
      rw [pk33, if_neg (by omega), show 31 - j = 32 - (j + 1) from by omega]
    · rw [List.getElem?_eq_none (by simp; omega), List.getElem?_eq_none (by simp; omega)]; rfl
theorem rep_cv {D : Nat → Prop} (k : IntKind) (v : Int) (n m i : Nat) (h : n - i = m) : (CV.many m ((List.replicate n (.int k v)).drop i)).ok D := by
  refine ⟨by simp [h], fun x hx => ?_⟩
  rw [List.eq_of_mem_replicate (List.mem_of_mem_drop hx)]; rfl
theorem junpack_len {f : Nat → Nat} {st len : Nat} (h : len ≠ 33) : junpack f st len = ((0, 0, 0), false) := if_neg fun hh => h hh.1
theorem junpack_head {f : Nat → Nat} {st len : Nat} (h : f st / 2 * 2 ≠ 2) : junpack f st len = ((0, 0, 0), false) := if_neg fun hh => h (by rw [hh.2.1])
theorem junpack_big {f : Nat → Nat} {st len : Nat} (h : ¬ be (fun i => f (st + 1 + i)) 32 < Pp) : junpack f st len = ((0, 0, 0), false) := if_neg fun hh => h hh.2.2
theorem junpack_yes {f : Nat → Nat} {st : Nat} (h : f st / 2 * 2 = 2) (h2 : be (fun i => f (st + 1 + i)) 32 < Pp) : junpack f st 33 = jlift (be (fun i => f (st + 1 + i)) 32) (f st % 2) := if_pos ⟨rfl, by omega, h2⟩
set_option maxRecDepth 100000 in
theorem andNot1 {a : Nat} (ha : a < 256) : intb .andNot .u8 (a : Int) 1 = ((a / 2 * 2 : Nat) : Int) := by
  have : ∀ a : Fin 256, intb .andNot .u8 ((a.1 : Nat) : Int) 1 = ((a.1 / 2 * 2 : Nat) : Int) := by decide
  exact this ⟨a, ha⟩
set_option maxRecDepth 100000 in
theorem and1_u8 {a : Nat} (ha : a < 256) : intb .and .u8 (a : Int) 1 = ((a % 2 : Nat) : Int) := by
  have : ∀ a : Fin 256, intb .and .u8 ((a.1 : Nat) : Int) 1 = ((a.1 % 2 : Nat) : Int) := by decide
  exact this ⟨a, ha⟩
end Cv
