import Derived.Test.YthjpppgibdfaeaaCvPoint
/- What the program's exported functions of the curve give: plain copies. -/
namespace Cv
open Go Go.SX
/-- a number's 32 bytes -/
def by32 (x : Nat) (i : Nat) : Nat := dig 256 x (31 - i)
theorem Y_by (x : Nat) : Y x = cells .u8 32 (by32 x) := rfl
theorem by32_lt (x i : Nat) : by32 x i < 256 := Nat.mod_lt _ (by decide)
theorem jpack_lt (a : J) (i : Nat) : jpack a i < 256 := pk33_lt _ _ _
def zf (_ : Nat) : Nat := 0
theorem zero_bytes (n : Nat) : List.replicate n (.int .u8 0) = cells .u8 n zf := cells_zero _ _
/-- a key's public key, and the error -/
def pubOf (f : Nat → Nat) : (Nat → Nat) × Nat := if keyOK (be f 32) = true then (jpack (jtimes (be f 32) jG 256), 0) else (zf, 1)
def addKey (f g : Nat → Nat) : (Nat → Nat) × Nat :=
  if keyOK (be f 32) = true ∧ be g 32 < Nn then (if (be f 32 + be g 32) % Nn = 0 then (zf, 7) else (by32 ((be f 32 + be g 32) % Nn), 0)) else (zf, 1)
def addPub (f g : Nat → Nat) : (Nat → Nat) × Nat :=
  if be g 32 < Nn then (if (junpack f 0 33).2 = true then (if (jadd (junpack f 0 33).1 (jtimes (be g 32) jG 256)).2.2 = 0 then (zf, 7) else (jpack (jadd (junpack f 0 33).1 (jtimes (be g 32) jG 256)), 0)) else (zf, 3)) else (zf, 1)
/-- the point that a signature comes to -/
def sigPt (p : J) (e r s : Nat) : J := jadd (jtimes (e % Nn * pw Nn s (Nn - 2) % Nn) jG 256) (jtimes (r * pw Nn s (Nn - 2) % Nn) p 256)
def verPt (p : J) (e r s : Nat) : Bool := if (sigPt p e r s).2.2 = 0 then false else decide ((jflat (sigPt p e r s)).1 % Nn = r)
def verify (f : Nat → Nat) (st len : Nat) (m : Nat → Nat) (g : Nat → Nat) (st' len' : Nat) : Bool :=
  if len' = 64 ∧ (junpack f st len).2 = true ∧ keyOK (be (fun i => g (st' + i)) 32) = true ∧ keyOK (be (fun i => g (st' + 32 + i)) 32) = true then
    verPt (junpack f st len).1 (be m 32) (be (fun i => g (st' + i)) 32) (be (fun i => g (st' + 32 + i)) 32)
  else false
theorem keyOK_lt {k : Nat} (h : keyOK k = true) : k < Nn := by
  simp only [keyOK, decide_eq_true_eq] at h; exact h.2
theorem keyOK_ne {k : Nat} (h : keyOK k = true) : k ≠ 0 := by
  simp only [keyOK, decide_eq_true_eq] at h; exact h.1
theorem sigPt_ok {p : J} (hp : OkJ p) (e r s : Nat) : OkJ (sigPt p e r s) := jadd_ok (jtimes_ok jG_ok _) (jtimes_ok hp _)
theorem pubOf_no {f : Nat → Nat} (h : ¬ keyOK (be f 32) = true) : pubOf f = (zf, 1) := if_neg h
theorem pubOf_yes {f : Nat → Nat} (h : keyOK (be f 32) = true) : pubOf f = (jpack (jtimes (be f 32) jG 256), 0) := if_pos h
theorem addKey_no {f g : Nat → Nat} (h : ¬ (keyOK (be f 32) = true ∧ be g 32 < Nn)) : addKey f g = (zf, 1) := if_neg h
theorem addKey_0 {f g : Nat → Nat} (h : keyOK (be f 32) = true) (h2 : be g 32 < Nn) (h3 : (be f 32 + be g 32) % Nn = 0) : addKey f g = (zf, 7) := by
  unfold addKey; rw [if_pos ⟨h, h2⟩, if_pos h3]
theorem addKey_yes {f g : Nat → Nat} (h : keyOK (be f 32) = true) (h2 : be g 32 < Nn) (h3 : ¬ (be f 32 + be g 32) % Nn = 0) : addKey f g = (by32 ((be f 32 + be g 32) % Nn), 0) := by
  unfold addKey; rw [if_pos ⟨h, h2⟩, if_neg h3]
theorem addPub_no {f g : Nat → Nat} (h : ¬ be g 32 < Nn) : addPub f g = (zf, 1) := if_neg h
theorem addPub_form {f g : Nat → Nat} (h : be g 32 < Nn) (h2 : ¬ (junpack f 0 33).2 = true) : addPub f g = (zf, 3) := by
  unfold addPub; rw [if_pos h, if_neg h2]
theorem addPub_0 {f g : Nat → Nat} (h : be g 32 < Nn) (h2 : (junpack f 0 33).2 = true) (h3 : (jadd (junpack f 0 33).1 (jtimes (be g 32) jG 256)).2.2 = 0) : addPub f g = (zf, 7) := by
  unfold addPub; rw [if_pos h, if_pos h2, if_pos h3]
theorem addPub_yes {f g : Nat → Nat} (h : be g 32 < Nn) (h2 : (junpack f 0 33).2 = true) (h3 : ¬ (jadd (junpack f 0 33).1 (jtimes (be g 32) jG 256)).2.2 = 0) :
    addPub f g = (jpack (jadd (junpack f 0 33).1 (jtimes (be g 32) jG 256)), 0) := by
  unfold addPub; rw [if_pos h, if_pos h2, if_neg h3]
theorem verify_no {f : Nat → Nat} {st len : Nat} {m g : Nat → Nat} {st' len' : Nat} (h : ¬ (len' = 64 ∧ (junpack f st len).2 = true ∧ keyOK (be (fun i => g (st' + i)) 32) = true ∧ keyOK (be (fun i => g (st' + 32 + i)) 32) = true)) :
    verify f st len m g st' len' = false := if_neg h
theorem verify_yes {f : Nat → Nat} {st len : Nat} {m g : Nat → Nat} {st' : Nat} (h : (junpack f st len).2 = true) (h2 : keyOK (be (fun i => g (st' + i)) 32) = true) (h3 : keyOK (be (fun i => g (st' + 32 + i)) 32) = true) :
    verify f st len m g st' 64 = verPt (junpack f st len).1 (be m 32) (be (fun i => g (st' + i)) 32) (be (fun i => g (st' + 32 + i)) 32) := if_pos ⟨rfl, h, h2, h3⟩
theorem verPt_0 {p : J} {e r s : Nat} (h : (sigPt p e r s).2.2 = 0) : verPt p e r s = false := if_pos h
theorem verPt_1 {p : J} {e r s : Nat} (h : ¬ (sigPt p e r s).2.2 = 0) : verPt p e r s = decide ((jflat (sigPt p e r s)).1 % Nn = r) := if_neg h
theorem cells_sub {k : IntKind} {n : Nat} {g : Nat → Nat} {j m : Nat} (h : j + m ≤ n) : ((cells k n g).drop j).take m = cells k m fun i => g (j + i) := by
  apply List.ext_getElem?
  intro i
  simp only [cells, List.getElem?_take, List.getElem?_drop, List.getElem?_map]
  by_cases hi : i < m
  · rw [if_pos hi, List.getElem?_range (by omega), List.getElem?_range hi]; rfl
  · rw [if_neg hi, List.getElem?_eq_none (by simp; omega)]; rfl
theorem sv_cells {k : IntKind} {n : Nat} {g : Nat → Nat} {j m : Nat} (h : j + m ≤ n) : SV.g [.many m (((cells k n g).drop j).take m)] = SV.g [.many m (cells k m fun i => g (j + i))] := by rw [cells_sub h]
theorem verEq {a b : Nat} (ha : a < R) (hb : b < R) : [SV.v (.bool (decide ((W a ++ []).map toI = (W b ++ []).map toI)))] = [SV.v (.bool (decide (a = b)))] := by
  simp only [List.append_nil, W_eq ha hb]
end Cv
