import Derived.WalkKit
/- A symbolic reading of frames and memory; the operations of a region upon it. Over any program. -/
namespace Go.SX
open Go.RowKit

/-! values, with own blocks by name -/
inductive CV where
  | one (x : Value)
  | many (n : Nat) (xs : List Value)
  | pt (k off : Nat)
  | sl (k base st len cap : Nat)
inductive SV where
  | v (x : Value)
  | p (k off : Nat)
  | e (k base j : Nat)
  | s (k base st len cap : Nat)
  | g (cs : List CV)
inductive SS where
  | one (x : SV)
  | tup (l : List SV)
abbrev Rho := Nat → Nat × Nat
def CV.den (ρ : Rho) : CV → List Value
  | .one x => [x]
  | .many _ xs => xs
  | .pt k off => [.pointer (some ⟨(ρ k).1, (ρ k).2 + off, none⟩)]
  | .sl k base st len cap => [.slice (some ⟨(ρ k).1, (ρ k).2 + (base + st), none⟩) len cap]
def CV.size : CV → Nat
  | .many n _ => n
  | _ => 1
def cellish : Value → Bool
  | .agg _ | .tuple _ => false
  | _ => true
def CV.ok (D : Nat → Prop) : CV → Prop
  | .one x => cellish x = true
  | .many n xs => xs.length = n ∧ ∀ x ∈ xs, cellish x = true
  | .pt k _ => D k
  | .sl k _ _ _ _ => D k
def okC (D : Nat → Prop) (cs : List CV) : Prop := ∀ c ∈ cs, c.ok D
def flat (ρ : Rho) (cs : List CV) : List Value := cs.flatMap (CV.den ρ)
def sizeC : List CV → Nat
  | [] => 0
  | c :: cs => c.size + sizeC cs
def SV.den (ρ : Rho) : SV → Value
  | .v x => x
  | .p k off => .pointer (some ⟨(ρ k).1, (ρ k).2 + off, none⟩)
  | .e k base j => .pointer (some ⟨(ρ k).1, (ρ k).2 + (base + j), none⟩)
  | .s k base st len cap => .slice (some ⟨(ρ k).1, (ρ k).2 + (base + st), none⟩) len cap
  | .g cs => .agg (flat ρ cs).toArray
def SV.ok (D : Nat → Prop) : SV → Prop
  | .v _ => True
  | .p k _ => D k
  | .e k _ _ => D k
  | .s k _ _ _ _ => D k
  | .g cs => okC D cs
def SS.den (ρ : Rho) : SS → Value
  | .one x => x.den ρ
  | .tup l => .tuple (l.map (SV.den ρ)).toArray
def SS.ok (D : Nat → Prop) : SS → Prop
  | .one x => x.ok D
  | .tup l => ∀ x ∈ l, x.ok D
section
variable {D : Nat → Prop}

theorem CV.length_den {ρ : Rho} {c : CV} (h : c.ok D) : (c.den ρ).length = c.size := by
  cases c <;> simp [CV.den, CV.size]; exact h.1
theorem length_flat {ρ : Rho} : ∀ {cs : List CV}, okC D cs → (flat ρ cs).length = sizeC cs
  | [], _ => rfl
  | c :: cs, h => by
    simp only [flat, List.flatMap_cons, List.length_append, sizeC]
    rw [CV.length_den (h c List.mem_cons_self)]
    have := length_flat (ρ := ρ) (cs := cs) (fun x hx => h x (List.mem_cons_of_mem _ hx))
    simp only [flat] at this; rw [this]
theorem CV.cellish_den {ρ : Rho} {c : CV} (h : c.ok D) : ∀ x ∈ c.den ρ, cellish x = true := by
  cases c with
  | one x => intro y hy; simp only [CV.den, List.mem_singleton] at hy; subst hy; exact h
  | many n xs => simpa [CV.den] using h.2
  | pt k off => simp [CV.den, cellish]
  | sl k b st l c => simp [CV.den, cellish]
theorem cellish_flat {ρ : Rho} {cs : List CV} (h : okC D cs) : ∀ x ∈ flat ρ cs, cellish x = true := by
  intro x hx
  obtain ⟨c, hc, hx⟩ := List.mem_flatMap.1 hx
  exact CV.cellish_den (h c hc) x hx

end

/-! the state -/
structure Blk where
  cs : List CV
  rw : Bool
structure SSt where
  slots : Nat → Option SS
  blks : Nat → Option Blk
  next : Nat
  n : Nat
/-- the names that are bound -/
def SSt.dom (σ : SSt) : Nat → Prop := fun k => (σ.blks k).isSome = true

def BlkSat (ρ : Rho) (k : Nat) (B : Blk) (w : World) : Prop :=
  ∃ c T fz, w.heap[(ρ k).1]? = some (.cells c T fz) ∧ (∀ i, i < (flat ρ B.cs).length → c[(ρ k).2 + i]? = (flat ρ B.cs)[i]?) ∧
    (B.rw = true → (ρ k).2 = 0 ∧ c.size = (flat ρ B.cs).length ∧ fz = (0, 0))

/-- w0 grown to w; of w0's blocks, only those in M may have changed -/
structure Frame' (M : Nat → Prop) (w0 w : World) : Prop where
  os : w.os = w0.os
  tape : w.tape = w0.tape
  output : w.output = w0.output
  size : w0.heap.size ≤ w.heap.size
  block : ∀ k, k < w0.heap.size → ¬ M k → w.heap[k]? = w0.heap[k]?

structure Sat (M : Nat → Prop) (w0 : World) (σ : SSt) (ρ : Rho) (a : Act) (w : World) : Prop where
  size : a.tmps.size = σ.n
  defers : a.defers = []
  slots : ∀ t s, σ.slots t = some s → a.tmps[t]? = some (s.den ρ) ∧ s.ok σ.dom
  named : ∀ k B, σ.blks k = some B → k < σ.next ∧ okC σ.dom B.cs
  blks : ∀ k B, σ.blks k = some B → BlkSat ρ k B w
  sep : ∀ k l B C, k ≠ l → σ.blks k = some B → σ.blks l = some C → B.rw = true → (ρ k).1 ≠ (ρ l).1
  own : ∀ k B, σ.blks k = some B → B.rw = true → w0.heap.size ≤ (ρ k).1 ∨ M (ρ k).1
  grow : Frame' M w0 w

/-! reading memory -/
theorem add_none (b o n : Nat) : (⟨b, o, none⟩ : Addr).add n = ⟨b, o + n, none⟩ := by
  unfold Addr.add; split
  · rename_i h; subst h; rfl
  · rfl

theorem cell_of {w : World} {b : Nat} {c : Array Value} {T : TypeId} {fz : Nat × Nat} (h : w.heap[b]? = some (.cells c T fz)) (o : Nat) :
    w.cell? ⟨b, o, none⟩ = c[o]? := by
  simp [World.cell?, h]

theorem run_load {P : Program} {w : World} {a : Addr} {v : Value} (h : w.cell? a = some v) : (load a).run P w = .ok v w := by
  simp [load, Sem.run, h]

theorem run_loadCellsFrom {P : Program} {w : World} {b o : Nat} {l : List Value} (h : ∀ i, i < l.length → w.cell? ⟨b, o + i, none⟩ = l[i]?) :
    ∀ (n i : Nat) (acc : Array Value), i + n ≤ l.length → (loadCellsFrom ⟨b, o, none⟩ i n acc).run P w = .ok (acc ++ ((l.drop i).take n).toArray) w
  | 0, i, acc, _ => by simp [loadCellsFrom]
  | n + 1, i, acc, hi => by
    have hlt : i < l.length := by omega
    have hc := h i hlt
    rw [List.getElem?_eq_getElem hlt] at hc
    simp only [loadCellsFrom, add_none, Sem.run_bind, run_load hc, Result.andThen]
    rw [run_loadCellsFrom h n (i + 1) _ (by omega)]
    congr 1
    rw [List.drop_eq_getElem_cons hlt, List.take_succ_cons]
    simp

theorem run_loadCells {P : Program} {w : World} {b o : Nat} {l : List Value} (h : ∀ i, i < l.length → w.cell? ⟨b, o + i, none⟩ = l[i]?) :
    (loadCells ⟨b, o, none⟩ l.length).run P w = .ok l.toArray w := by
  simp [loadCells, run_loadCellsFrom h l.length 0 #[] (by omega)]

/-! writing memory -/
def splice (l : List Value) (o : Nat) (xs : List Value) : List Value := xs.take o ++ l ++ xs.drop (o + l.length)
theorem length_splice {l xs : List Value} {o : Nat} (h : o + l.length ≤ xs.length) : (splice l o xs).length = xs.length := by
  simp [splice]; omega

/-- the world with one block's cells replaced -/
def withBlock (w : World) (b : Nat) (o : Obj) : World := { w with heap := w.heap.setIfInBounds b o }

theorem run_store {P : Program} {w : World} {b o : Nat} {c : Array Value} {T : TypeId} {v : Value} (h : w.heap[b]? = some (.cells c T (0, 0)))
    (ho : o < c.size) (hv : cellish v = true) :
    (store ⟨b, o, none⟩ v).run P w = .ok () (withBlock w b (.cells (c.setIfInBounds o v) T (0, 0))) := by
  have hc : w.cell? ⟨b, o, none⟩ = some c[o] := by rw [cell_of h]; simp [ho]
  have hf : w.frozen? ⟨b, o, none⟩ = false := by simp [World.frozen?, h]
  have hw : w.setCell ⟨b, o, none⟩ v = withBlock w b (.cells (c.setIfInBounds o v) T (0, 0)) := by
    have hb : b < w.heap.size := by
      rcases Nat.lt_or_ge b w.heap.size with hb | hb
      · exact hb
      · simp [Array.getElem?_eq_none hb] at h
    have hg : w.heap[b] = .cells c T (0, 0) := by simpa [Array.getElem?_eq_getElem hb] using h
    simp only [World.setCell, withBlock]
    congr 1
    apply Array.ext_getElem?
    intro i
    simp only [Array.getElem?_modify, Array.getElem?_setIfInBounds]
    by_cases hi : b = i
    · subst hi; simp [hg, hb]
    · simp [hi]
  cases v <;> first | (simp [cellish] at hv; done) | simp [store, Sem.run, hc, hf, hw]

theorem withBlock_get (w : World) {b : Nat} (o : Obj) (hb : b < w.heap.size) : (withBlock w b o).heap[b]? = some o := by
  simp [withBlock, hb]
theorem withBlock_withBlock (w : World) (b : Nat) (o o' : Obj) : withBlock (withBlock w b o) b o' = withBlock w b o' := by
  simp [withBlock]
theorem lt_of_get {w : World} {b : Nat} {o : Obj} (h : w.heap[b]? = some o) : b < w.heap.size := by
  rcases Nat.lt_or_ge b w.heap.size with hb | hb
  · exact hb
  · simp [Array.getElem?_eq_none hb] at h
theorem withBlock_same {w : World} {b : Nat} {o : Obj} (h : w.heap[b]? = some o) : withBlock w b o = w := by
  have hb := lt_of_get h
  have hg : w.heap[b] = o := by simpa [Array.getElem?_eq_getElem hb] using h
  simp only [withBlock]
  congr 1
  apply Array.ext_getElem?
  intro i
  simp only [Array.getElem?_setIfInBounds]
  by_cases hi : b = i
  · subst hi; simp [hg, hb]
  · simp [hi]

theorem run_storeCells {P : Program} {T : TypeId} {b o : Nat} : ∀ (l : List Value) (i : Nat) (w : World) (c : Array Value), w.heap[b]? = some (.cells c T (0, 0)) →
    o + i + l.length ≤ c.size → (∀ x ∈ l, cellish x = true) →
    (storeCells ⟨b, o, none⟩ l i).run P w = .ok () (withBlock w b (.cells (splice l (o + i) c.toList).toArray T (0, 0)))
  | [], i, w, c, h, _, _ => by
    simp only [storeCells, Sem.run_pure, splice, List.append_nil, List.length_nil, Nat.add_zero, List.take_append_drop, Array.toArray_toList]
    rw [withBlock_same h]
  | v :: l, i, w, c, h, hsz, hl => by
    have hlen : o + i < c.size := by simp at hsz; omega
    have hb := lt_of_get h
    simp only [storeCells, add_none, Sem.run_bind, run_store (P := P) h hlen (hl v List.mem_cons_self), Result.andThen]
    rw [run_storeCells l (i + 1) _ (c.setIfInBounds (o + i) v) (withBlock_get w _ hb) (by simp at hsz ⊢; omega) (fun x hx => hl x (List.mem_cons_of_mem _ hx)), withBlock_withBlock]
    congr 3
    simp only [splice, Array.toList_setIfInBounds]
    congr 1
    apply List.ext_getElem?
    intro j
    simp only [List.getElem?_append, List.length_take, List.length_set, Array.length_toList, List.getElem?_take, List.getElem?_drop, List.getElem?_set, List.length_append, List.length_cons]
    grind
end Go.SX
