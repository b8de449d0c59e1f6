/- SxOne: a part of the proof: lemmas alone, of no statement. -/
import Derived.WalkKit
/- A symbolic reading of frames and memory; the operations of a region upon it. Over any program. -/
namespace Go.SX
open Go.RowKit

/-! values, with own blocks by name -/
inductive CV where
  | one (x : Value)
  | many (n : Nat) (xs : List Value)
  | pt (k off : Nat)
  | sl (k base st len cap : Nat)
inductive SV where
  | v (x : Value)
  | p (k off : Nat)
  | e (k base j : Nat)
  | s (k base st len cap : Nat)
  | g (cs : List CV)
inductive SS where
  | one (x : SV)
  | tup (l : List SV)
abbrev Rho := Nat → Nat × Nat
def CV.den (ρ : Rho) : CV → List Value
  | .one x => [x]
  | .many _ xs => xs
  | .pt k off => [.pointer (some ⟨(ρ k).1, (ρ k).2 + off, none⟩)]
  | .sl k base st len cap => [.slice (some ⟨(ρ k).1, (ρ k).2 + (base + st), none⟩) len cap]
def CV.size : CV → Nat
  | .many n _ => n
  | _ => 1
def cellish : Value → Bool
  | .agg _ | .tuple _ => false
  | _ => true
def CV.ok (D : Nat → Prop) : CV → Prop
  | .one x => cellish x = true
  | .many n xs => xs.length = n ∧ ∀ x ∈ xs, cellish x = true
  | .pt k _ => D k
  | .sl k _ _ _ _ => D k
def okC (D : Nat → Prop) (cs : List CV) : Prop := ∀ c ∈ cs, c.ok D
def flat (ρ : Rho) (cs : List CV) : List Value := cs.flatMap (CV.den ρ)
def sizeC : List CV → Nat
  | [] => 0
  | c :: cs => c.size + sizeC cs
def SV.den (ρ : Rho) : SV → Value
  | .v x => x
  | .p k off => .pointer (some ⟨(ρ k).1, (ρ k).2 + off, none⟩)
  | .e k base j => .pointer (some ⟨(ρ k).1, (ρ k).2 + (base + j), none⟩)
  | .s k base st len cap => .slice (some ⟨(ρ k).1, (ρ k).2 + (base + st), none⟩) len cap
  | .g cs => .agg (flat ρ cs).toArray
def SV.ok (D : Nat → Prop) : SV → Prop
  | .v _ => True
  | .p k _ => D k
  | .e k _ _ => D k
  | .s k _ _ _ _ => D k
  | .g cs => okC D cs
def SS.den (ρ : Rho) : SS → Value
  | .one x => x.den ρ
  | .tup l => .tuple (l.map (SV.den ρ)).toArray
def SS.ok (D : Nat → Prop) : SS → Prop
  | .one x => x.ok D
  | .tup l => ∀ x ∈ l, x.ok D
section
variable {D : Nat → Prop}

theorem CV.length_den {ρ : Rho} {c : CV} (h : c.ok D) : (c.den ρ).length = c.size := by
  cases c <;> simp [CV.den, CV.size]; exact h.1
theorem length_flat {ρ : Rho} : ∀ {cs : List CV}, okC D cs → (flat ρ cs).length = sizeC cs
  | [], _ => rfl
  | c :: cs, h => by
    simp only [flat, List.flatMap_cons, List.length_append, sizeC]
    rw [CV.length_den (h c List.mem_cons_self)]
    have := length_flat (ρ := ρ) (cs := cs) (fun x hx => h x (List.mem_cons_of_mem _ hx))
    simp only [flat] at this; rw [this]
theorem CV.cellish_den {ρ : Rho} {c : CV} (h : c.ok D) : ∀ x ∈ c.den ρ, cellish x = true := by
  cases c with
  | one x => intro y hy; simp only [CV.den, List.mem_singleton] at hy; subst hy; exact h
  | many n xs => simpa [CV.den] using h.2
  | pt k off => simp [CV.den, cellish]
  | sl k b st l c => simp [CV.den, cellish]
theorem cellish_flat {ρ : Rho} {cs : List CV} (h : okC D cs) : ∀ x ∈ flat ρ cs, cellish x = true := by
  intro x hx
  obtain ⟨c, hc, hx⟩ := List.mem_flatMap.1 hx
  exact CV.cellish_den (h c hc) x hx

end

/-! the state -/
structure Blk where
  cs : List CV
  rw : Bool
structure SSt where
  slots : Nat → Option SS
  blks : Nat → Option Blk
  next : Nat
  n : Nat
/-- the names that are bound -/
def SSt.dom (σ : SSt) : Nat → Prop := fun k => (σ.blks k).isSome = true

def BlkSat (ρ : Rho) (k : Nat) (B : Blk) (w : World) : Prop :=
  ∃ c T fz, w.heap[(ρ k).1]? = some (.cells c T fz) ∧ (∀ i, i < (flat ρ B.cs).length → c[(ρ k).2 + i]? = (flat ρ B.cs)[i]?) ∧
    (B.rw = true → (ρ k).2 = 0 ∧ c.size = (flat ρ B.cs).length ∧ fz = (0, 0))

/-- w0 grown to w; of w0's blocks, only those in M may have changed -/
structure Frame' (M : Nat → Prop) (w0 w : World) : Prop where
  os : w.os = w0.os
  tape : w.tape = w0.tape
  output : w.output = w0.output
  size : w0.heap.size ≤ w.heap.size
  block : ∀ k, k < w0.heap.size → ¬ M k → w.heap[k]? = w0.heap[k]?

structure Sat (M : Nat → Prop) (w0 : World) (σ : SSt) (ρ : Rho) (a : Act) (w : World) : Prop where
  size : a.tmps.size = σ.n
  defers : a.defers = []
  slots : ∀ t s, σ.slots t = some s → a.tmps[t]? = some (s.den ρ) ∧ s.ok σ.dom
  named : ∀ k B, σ.blks k = some B → k < σ.next ∧ okC σ.dom B.cs
  blks : ∀ k B, σ.blks k = some B → BlkSat ρ k B w
  sep : ∀ k l B C, k ≠ l → σ.blks k = some B → σ.blks l = some C → B.rw = true → (ρ k).1 ≠ (ρ l).1
  own : ∀ k B, σ.blks k = some B → B.rw = true → w0.heap.size ≤ (ρ k).1 ∨ M (ρ k).1
  grow : Frame' M w0 w

/-! reading memory -/
theorem add_none (b o n : Nat) : (⟨b, o, none⟩ : Addr).add n = ⟨b, o + n, none⟩ := by
  unfold Addr.add; split
  · rename_i h; subst h; rfl
  · rfl

theorem cell_of {w : World} {b : Nat} {c : Array Value} {T : TypeId} {fz : Nat × Nat} (h : w.heap[b]? = some (.cells c T fz)) (o : Nat) :
    w.cell? ⟨b, o, none⟩ = c[o]? := by
  simp [World.cell?, h]

theorem run_load {P : Program} {w : World} {a : Addr} {v : Value} (h : w.cell? a = some v) : (load a).run P w = .ok v w := by
  simp [load, Sem.run, h]

theorem run_loadCellsFrom {P : Program} {w : World} {b o : Nat} {l : List Value} (h : ∀ i, i < l.length → w.cell? ⟨b, o + i, none⟩ = l[i]?) :
    ∀ (n i : Nat) (acc : Array Value), i + n ≤ l.length → (loadCellsFrom ⟨b, o, none⟩ i n acc).run P w = .ok (acc ++ ((l.drop i).take n).toArray) w
  | 0, i, acc, _ => by simp [loadCellsFrom]
  | n + 1, i, acc, hi => by
    have hlt : i < l.length := by omega
    have hc := h i hlt
    rw [List.getElem?_eq_getElem hlt] at hc
    simp only [loadCellsFrom, add_none, Sem.run_bind, run_load hc, Result.andThen]
    rw [run_loadCellsFrom h n (i + 1) _ (by omega)]
    congr 1
    rw [List.drop_eq_getElem_cons hlt, List.take_succ_cons]
    simp

theorem run_loadCells {P : Program} {w : World} {b o : Nat} {l : List Value} (h : ∀ i, i < l.length → w.cell? ⟨b, o + i, none⟩ = l[i]?) :
    (loadCells ⟨b, o, none⟩ l.length).run P w = .ok l.toArray w := by
  simp [loadCells, run_loadCellsFrom h l.length 0 #[] (by omega)]

/-! writing memory -/
def splice (l : List Value) (o : Nat) (xs : List Value) : List Value := xs.take o ++ l ++ xs.drop (o + l.length)
theorem length_splice {l xs : List Value} {o : Nat} (h : o + l.length ≤ xs.length) : (splice l o xs).length = xs.length := by
  simp [splice]; omega

/-- the world with one block's cells replaced -/
def withBlock (w : World) (b : Nat) (o : Obj) : World := { w with heap := w.heap.setIfInBounds b o }

theorem run_store {P : Program} {w : World} {b o : Nat} {c : Array Value} {T : TypeId} {v : Value} (h : w.heap[b]? = some (.cells c T (0, 0)))
    (ho : o < c.size) (hv : cellish v = true) :
    (store ⟨b, o, none⟩ v).run P w = .ok () (withBlock w b (.cells (c.setIfInBounds o v) T (0, 0))) := by
  have hc : w.cell? ⟨b, o, none⟩ = some c[o] := by rw [cell_of h]; simp [ho]
  have hf : w.frozen? ⟨b, o, none⟩ = false := by simp [World.frozen?, h]
  have hw : w.setCell ⟨b, o, none⟩ v = withBlock w b (.cells (c.setIfInBounds o v) T (0, 0)) := by
    have hb : b < w.heap.size := by
      rcases Nat.lt_or_ge b w.heap.size with hb | hb
      · exact hb
      · simp [Array.getElem?_eq_none hb] at h
    have hg : w.heap[b] = .cells c T (0, 0) := by simpa [Array.getElem?_eq_getElem hb] using h
    simp only [World.setCell, withBlock]
    congr 1
    apply Array.ext_getElem?
    intro i
    simp only [Array.getElem?_modify, Array.getElem?_setIfInBounds]
    by_cases hi : b = i
    · subst hi; simp [hg, hb]
    · simp [hi]
  cases v <;> first | (simp [cellish] at hv; done) | simp [store, Sem.run, hc, hf, hw]

theorem withBlock_get (w : World) {b : Nat} (o : Obj) (hb : b < w.heap.size) : (withBlock w b o).heap[b]? = some o := by
  simp [withBlock, hb]
theorem withBlock_withBlock (w : World) (b : Nat) (o o' : Obj) : withBlock (withBlock w b o) b o' = withBlock w b o' := by
  simp [withBlock]
theorem lt_of_get {w : World} {b : Nat} {o : Obj} (h : w.heap[b]? = some o) : b < w.heap.size := by
  rcases Nat.lt_or_ge b w.heap.size with hb | hb
  · exact hb
  · simp [Array.getElem?_eq_none hb] at h
theorem withBlock_same {w : World} {b : Nat} {o : Obj} (h : w.heap[b]? = some o) : withBlock w b o = w := by
  have hb := lt_of_get h
  have hg : w.heap[b] = o := by simpa [Array.getElem?_eq_getElem hb] using h
  simp only [withBlock]
  congr 1
  apply Array.ext_getElem?
  intro i
  simp only [Array.getElem?_setIfInBounds]
  by_cases hi : b = i
  · subst hi; simp [hg, hb]
  · simp [hi]

theorem run_storeCells {P : Program} {T : TypeId} {b o : Nat} : ∀ (l : List Value) (i : Nat) (w : World) (c : Array Value), w.heap[b]? = some (.cells c T (0, 0)) →
    o + i + l.length ≤ c.size → (∀ x ∈ l, cellish x = true) →
    (storeCells ⟨b, o, none⟩ l i).run P w = .ok () (withBlock w b (.cells (splice l (o + i) c.toList).toArray T (0, 0)))
  | [], i, w, c, h, _, _ => by
    simp only [storeCells, Sem.run_pure, splice, List.append_nil, List.length_nil, Nat.add_zero, List.take_append_drop, Array.toArray_toList]
    rw [withBlock_same h]
  | v :: l, i, w, c, h, hsz, hl => by
    have hlen : o + i < c.size := by simp at hsz; omega
    have hb := lt_of_get h
    simp only [storeCells, add_none, Sem.run_bind, run_store (P := P) h hlen (hl v List.mem_cons_self), Result.andThen]
    rw [run_storeCells l (i + 1) _ (c.setIfInBounds (o + i) v) (withBlock_get w _ hb) (by simp at hsz ⊢; omega) (fun x hx => hl x (List.mem_cons_of_mem _ hx)), withBlock_withBlock]
    congr 3
    simp only [splice, Array.toList_setIfInBounds]
    congr 1
    apply List.ext_getElem?
    intro j
    simp only [List.getElem?_append, List.length_take, List.length_set, Array.length_toList, List.getElem?_take, List.getElem?_drop, List.getElem?_set, List.length_append, List.length_cons]
    grind
end Go.SX

namespace Go.SX
open Go.RowKit
variable {D : Nat → Prop}

/-! parts of a block -/
def dropN : Nat → List CV → Option (List CV)
  | 0, cs => some cs
  | _ + 1, [] => none
  | o + 1, c :: cs => match Nat.ble c.size (o + 1) with
    | true => dropN (o + 1 - c.size) cs
    | false => match c with
      | .many m xs => some (.many (m - (o + 1)) (xs.drop (o + 1)) :: cs)
      | _ => none
def takeN : Nat → List CV → Option (List CV)
  | 0, _ => some []
  | _ + 1, [] => none
  | n + 1, c :: cs => match Nat.ble c.size (n + 1) with
    | true => match takeN (n + 1 - c.size) cs with
      | some r => some (c :: r)
      | none => none
    | false => match c with
      | .many _ xs => some [.many (n + 1) (xs.take (n + 1))]
      | _ => none

theorem okC_cons {c : CV} {cs : List CV} : okC D (c :: cs) ↔ c.ok D ∧ okC D cs := by simp [okC]
theorem okC_nil : okC D [] := by simp [okC]
theorem flat_cons {ρ : Rho} {c : CV} {cs : List CV} : flat ρ (c :: cs) = c.den ρ ++ flat ρ cs := by simp [flat]
theorem flat_nil {ρ : Rho} : flat ρ [] = [] := rfl
theorem flat_append {ρ : Rho} {cs ds : List CV} : flat ρ (cs ++ ds) = flat ρ cs ++ flat ρ ds := by simp [flat]
theorem okC_append {cs ds : List CV} : okC D (cs ++ ds) ↔ okC D cs ∧ okC D ds := by
  simp only [okC, List.mem_append]
  exact ⟨fun h => ⟨fun c hc => h c (.inl hc), fun c hc => h c (.inr hc)⟩, fun h c hc => hc.elim (h.1 c) (h.2 c)⟩

theorem dropN_spec {ρ : Rho} : ∀ (cs : List CV) (o : Nat) (r : List CV), okC D cs → dropN o cs = some r → flat ρ r = (flat ρ cs).drop o ∧ okC D r ∧ o ≤ (flat ρ cs).length
  | cs, 0, r, h, hr => by
    have : r = cs := by cases cs <;> simpa [dropN] using hr.symm
    subst this; exact ⟨by simp, h, by simp⟩
  | [], o + 1, r, h, hr => by simp [dropN] at hr
  | c :: cs, o + 1, r, h, hr => by
    obtain ⟨hc, hcs⟩ := okC_cons.1 h
    have hl := CV.length_den (ρ := ρ) hc
    unfold dropN at hr
    cases hb : Nat.ble c.size (o + 1) with
    | true =>
      rw [hb] at hr
      have hle : c.size ≤ o + 1 := Nat.le_of_ble_eq_true hb
      obtain ⟨h1, h2, h3⟩ := dropN_spec cs _ r hcs hr
      refine ⟨?_, h2, ?_⟩
      · rw [h1, flat_cons, List.drop_append, hl, List.drop_of_length_le (l := CV.den ρ c) (by omega), List.nil_append]
      · simp only [flat_cons, List.length_append]; omega
    | false =>
      rw [hb] at hr
      have hlt : ¬ c.size ≤ o + 1 := fun hle => by rw [Nat.ble_eq_true_of_le hle] at hb; cases hb
      cases c with
      | many m xs =>
        simp only [Option.some.injEq] at hr
        subst hr
        simp only [CV.size] at hlt
        have hxs : xs.length = m := hc.1
        refine ⟨?_, okC_cons.2 ⟨⟨by simp [hxs], fun x hx => hc.2 x (List.mem_of_mem_drop hx)⟩, hcs⟩, ?_⟩
        · simp only [flat_cons, CV.den]
          rw [List.drop_append_of_le_length (by omega)]
        · simp only [flat_cons, CV.den, List.length_append]; omega
      | _ => simp at hr
theorem takeN_spec {ρ : Rho} : ∀ (cs : List CV) (n : Nat) (r : List CV), okC D cs → takeN n cs = some r → flat ρ r = (flat ρ cs).take n ∧ okC D r ∧ n ≤ (flat ρ cs).length
  | cs, 0, r, h, hr => by
    have : r = [] := by cases cs <;> simpa [takeN] using hr.symm
    subst this; exact ⟨by simp [flat], okC_nil, by simp⟩
  | [], n + 1, r, h, hr => by simp [takeN] at hr
  | c :: cs, n + 1, r, h, hr => by
    obtain ⟨hc, hcs⟩ := okC_cons.1 h
    have hl := CV.length_den (ρ := ρ) hc
    unfold takeN at hr
    cases hb : Nat.ble c.size (n + 1) with
    | true =>
      rw [hb] at hr
      have hle : c.size ≤ n + 1 := Nat.le_of_ble_eq_true hb
      cases ht : takeN (n + 1 - c.size) cs with
      | none => simp [ht] at hr
      | some r' =>
        simp only [ht, Option.some.injEq] at hr
        subst hr
        obtain ⟨h1, h2, h3⟩ := takeN_spec cs _ r' hcs ht
        refine ⟨?_, okC_cons.2 ⟨hc, h2⟩, ?_⟩
        · simp only [flat_cons]; rw [h1, List.take_append, hl, List.take_of_length_le (l := CV.den ρ c) (by omega)]
        · simp only [flat_cons, List.length_append]; omega
    | false =>
      rw [hb] at hr
      have hlt : ¬ c.size ≤ n + 1 := fun hle => by rw [Nat.ble_eq_true_of_le hle] at hb; cases hb
      cases c with
      | many m xs =>
        simp only [Option.some.injEq] at hr
        subst hr
        simp only [CV.size] at hlt
        have hxs : xs.length = m := hc.1
        refine ⟨?_, okC_cons.2 ⟨⟨by simp [hxs]; omega, fun x hx => hc.2 x (List.mem_of_mem_take hx)⟩, okC_nil⟩, ?_⟩
        · simp only [flat_cons, CV.den, flat_nil, List.append_nil]
          rw [List.take_append_of_le_length (by omega)]
        · simp only [flat_cons, CV.den, List.length_append]; omega
      | _ => simp at hr

/-- n cells from o on -/
def partC (o n : Nat) (cs : List CV) : Option (List CV) :=
  match dropN o cs with
  | some r => takeN n r
  | none => none
theorem partC_spec {ρ : Rho} {cs r : List CV} {o n : Nat} (h : okC D cs) (hr : partC o n cs = some r) :
    flat ρ r = ((flat ρ cs).drop o).take n ∧ okC D r ∧ o + n ≤ (flat ρ cs).length := by
  unfold partC at hr
  cases hd : dropN o cs with
  | none => simp [hd] at hr
  | some d =>
    simp only [hd] at hr
    obtain ⟨h1, h2, h3⟩ := dropN_spec (ρ := ρ) cs o d h hd
    obtain ⟨k1, k2, k3⟩ := takeN_spec (ρ := ρ) d n r h2 hr
    rw [h1] at k1 k3
    simp at k3
    exact ⟨k1, k2, by omega⟩
/-- the cells from o on replaced -/
def putC (o : Nat) (new : List CV) (cs : List CV) : Option (List CV) :=
  match takeN o cs, dropN (o + sizeC new) cs with
  | some a, some b => some (a ++ (new ++ b))
  | _, _ => none
theorem putC_spec {ρ : Rho} {cs new r : List CV} {o : Nat} (h : okC D cs) (hn : okC D new) (hr : putC o new cs = some r) :
    flat ρ r = splice (flat ρ new) o (flat ρ cs) ∧ okC D r ∧ o + (flat ρ new).length ≤ (flat ρ cs).length := by
  unfold putC at hr
  cases ht : takeN o cs with
  | none => simp [ht] at hr
  | some a =>
    cases hd : dropN (o + sizeC new) cs with
    | none => simp [ht, hd] at hr
    | some b =>
      simp only [ht, hd, Option.some.injEq] at hr
      subst hr
      obtain ⟨h1, h2, h3⟩ := takeN_spec (ρ := ρ) cs o a h ht
      obtain ⟨k1, k2, k3⟩ := dropN_spec (ρ := ρ) cs _ b h hd
      rw [← length_flat (ρ := ρ) hn] at k1 k3
      exact ⟨by simp [flat_append, h1, k1, splice], okC_append.2 ⟨h2, okC_append.2 ⟨hn, k2⟩⟩, k3⟩

/-- one cell -/
def oneC : List CV → Option SV
  | [.one x] => some (.v x)
  | [.pt k f] => some (.p k f)
  | [.sl k b st l c] => some (.s k b st l c)
  | [.many 1 xs] => some (.v (xs.getD 0 undef))
  | _ => none
theorem oneC_spec {ρ : Rho} {cs : List CV} {s : SV} (h : okC D cs) (hs : oneC cs = some s) : flat ρ cs = [s.den ρ] ∧ s.ok D := by
  unfold oneC at hs
  split at hs
  · injection hs with hs; subst hs; exact ⟨rfl, trivial⟩
  · injection hs with hs; subst hs; exact ⟨rfl, (okC_cons.1 h).1⟩
  · injection hs with hs; subst hs; exact ⟨rfl, (okC_cons.1 h).1⟩
  · injection hs with hs; subst hs
    have := (okC_cons.1 h).1.1
    rename_i xs
    match xs, this with
    | [x], _ => exact ⟨rfl, trivial⟩
  · cases hs

/-- a whole row of cells at a place -/
def rowAt : Nat → List CV → Option (Nat × List Value)
  | _, [] => none
  | 0, c :: _ => match c with
    | .many n xs => some (n, xs)
    | _ => none
  | o + 1, c :: cs => match Nat.ble c.size (o + 1) with
    | true => rowAt (o + 1 - c.size) cs
    | false => none
theorem rowAt_spec {ρ : Rho} : ∀ (cs : List CV) (o n : Nat) (xs : List Value), okC D cs → rowAt o cs = some (n, xs) →
    xs.length = n ∧ (∀ x ∈ xs, cellish x = true) ∧ ∃ l r, flat ρ cs = l ++ (xs ++ r) ∧ l.length = o
  | [], o, n, xs, h, hr => by simp [rowAt] at hr
  | c :: cs, 0, n, xs, h, hr => by
    obtain ⟨hc, hcs⟩ := okC_cons.1 h
    cases c <;> simp only [rowAt, Option.some.injEq, Prod.mk.injEq, reduceCtorEq] at hr
    obtain ⟨rfl, rfl⟩ := hr
    exact ⟨hc.1, hc.2, [], flat ρ cs, by simp [flat_cons, CV.den], rfl⟩
  | c :: cs, o + 1, n, xs, h, hr => by
    obtain ⟨hc, hcs⟩ := okC_cons.1 h
    have hl := CV.length_den (ρ := ρ) hc
    unfold rowAt at hr
    cases hb : Nat.ble c.size (o + 1) with
    | true =>
      rw [hb] at hr
      have hle := Nat.le_of_ble_eq_true hb
      obtain ⟨h1, h2, l, r, h3, h4⟩ := rowAt_spec (ρ := ρ) cs _ n xs hcs hr
      exact ⟨h1, h2, CV.den ρ c ++ l, r, by simp [flat_cons, h3], by simp [hl, h4]; omega⟩
    | false => rw [hb] at hr; cases hr
/-- a whole row replaced -/
def setRow : Nat → List Value → List CV → Option (List CV)
  | _, _, [] => none
  | 0, ys, c :: cs => match c with
    | .many n _ => some (.many n ys :: cs)
    | _ => none
  | o + 1, ys, c :: cs => match Nat.ble c.size (o + 1) with
    | true => match setRow (o + 1 - c.size) ys cs with
      | some r => some (c :: r)
      | none => none
    | false => none
theorem setRow_spec {ρ : Rho} : ∀ (cs : List CV) (o n : Nat) (xs ys : List Value) (r : List CV), okC D cs → rowAt o cs = some (n, xs) → ys.length = n → (∀ x ∈ ys, cellish x = true) →
    setRow o ys cs = some r → okC D r ∧ flat ρ r = splice ys o (flat ρ cs) ∧ o + ys.length ≤ (flat ρ cs).length
  | [], o, n, xs, ys, r, h, hr, _, _, _ => by simp [rowAt] at hr
  | c :: cs, 0, n, xs, ys, r, h, hr, hy, hy', hs => by
    obtain ⟨hc, hcs⟩ := okC_cons.1 h
    cases c <;> simp only [rowAt, setRow, Option.some.injEq, Prod.mk.injEq, reduceCtorEq] at hr hs
    obtain ⟨rfl, rfl⟩ := hr
    subst hs
    have hx := hc.1
    refine ⟨okC_cons.2 ⟨⟨hy, hy'⟩, hcs⟩, ?_, ?_⟩
    · simp [flat_cons, CV.den, splice, hy, hx]
    · simp [flat_cons, CV.den]; omega
  | c :: cs, o + 1, n, xs, ys, r, h, hr, hy, hy', hs => by
    obtain ⟨hc, hcs⟩ := okC_cons.1 h
    have hl := CV.length_den (ρ := ρ) hc
    unfold setRow at hs
    unfold rowAt at hr
    cases hb : Nat.ble c.size (o + 1) with
    | false => rw [hb] at hr; cases hr
    | true =>
      have hle := Nat.le_of_ble_eq_true hb
      rw [hb] at hr hs
      cases hq : setRow (o + 1 - c.size) ys cs with
      | none => simp [hq] at hs
      | some r' =>
        simp only [hq, Option.some.injEq] at hs
        subst hs
        obtain ⟨h1, h2, h3⟩ := setRow_spec (ρ := ρ) cs _ n xs ys r' hcs hr hy hy' hq
        refine ⟨okC_cons.2 ⟨hc, h1⟩, ?_, ?_⟩
        · simp only [flat_cons, h2, splice, List.take_append, List.drop_append, hl]
          rw [List.take_of_length_le (l := CV.den ρ c) (by omega), List.drop_of_length_le (l := CV.den ρ c) (by omega)]
          simp; congr 1; omega
        · simp only [flat_cons, List.length_append]; omega
end Go.SX

namespace Go.SX
open Go.RowKit

structure TInfo where
  desc : TypeDesc
  size : Nat
  zero : List CV
abbrev TyEnv := Nat → Option TInfo
def isAggD : TypeDesc → Bool
  | .struct _ | .array _ _ => true
  | _ => false
structure TyOK1 (P : Program) (t : Nat) (i : TInfo) : Prop where
  und : P.underlying t = some i.desc
  info : (P.info? t).map (·.size) = some i.size
  zero : ∀ ρ, ((P.info? t).bind (·.zero)).map (·.cells.toList) = some (flat ρ i.zero)
  okz : ∀ D, okC D i.zero
  guard : ∀ len E, i.desc = .array len E → P.eqGuardType P.depth t = false
def TyOK (P : Program) (Γ : TyEnv) : Prop := ∀ t i, Γ t = some i → TyOK1 P t i

section types
variable {P : Program} {t : Nat} {i : TInfo} (h : TyOK1 P t i) (w : World)
include h
theorem run_isAgg : (isAgg t).run P w = .ok (isAggD i.desc) w := by
  simp only [isAgg, Sem.run_bind, run_underlying h.und, Result.andThen]
  cases i.desc <;> rfl
theorem run_sizeOf : (sizeOf t).run P w = .ok i.size w := by
  have := h.info
  cases hi : P.info? t with
  | none => simp [hi] at this
  | some x => simp [hi] at this; simp [sizeOf, typeInfo, hi, this]
theorem run_zeroValue (ρ : Rho) : ∃ z, (zeroValue t).run P w = .ok z w ∧ z.cells.toList = flat ρ i.zero := by
  have := h.zero ρ
  cases hi : P.info? t with
  | none => simp [hi] at this
  | some x =>
    cases hz : x.zero with
    | none => simp [hi, hz] at this
    | some z => simp [hi, hz] at this; exact ⟨z, by simp [zeroValue, typeInfo, hi, hz], this⟩
end types

/-! operands -/
def rdS (σ : SSt) : Operand → Option SS
  | .tmp t => σ.slots t
  | .const v => some (.one (.v v))
  | .global g => some (.one (.v (.pointer (some ⟨g, 0, none⟩))))
  | .func f => some (.one (.v (.func (.func f) #[] #[])))
def rd (σ : SSt) (x : Operand) : Option SV :=
  match rdS σ x with
  | some (.one s) => some s
  | _ => none
theorem rdS_spec {M : Nat → Prop} {w0 w : World} {σ : SSt} {ρ : Rho} {a : Act} (h : Sat M w0 σ ρ a w) {x : Operand} {s : SS} (hs : rdS σ x = some s) : a.eval x = s.den ρ ∧ s.ok σ.dom := by
  cases x with
  | tmp t =>
    obtain ⟨h1, h2⟩ := h.slots t s hs
    exact ⟨by simp [Act.eval, h1], h2⟩
  | const v => simp only [rdS, Option.some.injEq] at hs; subst hs; exact ⟨rfl, trivial⟩
  | global g => simp only [rdS, Option.some.injEq] at hs; subst hs; exact ⟨rfl, trivial⟩
  | func f => simp only [rdS, Option.some.injEq] at hs; subst hs; exact ⟨rfl, trivial⟩
theorem rd_spec {M : Nat → Prop} {w0 w : World} {σ : SSt} {ρ : Rho} {a : Act} (h : Sat M w0 σ ρ a w) {x : Operand} {s : SV} (hs : rd σ x = some s) : a.eval x = s.den ρ ∧ s.ok σ.dom := by
  unfold rd at hs
  split at hs
  · rename_i s' h'
    simp only [Option.some.injEq] at hs; subst hs
    exact rdS_spec h h'
  · cases hs

/-- what is called: a function; or an operation that its own rule tells of -/
inductive Cal where
  | fn (f : FuncId)
  | op (o : Op)
inductive Out where
  | val (s : SS) (side : Prop)
  | new (cs : List CV) (rw : Bool) (side : Prop)
  | set (k : Nat) (cs : List CV) (side : Prop)
  | call (f : Cal) (args : List SV)
  | bad

/-- what a stored value's cells are -/
def toC : SV → List CV × Prop
  | .v x => ([.one x], cellish x = true)
  | .p k off => ([.pt k off], True)
  | .e k b j => ([.pt k (b + j)], True)
  | .s k b st l c => ([.sl k b st l c], True)
  | .g cs => (cs, True)
theorem toC_spec {D : Nat → Prop} {ρ : Rho} {s : SV} (h : s.ok D) (hs : (toC s).2) : okC D (toC s).1 ∧ (s.den ρ).cells.toList = flat ρ (toC s).1 := by
  cases s with
  | v x =>
    simp only [toC] at hs ⊢
    refine ⟨by simp [okC, CV.ok, hs], ?_⟩
    cases x <;> first | (simp [cellish] at hs; done) | rfl
  | p k off => exact ⟨fun c hc => by simp only [toC, List.mem_singleton] at hc; subst hc; exact h, rfl⟩
  | e k b j => exact ⟨fun c hc => by simp only [toC, List.mem_singleton] at hc; subst hc; exact h, rfl⟩
  | s k b st l c => exact ⟨fun c hc => by simp only [toC, List.mem_singleton] at hc; subst hc; exact h, rfl⟩
  | g cs => exact ⟨h, by simp [toC, SV.den, Value.cells]⟩

/-! loads and stores -/
def opLoad (Γ : TyEnv) (σ : SSt) (T : Nat) (x : Option SV) : Out :=
  match Γ T, x with
  | some i, some (.p k off) => match σ.blks k with
    | some B => match isAggD i.desc with
      | true => match partC off i.size B.cs with
        | some cs => .val (.one (.g cs)) True
        | none => .bad
      | false => match partC off 1 B.cs with
        | some cs => match oneC cs with
          | some s => .val (.one s) True
          | none => .bad
        | none => .bad
    | none => .bad
  | some i, some (.e k base j) => match σ.blks k with
    | some B => match rowAt base B.cs with
      | some (n, xs) => match isAggD i.desc with
        | false => .val (.one (.v (xs.getD j undef))) (j < n)
        | true => .val (.one (.g [.many i.size ((xs.drop j).take i.size)])) (j + i.size ≤ n)
      | none => .bad
    | none => .bad
  | _, _ => .bad

theorem sat_cell {M : Nat → Prop} {w0 w : World} {σ : SSt} {ρ : Rho} {a : Act} (h : Sat M w0 σ ρ a w) {k : Nat} {B : Blk} (hk : σ.blks k = some B) (i : Nat) (hi : i < (flat ρ B.cs).length) :
    w.cell? ⟨(ρ k).1, (ρ k).2 + i, none⟩ = (flat ρ B.cs)[i]? := by
  obtain ⟨c, T, fz, hc, hs, _⟩ := h.blks k B hk
  rw [cell_of hc, hs i hi]

theorem run_loadVar_agg {P : Program} {T : Nat} {i : TInfo} (hT : TyOK1 P T i) (hd : isAggD i.desc = true) {w : World} {b o : Nat} {l : List Value} (hl : l.length = i.size)
    (h : ∀ j, j < l.length → w.cell? ⟨b, o + j, none⟩ = l[j]?) : (loadVar T ⟨b, o, none⟩).run P w = .ok (.agg l.toArray) w := by
  simp only [loadVar, Sem.run_bind, run_isAgg hT, Result.andThen, hd, if_true, run_sizeOf hT, ← hl, run_loadCells h, Sem.run_pure]
theorem run_loadVar_one {P : Program} {T : Nat} {i : TInfo} (hT : TyOK1 P T i) (hd : isAggD i.desc = false) {w : World} {b o : Nat} {v : Value}
    (h : w.cell? ⟨b, o, none⟩ = some v) : (loadVar T ⟨b, o, none⟩).run P w = .ok v w := by
  simp only [loadVar, Sem.run_bind, run_isAgg hT, Result.andThen, hd, run_load h, Bool.false_eq_true, if_false]

theorem opLoad_spec {P : Program} {Γ : TyEnv} (hΓ : TyOK P Γ) {M : Nat → Prop} {w0 w : World} {σ : SSt} {ρ : Rho} {a : Act} (h : Sat M w0 σ ρ a w) {T : Nat} {x : Operand} {s : SS} {side : Prop}
    (ho : opLoad Γ σ T (rd σ x) = .val s side) (hside : side) : (Instr.loadAt T (a.eval x)).run P w = .ok (s.den ρ) w ∧ s.ok σ.dom := by
  unfold opLoad at ho
  split at ho
  · rename_i i k off hT hx
    obtain ⟨he, _⟩ := rd_spec h hx
    have hT' := hΓ _ _ hT
    rw [he]
    simp only [SV.den, Instr.loadAt, Instr.sureAddr, Sem.run_bind, Sem.run_pure, Result.andThen]
    split at ho
    · rename_i B hB
      have hok := (h.named k B hB).2
      cases hd : isAggD i.desc with
      | true =>
        simp only [hd] at ho
        cases hp : partC off i.size B.cs with
        | none => simp [hp] at ho
        | some cs =>
          simp only [hp, Out.val.injEq] at ho
          obtain ⟨rfl, _⟩ := ho
          obtain ⟨h1, h2, h3⟩ := partC_spec (ρ := ρ) hok hp
          refine ⟨?_, h2⟩
          rw [run_loadVar_agg hT' hd (l := flat ρ cs) (by rw [h1]; simp; omega)]
          · rfl
          · intro j hj
            rw [h1] at hj ⊢
            simp only [List.length_take, List.length_drop] at hj
            rw [Nat.add_assoc, sat_cell h hB (off + j) (by omega)]
            rw [List.getElem?_take, if_pos (by omega), List.getElem?_drop]
      | false =>
        simp only [hd] at ho
        cases hp : partC off 1 B.cs with
        | none => simp [hp] at ho
        | some cs =>
          cases hq : oneC cs with
          | none => simp [hp, hq] at ho
          | some s' =>
            simp only [hp, hq, Out.val.injEq] at ho
            obtain ⟨rfl, _⟩ := ho
            obtain ⟨h1, h2, h3⟩ := partC_spec (ρ := ρ) hok hp
            obtain ⟨h4, h5⟩ := oneC_spec (ρ := ρ) h2 hq
            refine ⟨?_, h5⟩
            rw [run_loadVar_one hT' hd (v := s'.den ρ)]
            · rfl
            · rw [sat_cell h hB off (by omega)]
              have : (flat ρ cs)[0]? = some (s'.den ρ) := by rw [h4]; rfl
              rw [h1, List.getElem?_take, if_pos (by omega), List.getElem?_drop] at this
              simpa using this
    · cases ho
  · rename_i i k base j hT hx
    obtain ⟨he, _⟩ := rd_spec h hx
    have hT' := hΓ _ _ hT
    rw [he]
    simp only [SV.den, Instr.loadAt, Instr.sureAddr, Sem.run_bind, Sem.run_pure, Result.andThen]
    split at ho
    · rename_i B hB
      have hok := (h.named k B hB).2
      split at ho
      · rename_i n xs hr
        obtain ⟨h1, h2, l, r, h3, h4⟩ := rowAt_spec (ρ := ρ) B.cs base n xs hok hr
        have hcell : ∀ j, j < xs.length → w.cell? ⟨(ρ k).1, (ρ k).2 + (base + j), none⟩ = xs[j]? := by
          intro j hj
          rw [sat_cell h hB (base + j) (by rw [h3]; simp; omega), h3, List.getElem?_append_right (by omega), List.getElem?_append_left (by omega)]
          congr 1; omega
        cases hd : isAggD i.desc with
        | false =>
          simp only [hd, Out.val.injEq] at ho
          obtain ⟨rfl, rfl⟩ := ho
          refine ⟨?_, trivial⟩
          rw [run_loadVar_one hT' hd (v := xs.getD j undef)]
          · rfl
          · rw [hcell j (by omega), List.getD_eq_getElem?_getD, List.getElem?_eq_getElem (by omega)]; rfl
        | true =>
          simp only [hd, Out.val.injEq] at ho
          obtain ⟨rfl, rfl⟩ := ho
          refine ⟨?_, ?_⟩
          · rw [run_loadVar_agg hT' hd (l := (xs.drop j).take i.size) (by simp; omega)]
            · simp [SS.den, SV.den, flat, CV.den]
            · intro m hm
              simp only [List.length_take, List.length_drop] at hm
              rw [Nat.add_assoc, Nat.add_assoc, hcell (j + m) (by omega), List.getElem?_take, if_pos (by omega), List.getElem?_drop]
          · refine okC_cons.2 ⟨⟨by simp; omega, fun x hx => h2 x (List.mem_of_mem_drop (List.mem_of_mem_take hx))⟩, okC_nil⟩
      · cases ho
    · cases ho
  · cases ho

def opStore (Γ : TyEnv) (σ : SSt) (T : Nat) (x y : Option SV) : Out :=
  match Γ T, x, y with
  | some i, some (.p k off), some s => match σ.blks k with
    | some ⟨cs, true⟩ => match putC off (toC s).1 cs with
      | some r => .set k r ((toC s).2 ∧ sizeC (toC s).1 = i.size)
      | none => .bad
    | _ => .bad
  | some i, some (.e k base j), some (.v x) => match σ.blks k with
    | some ⟨cs, true⟩ => match rowAt base cs with
      | some (n, xs) => match setRow base (xs.set j x) cs with
        | some r => .set k r (j < n ∧ cellish x = true ∧ i.size = 1)
        | none => .bad
      | none => .bad
    | _ => .bad
  | some i, some (.e k base j), some (.g [.many m ys]) => match σ.blks k with
    | some ⟨cs, true⟩ => match rowAt base cs with
      | some (n, xs) => match setRow base (splice ys j xs) cs with
        | some r => .set k r (j + m ≤ n ∧ i.size = m)
        | none => .bad
      | none => .bad
    | _ => .bad
  | _, _, _ => .bad

theorem run_storeVar {P : Program} {T : Nat} {i : TInfo} (hT : TyOK1 P T i) {w : World} {b o : Nat} {c : Array Value} {E : TypeId} {v : Value} (hs : v.cells.size = i.size)
    (h : w.heap[b]? = some (.cells c E (0, 0))) (hsz : o + v.cells.size ≤ c.size) (hc : ∀ x ∈ v.cells.toList, cellish x = true) :
    (storeVar T ⟨b, o, none⟩ v).run P w = .ok () (withBlock w b (.cells (splice v.cells.toList o c.toList).toArray E (0, 0))) := by
  simp only [storeVar, Sem.run_bind, run_sizeOf hT, Result.andThen, hs, ne_eq, not_true_eq_false, if_false]
  rw [run_storeCells _ 0 w c h (by simp; omega) hc]; rfl

theorem splice_splice_row {l r xs ys : List Value} {o : Nat} (hl : l.length = o) {j : Nat} (h : j + ys.length ≤ xs.length) :
    splice ys (o + j) (l ++ (xs ++ r)) = splice (splice ys j xs) o (l ++ (xs ++ r)) := by
  subst hl
  simp only [splice, List.length_append, List.length_take, List.length_drop, List.take_append, List.drop_append]
  have h1 : (l.take (l.length + j)) = l := List.take_of_length_le (by omega)
  have h2 : l.drop (l.length + j + ys.length) = [] := List.drop_of_length_le (by omega)
  have h3 : l.drop (l.length + (min j xs.length + ys.length + (xs.length - (j + ys.length)))) = [] := List.drop_of_length_le (by omega)
  have h4 : xs.drop (l.length + (min j xs.length + ys.length + (xs.length - (j + ys.length))) - l.length) = [] := List.drop_of_length_le (by omega)
  rw [h1, h2, h3, h4]
  simp only [List.nil_append, Nat.add_sub_cancel_left, Nat.sub_self, List.take_zero, List.append_assoc, List.take_length]
  have e1 : r.take (j - xs.length) = [] := by rw [show j - xs.length = 0 from by omega]; simp
  have e2 : l.length + j + ys.length - l.length = j + ys.length := by omega
  have e3 : j + ys.length - xs.length = 0 := by omega
  have e4 : min j xs.length + ys.length + (xs.length - (j + ys.length)) - xs.length = 0 := by omega
  rw [e1, e2, e3, e4]; simp

theorem set_eq_splice {xs : List Value} {j : Nat} {x : Value} (h : j < xs.length) : xs.set j x = splice [x] j xs := by
  simp only [splice, List.length_cons, List.length_nil, List.append_assoc, List.singleton_append]
  rw [List.set_eq_take_append_cons_drop, if_pos h]
  

theorem opStore_spec {P : Program} {Γ : TyEnv} (hΓ : TyOK P Γ) {M : Nat → Prop} {w0 w : World} {σ : SSt} {ρ : Rho} {a : Act} (h : Sat M w0 σ ρ a w) {T : Nat} {x y : Operand} {k : Nat} {r : List CV} {side : Prop}
    (ho : opStore Γ σ T (rd σ x) (rd σ y) = .set k r side) (hside : side) :
    ∃ B E, σ.blks k = some B ∧ B.rw = true ∧ okC σ.dom r ∧ (flat ρ r).length = (flat ρ B.cs).length ∧
      (Instr.storeAt T (a.eval x) (a.eval y)).run P w = .ok () (withBlock w (ρ k).1 (.cells (flat ρ r).toArray E (0, 0))) := by
  have main : ∀ (i : TInfo) (B : Blk) (o : Nat) (v : Value), TyOK1 P T i → σ.blks k = some B → B.rw = true → okC σ.dom r → flat ρ r = splice v.cells.toList o (flat ρ B.cs) →
      o + v.cells.size ≤ (flat ρ B.cs).length → v.cells.size = i.size → (∀ x ∈ v.cells.toList, cellish x = true) → a.eval y = v →
      a.eval x = .pointer (some ⟨(ρ k).1, (ρ k).2 + o, none⟩) →
      ∃ B E, σ.blks k = some B ∧ B.rw = true ∧ okC σ.dom r ∧ (flat ρ r).length = (flat ρ B.cs).length ∧
      (Instr.storeAt T (a.eval x) (a.eval y)).run P w = .ok () (withBlock w (ρ k).1 (.cells (flat ρ r).toArray E (0, 0))) := by
    intro i B o v hT hB hrw hok hfl hle hsz hce hy hx
    obtain ⟨c, E, fz, hc, hcs, hrest⟩ := h.blks k B hB
    obtain ⟨h0, hcsz, rfl⟩ := hrest hrw
    have hcl : c.toList = flat ρ B.cs := by
      apply List.ext_getElem?
      intro j
      rcases Nat.lt_or_ge j (flat ρ B.cs).length with hj | hj
      · have := hcs j hj; rw [h0, Nat.zero_add] at this; simpa using this
      · rw [List.getElem?_eq_none hj, List.getElem?_eq_none (by simp; omega)]
    refine ⟨B, E, hB, hrw, hok, ?_, ?_⟩
    · rw [hfl, length_splice (by simpa using hle)]
    · rw [hx, hy]
      simp only [Instr.storeAt, Instr.sureAddr, Sem.run_bind, Sem.run_pure, Result.andThen]
      rw [h0, Nat.zero_add, run_storeVar hT hsz hc (by omega) hce, hcl, hfl]
  unfold opStore at ho
  split at ho
  · rename_i i k' off s hT hx hy
    split at ho
    · rename_i cs hB
      split at ho
      · rename_i r' hp
        simp only [Out.set.injEq] at ho
        obtain ⟨rfl, rfl, rfl⟩ := ho
        obtain ⟨he, _⟩ := rd_spec h hx
        obtain ⟨hf, hs⟩ := rd_spec h hy
        obtain ⟨h1, h2⟩ := toC_spec (ρ := ρ) hs hside.1
        obtain ⟨k1, k2, k3⟩ := putC_spec (ρ := ρ) (h.named _ _ hB).2 h1 hp
        have hlen : (s.den ρ).cells.size = (flat ρ (toC s).1).length := by rw [← h2]; simp
        exact main i ⟨cs, true⟩ off (s.den ρ) (hΓ _ _ hT) hB rfl k2 (by rw [k1, h2]) (by rw [hlen]; exact k3) (by rw [hlen, length_flat h1]; exact hside.2)
          (by rw [h2]; exact cellish_flat h1) hf (by rw [he]; rfl)
      · cases ho
    · cases ho
  · rename_i i k' base j x' hT hx hy
    split at ho
    · rename_i cs hB
      split at ho
      · rename_i n xs hr
        split at ho
        · rename_i r' hp
          simp only [Out.set.injEq] at ho
          obtain ⟨rfl, rfl, rfl⟩ := ho
          obtain ⟨hj, hce, hsz⟩ := hside
          obtain ⟨he, _⟩ := rd_spec h hx
          obtain ⟨hf, _⟩ := rd_spec h hy
          obtain ⟨h1, h2, l, q, h3, h4⟩ := rowAt_spec (ρ := ρ) cs base n xs (h.named _ _ hB).2 hr
          obtain ⟨k1, k2, k3⟩ := setRow_spec (ρ := ρ) cs base n xs (xs.set j x') r' (h.named _ _ hB).2 hr (by simp [h1]) (fun y hy => by
            rcases List.mem_or_eq_of_mem_set hy with hm | rfl
            · exact h2 y hm
            · exact hce) hp
          have hcl : x'.cells.toList = [x'] := by cases x' <;> first | (simp [cellish] at hce; done) | rfl
          have hcs : x'.cells.size = 1 := by rw [← Array.length_toList, hcl]; rfl
          refine main i ⟨cs, true⟩ (base + j) x' (hΓ _ _ hT) hB rfl k1 ?_ ?_ (by rw [hcs, hsz]) (by rw [hcl]; simpa using hce) hf (by rw [he]; rfl)
          · rw [k2, hcl, h3, set_eq_splice (by omega), ← splice_splice_row h4 (by simp; omega)]
          · rw [hcs, h3]; simp; omega
        · cases ho
      · cases ho
    · cases ho
  · rename_i i k' base j m ys hT hx hy
    split at ho
    · rename_i cs hB
      split at ho
      · rename_i n xs hr
        split at ho
        · rename_i r' hp
          simp only [Out.set.injEq] at ho
          obtain ⟨rfl, rfl, rfl⟩ := ho
          obtain ⟨hj, hsz⟩ := hside
          obtain ⟨he, _⟩ := rd_spec h hx
          obtain ⟨hf, hok⟩ := rd_spec h hy
          have hys := (okC_cons.1 hok).1
          obtain ⟨h1, h2, l, q, h3, h4⟩ := rowAt_spec (ρ := ρ) cs base n xs (h.named _ _ hB).2 hr
          have hyl : ys.length = m := hys.1
          obtain ⟨k1, k2, k3⟩ := setRow_spec (ρ := ρ) cs base n xs (splice ys j xs) r' (h.named _ _ hB).2 hr (by rw [length_splice (by omega)]; exact h1) (fun y hy => by
            simp only [splice, List.mem_append] at hy
            rcases hy with (hm | hm) | hm
            · exact h2 y (List.mem_of_mem_take hm)
            · exact hys.2 y hm
            · exact h2 y (List.mem_of_mem_drop hm)) hp
          have hd : (SV.den ρ (.g [.many m ys])) = .agg ys.toArray := by simp [SV.den, flat, CV.den]
          rw [hd] at hf
          refine main i ⟨cs, true⟩ (base + j) (.agg ys.toArray) (hΓ _ _ hT) hB rfl k1 ?_ ?_ (by simp [Value.cells, hyl, hsz]) (by simpa [Value.cells] using hys.2) hf (by rw [he]; rfl)
          · rw [k2, h3]; simp only [Value.cells]; rw [← splice_splice_row h4 (by omega)]
          · rw [h3]; simp [Value.cells]; omega
        · cases ho
      · cases ho
    · cases ho
  · cases ho
end Go.SX

namespace Go.SX
open Go.RowKit

/-! words -/
def intb (op : BinOp) (k : IntKind) (x y : Int) : Int :=
  let a := BitVec.ofInt k.bits x
  let b := BitVec.ofInt k.bits y
  k.wrap (match op with
    | .and => (a &&& b).toNat
    | .or => (a ||| b).toNat
    | .xor => (a ^^^ b).toNat
    | _ => (a &&& ~~~b).toNat)
/-- the integer in a cell -/
def toI : Value → Int
  | .int _ n => n
  | _ => 0
def binV (op : BinOp) : Value → Value → Option (Value × Prop)
  | .int k a, .int k' b => match op with
    | .shl => some (.int k (k.wrap (a * 2 ^ (min b.toNat k.bits))), 0 ≤ b)
    | .shr => some (.int k (a.fdiv (2 ^ (min b.toNat k.bits))), 0 ≤ b)
    | .add => some (.int k (k.wrap (a + b)), k = k')
    | .sub => some (.int k (k.wrap (a - b)), k = k')
    | .mul => some (.int k (k.wrap (a * b)), k = k')
    | .quo => some (.int k (k.wrap (a.tdiv b)), k = k' ∧ b ≠ 0)
    | .rem => some (.int k (a.tmod b), k = k' ∧ b ≠ 0)
    | .and => some (.int k (intb .and k a b), k = k')
    | .or => some (.int k (intb .or k a b), k = k')
    | .xor => some (.int k (intb .xor k a b), k = k')
    | .andNot => some (.int k (intb .andNot k a b), k = k')
    | .eql => some (.bool (a == b), k = k')
    | .neq => some (.bool (a != b), k = k')
    | .lss => some (.bool (decide (a < b)), k = k')
    | .leq => some (.bool (decide (a ≤ b)), k = k')
    | .gtr => some (.bool (decide (a > b)), k = k')
    | .geq => some (.bool (decide (a ≥ b)), k = k')
  | _, _ => none
theorem binV_spec {P : Program} {op : BinOp} {T : Nat} {x y v : Value} {side : Prop} (h : binV op x y = some (v, side)) (hs : side) (w : World) :
    (binOp op T x y).run P w = .ok v w ∧ (∃ k a k' b, x = .int k a ∧ y = .int k' b) := by
  unfold binV at h
  split at h
  · rename_i k a k' b
    refine ⟨?_, ⟨k, a, k', b, rfl, rfl⟩⟩
    cases op <;> simp only [Option.some.injEq, Prod.mk.injEq] at h <;> obtain ⟨rfl, rfl⟩ := h
    case quo => obtain ⟨rfl, hb⟩ := hs; simp [binOp, Op.intDiv, hb]
    case rem => obtain ⟨rfl, hb⟩ := hs; simp [binOp, Op.intDiv, hb]
    case shl => have : ¬ b < 0 := by omega
                simp [binOp, Op.shift, this]
    case shr => have : ¬ b < 0 := by omega
                simp [binOp, Op.shift, this]
    all_goals subst hs; simp [binOp, Op.intArith, Op.intBits, Op.intCmp, intb]
  · cases h

/-- plain cells -/
def plainL : List CV → Option (List Value)
  | [] => some []
  | .one x :: cs => match plainL cs with
    | some r => some (x :: r)
    | none => none
  | .many _ xs :: cs => match plainL cs with
    | some r => some (xs ++ r)
    | none => none
  | _ :: _ => none
theorem plainL_spec {ρ : Rho} : ∀ (cs : List CV) (r : List Value), plainL cs = some r → flat ρ cs = r
  | [], r, h => by simp only [plainL, Option.some.injEq] at h; subst h; rfl
  | .one x :: cs, r, h => by
    simp only [plainL] at h
    split at h
    · rename_i r' h'
      simp only [Option.some.injEq] at h; subst h
      rw [flat_cons, plainL_spec cs r' h']; rfl
    · cases h
  | .many n xs :: cs, r, h => by
    simp only [plainL] at h
    split at h
    · rename_i r' h'
      simp only [Option.some.injEq] at h; subst h
      rw [flat_cons, plainL_spec cs r' h']; rfl
    · cases h
  | .pt _ _ :: cs, r, h => by simp [plainL] at h
  | .sl _ _ _ _ _ :: cs, r, h => by simp [plainL] at h

def isI (k : IntKind) : Value → Prop
  | .int k' _ => k' = k
  | _ => False
theorem isI_eq {k : IntKind} {v : Value} (h : isI k v) : v = .int k (toI v) := by
  cases v <;> simp only [isI] at h <;> first | exact h.elim | (subst h; rfl)

theorem run_equalIn_ints' {P : Program} (d e : Nat) (he : e = d + 1) {T E len : Nat} {k : IntKind} {xs ys : List Value} (hT : P.underlying T = some (.array len E)) (hE : P.underlying E = some (.int k))
    (hsz : (P.info? E).map (·.size) = some 1) (hx : xs.length = len) (hy : ys.length = len) (hix : ∀ x ∈ xs, isI k x) (hiy : ∀ x ∈ ys, isI k x) (w : World) :
    (Op.equalIn (e + 1) T (.agg xs.toArray) (.agg ys.toArray)).run P w = .ok (decide (xs.map toI = ys.map toI)) w := by
  have hszr : ∀ w, (sizeOf E).run P w = .ok 1 w := by
    intro w
    cases hi : P.info? E with
    | none => simp [hi] at hsz
    | some x => simp [hi] at hsz; simp [sizeOf, typeInfo, hi, hsz]
  have hag : ∀ w, (isAgg E).run P w = .ok false w := by
    intro w; simp [isAgg, run_underlying hE]
  have hpart : ∀ (zs : List Value) (i : Nat) (hi : i < zs.length) (w : World), (part E zs.toArray (i * 1)).run P w = .ok zs[i] w := by
    intro zs i hi w
    simp [part, hag, hi]
  simp only [Op.equalIn, Sem.run_bind, run_underlying hT, Result.andThen_ok, hszr]
  rw [Std.Legacy.Range.forIn_eq_forIn_range', Std.Legacy.Range.size]
  simp only [Nat.sub_zero, Nat.add_sub_cancel, Nat.div_one]
  have heq : ∀ (a b : Int) (w : World), (Op.equalIn e E (.int k a) (.int k b)).run P w = .ok (a == b) w := by
    intro a b w; subst he; exact run_equalIn_int (h := hE) ..
  have key : ∀ (m i : Nat), i + m = len → (forIn (m := Sem) (List.range' i m) (none, ()) (fun (i : Nat) (r : Option Bool × Unit) => do
        let a ← part E xs.toArray (i * 1)
        let b ← part E ys.toArray (i * 1)
        let c ← Op.equalIn e E a b
        if (!c) = true then pure (ForInStep.done (some false, ())) else pure (ForInStep.yield (none, ())))).run P w =
      .ok (if (xs.drop i).map toI = (ys.drop i).map toI then none else some false, ()) w := by
    intro m
    induction m with
    | zero => intro i hi; simp [List.drop_of_length_le (l := xs) (by omega : xs.length ≤ i), List.drop_of_length_le (l := ys) (by omega : ys.length ≤ i)]
    | succ m ih =>
      intro i hi
      have h1 : i < xs.length := by omega
      have h2 : i < ys.length := by omega
      have e1 := isI_eq (hix xs[i] (List.getElem_mem h1))
      have e2 := isI_eq (hiy ys[i] (List.getElem_mem h2))
      rw [List.range'_succ, List.forIn_cons]
      simp only [Sem.run_bind, hpart xs i h1, hpart ys i h2, Result.andThen_ok]
      rw [e1, e2, heq]
      simp only [Result.andThen_ok]
      rw [List.drop_eq_getElem_cons h1, List.drop_eq_getElem_cons h2, List.map_cons, List.map_cons]
      by_cases hq : toI xs[i] = toI ys[i]
      · simp only [hq, beq_self_eq_true, Bool.not_true, Bool.false_eq_true, if_false, Sem.run_pure, Result.andThen_ok, ih (i + 1) (by omega), List.cons.injEq, true_and]
      · have hb : (toI xs[i] == toI ys[i]) = false := by simpa using hq
        simp [hb, hq]
  have := key len 0 (by omega)
  simp only [List.drop_zero] at this
  rw [this]
  simp only [Result.andThen_ok]
  by_cases hq : xs.map toI = ys.map toI <;> simp [hq]
theorem run_equalIn_ints {P : Program} {T E len : Nat} {k : IntKind} {xs ys : List Value} (hT : P.underlying T = some (.array len E)) (hE : P.underlying E = some (.int k))
    (hsz : (P.info? E).map (·.size) = some 1) (hx : xs.length = len) (hy : ys.length = len) (hix : ∀ x ∈ xs, isI k x) (hiy : ∀ x ∈ ys, isI k x) (w : World) :
    (Op.equalIn 10000 T (.agg xs.toArray) (.agg ys.toArray)).run P w = .ok (decide (xs.map toI = ys.map toI)) w :=
  run_equalIn_ints' 9998 9999 rfl hT hE hsz hx hy hix hiy w
end Go.SX

namespace Go.SX
open Go.RowKit

section
variable {P : Program} {Γ : TyEnv}

def opFieldAddr (Γ : TyEnv) (T : Nat) (x : Option SV) (f : Nat) : Out :=
  match Γ T with
  | some ⟨.struct fields, _, _⟩ => match fields[f]? with
    | some fl => match Γ fl.type, x with
      | some i, some (.p k off) => .val (.one (.p k (off + fl.offset))) (i.size ≠ 0)
      | some i, some (.e k b j) => .val (.one (.e k b (j + fl.offset))) (i.size ≠ 0)
      | _, _ => .bad
    | none => .bad
  | _ => .bad
theorem run_fieldAt (hΓ : TyOK P Γ) {T : Nat} {fields : Array Field} {n f : Nat} {z : List CV} {fl : Field} {fi : TInfo} (hT : Γ T = some ⟨.struct fields, n, z⟩) (hf : fields[f]? = some fl)
    (hi : Γ fl.type = some fi) (hs : fi.size ≠ 0) (b o : Nat) (w : World) :
    (Instr.fieldAt T (.pointer (some ⟨b, o, none⟩)) f).run P w = .ok (.pointer (some ⟨b, o + fl.offset, none⟩)) w := by
  have h1 := (hΓ _ _ hT).und
  simp only at h1
  simp only [Instr.fieldAt, Sem.run_bind, run_underlying h1, Result.andThen_ok, hf, Instr.sureAddr, Sem.run_pure, fieldPlace, run_sizeOf (hΓ _ _ hi), hs, if_false, add_none]
theorem opFieldAddr_spec (hΓ : TyOK P Γ) {M : Nat → Prop} {w0 w : World} {σ : SSt} {ρ : Rho} {a : Act} (h : Sat M w0 σ ρ a w) {T f : Nat} {x : Operand} {s : SS} {side : Prop}
    (ho : opFieldAddr Γ T (rd σ x) f = .val s side) (hside : side) : (Instr.fieldAt T (a.eval x) f).run P w = .ok (s.den ρ) w ∧ s.ok σ.dom := by
  unfold opFieldAddr at ho
  split at ho
  · rename_i fields n z hT
    split at ho
    · rename_i fl hf
      split at ho
      · rename_i i k off hi hx
        simp only [Out.val.injEq] at ho
        obtain ⟨rfl, rfl⟩ := ho
        obtain ⟨he, hk⟩ := rd_spec h hx
        rw [he]
        exact ⟨by simp only [SV.den, SS.den]; rw [run_fieldAt hΓ hT hf hi hside, Nat.add_assoc], hk⟩
      · rename_i i k b j hi hx
        simp only [Out.val.injEq] at ho
        obtain ⟨rfl, rfl⟩ := ho
        obtain ⟨he, hk⟩ := rd_spec h hx
        rw [he]
        exact ⟨by simp only [SV.den, SS.den]; rw [run_fieldAt hΓ hT hf hi hside, Nat.add_assoc, Nat.add_assoc], hk⟩
      · cases ho
    · cases ho
  · cases ho

/-- an index in cells -/
def idxOut (sz n : Nat) (F : Nat → Out) : Out :=
  match sz with
  | 1 => F n
  | s => F (n * s)
theorem idxOut_eq (sz n : Nat) (F : Nat → Out) : idxOut sz n F = F (n * sz) := by
  unfold idxOut; split
  · simp
  · rfl
def isConst : Operand → Bool
  | .const _ => true
  | _ => false
def opIndexAddr (Γ : TyEnv) (σ : SSt) (T : Nat) (x : Option SV) (ix : Operand) : Out :=
  match rd σ ix with
  | some (.v (.int _ n)) => match Γ T, x with
    | some ⟨.array len E, _, _⟩, some (.p k off) => match Γ E with
      | some ⟨_, sz, _⟩ => match isConst ix with
        | true => .val (.one (.p k (off + n.toNat * sz))) (0 ≤ n ∧ n < len)
        | false => idxOut sz n.toNat fun m => .val (.one (.e k off m)) (0 ≤ n ∧ n < len)
      | none => .bad
    | some ⟨.array len E, _, _⟩, some (.e k b j) => match Γ E with
      | some ⟨_, sz, _⟩ => idxOut sz n.toNat fun m => .val (.one (.e k b (j + m))) (0 ≤ n ∧ n < len)
      | none => .bad
    | some ⟨.slice E, _, _⟩, some (.s k b st len _) => match Γ E with
      | some ⟨_, sz, _⟩ => idxOut sz n.toNat fun m => .val (.one (.e k b (st + m))) (0 ≤ n ∧ n < len)
      | none => .bad
    | _, _ => .bad
  | _ => .bad
theorem run_indexAt_arr (hΓ : TyOK P Γ) {T E len : Nat} {n : Nat} {z : List CV} {ei : TInfo} (hT : Γ T = some ⟨.array len E, n, z⟩) (hE : Γ E = some ei) (ik : IntKind) {ix : Int} (h0 : 0 ≤ ix) (h1 : ix < len)
    (b o : Nat) (w : World) : (Instr.indexAt T (.pointer (some ⟨b, o, none⟩)) (.int ik ix)).run P w = .ok (.pointer (some ⟨b, o + ix.toNat * ei.size, none⟩)) w := by
  have hu := (hΓ _ _ hT).und
  simp only at hu
  simp only [Instr.indexAt, asIntOf, Sem.run_bind, Sem.run_pure, Result.andThen_ok, run_underlying hu, Instr.sureAddr]
  rw [if_pos ⟨h0, h1⟩]
  simp only [Sem.run_bind, run_sizeOf (hΓ _ _ hE), Result.andThen_ok, Sem.run_pure, add_none]
theorem run_indexAt_slice (hΓ : TyOK P Γ) {T E : Nat} {n : Nat} {z : List CV} {ei : TInfo} (hT : Γ T = some ⟨.slice E, n, z⟩) (hE : Γ E = some ei) (ik : IntKind) {ix : Int} {len cap : Nat} (h0 : 0 ≤ ix) (h1 : ix < len)
    (b o : Nat) (w : World) : (Instr.indexAt T (.slice (some ⟨b, o, none⟩) len cap) (.int ik ix)).run P w = .ok (.pointer (some ⟨b, o + ix.toNat * ei.size, none⟩)) w := by
  have hu := (hΓ _ _ hT).und
  simp only at hu
  simp only [Instr.indexAt, asIntOf, Sem.run_bind, Sem.run_pure, Result.andThen_ok, run_underlying hu]
  rw [if_pos ⟨h0, h1⟩]
  simp only [Sem.run_bind, run_sizeOf (hΓ _ _ hE), Result.andThen_ok, Sem.run_pure, add_none]
theorem opIndexAddr_spec (hΓ : TyOK P Γ) {M : Nat → Prop} {w0 w : World} {σ : SSt} {ρ : Rho} {a : Act} (h : Sat M w0 σ ρ a w) {T : Nat} {x ix : Operand} {s : SS} {side : Prop}
    (ho : opIndexAddr Γ σ T (rd σ x) ix = .val s side) (hside : side) : (Instr.indexAt T (a.eval x) (a.eval ix)).run P w = .ok (s.den ρ) w ∧ s.ok σ.dom := by
  unfold opIndexAddr at ho
  split at ho
  · rename_i ik n hix
    obtain ⟨hi, _⟩ := rd_spec h hix
    rw [hi]
    split at ho
    · rename_i len E sz z k off hT hx
      obtain ⟨he, hk⟩ := rd_spec h hx
      rw [he]
      split at ho
      · rename_i d sz z hE
        split at ho
        · simp only [Out.val.injEq] at ho
          obtain ⟨rfl, rfl⟩ := ho
          exact ⟨by simp only [SV.den, SS.den]; rw [run_indexAt_arr hΓ hT hE ik hside.1 hside.2, Nat.add_assoc], hk⟩
        · simp only [idxOut_eq, Out.val.injEq] at ho
          obtain ⟨rfl, rfl⟩ := ho
          exact ⟨by simp only [SV.den, SS.den]; rw [run_indexAt_arr hΓ hT hE ik hside.1 hside.2, Nat.add_assoc], hk⟩
      · cases ho
    · rename_i len E sz z k b j hT hx
      obtain ⟨he, hk⟩ := rd_spec h hx
      rw [he]
      split at ho
      · rename_i d sz z hE
        simp only [idxOut_eq, Out.val.injEq] at ho
        obtain ⟨rfl, rfl⟩ := ho
        exact ⟨by simp only [SV.den, SS.den]; rw [run_indexAt_arr hΓ hT hE ik hside.1 hside.2, Nat.add_assoc, Nat.add_assoc], hk⟩
      · cases ho
    · rename_i E sz z k b st len cap hT hx
      obtain ⟨he, hk⟩ := rd_spec h hx
      rw [he]
      split at ho
      · rename_i d sz z hE
        simp only [idxOut_eq, Out.val.injEq] at ho
        obtain ⟨rfl, rfl⟩ := ho
        exact ⟨by simp only [SV.den, SS.den]; rw [run_indexAt_slice hΓ hT hE ik hside.1 hside.2, Nat.add_assoc, Nat.add_assoc], hk⟩
      · cases ho
    · cases ho
  · cases ho

/-- parts of values -/
def opPart (Γ : TyEnv) (E : Nat) (cs : List CV) (off : Nat) : Out :=
  match Γ E with
  | some i => match isAggD i.desc with
    | true => match partC off i.size cs with
      | some r => .val (.one (.g r)) True
      | none => .bad
    | false => match partC off 1 cs with
      | some r => match oneC r with
        | some s => .val (.one s) True
        | none => .bad
      | none => .bad
  | none => .bad
theorem opPart_spec {D : Nat → Prop} (hΓ : TyOK P Γ) {E off : Nat} {cs : List CV} (hok : okC D cs) {s : SS} {side : Prop} (ho : opPart Γ E cs off = .val s side) (ρ : Rho) (w : World) :
    (part E (flat ρ cs).toArray off).run P w = .ok (s.den ρ) w ∧ s.ok D := by
  unfold opPart at ho
  split at ho
  · rename_i i hE
    have hE' := hΓ _ _ hE
    cases hd : isAggD i.desc with
    | true =>
      simp only [hd] at ho
      split at ho
      · rename_i r hp
        simp only [Out.val.injEq] at ho
        obtain ⟨rfl, _⟩ := ho
        obtain ⟨h1, h2, h3⟩ := partC_spec (ρ := ρ) hok hp
        refine ⟨?_, h2⟩
        simp only [part, Sem.run_bind, run_isAgg hE', hd, Result.andThen_ok, if_true, run_sizeOf hE', Sem.run_pure, SS.den, SV.den, h1]
        congr 2
        simp [List.take_drop]
      · cases ho
    | false =>
      simp only [hd] at ho
      split at ho
      · rename_i r hp
        split at ho
        · rename_i s' hq
          simp only [Out.val.injEq] at ho
          obtain ⟨rfl, _⟩ := ho
          obtain ⟨h1, h2, h3⟩ := partC_spec (ρ := ρ) hok hp
          obtain ⟨h4, h5⟩ := oneC_spec (ρ := ρ) h2 hq
          refine ⟨?_, h5⟩
          have : (flat ρ r)[0]? = some (s'.den ρ) := by rw [h4]; rfl
          rw [h1, List.getElem?_take, if_pos (by omega), List.getElem?_drop, Nat.add_zero] at this
          simp only [part, Sem.run_bind, run_isAgg hE', hd, Result.andThen_ok, Bool.false_eq_true, if_false, List.getElem?_toArray, this, Sem.run_pure, SS.den]
        · cases ho
      · cases ho
  · cases ho
def opField (Γ : TyEnv) (T : Nat) (x : Option SV) (f : Nat) : Out :=
  match Γ T, x with
  | some ⟨.struct fields, _, _⟩, some (.g cs) => match fields[f]? with
    | some fl => opPart Γ fl.type cs fl.offset
    | none => .bad
  | _, _ => .bad
theorem opField_spec (hΓ : TyOK P Γ) {M : Nat → Prop} {w0 w : World} {σ : SSt} {ρ : Rho} {a : Act} (h : Sat M w0 σ ρ a w) {T f : Nat} {x : Operand} {s : SS} {side : Prop}
    (ho : opField Γ T (rd σ x) f = .val s side) : (Instr.field T (a.eval x) f).run P w = .ok (s.den ρ) w ∧ s.ok σ.dom := by
  unfold opField at ho
  split at ho
  · rename_i fields n z cs hT hx
    obtain ⟨he, hok⟩ := rd_spec h hx
    split at ho
    · rename_i fl hf
      obtain ⟨h1, h2⟩ := opPart_spec hΓ hok ho ρ w
      have hu := (hΓ _ _ hT).und
      simp only at hu
      refine ⟨?_, h2⟩
      rw [he]
      simp only [Instr.field, Sem.run_bind, run_underlying hu, Result.andThen_ok, hf, SV.den, asAgg, Sem.run_pure, h1]
    · cases ho
  · cases ho
def opIndex (Γ : TyEnv) (T : Nat) (x i : Option SV) : Out :=
  match i with
  | some (.v (.int _ n)) => match Γ T, x with
    | some ⟨.array len E, _, _⟩, some (.g [.many m xs]) => match Γ E with
      | some ⟨d, sz, _⟩ => match isAggD d with
        | false => .val (.one (.v (xs.getD n.toNat undef))) (0 ≤ n ∧ n < len ∧ sz = 1 ∧ len ≤ m)
        | true => idxOut sz n.toNat fun q => .val (.one (.g [.many sz ((xs.drop q).take sz)])) (0 ≤ n ∧ n < len ∧ len * sz ≤ m)
      | none => .bad
    | some ⟨.string, _, _⟩, some (.v (.string s)) => .val (.one (.v (.int .u8 ((s.data.toList.getD n.toNat 0).toNat : Nat)))) (0 ≤ n ∧ n < s.size)
    | _, _ => .bad
  | _ => .bad
theorem opIndex_spec (hΓ : TyOK P Γ) {M : Nat → Prop} {w0 w : World} {σ : SSt} {ρ : Rho} {a : Act} (h : Sat M w0 σ ρ a w) {T : Nat} {x i : Operand} {s : SS} {side : Prop}
    (ho : opIndex Γ T (rd σ x) (rd σ i) = .val s side) (hside : side) : (Instr.index T (a.eval x) (a.eval i)).run P w = .ok (s.den ρ) w ∧ s.ok σ.dom := by
  unfold opIndex at ho
  split at ho
  · rename_i ik n hi
    obtain ⟨hie, _⟩ := rd_spec h hi
    split at ho
    · rename_i len E sz z m xs hT hx
      obtain ⟨he, hok⟩ := rd_spec h hx
      have hxs := (okC_cons.1 hok).1
      have hxl : xs.length = m := hxs.1
      have hu := (hΓ _ _ hT).und
      simp only at hu
      split at ho
      · rename_i d sz z hE
        have hE' := hΓ _ _ hE
        have hE2 := run_sizeOf hE'
        have hE3 := run_isAgg hE'
        simp only at hE2 hE3
        have hfl : flat ρ [CV.many m xs] = xs := by simp [flat, CV.den]
        cases hd : isAggD d with
        | false =>
          simp only [hd, Out.val.injEq] at ho
          obtain ⟨rfl, rfl⟩ := ho
          obtain ⟨h0, h1, h2, h3⟩ := hside
          refine ⟨?_, trivial⟩
          rw [he, hie]
          simp only [Instr.index, SV.den, asIntOf, Sem.run_bind, Sem.run_pure, Result.andThen_ok, run_underlying hu, hfl]
          rw [if_pos ⟨h0, h1⟩]
          have hlt : n.toNat < xs.length := by omega
          simp only [Sem.run_bind, hE2, Result.andThen_ok, h2, Nat.mul_one, part, hE3, hd, Bool.false_eq_true, if_false, List.getElem?_toArray,
            List.getElem?_eq_getElem hlt, Sem.run_pure, SS.den, SV.den, List.getD_eq_getElem?_getD, Option.getD_some]
        | true =>
          simp only [hd, idxOut_eq, Out.val.injEq] at ho
          obtain ⟨rfl, rfl⟩ := ho
          obtain ⟨h0, h1, h2⟩ := hside
          have hle : (n.toNat + 1) * sz ≤ len * sz := Nat.mul_le_mul_right _ (by omega)
          rw [Nat.add_mul, Nat.one_mul] at hle
          refine ⟨?_, okC_cons.2 ⟨⟨by simp; omega, fun y hy => hxs.2 y (List.mem_of_mem_drop (List.mem_of_mem_take hy))⟩, okC_nil⟩⟩
          rw [he, hie]
          simp only [Instr.index, SV.den, asIntOf, Sem.run_bind, Sem.run_pure, Result.andThen_ok, run_underlying hu, hfl]
          rw [if_pos ⟨h0, h1⟩]
          simp only [Sem.run_bind, hE2, Result.andThen_ok, part, hE3, hd, if_true, Sem.run_pure, SS.den, SV.den]
          congr 2
          simp [flat, CV.den, List.take_drop, Nat.add_comm]
      · cases ho
    · rename_i sz z s' hT hx
      obtain ⟨he, hk⟩ := rd_spec h hx
      simp only [Out.val.injEq] at ho
      obtain ⟨rfl, rfl⟩ := ho
      obtain ⟨h0, h1⟩ := hside
      have hu := (hΓ _ _ hT).und
      simp only at hu
      refine ⟨?_, trivial⟩
      rw [he, hie]
      have hlt : n.toNat < s'.size := by omega
      simp only [Instr.index, SV.den, asIntOf, Sem.run_bind, Sem.run_pure, Result.andThen_ok, run_underlying hu, h0, if_true]
      have : s'[n.toNat]? = some (s'.data.toList.getD n.toNat 0) := by
        rw [getElem?_pos s' n.toNat hlt]
        congr 1
        simp [List.getD_eq_getElem?_getD, hlt]
        rfl
      rw [this]
      rfl
    · cases ho
  · cases ho
end
end Go.SX

namespace Go.SX
open Go.RowKit

section
variable {P : Program} {Γ : TyEnv}

/-- a bound of a slice expression, if there is one -/
def bnd (σ : SSt) : Option Operand → Option (Option Int)
  | none => some none
  | some x => match rd σ x with
    | some (.v (.int _ n)) => some (some n)
    | _ => none
theorem bnd_spec {M : Nat → Prop} {w0 w : World} {σ : SSt} {ρ : Rho} {a : Act} (h : Sat M w0 σ ρ a w) {x : Option Operand} {n : Option Int} (hb : bnd σ x = some n) :
    (x = none ∧ n = none) ∨ ∃ k m, n = some m ∧ x.map a.eval = some (.int k m) := by
  unfold bnd at hb
  split at hb
  · simp only [Option.some.injEq] at hb; exact .inl ⟨rfl, hb.symm⟩
  · rename_i y
    split at hb
    · rename_i k m hr
      simp only [Option.some.injEq] at hb
      exact .inr ⟨k, m, hb.symm, by simp [(rd_spec h hr).1, SV.den]⟩
    · cases hb

def lowOf : Option Int → Nat
  | none => 0
  | some n => n.toNat
def highOf (len : Nat) : Option Int → Nat
  | none => len
  | some n => n.toNat
def boundsOK (len cap : Nat) (lo hi : Option Int) : Prop :=
  (match lo with | none => True | some n => 0 ≤ n) ∧ (match hi with | none => True | some n => 0 ≤ n ∧ n ≤ cap) ∧ (match lo with | none => True | some n => n ≤ highOf len hi)

theorem run_sliceBounds {b : Bool} {len cap : Nat} {vl vh : Option Value} {lo hi : Option Int} (hl : (vl = none ∧ lo = none) ∨ ∃ k m, lo = some m ∧ vl = some (.int k m))
    (hh : (vh = none ∧ hi = none) ∨ ∃ k m, hi = some m ∧ vh = some (.int k m)) (hok : boundsOK len cap lo hi) (w : World) :
    (Instr.sliceBounds b len cap vl vh none).run P w = .ok (lowOf lo, highOf len hi, cap) w := by
  obtain ⟨o1, o2, o3⟩ := hok
  have e : ∀ (k : IntKind) (m : Int) (y : Nat) (c : BoundsCode) (w : World), 0 ≤ m → m ≤ y → (Instr.sliceBound (.int k m) y c).run P w = .ok m.toNat w := by
    intro k m y c w h0 h1
    simp [Instr.sliceBound, asIntOf, h0, h1]
  rcases hl with ⟨rfl, rfl⟩ | ⟨k, m, rfl, rfl⟩ <;> rcases hh with ⟨rfl, rfl⟩ | ⟨k', m', rfl, rfl⟩
  · simp [Instr.sliceBounds, lowOf, highOf]
  · simp only [Instr.sliceBounds, Sem.run_bind, Sem.run_pure, Result.andThen_ok, e k' m' cap _ w o2.1 o2.2, lowOf, highOf]
  · simp only [Instr.sliceBounds, Sem.run_bind, Sem.run_pure, Result.andThen_ok, e k m len _ w o1 o3, lowOf, highOf]
  · simp only [highOf] at o3
    simp only [Instr.sliceBounds, Sem.run_bind, Sem.run_pure, Result.andThen_ok, e k' m' cap _ w o2.1 o2.2, e k m _ _ w o1 o3, lowOf, highOf]

def opSlice (Γ : TyEnv) (σ : SSt) (T : Nat) (x : Option SV) (lo hi mx : Option Operand) : Out :=
  match mx, bnd σ lo, bnd σ hi with
  | none, some l, some h => match Γ T, x with
    | some ⟨.array len E, _, _⟩, some (.p k off) => match Γ E with
      | some i => .val (.one (.s k off (if len = lowOf l then 0 else lowOf l * i.size) (highOf len h - lowOf l) (len - lowOf l))) (boundsOK len len l h)
      | none => .bad
    | some ⟨.slice E, _, _⟩, some (.s k b st len cap) => match Γ E with
      | some i => .val (.one (.s k b (if cap = lowOf l then st else st + lowOf l * i.size) (highOf len h - lowOf l) (cap - lowOf l))) (boundsOK len cap l h)
      | none => .bad
    | some ⟨.slice E, _, _⟩, some (.v (.slice none 0 0)) => match Γ E with
      | some _ => .val (.one (.v (.slice none 0 0))) (boundsOK 0 0 l h)
      | none => .bad
    | some ⟨.string, _, _⟩, some (.v (.string s)) => .val (.one (.v (.string (s.extract (lowOf l) (highOf s.size h))))) (boundsOK s.size s.size l h)
    | _, _ => .bad
  | _, _, _ => .bad
theorem bnd_map {M : Nat → Prop} {w0 w : World} {σ : SSt} {ρ : Rho} {a : Act} (h : Sat M w0 σ ρ a w) {x : Option Operand} {n : Option Int} (hb : bnd σ x = some n) :
    (x.map a.eval = none ∧ n = none) ∨ ∃ k m, n = some m ∧ x.map a.eval = some (.int k m) := by
  rcases bnd_spec h hb with ⟨rfl, h2⟩ | h
  · exact .inl ⟨rfl, h2⟩
  · exact .inr h
theorem opSlice_spec (hΓ : TyOK P Γ) {M : Nat → Prop} {w0 w : World} {σ : SSt} {ρ : Rho} {a : Act} (h : Sat M w0 σ ρ a w) {T : Nat} {x : Operand} {lo hi mx : Option Operand} {s : SS} {side : Prop}
    (ho : opSlice Γ σ T (rd σ x) lo hi mx = .val s side) (hside : side) : (Instr.sliceAt T (a.eval x) (lo.map a.eval) (hi.map a.eval) (mx.map a.eval)).run P w = .ok (s.den ρ) w ∧ s.ok σ.dom := by
  unfold opSlice at ho
  split at ho
  · rename_i l hh hl hhi
    have hl' := bnd_map h hl
    have hh' := bnd_map h hhi
    split at ho
    · rename_i len E sz z k off hT hx
      obtain ⟨he, hk⟩ := rd_spec h hx
      split at ho
      · rename_i i hE
        simp only [Out.val.injEq] at ho
        obtain ⟨rfl, rfl⟩ := ho
        have hu := (hΓ _ _ hT).und
        simp only at hu
        refine ⟨?_, by first | exact hk | trivial⟩
        rw [he]
        simp only [Instr.sliceAt, Sem.run_bind, run_underlying hu, Result.andThen_ok, SV.den, Instr.sureAddr, Sem.run_pure, run_sliceBounds hl' hh' hside, run_sizeOf (hΓ _ _ hE), SS.den,
          Option.map_none]
        congr 3
        by_cases hc : len = lowOf l
        · rw [if_pos hc, if_pos hc]; simp
        · rw [if_neg hc, if_neg hc, add_none, Nat.add_assoc]
      · cases ho
    · rename_i E sz z k b st len cap hT hx
      obtain ⟨he, hk⟩ := rd_spec h hx
      split at ho
      · rename_i i hE
        simp only [Out.val.injEq] at ho
        obtain ⟨rfl, rfl⟩ := ho
        have hu := (hΓ _ _ hT).und
        simp only at hu
        refine ⟨?_, by first | exact hk | trivial⟩
        rw [he]
        simp only [Instr.sliceAt, Instr.slice, Sem.run_bind, run_underlying hu, Result.andThen_ok, SV.den, Sem.run_pure, run_sliceBounds hl' hh' hside, run_sizeOf (hΓ _ _ hE), SS.den,
          Option.map_none]
        congr 2
        by_cases hc : cap = lowOf l
        · rw [if_pos hc, if_pos hc]
        · rw [if_neg hc, if_neg hc, Option.map_some, add_none, Nat.add_assoc, Nat.add_assoc]
      · cases ho
    · rename_i E sz z hT hx
      obtain ⟨he, hk⟩ := rd_spec h hx
      split at ho
      · rename_i i hE
        simp only [Out.val.injEq] at ho
        obtain ⟨rfl, rfl⟩ := ho
        have hu := (hΓ _ _ hT).und
        simp only at hu
        refine ⟨?_, by first | exact hk | trivial⟩
        rw [he]
        have h0 : lowOf l = 0 ∧ highOf 0 hh = 0 := by
          obtain ⟨o1, o2, o3⟩ := hside
          have hz : highOf 0 hh = 0 := by cases hh <;> simp [highOf] at o2 ⊢; omega
          refine ⟨?_, hz⟩
          cases l <;> simp [lowOf] at o3 ⊢; rw [hz] at o3; omega
        simp only [Instr.sliceAt, Instr.slice, Sem.run_bind, run_underlying hu, Result.andThen_ok, SV.den, Sem.run_pure, run_sliceBounds hl' hh' hside, run_sizeOf (hΓ _ _ hE), SS.den,
          Option.map_none, h0.1, h0.2, Nat.sub_self, if_true]
      · cases ho
    · rename_i sz z s' hT hx
      obtain ⟨he, hk⟩ := rd_spec h hx
      simp only [Out.val.injEq] at ho
      obtain ⟨rfl, rfl⟩ := ho
      have hu := (hΓ _ _ hT).und
      simp only at hu
      refine ⟨?_, by first | exact hk | trivial⟩
      rw [he]
      simp only [Instr.sliceAt, Instr.slice, Sem.run_bind, run_underlying hu, Result.andThen_ok, SV.den, Sem.run_pure, run_sliceBounds hl' hh' hside, SS.den,
        Option.map_none, Option.isSome_none, Bool.false_eq_true, if_false]
    · cases ho
  · cases ho

def opArrayAt (Γ : TyEnv) (T : Nat) (x : Option SV) : Out :=
  match Γ T, x with
  | some ⟨.array n _, _, _⟩, some (.s k b st len _) => .val (.one (.e k b st)) (n ≤ len)
  | _, _ => .bad
theorem opArrayAt_spec (hΓ : TyOK P Γ) {M : Nat → Prop} {w0 w : World} {σ : SSt} {ρ : Rho} {a : Act} (h : Sat M w0 σ ρ a w) {T : Nat} {x : Operand} {s : SS} {side : Prop}
    (ho : opArrayAt Γ T (rd σ x) = .val s side) (hside : side) : (Instr.arrayAt T (a.eval x)).run P w = .ok (s.den ρ) w ∧ s.ok σ.dom := by
  unfold opArrayAt at ho
  split at ho
  · rename_i n E sz z k b st len cap hT hx
    obtain ⟨he, hk⟩ := rd_spec h hx
    simp only [Out.val.injEq] at ho
    obtain ⟨rfl, rfl⟩ := ho
    have hu := (hΓ _ _ hT).und
    simp only at hu
    refine ⟨?_, by first | exact hk | trivial⟩
    rw [he]
    have : ¬ len < n := by omega
    simp only [Instr.arrayAt, Sem.run_bind, run_underlying hu, Result.andThen_ok, SV.den, this, if_false, Sem.run_pure, SS.den]
  · cases ho

def opConvert (Γ : TyEnv) (S D : Nat) (x : Option SV) : Out :=
  match Γ S, Γ D, x with
  | some _, some ⟨.int k, _, _⟩, some (.v (.int _ n)) => .val (.one (.v (.int k (k.wrap n)))) True
  | some ⟨.string, _, _⟩, some ⟨.string, _, _⟩, some (.v (.string s)) => .val (.one (.v (.string s))) True
  | _, _, _ => .bad
theorem opConvert_spec (hΓ : TyOK P Γ) {M : Nat → Prop} {w0 w : World} {σ : SSt} {ρ : Rho} {a : Act} (h : Sat M w0 σ ρ a w) {S D : Nat} {x : Operand} {s : SS} {side : Prop}
    (ho : opConvert Γ S D (rd σ x) = .val s side) : (convert S D (a.eval x)).run P w = .ok (s.den ρ) w ∧ s.ok σ.dom := by
  unfold opConvert at ho
  split at ho
  · rename_i si k sz z k' n hS hD hx
    obtain ⟨he, _⟩ := rd_spec h hx
    simp only [Out.val.injEq] at ho
    obtain ⟨rfl, _⟩ := ho
    have hu := (hΓ _ _ hS).und
    have hv := (hΓ _ _ hD).und
    simp only at hu hv
    refine ⟨?_, trivial⟩
    rw [he]
    simp only [convert, Sem.run_bind, run_underlying hu, run_underlying hv, Result.andThen_ok, SV.den]
    cases si.desc <;> simp [Conv.intToInt, SS.den, SV.den]
  · rename_i sz z sz' z' s' hS hD hx
    obtain ⟨he, _⟩ := rd_spec h hx
    simp only [Out.val.injEq] at ho
    obtain ⟨rfl, _⟩ := ho
    have hu := (hΓ _ _ hS).und
    have hv := (hΓ _ _ hD).und
    simp only at hu hv
    refine ⟨?_, trivial⟩
    rw [he]
    simp only [convert, Sem.run_bind, run_underlying hu, run_underlying hv, Result.andThen_ok, SV.den, SS.den, Sem.run_pure]
  · cases ho

def unV (op : UnOp) : Value → Option Value
  | .int k n => match op with
    | .neg => some (.int k (k.wrap (0 - n)))
    | .xor => some (.int k (intb .xor k (if k.signed then -1 else k.max) n))
    | _ => none
  | .bool b => match op with
    | .not => some (.bool (!b))
    | _ => none
  | _ => none
theorem unV_spec {op : UnOp} {x v : Value} (h : unV op x = some v) (w : World) : (Op.unary op x).run P w = .ok v w := by
  unfold unV at h
  split at h
  · split at h <;> simp only [Option.some.injEq, reduceCtorEq] at h <;> subst h <;> simp [Op.unary, Op.intArith, Op.intBits, intb]
  · split at h <;> simp only [Option.some.injEq, reduceCtorEq] at h <;> subst h <;> simp [Op.unary]
  · cases h
end
end Go.SX

namespace Go.SX
open Go.RowKit

section
variable {P : Program} {Γ : TyEnv}

theorem zipIdx_fold : ∀ (l : List Value) (off k : Nat) (cells : Array Value), off + k + l.length ≤ cells.size →
    ((l.zipIdx k).foldl (fun cs (x : Value × Nat) => cs.setIfInBounds (off + x.2) x.1) cells).toList = splice l (off + k) cells.toList
  | [], off, k, cells, _ => by simp [splice]
  | v :: l, off, k, cells, h => by
    simp only [List.zipIdx_cons, List.foldl_cons]
    rw [zipIdx_fold l off (k + 1) _ (by simp at h ⊢; omega)]
    simp only [splice, Array.toList_setIfInBounds]
    apply List.ext_getElem?
    intro j
    simp only [List.getElem?_append, List.length_take, List.length_set, Array.length_toList, List.getElem?_take, List.getElem?_drop, List.getElem?_set, List.length_append, List.length_cons]
    have hs : off + k + (l.length + 1) ≤ cells.size := by simpa using h
    grind

/-- the parts, put one after the other -/
def putAll (place : Nat → Option (Nat × Nat)) : List (Nat × SV) → List CV → Option (List CV × Prop)
  | [], cs => some (cs, True)
  | (i, s) :: r, cs => match place i with
    | some (off, sz) => match putC off (toC s).1 cs with
      | some cs' => match putAll place r cs' with
        | some (q, p) => some (q, (toC s).2 ∧ sizeC (toC s).1 = sz ∧ p)
        | none => none
      | none => none
    | none => none
theorem fill_all {D : Nat → Prop} {ρ : Rho} {place : Nat → Option (Nat × Nat)} : ∀ (parts : List (Nat × SV)) (cs q : List CV) (p : Prop) (cells : Array Value), okC D cs → (∀ x ∈ parts, x.2.ok D) → cells.toList = flat ρ cs →
    putAll place parts cs = some (q, p) → p → okC D q ∧ ∃ cells', Instr.fill place cells (parts.map fun x => (x.1, x.2.den ρ)) = some cells' ∧ cells'.toList = flat ρ q
  | [], cs, q, p, cells, hok, _, hc, h, _ => by
    simp only [putAll, Option.some.injEq, Prod.mk.injEq] at h
    obtain ⟨rfl, rfl⟩ := h
    exact ⟨hok, cells, rfl, hc⟩
  | (i, s) :: r, cs, q, p, cells, hok, hs, hc, h, hp => by
    simp only [putAll] at h
    split at h
    · rename_i off sz hpl
      split at h
      · rename_i cs' hput
        split at h
        · rename_i q' p' hr
          simp only [Option.some.injEq, Prod.mk.injEq] at h
          obtain ⟨rfl, rfl⟩ := h
          obtain ⟨h1, h2, h3⟩ := hp
          have hs' : s.ok D := hs (i, s) List.mem_cons_self
          obtain ⟨t1, t2⟩ := toC_spec (ρ := ρ) hs' h1
          obtain ⟨k1, k2, k3⟩ := putC_spec (ρ := ρ) hok t1 hput
          have hlen : (s.den ρ).cells.size = (flat ρ (toC s).1).length := by rw [← t2]; simp
          have hsz : (s.den ρ).cells.size = sz := by rw [hlen, length_flat t1]; exact h2
          have hcs : cells.size = (flat ρ cs).length := by rw [← hc]; simp
          have hz : ((s.den ρ).cells.zipIdx.foldl (fun cs (x : Value × Nat) => cs.setIfInBounds (off + x.2) x.1) cells).toList = flat ρ cs' := by
            rw [← Array.foldl_toList, Array.toList_zipIdx, zipIdx_fold _ _ _ _ (by simp; omega), k1, t2, hc]; rfl
          obtain ⟨g1, cells', g2, g3⟩ := fill_all r cs' q' p' _ k2 (fun x hx => hs x (List.mem_cons_of_mem _ hx)) hz hr h3
          refine ⟨g1, cells', ?_, g3⟩
          simp only [List.map_cons, Instr.fill, hpl]
          rw [if_neg (by simp [hsz]; omega)]
          exact g2
        · cases h
      · cases h
    · cases h

/-- scalars into one row -/
def setAll : List (Nat × SV) → List Value → Option (List Value × Prop)
  | [], xs => some (xs, True)
  | (i, .v x) :: r, xs => match setAll r (xs.set i x) with
    | some (q, p) => some (q, cellish x = true ∧ i < xs.length ∧ p)
    | none => none
  | _ :: _, _ => none
theorem fill_row {ρ : Rho} : ∀ (parts : List (Nat × SV)) (xs q : List Value) (p : Prop) (cells : Array Value), (∀ x ∈ xs, cellish x = true) → cells.toList = xs → setAll parts xs = some (q, p) → p →
    q.length = xs.length ∧ (∀ x ∈ q, cellish x = true) ∧ ∃ cells', Instr.fill (fun i => some (i * 1, 1)) cells (parts.map fun x => (x.1, x.2.den ρ)) = some cells' ∧ cells'.toList = q
  | [], xs, q, p, cells, hx, hc, h, _ => by
    simp only [setAll, Option.some.injEq, Prod.mk.injEq] at h
    obtain ⟨rfl, rfl⟩ := h
    exact ⟨rfl, hx, cells, rfl, hc⟩
  | (i, .v x) :: r, xs, q, p, cells, hx, hc, h, hp => by
    simp only [setAll] at h
    split at h
    · rename_i q' p' hr
      simp only [Option.some.injEq, Prod.mk.injEq] at h
      obtain ⟨rfl, rfl⟩ := h
      obtain ⟨h1, h2, h3⟩ := hp
      have hxs : x.cells = #[x] := by cases x <;> first | (simp [cellish] at h1; done) | rfl
      have hsz : cells.size = xs.length := by rw [← hc]; simp
      obtain ⟨g1, g2, cells', g3, g4⟩ := fill_row r (xs.set i x) q' p' (cells.setIfInBounds i x) (fun y hy => by
        rcases List.mem_or_eq_of_mem_set hy with hm | rfl
        · exact hx y hm
        · exact h1) (by simp [hc]) hr h3
      refine ⟨by rw [g1]; simp, g2, cells', ?_, g4⟩
      have hden : SV.den ρ (.v x) = x := rfl
      simp only [List.map_cons, Instr.fill, hden, hxs, Nat.mul_one]
      rw [if_neg (by simp; omega)]
      simpa using g3
    · cases h
  | (i, .p _ _) :: r, xs, q, p, cells, _, _, h, _ => by simp [setAll] at h
  | (i, .e _ _ _) :: r, xs, q, p, cells, _, _, h, _ => by simp [setAll] at h
  | (i, .s _ _ _ _ _) :: r, xs, q, p, cells, _, _, h, _ => by simp [setAll] at h
  | (i, .g _) :: r, xs, q, p, cells, _, _, h, _ => by simp [setAll] at h

def rdParts (σ : SSt) : List (Nat × Operand) → Option (List (Nat × SV))
  | [] => some []
  | (i, x) :: r => match rd σ x, rdParts σ r with
    | some s, some l => some ((i, s) :: l)
    | _, _ => none
theorem rdParts_spec {M : Nat → Prop} {w0 w : World} {σ : SSt} {ρ : Rho} {a : Act} (h : Sat M w0 σ ρ a w) : ∀ {ps : List (Nat × Operand)} {l : List (Nat × SV)}, rdParts σ ps = some l →
    (ps.map fun p => (p.1, a.eval p.2)) = (l.map fun p => (p.1, p.2.den ρ)) ∧ ∀ x ∈ l, x.2.ok σ.dom
  | [], l, hl => by simp only [rdParts, Option.some.injEq] at hl; subst hl; simp
  | (i, x) :: ps, l, hl => by
    simp only [rdParts] at hl
    split at hl
    · rename_i s l' h1 h2
      simp only [Option.some.injEq] at hl; subst hl
      obtain ⟨e1, e2⟩ := rd_spec h h1
      obtain ⟨e3, e4⟩ := rdParts_spec h h2
      refine ⟨by simp [e1, e3], fun t ht => ?_⟩
      rcases List.mem_cons.1 ht with rfl | ht
      · exact e2
      · exact e4 t ht
    · cases hl

def placeOf (Γ : TyEnv) (fields : Array Field) (i : Nat) : Option (Nat × Nat) :=
  match fields[i]? with
  | some fl => match Γ fl.type with
    | some ⟨_, sz, _⟩ => some (fl.offset, sz)
    | none => none
  | none => none
def opBuild (Γ : TyEnv) (T : Nat) (parts : Option (List (Nat × SV))) : Out :=
  match Γ T, parts with
  | some ⟨.struct fields, _, z⟩, some l => match putAll (placeOf Γ fields) l z with
    | some (q, p) => .val (.one (.g q)) (p ∧ (fields.toList.all fun fl => (Γ fl.type).isSome) = true)
    | none => .bad
  | some ⟨.array _ E, _, [.many m zs]⟩, some l => match Γ E with
    | some ⟨_, 1, _⟩ => match setAll l zs with
      | some (q, p) => .val (.one (.g [.many m q])) p
      | none => .bad
    | some ⟨_, sz, _⟩ => match putAll (fun i => some (i * sz, sz)) l [.many m zs] with
      | some (q, p) => .val (.one (.g q)) p
      | none => .bad
    | none => .bad
  | _, _ => .bad

theorem opBuild_spec (hΓ : TyOK P Γ) {M : Nat → Prop} {w0 w : World} {σ : SSt} {ρ : Rho} {a : Act} (h : Sat M w0 σ ρ a w) {T : Nat} {parts : Array (Nat × Operand)} {s : SS} {side : Prop}
    (ho : opBuild Γ T (rdParts σ parts.toList) = .val s side) (hside : side) : (Instr.build T (parts.map fun p => (p.1, a.eval p.2))).run P w = .ok (s.den ρ) w ∧ s.ok σ.dom := by
  unfold opBuild at ho
  split at ho
  · rename_i fields n z l hT hp
    obtain ⟨hp1, hp2⟩ := rdParts_spec h hp
    have hT' := hΓ _ _ hT
    have hu := hT'.und
    simp only at hu
    obtain ⟨zv, hz1, hz2⟩ := run_zeroValue hT' w ρ
    split at ho
    · rename_i q p hq
      simp only [Out.val.injEq] at ho
      obtain ⟨rfl, rfl⟩ := ho
      obtain ⟨hpp, hall⟩ := hside
      -- the places
      have hpl : ∃ places : Array (Nat × Nat), (fields.mapM (m := Sem) fun f => do pure (f.offset, ← sizeOf f.type)).run P w = .ok places w ∧ ∀ i, places[i]? = placeOf Γ fields i := by
        have gen : ∀ l : List Field, (∀ fl ∈ l, (Γ fl.type).isSome = true) → ∃ ps : List (Nat × Nat), (l.mapM (m := Sem) fun f => do pure (f.offset, ← sizeOf f.type)).run P w = .ok ps w ∧
            ∀ i : Nat, ps[i]? = (l[i]?).bind fun fl => (Γ fl.type).map fun i => (fl.offset, i.size) := by
          intro l
          induction l with
          | nil => intro _; exact ⟨[], rfl, fun i => by simp⟩
          | cons fl l ih =>
            intro hl
            obtain ⟨ps, h1, h2⟩ := ih (fun x hx => hl x (List.mem_cons_of_mem _ hx))
            have hs := hl fl List.mem_cons_self
            cases hg : Γ fl.type with
            | none => rw [hg] at hs; cases hs
            | some i =>
              refine ⟨(fl.offset, i.size) :: ps, ?_, fun j => ?_⟩
              · simp only [List.mapM_cons, Sem.run_bind, run_sizeOf (hΓ _ _ hg), Result.andThen_ok, Sem.run_pure, h1]
              · cases j with
                | zero => simp [hg]
                | succ j => simpa using h2 j
        obtain ⟨ps, h1, h2⟩ := gen fields.toList (fun fl hfl => List.all_eq_true.1 hall fl hfl)
        refine ⟨ps.toArray, ?_, fun i => ?_⟩
        · have hmap : ∀ (q : Sem (List (Nat × Nat))), (List.toArray <$> q).run P w = (q.run P w).andThen fun x w => .ok x.toArray w := by
            intro q
            show (q >>= fun x => pure x.toArray).run P w = _
            rw [Sem.run_bind]; rfl
          rw [← Array.toArray_toList (xs := fields), List.mapM_toArray, hmap, h1]; rfl
        · have := h2 i
          simp only [List.getElem?_toArray, this, placeOf, Array.getElem?_toList]
          cases fields[i]? with
          | none => rfl
          | some fl => cases hg : Γ fl.type <;> simp [hg]
      obtain ⟨places, hpl1, hpl2⟩ := hpl
      obtain ⟨g1, cells', g2, g3⟩ := fill_all (D := σ.dom) (ρ := ρ) l z q p zv.cells (hT'.okz _) hp2 hz2 hq hpp
      refine ⟨?_, g1⟩
      have hfun : (fun i => places[i]?) = placeOf Γ fields := funext hpl2
      have hlist : (parts.map fun p => (p.1, a.eval p.2)).toList = l.map fun p => (p.1, p.2.den ρ) := by rw [← hp1]; simp
      simp only [Instr.build, Sem.run_bind, hz1, Result.andThen_ok, run_underlying hu, hpl1, hlist]
      rw [hfun, g2]
      simp only [Sem.run_pure, SS.den, SV.den]
      rw [← g3]
    · cases ho
  · rename_i len E n m zs l hT hp
    obtain ⟨hp1, hp2⟩ := rdParts_spec h hp
    have hT' := hΓ _ _ hT
    have hu := hT'.und
    simp only at hu
    obtain ⟨zv, hz1, hz2⟩ := run_zeroValue hT' w ρ
    have hz0 : okC σ.dom [CV.many m zs] := hT'.okz _
    have hfl : flat ρ [CV.many m zs] = zs := by simp [flat, CV.den]
    have hlist : (parts.map fun p => (p.1, a.eval p.2)).toList = l.map fun p => (p.1, p.2.den ρ) := by rw [← hp1]; simp
    split at ho
    · rename_i dE zE hE
      have hE2 := run_sizeOf (hΓ _ _ hE) w
      simp only at hE2
      split at ho
      · rename_i q p hq
        simp only [Out.val.injEq] at ho
        obtain ⟨rfl, rfl⟩ := ho
        simp only [hfl] at hz2
        obtain ⟨g1, g2, cells', g3, g4⟩ := fill_row (ρ := ρ) l zs q p zv.cells (okC_cons.1 hz0).1.2 hz2 hq hside
        refine ⟨?_, okC_cons.2 ⟨⟨by rw [g1]; exact (okC_cons.1 hz0).1.1, g2⟩, okC_nil⟩⟩
        simp only [Instr.build, Sem.run_bind, hz1, Result.andThen_ok, run_underlying hu, hE2, hlist]
        rw [g3]
        simp only [Sem.run_pure, SS.den, SV.den, flat, List.flatMap_cons, List.flatMap_nil, CV.den, List.append_nil]
        rw [← g4]
      · cases ho
    · rename_i dE sz zE hne hE
      have hE2 := run_sizeOf (hΓ _ _ hE) w
      simp only at hE2
      split at ho
      · rename_i q p hq
        simp only [Out.val.injEq] at ho
        obtain ⟨rfl, rfl⟩ := ho
        obtain ⟨g1, cells', g2, g3⟩ := fill_all (D := σ.dom) (ρ := ρ) l [.many m zs] q p zv.cells hz0 hp2 hz2 hq hside
        refine ⟨?_, g1⟩
        simp only [Instr.build, Sem.run_bind, hz1, Result.andThen_ok, run_underlying hu, hE2, hlist]
        rw [g2]
        simp only [Sem.run_pure, SS.den, SV.den]
        rw [← g3]
      · cases ho
    · cases ho
  · cases ho
end
end Go.SX

namespace Go.SX
open Go.RowKit

section
variable {P : Program} {Γ : TyEnv}

/-- == and != -/
def opEq (Γ : TyEnv) (neg : Bool) (T : Nat) (x y : Option SV) : Out :=
  match Γ T, x, y with
  | some ⟨.bool, _, _⟩, some (.v (.bool a)), some (.v (.bool b)) => .val (.one (.v (.bool (if neg then !(a == b) else a == b)))) True
  | some ⟨.array len E, _, _⟩, some (.g cs), some (.g ds) => match Γ E, plainL cs, plainL ds with
    | some ⟨.int k, 1, _⟩, some xs, some ys =>
      .val (.one (.v (.bool (if neg then !(decide (xs.map toI = ys.map toI)) else decide (xs.map toI = ys.map toI)))))
        (xs.length = len ∧ ys.length = len ∧ (∀ x ∈ xs, isI k x) ∧ (∀ y ∈ ys, isI k y))
    | _, _, _ => .bad
  | _, _, _ => .bad
theorem opEq_spec (hΓ : TyOK P Γ) {M : Nat → Prop} {w0 w : World} {σ : SSt} {ρ : Rho} {a : Act} (h : Sat M w0 σ ρ a w) {T : Nat} {neg : Bool} {x y : Operand} {s : SS} {side : Prop}
    (ho : opEq Γ neg T (rd σ x) (rd σ y) = .val s side) (hside : side) :
    (do eqGuard (if neg then .neq else .eql) T x y (a.eval x) (a.eval y); binOp (if neg then .neq else .eql) T (a.eval x) (a.eval y)).run P w = .ok (s.den ρ) w ∧ s.ok σ.dom := by
  unfold opEq at ho
  split at ho
  · rename_i sz z p q hT hx hy
    obtain ⟨he, _⟩ := rd_spec h hx
    obtain ⟨hf, _⟩ := rd_spec h hy
    simp only [Out.val.injEq] at ho
    obtain ⟨rfl, _⟩ := ho
    have hu := (hΓ _ _ hT).und
    simp only at hu
    refine ⟨?_, trivial⟩
    rw [he, hf]
    cases neg <;> simp [eqGuard, binOp, Op.equal, Op.maxDepth, SV.den, SS.den, run_equalIn_bool' w 9999 T p q hu]
  · rename_i len E sz z cs ds hT hx hy
    obtain ⟨he, _⟩ := rd_spec h hx
    obtain ⟨hf, _⟩ := rd_spec h hy
    split at ho
    · rename_i k z' xs ys hE hcs hds
      simp only [Out.val.injEq] at ho
      obtain ⟨rfl, rfl⟩ := ho
      obtain ⟨h1, h2, h3, h4⟩ := hside
      have hT' := hΓ _ _ hT
      have hE' := hΓ _ _ hE
      have hu := hT'.und
      have hv := hE'.und
      have hs := hE'.info
      simp only at hu hv hs
      refine ⟨?_, trivial⟩
      rw [he, hf]
      simp only [SV.den, plainL_spec (ρ := ρ) cs xs hcs, plainL_spec (ρ := ρ) ds ys hds]
      rw [Sem.run_bind, run_eqGuard_agg (hm := hT'.guard len E rfl)]
      simp only [Result.andThen_ok]
      have key := run_equalIn_ints hu hv hs h1 h2 h3 h4 w
      cases neg
      · simp only [Bool.false_eq_true, if_false]; rw [run_eql_struct, key]; rfl
      · simp only [if_true]; rw [run_neq_struct, key]; rfl
    · cases ho
  · cases ho

def opBin (Γ : TyEnv) (op : BinOp) (T : Nat) (x y : Option SV) : Out :=
  match x, y with
  | some (.v (.int k a)), some (.v (.int k' b)) => match binV op (.int k a) (.int k' b) with
    | some (v, side) => .val (.one (.v v)) side
    | none => .bad
  | _, _ => match op with
    | .eql => opEq Γ false T x y
    | .neq => opEq Γ true T x y
    | _ => .bad
theorem opBin_spec (hΓ : TyOK P Γ) {M : Nat → Prop} {w0 w : World} {σ : SSt} {ρ : Rho} {a : Act} (h : Sat M w0 σ ρ a w) {T : Nat} {op : BinOp} {x y : Operand} {s : SS} {side : Prop}
    (ho : opBin Γ op T (rd σ x) (rd σ y) = .val s side) (hside : side) :
    (do eqGuard op T x y (a.eval x) (a.eval y); binOp op T (a.eval x) (a.eval y)).run P w = .ok (s.den ρ) w ∧ s.ok σ.dom := by
  unfold opBin at ho
  split at ho
  · rename_i k p k' q hx hy
    obtain ⟨he, _⟩ := rd_spec h hx
    obtain ⟨hf, _⟩ := rd_spec h hy
    split at ho
    · rename_i v side' hb
      simp only [Out.val.injEq] at ho
      obtain ⟨rfl, rfl⟩ := ho
      obtain ⟨h1, _⟩ := binV_spec (P := P) (T := T) hb hside w
      refine ⟨?_, trivial⟩
      rw [he, hf]
      have hg : (eqGuard op T x y (.int k p) (.int k' q)).run P w = .ok () w := by
        unfold eqGuard; split <;> simp
      simp only [SV.den, Sem.run_bind, hg, Result.andThen_ok, h1, SS.den]
    · cases ho
  · split at ho
    · exact opEq_spec (neg := false) hΓ h ho hside
    · exact opEq_spec (neg := true) hΓ h ho hside
    · cases ho

def rdAll (σ : SSt) : List Operand → Option (List SV)
  | [] => some []
  | x :: xs => match rd σ x, rdAll σ xs with
    | some s, some l => some (s :: l)
    | _, _ => none
theorem rdAll_spec {M : Nat → Prop} {w0 w : World} {σ : SSt} {ρ : Rho} {a : Act} (h : Sat M w0 σ ρ a w) : ∀ {xs : List Operand} {l : List SV}, rdAll σ xs = some l → xs.map a.eval = l.map (SV.den ρ) ∧ ∀ s ∈ l, s.ok σ.dom
  | [], l, hl => by simp only [rdAll, Option.some.injEq] at hl; subst hl; simp
  | x :: xs, l, hl => by
    simp only [rdAll] at hl
    split at hl
    · rename_i s l' h1 h2
      simp only [Option.some.injEq] at hl; subst hl
      obtain ⟨e1, e2⟩ := rd_spec h h1
      obtain ⟨e3, e4⟩ := rdAll_spec h h2
      exact ⟨by simp [e1, e3], fun t ht => by
        rcases List.mem_cons.1 ht with rfl | ht
        · exact e2
        · exact e4 t ht⟩
    · cases hl

def opLen (Γ : TyEnv) (T : Option Nat) (x : Option SV) : Out :=
  match T with
  | some t => match Γ t, x with
    | some ⟨.slice _, _, _⟩, some (.s _ _ _ len _) => .val (.one (.v (.int .i64 len))) True
    | some ⟨.slice _, _, _⟩, some (.v (.slice _ len _)) => .val (.one (.v (.int .i64 len))) True
    | some ⟨.string, _, _⟩, some (.v (.string s)) => .val (.one (.v (.int .i64 s.size))) True
    | some ⟨.array n _, _, _⟩, some _ => .val (.one (.v (.int .i64 n))) True
    | _, _ => .bad
  | none => .bad

def opOther (σ : SSt) (o : Op) : Out :=
  match rdAll σ o.operands.toList with
  | some l => .call (.op o) l
  | none => .bad
def opSem (Γ : TyEnv) (σ : SSt) (o : Op) : Out :=
  match o with
  | .move x => match rdS σ x with
    | some s => .val s True
    | none => .bad
  | .assign x => match rdS σ x with
    | some s => .val s True
    | none => .bad
  | .pick c x y => match rd σ c, rd σ x, rd σ y with
    | some (.v (.bool t)), some sx, some sy => .val (.one (match t with | true => sx | false => sy)) True
    | _, _, _ => .bad
  | .alloc T => match Γ T with
    | some i => .new i.zero true True
    | none => .bad
  | .box _ x => match rd σ x with
    | some s => .new (toC s).1 true (toC s).2
    | none => .bad
  | .load T x => opLoad Γ σ T (rd σ x)
  | .store T x y => opStore Γ σ T (rd σ x) (rd σ y)
  | .nilCheck x => match rd σ x with
    | some (.p k off) => .val (.one (.p k off)) True
    | some (.e k b j) => .val (.one (.e k b j)) True
    | _ => .bad
  | .binOp op T x y _ => opBin Γ op T (rd σ x) (rd σ y)
  | .unOp op _ x => match rd σ x with
    | some (.v x) => match unV op x with
      | some v => .val (.one (.v v)) True
      | none => .bad
    | _ => .bad
  | .convert S D x => opConvert Γ S D (rd σ x)
  | .sliceToArrayPointer T x => opArrayAt Γ T (rd σ x)
  | .slice T x lo hi mx => opSlice Γ σ T (rd σ x) lo hi mx
  | .fieldAddr T x f => opFieldAddr Γ T (rd σ x) f
  | .field T x f => opField Γ T (rd σ x) f
  | .indexAddr T x i => opIndexAddr Γ σ T (rd σ x) i
  | .index T x i => opIndex Γ T (rd σ x) (rd σ i)
  | .extract x i => match rdS σ x with
    | some (.tup l) => match l[i]? with
      | some s => .val (.one s) True
      | none => .bad
    | _ => .bad
  | .call c => match c.callee with
    | .value (.func f) => match rdAll σ c.args.toList with
      | some l => .call (.fn f) l
      | none => .bad
    | .builtin .len => match c.args.toList with
      | [x] => opLen Γ c.argTypes[0]? (rd σ x)
      | _ => .bad
    | _ => opOther σ (.call c)
  | .build T parts => opBuild Γ T (rdParts σ parts.toList)
  | o => opOther σ o

/-- what an operation's outcome promises -/
def OutOK (P : Program) (σ : SSt) (ρ : Rho) (a : Act) (w : World) (o : Oper) : Out → Prop
  | .val s side => side → (execOp a.eval o).run P w = .ok (.value (s.den ρ)) w ∧ s.ok σ.dom
  | .new cs _ side => side → okC σ.dom cs ∧ ∃ T, (execOp a.eval o).run P w = .ok (.value (.pointer (some ⟨w.heap.size, 0, none⟩))) (w.alloc (.cells (flat ρ cs).toArray T (0, 0)))
  | .set k cs side => side → ∃ B E, σ.blks k = some B ∧ B.rw = true ∧ okC σ.dom cs ∧ (flat ρ cs).length = (flat ρ B.cs).length ∧
      (execOp a.eval o).run P w = .ok .skip (withBlock w (ρ k).1 (.cells (flat ρ cs).toArray E (0, 0)))
  | .call f args => (match f with
    | .fn f => (execOp a.eval o).run P w = (callFunc f (args.map (SV.den ρ)).toArray).run P w
    | .op p => p = o.op ∧ p.operands.toList.map a.eval = args.map (SV.den ρ)) ∧ ∀ s ∈ args, s.ok σ.dom
  | .bad => True

theorem run_newVar {T : Nat} (v : Value) (l : List Value) (hv : v.cells.toList = l) (w : World) :
    (newVar T v).run P w = .ok ⟨w.heap.size, 0, none⟩ (w.alloc (.cells l.toArray T (0, 0))) := by
  subst hv
  simp only [newVar, newRow, newObj, Sem.run_bind, Sem.run_pure]
  rfl

theorem opOther_spec {M : Nat → Prop} {w0 w : World} {σ : SSt} {ρ : Rho} {a : Act} (h : Sat M w0 σ ρ a w) (o : Oper) : OutOK P σ ρ a w o (opOther σ o.op) := by
  unfold opOther
  split
  · rename_i l hl
    obtain ⟨h1, h2⟩ := rdAll_spec h hl
    exact ⟨⟨rfl, h1⟩, h2⟩
  · trivial

theorem opSem_spec (hΓ : TyOK P Γ) {M : Nat → Prop} {w0 w : World} {σ : SSt} {ρ : Rho} {a : Act} (h : Sat M w0 σ ρ a w) (o : Oper) : OutOK P σ ρ a w o (opSem Γ σ o.op) := by
  obtain ⟨dst, op, type, pos, after, guard⟩ := o
  cases op <;> try (exact opOther_spec h ⟨dst, _, type, pos, after, guard⟩)
  case move x =>
    simp only [opSem]
    split
    · rename_i s hs
      obtain ⟨h1, h2⟩ := rdS_spec h hs
      exact fun _ => ⟨by simp [execOp, h1], h2⟩
    · trivial
  case assign x =>
    simp only [opSem]
    split
    · rename_i s hs
      obtain ⟨h1, h2⟩ := rdS_spec h hs
      exact fun _ => ⟨by simp [execOp, h1], h2⟩
    · trivial
  case pick c x y =>
    simp only [opSem]
    split
    · rename_i t sx sy hc hx hy
      obtain ⟨h1, _⟩ := rd_spec h hc
      obtain ⟨h2, k2⟩ := rd_spec h hx
      obtain ⟨h3, k3⟩ := rd_spec h hy
      intro _
      cases t
      · exact ⟨by simp [execOp, h1, h3, SV.den, asBool, SS.den], k3⟩
      · exact ⟨by simp [execOp, h1, h2, SV.den, asBool, SS.den], k2⟩
    · trivial
  case alloc T =>
    simp only [opSem]
    split
    · rename_i i hT
      intro _
      obtain ⟨z, hz, hz'⟩ := run_zeroValue (hΓ _ _ hT) w ρ
      refine ⟨(hΓ _ _ hT).okz _, T, ?_⟩
      simp only [execOp, Instr.alloc, Sem.run_bind, hz, Result.andThen_ok, run_newVar z _ hz', Sem.run_pure]
    · trivial
  case box T x =>
    simp only [opSem]
    split
    · rename_i s hs
      intro hside
      obtain ⟨h1, h2⟩ := rd_spec h hs
      obtain ⟨k1, k2⟩ := toC_spec (ρ := ρ) h2 hside
      refine ⟨k1, T, ?_⟩
      simp only [execOp, Instr.box, Sem.run_bind, h1, run_newVar _ _ k2, Result.andThen_ok, Sem.run_pure]
    · trivial
  case load T x =>
    simp only [opSem]
    generalize ho : opLoad Γ σ T (rd σ x) = out
    cases out with
    | val s side =>
      intro hside
      obtain ⟨h1, h2⟩ := opLoad_spec hΓ h ho hside
      exact ⟨by simp only [execOp, Sem.run_bind, h1, Result.andThen_ok, Sem.run_pure], h2⟩
    | bad => trivial
    | _ => exfalso; revert ho; unfold opLoad; repeat' (split <;> try simp)
  case store T x y =>
    simp only [opSem]
    generalize ho : opStore Γ σ T (rd σ x) (rd σ y) = out
    cases out with
    | set k cs side =>
      intro hside
      obtain ⟨B, E, h1, h2, h3, h4, h5⟩ := opStore_spec hΓ h ho hside
      exact ⟨B, E, h1, h2, h3, h4, by simp only [execOp, Sem.run_bind, h5, Result.andThen_ok, Sem.run_pure]⟩
    | bad => trivial
    | _ => exfalso; revert ho; unfold opStore; repeat' (split <;> try simp)
  case nilCheck x =>
    simp only [opSem]
    split
    · rename_i k off hs
      obtain ⟨h1, h2⟩ := rd_spec h hs
      exact fun _ => ⟨by simp [execOp, h1, SV.den, SS.den], h2⟩
    · rename_i k b j hs
      obtain ⟨h1, h2⟩ := rd_spec h hs
      exact fun _ => ⟨by simp [execOp, h1, SV.den, SS.den], h2⟩
    · trivial
  case binOp op T x y yT =>
    simp only [opSem]
    generalize ho : opBin Γ op T (rd σ x) (rd σ y) = out
    cases out with
    | val s side =>
      intro hside
      obtain ⟨h1, h2⟩ := opBin_spec hΓ h ho hside
      refine ⟨?_, h2⟩
      simp only [Sem.run_bind] at h1
      simp only [execOp, Sem.run_bind, h1, Result.andThen_ok, Sem.run_pure]
    | bad => trivial
    | _ => exfalso; revert ho; unfold opBin opEq; repeat' (split <;> try simp)
  case unOp op T x =>
    simp only [opSem]
    split
    · rename_i x' hs
      obtain ⟨h1, _⟩ := rd_spec h hs
      split
      · rename_i v hv
        exact fun _ => ⟨by simp [execOp, h1, SV.den, SS.den, unV_spec hv], trivial⟩
      · trivial
    · trivial
  case convert S D x =>
    simp only [opSem]
    generalize ho : opConvert Γ S D (rd σ x) = out
    cases out with
    | val s side =>
      intro hside
      obtain ⟨h1, h2⟩ := opConvert_spec hΓ h ho
      exact ⟨by simp only [execOp, Sem.run_bind, h1, Result.andThen_ok, Sem.run_pure], h2⟩
    | bad => trivial
    | _ => exfalso; revert ho; unfold opConvert; repeat' (split <;> try simp)
  case sliceToArrayPointer T x =>
    simp only [opSem]
    generalize ho : opArrayAt Γ T (rd σ x) = out
    cases out with
    | val s side =>
      intro hside
      obtain ⟨h1, h2⟩ := opArrayAt_spec hΓ h ho hside
      exact ⟨by simp only [execOp, Sem.run_bind, h1, Result.andThen_ok, Sem.run_pure], h2⟩
    | bad => trivial
    | _ => exfalso; revert ho; unfold opArrayAt; repeat' (split <;> try simp)
  case slice T x lo hi mx =>
    simp only [opSem]
    generalize ho : opSlice Γ σ T (rd σ x) lo hi mx = out
    cases out with
    | val s side =>
      intro hside
      obtain ⟨h1, h2⟩ := opSlice_spec hΓ h ho hside
      exact ⟨by simp only [execOp, Sem.run_bind, h1, Result.andThen_ok, Sem.run_pure], h2⟩
    | bad => trivial
    | _ => exfalso; revert ho; unfold opSlice; repeat' (split <;> try simp)
  case fieldAddr T x f =>
    simp only [opSem]
    generalize ho : opFieldAddr Γ T (rd σ x) f = out
    cases out with
    | val s side =>
      intro hside
      obtain ⟨h1, h2⟩ := opFieldAddr_spec hΓ h ho hside
      exact ⟨by simp only [execOp, Sem.run_bind, h1, Result.andThen_ok, Sem.run_pure], h2⟩
    | bad => trivial
    | _ => exfalso; revert ho; unfold opFieldAddr; repeat' (split <;> try simp)
  case field T x f =>
    simp only [opSem]
    generalize ho : opField Γ T (rd σ x) f = out
    cases out with
    | val s side =>
      intro hside
      obtain ⟨h1, h2⟩ := opField_spec hΓ h ho
      exact ⟨by simp only [execOp, Sem.run_bind, h1, Result.andThen_ok, Sem.run_pure], h2⟩
    | bad => trivial
    | _ => exfalso; revert ho; unfold opField opPart; repeat' (split <;> try simp)
  case indexAddr T x i =>
    simp only [opSem]
    generalize ho : opIndexAddr Γ σ T (rd σ x) i = out
    cases out with
    | val s side =>
      intro hside
      obtain ⟨h1, h2⟩ := opIndexAddr_spec hΓ h ho hside
      exact ⟨by simp only [execOp, Sem.run_bind, h1, Result.andThen_ok, Sem.run_pure], h2⟩
    | bad => trivial
    | _ => exfalso; revert ho; unfold opIndexAddr; simp only [idxOut_eq]; repeat' (split <;> try simp)
  case index T x i =>
    simp only [opSem]
    generalize ho : opIndex Γ T (rd σ x) (rd σ i) = out
    cases out with
    | val s side =>
      intro hside
      obtain ⟨h1, h2⟩ := opIndex_spec hΓ h ho hside
      exact ⟨by simp only [execOp, Sem.run_bind, h1, Result.andThen_ok, Sem.run_pure], h2⟩
    | bad => trivial
    | _ => exfalso; revert ho; unfold opIndex; simp only [idxOut_eq]; repeat' (split <;> try simp)
  case extract x i =>
    simp only [opSem]
    split
    · rename_i l hs
      obtain ⟨h1, h2⟩ := rdS_spec h hs
      split
      · rename_i s hl
        refine fun _ => ⟨?_, h2 s (List.mem_of_getElem? hl)⟩
        simp [execOp, h1, SS.den, Instr.extract, hl]
      · trivial
    · trivial
  case call c =>
    obtain ⟨callee, args, argTypes⟩ := c
    simp only [opSem]
    split
    · rename_i _ f
      split
      · rename_i l hl
        obtain ⟨h1, h2⟩ := rdAll_spec h hl
        refine ⟨?_, h2⟩
        have : args.map a.eval = (l.map (SV.den ρ)).toArray := by
          apply Array.toList_inj.1; simpa using h1
        simp [execOp, resolve, Deferred.ofValue, invoke, this, Act.eval]
      · trivial
    · split
      · rename_i x hx
        generalize ho : opLen Γ argTypes[0]? (rd σ x) = out
        have hargs : args = #[x] := by apply Array.toList_inj.1; simpa using hx
        subst hargs
        unfold opLen at ho
        split at ho
        · rename_i t ht
          split at ho
          · rename_i E sz z k b st len cap hT hr
            subst ho
            obtain ⟨he, _⟩ := rd_spec h hr
            have hu := (hΓ _ _ hT).und
            simp only at hu
            exact fun _ => ⟨by simp [execOp, resolve, invoke, builtin, Builtin.len_, ht, he, SV.den, run_underlying hu, goInt, SS.den], trivial⟩
          · rename_i E sz z A len cap hT hr
            subst ho
            obtain ⟨he, _⟩ := rd_spec h hr
            have hu := (hΓ _ _ hT).und
            simp only at hu
            exact fun _ => ⟨by simp [execOp, resolve, invoke, builtin, Builtin.len_, ht, he, SV.den, run_underlying hu, goInt, SS.den], trivial⟩
          · rename_i sz z s hT hr
            subst ho
            obtain ⟨he, _⟩ := rd_spec h hr
            have hu := (hΓ _ _ hT).und
            simp only at hu
            exact fun _ => ⟨by simp [execOp, resolve, invoke, builtin, Builtin.len_, ht, he, SV.den, run_underlying hu, goInt, SS.den], trivial⟩
          · rename_i n E sz z s hT hr
            subst ho
            obtain ⟨he, _⟩ := rd_spec h hr
            have hu := (hΓ _ _ hT).und
            simp only at hu
            exact fun _ => ⟨by simp [execOp, resolve, invoke, builtin, Builtin.len_, ht, he, run_underlying hu, goInt, SS.den, SV.den], trivial⟩
          · subst ho; trivial
        · subst ho; trivial
      · trivial
    · exact opOther_spec h ⟨dst, .call ⟨callee, args, argTypes⟩, type, pos, after, guard⟩
  case build T parts =>
    simp only [opSem]
    generalize ho : opBuild Γ T (rdParts σ parts.toList) = out
    cases out with
    | val s side =>
      intro hside
      obtain ⟨h1, h2⟩ := opBuild_spec hΓ h ho hside
      exact ⟨by simp only [execOp, Sem.run_bind, h1, Result.andThen_ok, Sem.run_pure], h2⟩
    | bad => trivial
    | _ => exfalso; revert ho; unfold opBuild; repeat' (split <;> try simp)
end
end Go.SX
