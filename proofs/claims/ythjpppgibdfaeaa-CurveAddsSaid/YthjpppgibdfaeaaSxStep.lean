/- SxStep: a part of the proof: lemmas alone, of no statement. -/
import Derived.Test.YthjpppgibdfaeaaSxReg
namespace Go.SX
open Go.RowKit

/-! one more slot, one more block -/
def upd {α : Type} (f : Nat → α) (d : Nat) (v : α) : Nat → α := fun t => match Nat.beq t d with | true => v | false => f t
theorem upd_same {α : Type} (f : Nat → α) (d : Nat) (v : α) : upd f d v d = v := by simp [upd]
theorem upd_ne {α : Type} (f : Nat → α) {d t : Nat} (v : α) (h : t ≠ d) : upd f d v t = f t := by
  have : Nat.beq t d = false := by
    cases hb : Nat.beq t d with
    | true => exact absurd (Nat.eq_of_beq_eq_true hb) h
    | false => rfl
  simp [upd, this]
theorem upd_comm {α : Type} (f : Nat → α) {d e : Nat} (v u : α) (h : d ≠ e) : upd (upd f d v) e u = upd (upd f e u) d v := by
  funext t
  by_cases h1 : t = d
  · subst h1; rw [upd_ne _ _ h, upd_same, upd_same]
  · by_cases h2 : t = e
    · subst h2; rw [upd_same, upd_ne _ _ h1, upd_same]
    · rw [upd_ne _ _ h2, upd_ne _ _ h1, upd_ne _ _ h1, upd_ne _ _ h2]
def SSt.put (σ : SSt) (dst : Option Tmp) (s : SS) : SSt :=
  match dst with
  | some d => { σ with slots := upd σ.slots d (some s) }
  | none => σ
def SSt.bind (σ : SSt) (k : Nat) (B : Blk) : SSt := { σ with blks := upd σ.blks k (some B) }

section
variable {M : Nat → Prop} {w0 w w' : World} {σ : SSt} {ρ : Rho} {a : Act}

/-! what a value says hangs on its names alone -/
theorem CV.den_congr {D : Nat → Prop} {ρ ρ' : Rho} (h : ∀ k, D k → ρ' k = ρ k) {c : CV} (hc : c.ok D) : c.den ρ' = c.den ρ := by
  cases c <;> first | rfl | (simp only [CV.ok] at hc; simp [CV.den, h _ hc])
theorem flat_congr {D : Nat → Prop} {ρ ρ' : Rho} (h : ∀ k, D k → ρ' k = ρ k) : ∀ {cs : List CV}, okC D cs → flat ρ' cs = flat ρ cs
  | [], _ => rfl
  | c :: cs, hc => by
    obtain ⟨h1, h2⟩ := okC_cons.1 hc
    rw [flat_cons, flat_cons, CV.den_congr h h1, flat_congr h h2]
theorem SV.den_congr {D : Nat → Prop} {ρ ρ' : Rho} (h : ∀ k, D k → ρ' k = ρ k) {s : SV} (hs : s.ok D) : s.den ρ' = s.den ρ := by
  cases s with
  | v x => rfl
  | g cs => simp only [SV.den, flat_congr h hs]
  | p k off => simp only [SV.ok] at hs; simp [SV.den, h _ hs]
  | e k b j => simp only [SV.ok] at hs; simp [SV.den, h _ hs]
  | s k b st l c => simp only [SV.ok] at hs; simp [SV.den, h _ hs]
theorem SS.den_congr {D : Nat → Prop} {ρ ρ' : Rho} (h : ∀ k, D k → ρ' k = ρ k) {s : SS} (hs : s.ok D) : s.den ρ' = s.den ρ := by
  cases s with
  | one x => exact SV.den_congr h hs
  | tup l =>
    simp only [SS.den]
    congr 2
    exact List.map_congr_left fun x hx => SV.den_congr h (hs x hx)
theorem CV.ok_mono {D E : Nat → Prop} (h : ∀ k, D k → E k) {c : CV} (hc : c.ok D) : c.ok E := by
  cases c <;> first | exact hc | exact h _ hc
theorem okC_mono {D E : Nat → Prop} (h : ∀ k, D k → E k) {cs : List CV} (hc : okC D cs) : okC E cs := fun c hm => CV.ok_mono h (hc c hm)
theorem SV.ok_mono {D E : Nat → Prop} (h : ∀ k, D k → E k) {s : SV} (hs : s.ok D) : s.ok E := by
  cases s with
  | v x => trivial
  | g cs => exact okC_mono h hs
  | p k off => exact h _ hs
  | e k b j => exact h _ hs
  | s k b st l c => exact h _ hs
theorem SS.ok_mono {D E : Nat → Prop} (h : ∀ k, D k → E k) {s : SS} (hs : s.ok D) : s.ok E := by
  cases s with
  | one x => exact SV.ok_mono h hs
  | tup l => exact fun x hx => SV.ok_mono h (hs x hx)

theorem dom_bind (σ : SSt) (k : Nat) (B : Blk) : ∀ j, σ.dom j → (σ.bind k B).dom j := by
  intro j hj
  by_cases h : j = k
  · subst h; simp [SSt.dom, SSt.bind, upd_same]
  · simpa [SSt.dom, SSt.bind, upd_ne _ _ h] using hj
theorem dom_bind_self (σ : SSt) (k : Nat) (B : Blk) : (σ.bind k B).dom k := by simp [SSt.dom, SSt.bind, upd_same]
theorem dom_put (σ : SSt) (d : Option Tmp) (s : SS) : (σ.put d s).dom = σ.dom := by cases d <;> rfl

theorem Frame'.refl (M : Nat → Prop) (w : World) : Frame' M w w := ⟨rfl, rfl, rfl, Nat.le_refl _, fun _ _ _ => rfl⟩
theorem Frame'.trans {M N : Nat → Prop} {a b c : World} (h : Frame' M a b) (k : Frame' N b c) (hN : ∀ i, i < a.heap.size → N i → M i) : Frame' M a c :=
  ⟨k.os.trans h.os, k.tape.trans h.tape, k.output.trans h.output, Nat.le_trans h.size k.size, fun i hi hm =>
    (k.block i (Nat.lt_of_lt_of_le hi h.size) (fun hn => hm (hN i hi hn))).trans (h.block i hi hm)⟩
theorem Frame'.below {w w' : World} (h : Frame' (fun _ => False) w w') : Below w.heap.size w w' := ⟨h.os, h.tape, h.output, h.size, fun k hk => h.block k hk id⟩
theorem Frame'.of_below {w w' : World} (h : Below w.heap.size w w') : Frame' (fun _ => False) w w' := ⟨h.os, h.tape, h.output, h.size, fun k hk _ => h.block k hk⟩
theorem Frame'.alloc (w : World) (o : Obj) : Frame' (fun _ => False) w (w.alloc o) := .of_below ((Below.refl _ _).alloc (Nat.le_refl _) _)
theorem Frame'.drew {M : Nat → Prop} {w w' : World} (h : Frame' M w w') : Frame' M w w'.drew := ⟨h.os, h.tape, h.output, h.size, h.block⟩

theorem get_lt {b : Nat} {o : Obj} (h : w.heap[b]? = some o) : b < w.heap.size := lt_of_get h

/-- a grown world satisfies what held -/
theorem Sat.grow' (h : Sat M w0 σ ρ a w) (hw : Frame' (fun _ => False) w w') : Sat M w0 σ ρ a w' :=
  { h with
    blks := fun k B hk => by
      obtain ⟨c, T, fz, hc, hr⟩ := h.blks k B hk
      exact ⟨c, T, fz, (hw.block _ (get_lt hc) id).trans hc, hr⟩
    grow := h.grow.trans hw (fun _ _ hf => hf.elim) }
theorem Sat.put (h : Sat M w0 σ ρ a w) {d : Option Tmp} {s : SS} (hs : s.ok σ.dom) (hd : ∀ t, d = some t → t < σ.n) : Sat M w0 (σ.put d s) ρ (a.put d (s.den ρ)) w := by
  cases d with
  | none => exact h
  | some d =>
    have hd' : d < σ.n := hd d rfl
    exact
    { h with
      size := by simpa [Act.put, SSt.put] using h.size
      defers := h.defers
      slots := fun t s' hs' => by
        by_cases ht : t = d
        · subst ht
          simp only [SSt.put, upd_same, Option.some.injEq] at hs'
          subst hs'
          exact ⟨by simp only [Act.put, Array.getElem?_setIfInBounds_self]; rw [h.size]; simp [hd'], hs⟩
        · simp only [SSt.put, upd_ne _ _ ht] at hs'
          obtain ⟨h1, h2⟩ := h.slots t s' hs'
          refine ⟨?_, h2⟩
          simp only [Act.put]
          rw [Array.getElem?_setIfInBounds_ne (fun e => ht e.symm)]
          exact h1 }
/-- one more block -/
theorem Sat.bind (h : Sat M w0 σ ρ a w) {nm : Nat} (hfree : σ.blks nm = none) (hnm : nm < σ.next) {B : Blk} {b : Nat} (hok : okC (σ.bind nm B).dom B.cs) {T : TypeId}
    (hb : w.heap[b]? = some (.cells (flat (upd ρ nm (b, 0)) B.cs).toArray T (0, 0))) (hnew : ∀ k C, σ.blks k = some C → (ρ k).1 ≠ b) (hown : w0.heap.size ≤ b) :
    Sat M w0 (σ.bind nm B) (upd ρ nm (b, 0)) a w := by
  have hρ : ∀ k, σ.dom k → upd ρ nm (b, 0) k = ρ k := fun k hk => upd_ne _ _ (fun e => by subst e; simp [SSt.dom, hfree] at hk)
  exact
  { size := h.size
    defers := h.defers
    slots := fun t s hs => by
      obtain ⟨h1, h2⟩ := h.slots t s hs
      exact ⟨by rw [SS.den_congr hρ h2]; exact h1, SS.ok_mono (dom_bind _ _ _) h2⟩
    named := fun k C hk => by
      by_cases he : k = nm
      · subst he
        simp only [SSt.bind, upd_same, Option.some.injEq] at hk
        subst hk; exact ⟨hnm, hok⟩
      · simp only [SSt.bind, upd_ne _ _ he] at hk
        exact ⟨(h.named k C hk).1, okC_mono (dom_bind _ _ _) (h.named k C hk).2⟩
    blks := fun k C hk => by
      by_cases he : k = nm
      · subst he
        simp only [SSt.bind, upd_same, Option.some.injEq] at hk
        subst hk
        exact ⟨_, T, (0, 0), by rw [upd_same]; exact hb, fun i hi => by rw [upd_same]; simp, fun _ => by rw [upd_same]; simp⟩
      · simp only [SSt.bind, upd_ne _ _ he] at hk
        obtain ⟨c, T', fz, hc, h1, h2⟩ := h.blks k C hk
        rw [BlkSat, upd_ne _ _ he, flat_congr hρ (h.named k C hk).2]
        exact ⟨c, T', fz, hc, h1, h2⟩
    sep := fun k l C E hkl hk hl hrw => by
      by_cases he : k = nm
      · subst he
        simp only [SSt.bind, upd_ne _ _ (Ne.symm hkl)] at hl
        rw [upd_same, upd_ne _ _ (Ne.symm hkl)]
        exact (hnew l E hl).symm
      · simp only [SSt.bind, upd_ne _ _ he] at hk
        rw [upd_ne _ _ he]
        by_cases hf : l = nm
        · subst hf; rw [upd_same]; exact hnew k C hk
        · simp only [SSt.bind, upd_ne _ _ hf] at hl
          rw [upd_ne _ _ hf]; exact h.sep k l C E hkl hk hl hrw
    own := fun k C hk hrw => by
      by_cases he : k = nm
      · subst he; rw [upd_same]; exact .inl hown
      · simp only [SSt.bind, upd_ne _ _ he] at hk
        rw [upd_ne _ _ he]; exact h.own k C hk hrw
    grow := h.grow }
theorem Sat.lt (h : Sat M w0 σ ρ a w) {k : Nat} {C : Blk} (hk : σ.blks k = some C) : (ρ k).1 < w.heap.size := by
  obtain ⟨c, T, fz, hc, _⟩ := h.blks k C hk
  exact get_lt hc
theorem Sat.new (h : Sat M w0 σ ρ a w) {nm : Nat} (hfree : σ.blks nm = none) (hnm : nm < σ.next) {cs : List CV} {rw' : Bool} (hok : okC σ.dom cs) (T : TypeId) :
    Sat M w0 (σ.bind nm ⟨cs, rw'⟩) (upd ρ nm (w.heap.size, 0)) a (w.alloc (.cells (flat ρ cs).toArray T (0, 0))) := by
  have hρ : ∀ k, σ.dom k → upd ρ nm (w.heap.size, 0) k = ρ k := fun k hk => upd_ne _ _ (fun e => by subst e; simp [SSt.dom, hfree] at hk)
  refine (h.grow' (Frame'.alloc w _)).bind hfree hnm (T := T) (okC_mono (dom_bind _ _ _) hok) ?_ ?_ ?_
  · rw [flat_congr hρ hok]
    show (w.heap.push _)[w.heap.size]? = _
    simp
  · intro k C hk; have := h.lt hk; omega
  · exact h.grow.size
/-- a block's cells replaced -/
theorem Sat.set (h : Sat M w0 σ ρ a w) {k : Nat} {B : Blk} (hB : σ.blks k = some B) (hrw : B.rw = true) {cs : List CV} (hok : okC σ.dom cs) (_hlen : (flat ρ cs).length = (flat ρ B.cs).length) (E : TypeId) :
    Sat M w0 (σ.bind k ⟨cs, true⟩) ρ a (withBlock w (ρ k).1 (.cells (flat ρ cs).toArray E (0, 0))) := by
  have hb := h.lt hB
  have hdom : ∀ j, σ.dom j → (σ.bind k ⟨cs, true⟩).dom j := dom_bind _ _ _
  exact
  { size := h.size
    defers := h.defers
    slots := fun t s hs => ⟨(h.slots t s hs).1, SS.ok_mono hdom (h.slots t s hs).2⟩
    named := fun j C hj => by
      by_cases he : j = k
      · subst he
        simp only [SSt.bind, upd_same, Option.some.injEq] at hj
        subst hj; exact ⟨(h.named j B hB).1, okC_mono hdom hok⟩
      · simp only [SSt.bind, upd_ne _ _ he] at hj
        exact ⟨(h.named j C hj).1, okC_mono hdom (h.named j C hj).2⟩
    blks := fun j C hj => by
      by_cases he : j = k
      · subst he
        simp only [SSt.bind, upd_same, Option.some.injEq] at hj
        subst hj
        obtain ⟨c, T, fz, hc, h1, h2⟩ := h.blks j B hB
        obtain ⟨h0, _, _⟩ := h2 hrw
        exact ⟨_, E, (0, 0), withBlock_get w _ hb, fun i hi => by rw [h0]; simp, fun _ => ⟨h0, by simp, rfl⟩⟩
      · simp only [SSt.bind, upd_ne _ _ he] at hj
        obtain ⟨c, T, fz, hc, hr⟩ := h.blks j C hj
        refine ⟨c, T, fz, ?_, hr⟩
        have hne := h.sep k j B C (Ne.symm he) hB hj hrw
        simp only [withBlock, Array.getElem?_setIfInBounds_ne hne]
        exact hc
    sep := fun j l C F hjl hj hl hr => by
      have lift : ∀ i X, (σ.bind k ⟨cs, true⟩).blks i = some X → ∃ Y, σ.blks i = some Y ∧ Y.rw = X.rw := by
        intro i X hi
        by_cases he : i = k
        · subst he
          simp only [SSt.bind, upd_same, Option.some.injEq] at hi
          subst hi; exact ⟨B, hB, hrw⟩
        · simp only [SSt.bind, upd_ne _ _ he] at hi
          exact ⟨X, hi, rfl⟩
      obtain ⟨C', hC', e1⟩ := lift j C hj
      obtain ⟨F', hF', e2⟩ := lift l F hl
      exact h.sep j l C' F' hjl hC' hF' (e1.trans hr)
    own := fun j C hj hr => by
      by_cases he : j = k
      · subst he; exact h.own j B hB hrw
      · simp only [SSt.bind, upd_ne _ _ he] at hj
        exact h.own j C hj hr
    grow := by
      refine h.grow.trans (N := fun i => i = (ρ k).1) ⟨rfl, rfl, rfl, by simp [withBlock], fun i hi hne => ?_⟩ ?_
      · simp only [withBlock, Array.getElem?_setIfInBounds_ne (Ne.symm hne)]
      · intro i hi he
        rcases h.own k B hB hrw with ho | ho
        · omega
        · rw [he]; exact ho }
end
end Go.SX
