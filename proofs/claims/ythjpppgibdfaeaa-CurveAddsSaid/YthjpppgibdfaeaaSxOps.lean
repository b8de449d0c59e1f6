/- SxOps: a part of the proof: lemmas alone, of no statement. -/
import Derived.Test.YthjpppgibdfaeaaSxMem
namespace Go.SX
open Go.RowKit

structure TInfo where
  desc : TypeDesc
  size : Nat
  zero : List CV
abbrev TyEnv := Nat → Option TInfo
def isAggD : TypeDesc → Bool
  | .struct _ | .array _ _ => true
  | _ => false
structure TyOK1 (P : Program) (t : Nat) (i : TInfo) : Prop where
  und : P.underlying t = some i.desc
  info : (P.info? t).map (·.size) = some i.size
  zero : ∀ ρ, ((P.info? t).bind (·.zero)).map (·.cells.toList) = some (flat ρ i.zero)
  okz : ∀ D, okC D i.zero
  guard : ∀ len E, i.desc = .array len E → P.eqGuardType P.depth t = false
def TyOK (P : Program) (Γ : TyEnv) : Prop := ∀ t i, Γ t = some i → TyOK1 P t i

section types
variable {P : Program} {t : Nat} {i : TInfo} (h : TyOK1 P t i) (w : World)
include h
theorem run_isAgg : (isAgg t).run P w = .ok (isAggD i.desc) w := by
  simp only [isAgg, Sem.run_bind, run_underlying h.und, Result.andThen]
  cases i.desc <;> rfl
theorem run_sizeOf : (sizeOf t).run P w = .ok i.size w := by
  have := h.info
  cases hi : P.info? t with
  | none => simp [hi] at this
  | some x => simp [hi] at this; simp [sizeOf, typeInfo, hi, this]
theorem run_zeroValue (ρ : Rho) : ∃ z, (zeroValue t).run P w = .ok z w ∧ z.cells.toList = flat ρ i.zero := by
  have := h.zero ρ
  cases hi : P.info? t with
  | none => simp [hi] at this
  | some x =>
    cases hz : x.zero with
    | none => simp [hi, hz] at this
    | some z => simp [hi, hz] at this; exact ⟨z, by simp [zeroValue, typeInfo, hi, hz], this⟩
end types

/-! operands -/
def rdS (σ : SSt) : Operand → Option SS
  | .tmp t => σ.slots t
  | .const v => some (.one (.v v))
  | .global g => some (.one (.v (.pointer (some ⟨g, 0, none⟩))))
  | .func f => some (.one (.v (.func (.func f) #[] #[])))
def rd (σ : SSt) (x : Operand) : Option SV :=
  match rdS σ x with
  | some (.one s) => some s
  | _ => none
theorem rdS_spec {M : Nat → Prop} {w0 w : World} {σ : SSt} {ρ : Rho} {a : Act} (h : Sat M w0 σ ρ a w) {x : Operand} {s : SS} (hs : rdS σ x = some s) : a.eval x = s.den ρ ∧ s.ok σ.dom := by
  cases x with
  | tmp t =>
    obtain ⟨h1, h2⟩ := h.slots t s hs
    exact ⟨by simp [Act.eval, h1], h2⟩
  | const v => simp only [rdS, Option.some.injEq] at hs; subst hs; exact ⟨rfl, trivial⟩
  | global g => simp only [rdS, Option.some.injEq] at hs; subst hs; exact ⟨rfl, trivial⟩
  | func f => simp only [rdS, Option.some.injEq] at hs; subst hs; exact ⟨rfl, trivial⟩
theorem rd_spec {M : Nat → Prop} {w0 w : World} {σ : SSt} {ρ : Rho} {a : Act} (h : Sat M w0 σ ρ a w) {x : Operand} {s : SV} (hs : rd σ x = some s) : a.eval x = s.den ρ ∧ s.ok σ.dom := by
  unfold rd at hs
  split at hs
  · rename_i s' h'
    simp only [Option.some.injEq] at hs; subst hs
    exact rdS_spec h h'
  · cases hs

/-- what is called: a function; or an operation that its own rule tells of -/
inductive Cal where
  | fn (f : FuncId)
  | op (o : Op)
inductive Out where
  | val (s : SS) (side : Prop)
  | new (cs : List CV) (rw : Bool) (side : Prop)
  | set (k : Nat) (cs : List CV) (side : Prop)
  | call (f : Cal) (args : List SV)
  | bad

/-- what a stored value's cells are -/
def toC : SV → List CV × Prop
  | .v x => ([.one x], cellish x = true)
  | .p k off => ([.pt k off], True)
  | .e k b j => ([.pt k (b + j)], True)
  | .s k b st l c => ([.sl k b st l c], True)
  | .g cs => (cs, True)
theorem toC_spec {D : Nat → Prop} {ρ : Rho} {s : SV} (h : s.ok D) (hs : (toC s).2) : okC D (toC s).1 ∧ (s.den ρ).cells.toList = flat ρ (toC s).1 := by
  cases s with
  | v x =>
    simp only [toC] at hs ⊢
    refine ⟨by simp [okC, CV.ok, hs], ?_⟩
    cases x <;> first | (simp [cellish] at hs; done) | rfl
  | p k off => exact ⟨fun c hc => by simp only [toC, List.mem_singleton] at hc; subst hc; exact h, rfl⟩
  | e k b j => exact ⟨fun c hc => by simp only [toC, List.mem_singleton] at hc; subst hc; exact h, rfl⟩
  | s k b st l c => exact ⟨fun c hc => by simp only [toC, List.mem_singleton] at hc; subst hc; exact h, rfl⟩
  | g cs => exact ⟨h, by simp [toC, SV.den, Value.cells]⟩

/-! loads and stores -/
def opLoad (Γ : TyEnv) (σ : SSt) (T : Nat) (x : Option SV) : Out :=
  match Γ T, x with
  | some i, some (.p k off) => match σ.blks k with
    | some B => match isAggD i.desc with
      | true => match partC off i.size B.cs with
        | some cs => .val (.one (.g cs)) True
        | none => .bad
      | false => match partC off 1 B.cs with
        | some cs => match oneC cs with
          | some s => .val (.one s) True
          | none => .bad
        | none => .bad
    | none => .bad
  | some i, some (.e k base j) => match σ.blks k with
    | some B => match rowAt base B.cs with
      | some (n, xs) => match isAggD i.desc with
        | false => .val (.one (.v (xs.getD j undef))) (j < n)
        | true => .val (.one (.g [.many i.size ((xs.drop j).take i.size)])) (j + i.size ≤ n)
      | none => .bad
    | none => .bad
  | _, _ => .bad

theorem sat_cell {M : Nat → Prop} {w0 w : World} {σ : SSt} {ρ : Rho} {a : Act} (h : Sat M w0 σ ρ a w) {k : Nat} {B : Blk} (hk : σ.blks k = some B) (i : Nat) (hi : i < (flat ρ B.cs).length) :
    w.cell? ⟨(ρ k).1, (ρ k).2 + i, none⟩ = (flat ρ B.cs)[i]? := by
  obtain ⟨c, T, fz, hc, hs, _⟩ := h.blks k B hk
  rw [cell_of hc, hs i hi]

theorem run_loadVar_agg {P : Program} {T : Nat} {i : TInfo} (hT : TyOK1 P T i) (hd : isAggD i.desc = true) {w : World} {b o : Nat} {l : List Value} (hl : l.length = i.size)
    (h : ∀ j, j < l.length → w.cell? ⟨b, o + j, none⟩ = l[j]?) : (loadVar T ⟨b, o, none⟩).run P w = .ok (.agg l.toArray) w := by
  simp only [loadVar, Sem.run_bind, run_isAgg hT, Result.andThen, hd, if_true, run_sizeOf hT, ← hl, run_loadCells h, Sem.run_pure]
theorem run_loadVar_one {P : Program} {T : Nat} {i : TInfo} (hT : TyOK1 P T i) (hd : isAggD i.desc = false) {w : World} {b o : Nat} {v : Value}
    (h : w.cell? ⟨b, o, none⟩ = some v) : (loadVar T ⟨b, o, none⟩).run P w = .ok v w := by
  simp only [loadVar, Sem.run_bind, run_isAgg hT, Result.andThen, hd, run_load h, Bool.false_eq_true, if_false]

theorem opLoad_spec {P : Program} {Γ : TyEnv} (hΓ : TyOK P Γ) {M : Nat → Prop} {w0 w : World} {σ : SSt} {ρ : Rho} {a : Act} (h : Sat M w0 σ ρ a w) {T : Nat} {x : Operand} {s : SS} {side : Prop}
    (ho : opLoad Γ σ T (rd σ x) = .val s side) (hside : side) : (Instr.loadAt T (a.eval x)).run P w = .ok (s.den ρ) w ∧ s.ok σ.dom := by
  unfold opLoad at ho
  split at ho
  · rename_i i k off hT hx
    obtain ⟨he, _⟩ := rd_spec h hx
    have hT' := hΓ _ _ hT
    rw [he]
    simp only [SV.den, Instr.loadAt, Instr.sureAddr, Sem.run_bind, Sem.run_pure, Result.andThen]
    split at ho
    · rename_i B hB
      have hok := (h.named k B hB).2
      cases hd : isAggD i.desc with
      | true =>
        simp only [hd] at ho
        cases hp : partC off i.size B.cs with
        | none => simp [hp] at ho
        | some cs =>
          simp only [hp, Out.val.injEq] at ho
          obtain ⟨rfl, _⟩ := ho
          obtain ⟨h1, h2, h3⟩ := partC_spec (ρ := ρ) hok hp
          refine ⟨?_, h2⟩
          rw [run_loadVar_agg hT' hd (l := flat ρ cs) (by rw [h1]; simp; omega)]
          · rfl
          · intro j hj
            rw [h1] at hj ⊢
            simp only [List.length_take, List.length_drop] at hj
            rw [Nat.add_assoc, sat_cell h hB (off + j) (by omega)]
            rw [List.getElem?_take, if_pos (by omega), List.getElem?_drop]
      | false =>
        simp only [hd] at ho
        cases hp : partC off 1 B.cs with
        | none => simp [hp] at ho
        | some cs =>
          cases hq : oneC cs with
          | none => simp [hp, hq] at ho
          | some s' =>
            simp only [hp, hq, Out.val.injEq] at ho
            obtain ⟨rfl, _⟩ := ho
            obtain ⟨h1, h2, h3⟩ := partC_spec (ρ := ρ) hok hp
            obtain ⟨h4, h5⟩ := oneC_spec (ρ := ρ) h2 hq
            refine ⟨?_, h5⟩
            rw [run_loadVar_one hT' hd (v := s'.den ρ)]
            · rfl
            · rw [sat_cell h hB off (by omega)]
              have : (flat ρ cs)[0]? = some (s'.den ρ) := by rw [h4]; rfl
              rw [h1, List.getElem?_take, if_pos (by omega), List.getElem?_drop] at this
              simpa using this
    · cases ho
  · rename_i i k base j hT hx
    obtain ⟨he, _⟩ := rd_spec h hx
    have hT' := hΓ _ _ hT
    rw [he]
    simp only [SV.den, Instr.loadAt, Instr.sureAddr, Sem.run_bind, Sem.run_pure, Result.andThen]
    split at ho
    · rename_i B hB
      have hok := (h.named k B hB).2
      split at ho
      · rename_i n xs hr
        obtain ⟨h1, h2, l, r, h3, h4⟩ := rowAt_spec (ρ := ρ) B.cs base n xs hok hr
        have hcell : ∀ j, j < xs.length → w.cell? ⟨(ρ k).1, (ρ k).2 + (base + j), none⟩ = xs[j]? := by
          intro j hj
          rw [sat_cell h hB (base + j) (by rw [h3]; simp; omega), h3, List.getElem?_append_right (by omega), List.getElem?_append_left (by omega)]
          congr 1; omega
        cases hd : isAggD i.desc with
        | false =>
          simp only [hd, Out.val.injEq] at ho
          obtain ⟨rfl, rfl⟩ := ho
          refine ⟨?_, trivial⟩
          rw [run_loadVar_one hT' hd (v := xs.getD j undef)]
          · rfl
          · rw [hcell j (by omega), List.getD_eq_getElem?_getD, List.getElem?_eq_getElem (by omega)]; rfl
        | true =>
          simp only [hd, Out.val.injEq] at ho
          obtain ⟨rfl, rfl⟩ := ho
          refine ⟨?_, ?_⟩
          · rw [run_loadVar_agg hT' hd (l := (xs.drop j).take i.size) (by simp; omega)]
            · simp [SS.den, SV.den, flat, CV.den]
            · intro m hm
              simp only [List.length_take, List.length_drop] at hm
              rw [Nat.add_assoc, Nat.add_assoc, hcell (j + m) (by omega), List.getElem?_take, if_pos (by omega), List.getElem?_drop]
          · refine okC_cons.2 ⟨⟨by simp; omega, fun x hx => h2 x (List.mem_of_mem_drop (List.mem_of_mem_take hx))⟩, okC_nil⟩
      · cases ho
    · cases ho
  · cases ho

def opStore (Γ : TyEnv) (σ : SSt) (T : Nat) (x y : Option SV) : Out :=
  match Γ T, x, y with
  | some i, some (.p k off), some s => match σ.blks k with
    | some ⟨cs, true⟩ => match putC off (toC s).1 cs with
      | some r => .set k r ((toC s).2 ∧ sizeC (toC s).1 = i.size)
      | none => .bad
    | _ => .bad
  | some i, some (.e k base j), some (.v x) => match σ.blks k with
    | some ⟨cs, true⟩ => match rowAt base cs with
      | some (n, xs) => match setRow base (xs.set j x) cs with
        | some r => .set k r (j < n ∧ cellish x = true ∧ i.size = 1)
        | none => .bad
      | none => .bad
    | _ => .bad
  | some i, some (.e k base j), some (.g [.many m ys]) => match σ.blks k with
    | some ⟨cs, true⟩ => match rowAt base cs with
      | some (n, xs) => match setRow base (splice ys j xs) cs with
        | some r => .set k r (j + m ≤ n ∧ i.size = m)
        | none => .bad
      | none => .bad
    | _ => .bad
  | _, _, _ => .bad

theorem run_storeVar {P : Program} {T : Nat} {i : TInfo} (hT : TyOK1 P T i) {w : World} {b o : Nat} {c : Array Value} {E : TypeId} {v : Value} (hs : v.cells.size = i.size)
    (h : w.heap[b]? = some (.cells c E (0, 0))) (hsz : o + v.cells.size ≤ c.size) (hc : ∀ x ∈ v.cells.toList, cellish x = true) :
    (storeVar T ⟨b, o, none⟩ v).run P w = .ok () (withBlock w b (.cells (splice v.cells.toList o c.toList).toArray E (0, 0))) := by
  simp only [storeVar, Sem.run_bind, run_sizeOf hT, Result.andThen, hs, ne_eq, not_true_eq_false, if_false]
  rw [run_storeCells _ 0 w c h (by simp; omega) hc]; rfl

theorem splice_splice_row {l r xs ys : List Value} {o : Nat} (hl : l.length = o) {j : Nat} (h : j + ys.length ≤ xs.length) :
    splice ys (o + j) (l ++ (xs ++ r)) = splice (splice ys j xs) o (l ++ (xs ++ r)) := by
  subst hl
  simp only [splice, List.length_append, List.length_take, List.length_drop, List.take_append, List.drop_append]
  have h1 : (l.take (l.length + j)) = l := List.take_of_length_le (by omega)
  have h2 : l.drop (l.length + j + ys.length) = [] := List.drop_of_length_le (by omega)
  have h3 : l.drop (l.length + (min j xs.length + ys.length + (xs.length - (j + ys.length)))) = [] := List.drop_of_length_le (by omega)
  have h4 : xs.drop (l.length + (min j xs.length + ys.length + (xs.length - (j + ys.length))) - l.length) = [] := List.drop_of_length_le (by omega)
  rw [h1, h2, h3, h4]
  simp only [List.nil_append, Nat.add_sub_cancel_left, Nat.sub_self, List.take_zero, List.append_assoc, List.take_length]
  have e1 : r.take (j - xs.length) = [] := by rw [show j - xs.length = 0 from by omega]; simp
  have e2 : l.length + j + ys.length - l.length = j + ys.length := by omega
  have e3 : j + ys.length - xs.length = 0 := by omega
  have e4 : min j xs.length + ys.length + (xs.length - (j + ys.length)) - xs.length = 0 := by omega
  rw [e1, e2, e3, e4]; simp

theorem set_eq_splice {xs : List Value} {j : Nat} {x : Value} (h : j < xs.length) : xs.set j x = splice [x] j xs := by
  simp only [splice, List.length_cons, List.length_nil, List.append_assoc, List.singleton_append]
  rw [List.set_eq_take_append_cons_drop, if_pos h]
  

theorem opStore_spec {P : Program} {Γ : TyEnv} (hΓ : TyOK P Γ) {M : Nat → Prop} {w0 w : World} {σ : SSt} {ρ : Rho} {a : Act} (h : Sat M w0 σ ρ a w) {T : Nat} {x y : Operand} {k : Nat} {r : List CV} {side : Prop}
    (ho : opStore Γ σ T (rd σ x) (rd σ y) = .set k r side) (hside : side) :
    ∃ B E, σ.blks k = some B ∧ B.rw = true ∧ okC σ.dom r ∧ (flat ρ r).length = (flat ρ B.cs).length ∧
      (Instr.storeAt T (a.eval x) (a.eval y)).run P w = .ok () (withBlock w (ρ k).1 (.cells (flat ρ r).toArray E (0, 0))) := by
  have main : ∀ (i : TInfo) (B : Blk) (o : Nat) (v : Value), TyOK1 P T i → σ.blks k = some B → B.rw = true → okC σ.dom r → flat ρ r = splice v.cells.toList o (flat ρ B.cs) →
      o + v.cells.size ≤ (flat ρ B.cs).length → v.cells.size = i.size → (∀ x ∈ v.cells.toList, cellish x = true) → a.eval y = v →
      a.eval x = .pointer (some ⟨(ρ k).1, (ρ k).2 + o, none⟩) →
      ∃ B E, σ.blks k = some B ∧ B.rw = true ∧ okC σ.dom r ∧ (flat ρ r).length = (flat ρ B.cs).length ∧
      (Instr.storeAt T (a.eval x) (a.eval y)).run P w = .ok () (withBlock w (ρ k).1 (.cells (flat ρ r).toArray E (0, 0))) := by
    intro i B o v hT hB hrw hok hfl hle hsz hce hy hx
    obtain ⟨c, E, fz, hc, hcs, hrest⟩ := h.blks k B hB
    obtain ⟨h0, hcsz, rfl⟩ := hrest hrw
    have hcl : c.toList = flat ρ B.cs := by
      apply List.ext_getElem?
      intro j
      rcases Nat.lt_or_ge j (flat ρ B.cs).length with hj | hj
      · have := hcs j hj; rw [h0, Nat.zero_add] at this; simpa using this
      · rw [List.getElem?_eq_none hj, List.getElem?_eq_none (by simp; omega)]
    refine ⟨B, E, hB, hrw, hok, ?_, ?_⟩
    · rw [hfl, length_splice (by simpa using hle)]
    · rw [hx, hy]
      simp only [Instr.storeAt, Instr.sureAddr, Sem.run_bind, Sem.run_pure, Result.andThen]
      rw [h0, Nat.zero_add, run_storeVar hT hsz hc (by omega) hce, hcl, hfl]
  unfold opStore at ho
  split at ho
  · rename_i i k' off s hT hx hy
    split at ho
    · rename_i cs hB
      split at ho
      · rename_i r' hp
        simp only [Out.set.injEq] at ho
        obtain ⟨rfl, rfl, rfl⟩ := ho
        obtain ⟨he, _⟩ := rd_spec h hx
        obtain ⟨hf, hs⟩ := rd_spec h hy
        obtain ⟨h1, h2⟩ := toC_spec (ρ := ρ) hs hside.1
        obtain ⟨k1, k2, k3⟩ := putC_spec (ρ := ρ) (h.named _ _ hB).2 h1 hp
        have hlen : (s.den ρ).cells.size = (flat ρ (toC s).1).length := by rw [← h2]; simp
        exact main i ⟨cs, true⟩ off (s.den ρ) (hΓ _ _ hT) hB rfl k2 (by rw [k1, h2]) (by rw [hlen]; exact k3) (by rw [hlen, length_flat h1]; exact hside.2)
          (by rw [h2]; exact cellish_flat h1) hf (by rw [he]; rfl)
      · cases ho
    · cases ho
  · rename_i i k' base j x' hT hx hy
    split at ho
    · rename_i cs hB
      split at ho
      · rename_i n xs hr
        split at ho
        · rename_i r' hp
          simp only [Out.set.injEq] at ho
          obtain ⟨rfl, rfl, rfl⟩ := ho
          obtain ⟨hj, hce, hsz⟩ := hside
          obtain ⟨he, _⟩ := rd_spec h hx
          obtain ⟨hf, _⟩ := rd_spec h hy
          obtain ⟨h1, h2, l, q, h3, h4⟩ := rowAt_spec (ρ := ρ) cs base n xs (h.named _ _ hB).2 hr
          obtain ⟨k1, k2, k3⟩ := setRow_spec (ρ := ρ) cs base n xs (xs.set j x') r' (h.named _ _ hB).2 hr (by simp [h1]) (fun y hy => by
            rcases List.mem_or_eq_of_mem_set hy with hm | rfl
            · exact h2 y hm
            · exact hce) hp
          have hcl : x'.cells.toList = [x'] := by cases x' <;> first | (simp [cellish] at hce; done) | rfl
          have hcs : x'.cells.size = 1 := by rw [← Array.length_toList, hcl]; rfl
          refine main i ⟨cs, true⟩ (base + j) x' (hΓ _ _ hT) hB rfl k1 ?_ ?_ (by rw [hcs, hsz]) (by rw [hcl]; simpa using hce) hf (by rw [he]; rfl)
          · rw [k2, hcl, h3, set_eq_splice (by omega), ← splice_splice_row h4 (by simp; omega)]
          · rw [hcs, h3]; simp; omega
        · cases ho
      · cases ho
    · cases ho
  · rename_i i k' base j m ys hT hx hy
    split at ho
    · rename_i cs hB
      split at ho
      · rename_i n xs hr
        split at ho
        · rename_i r' hp
          simp only [Out.set.injEq] at ho
          obtain ⟨rfl, rfl, rfl⟩ := ho
          obtain ⟨hj, hsz⟩ := hside
          obtain ⟨he, _⟩ := rd_spec h hx
          obtain ⟨hf, hok⟩ := rd_spec h hy
          have hys := (okC_cons.1 hok).1
          obtain ⟨h1, h2, l, q, h3, h4⟩ := rowAt_spec (ρ := ρ) cs base n xs (h.named _ _ hB).2 hr
          have hyl : ys.length = m := hys.1
          obtain ⟨k1, k2, k3⟩ := setRow_spec (ρ := ρ) cs base n xs (splice ys j xs) r' (h.named _ _ hB).2 hr (by rw [length_splice (by omega)]; exact h1) (fun y hy => by
            simp only [splice, List.mem_append] at hy
            rcases hy with (hm | hm) | hm
            · exact h2 y (List.mem_of_mem_take hm)
            · exact hys.2 y hm
            · exact h2 y (List.mem_of_mem_drop hm)) hp
          have hd : (SV.den ρ (.g [.many m ys])) = .agg ys.toArray := by simp [SV.den, flat, CV.den]
          rw [hd] at hf
          refine main i ⟨cs, true⟩ (base + j) (.agg ys.toArray) (hΓ _ _ hT) hB rfl k1 ?_ ?_ (by simp [Value.cells, hyl, hsz]) (by simpa [Value.cells] using hys.2) hf (by rw [he]; rfl)
          · rw [k2, h3]; simp only [Value.cells]; rw [← splice_splice_row h4 (by omega)]
          · rw [h3]; simp [Value.cells]; omega
        · cases ho
      · cases ho
    · cases ho
  · cases ho
end Go.SX
