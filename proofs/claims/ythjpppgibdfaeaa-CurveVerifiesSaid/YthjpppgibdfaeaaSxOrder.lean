/- SxOrder: a part of the proof: lemmas alone, of no statement. -/
import Derived.Test.YthjpppgibdfaeaaSxRun
namespace Go.SX
open Go.RowKit

/-! the kinds of operations -/
inductive Kind where
  | val | new | call | set
def kindOf : Op → Kind
  | .alloc _ | .box _ _ => .new
  | .store _ _ _ => .set
  | .call c => match c.callee with
    | .builtin .len => .val
    | _ => .call
  | .move _ | .assign _ | .pick _ _ _ | .load _ _ | .nilCheck _ | .binOp _ _ _ _ _ | .unOp _ _ _ | .convert _ _ _ | .sliceToArrayPointer _ _ | .slice _ _ _ _ _ | .fieldAddr _ _ _
  | .field _ _ _ | .indexAddr _ _ _ | .index _ _ _ | .extract _ _ | .build _ _ => .val
  | _ => .call

def slotsOf (xs : List Operand) : List Tmp := xs.filterMap fun | .tmp t => some t | _ => none

section
variable {P : Program} {Γ : TyEnv} {σ σ' : SSt}

theorem rdS_local {x : Operand} (h : ∀ t, x = .tmp t → σ'.slots t = σ.slots t) : rdS σ' x = rdS σ x := by
  cases x <;> first | rfl | exact h _ rfl
theorem rd_local {x : Operand} (h : ∀ t, x = .tmp t → σ'.slots t = σ.slots t) : rd σ' x = rd σ x := by
  simp only [rd, rdS_local h]

/-- the names in operands are bound in σ -/
theorem rd_dom (hc : ∀ t s, σ.slots t = some s → s.ok σ.dom) {x : Operand} {s : SV} (h : rd σ x = some s) : s.ok σ.dom := by
  unfold rd at h
  split at h
  · rename_i s' hs
    simp only [Option.some.injEq] at h; subst h
    cases x with
    | tmp t => exact hc t _ hs
    | const v => simp only [rdS, Option.some.injEq, SS.one.injEq] at hs; subst hs; trivial
    | global g => simp only [rdS, Option.some.injEq, SS.one.injEq] at hs; subst hs; trivial
    | func f => simp only [rdS, Option.some.injEq, SS.one.injEq] at hs; subst hs; trivial
  · cases h

theorem rdAll_local : ∀ {xs : List Operand}, (∀ x ∈ xs, ∀ t, x = .tmp t → σ'.slots t = σ.slots t) → rdAll σ' xs = rdAll σ xs
  | [], _ => rfl
  | x :: xs, h => by
    simp only [rdAll, rd_local (h x List.mem_cons_self), rdAll_local (fun y hy => h y (List.mem_cons_of_mem _ hy))]

theorem opOther_local {o : Op} (h : ∀ x ∈ o.operands.toList, ∀ t, x = .tmp t → σ'.slots t = σ.slots t) : opOther σ' o = opOther σ o := by
  simp only [opOther, rdAll_local h]
theorem rdParts_local : ∀ {xs : List (Nat × Operand)}, (∀ x ∈ xs.map (·.2), ∀ t, x = .tmp t → σ'.slots t = σ.slots t) → rdParts σ' xs = rdParts σ xs
  | [], _ => rfl
  | (i, x) :: xs, h => by
    simp only [rdParts, rd_local (h x List.mem_cons_self), rdParts_local (fun y hy => h y (List.mem_cons_of_mem _ hy))]
theorem bnd_local {x : Option Operand} (h : ∀ y ∈ x.toArray.toList, ∀ t, y = .tmp t → σ'.slots t = σ.slots t) : bnd σ' x = bnd σ x := by
  cases x with
  | none => rfl
  | some y => simp only [bnd, rd_local (h y (by simp))]

theorem opLoad_local (hb : ∀ k, σ.dom k → σ'.blks k = σ.blks k) {T : Nat} {x : Option SV} (hx : ∀ s, x = some s → s.ok σ.dom) : opLoad Γ σ' T x = opLoad Γ σ T x := by
  cases x with
  | none => simp [opLoad]
  | some s =>
    have hs := hx s rfl
    cases s with
    | v x => unfold opLoad; cases Γ T <;> rfl
    | g cs => unfold opLoad; cases Γ T <;> rfl
    | s k b st l c => unfold opLoad; cases Γ T <;> rfl
    | p k off =>
      unfold opLoad
      cases Γ T with
      | none => rfl
      | some i => dsimp only; rw [hb k hs]
    | e k b j =>
      unfold opLoad
      cases Γ T with
      | none => rfl
      | some i => dsimp only; rw [hb k hs]

/-- what an operation does hangs on its own operands and their blocks -/
theorem opSem_local (hc : ∀ t s, σ.slots t = some s → s.ok σ.dom) (hb : ∀ k, σ.dom k → σ'.blks k = σ.blks k) (o : Op)
    (hs : ∀ x ∈ o.operands.toList, ∀ t, x = .tmp t → σ'.slots t = σ.slots t) (hk : kindOf o ≠ .set) : opSem Γ σ' o = opSem Γ σ o := by
  cases o <;> first | rfl | exact opOther_local hs | skip
  case build T parts => simp only [opSem, rdParts_local (xs := parts.toList) (fun x hx => hs x (by simpa [Op.operands] using hx))]
  case move x => simp only [opSem, rdS_local (hs x (by simp [Op.operands]))]
  case assign x => simp only [opSem, rdS_local (hs x (by simp [Op.operands]))]
  case pick c x y => simp only [opSem, rd_local (hs c (by simp [Op.operands])), rd_local (hs x (by simp [Op.operands])), rd_local (hs y (by simp [Op.operands]))]
  case box T x => simp only [opSem, rd_local (hs x (by simp [Op.operands]))]
  case load T x =>
    simp only [opSem, rd_local (hs x (by simp [Op.operands]))]
    exact opLoad_local hb (fun s h => rd_dom hc h)
  case store T x y => exact absurd rfl hk
  case nilCheck x => simp only [opSem, rd_local (hs x (by simp [Op.operands]))]
  case binOp op T x y yT => simp only [opSem, rd_local (hs x (by simp [Op.operands])), rd_local (hs y (by simp [Op.operands]))]
  case unOp op T x => simp only [opSem, rd_local (hs x (by simp [Op.operands]))]
  case convert S D x => simp only [opSem, rd_local (hs x (by simp [Op.operands]))]
  case sliceToArrayPointer T x => simp only [opSem, rd_local (hs x (by simp [Op.operands]))]
  case slice T x lo hi mx =>
    simp only [opSem, opSlice, rd_local (hs x (by simp [Op.operands])), bnd_local (x := lo) (fun y hy => hs y (by simp [Op.operands] at hy ⊢; simp [hy])),
      bnd_local (x := hi) (fun y hy => hs y (by simp [Op.operands] at hy ⊢; simp [hy]))]
  case fieldAddr T x f => simp only [opSem, rd_local (hs x (by simp [Op.operands]))]
  case field T x f => simp only [opSem, rd_local (hs x (by simp [Op.operands]))]
  case indexAddr T x i => simp only [opSem, opIndexAddr, rd_local (hs x (by simp [Op.operands])), rd_local (hs i (by simp [Op.operands]))]
  case index T x i => simp only [opSem, rd_local (hs x (by simp [Op.operands])), rd_local (hs i (by simp [Op.operands]))]
  case extract x i => simp only [opSem, rdS_local (hs x (by simp [Op.operands]))]
  case call c =>
    obtain ⟨callee, args, argTypes⟩ := c
    have ha : ∀ x ∈ args.toList, ∀ t, x = .tmp t → σ'.slots t = σ.slots t := fun x hx => hs x (by simp [Op.operands, Call.operands] at hx ⊢; exact .inr hx)
    simp only [opSem]
    split
    · rw [rdAll_local ha]
    · split
      · rename_i x hx; rw [rd_local (ha x (by rw [hx]; exact List.mem_cons_self))]
      · rfl
    · exact opOther_local hs

def Out.isVal : Out → Prop
  | .val _ _ => True
  | .bad => True
  | _ => False
theorem kind_val' {o : Op} (h : kindOf o = .val) : (opSem Γ σ o).isVal := by
  cases o <;> first | (simp [kindOf] at h; done) | trivial | skip
  case move x => simp only [opSem]; split <;> trivial
  case assign x => simp only [opSem]; split <;> trivial
  case pick c x y => simp only [opSem]; split <;> trivial
  case load T x => simp only [opSem, opLoad]; repeat' (first | trivial | split)
  case nilCheck x => simp only [opSem]; split <;> trivial
  case binOp op T x y yT => simp only [opSem, opBin, opEq]; repeat' (first | trivial | split)
  case unOp op T x => simp only [opSem]; repeat' (first | trivial | split)
  case convert S D x => simp only [opSem, opConvert]; repeat' (first | trivial | split)
  case sliceToArrayPointer T x => simp only [opSem, opArrayAt]; repeat' (first | trivial | split)
  case slice T x lo hi mx => simp only [opSem, opSlice]; repeat' (first | trivial | split)
  case fieldAddr T x f => simp only [opSem, opFieldAddr]; repeat' (first | trivial | split)
  case field T x f => simp only [opSem, opField, opPart]; repeat' (first | trivial | split)
  case indexAddr T x i => simp only [opSem, opIndexAddr, idxOut_eq]; repeat' (first | trivial | split)
  case index T x i => simp only [opSem, opIndex, idxOut_eq]; repeat' (first | trivial | split)
  case extract x i => simp only [opSem]; repeat' (first | trivial | split)
  case build T parts => simp only [opSem, opBuild]; repeat' (first | trivial | split)
  case call c =>
    obtain ⟨callee, args, argTypes⟩ := c
    simp only [opSem]
    split
    · simp [kindOf] at h
    · simp only [opLen]; repeat' (first | trivial | split)
    · rename_i h1 h2
      exfalso
      simp only [kindOf] at h
      cases h
theorem kind_val {o : Op} (h : kindOf o = .val) : (∃ s side, opSem Γ σ o = .val s side) ∨ opSem Γ σ o = .bad := by
  have := kind_val' (Γ := Γ) (σ := σ) h
  cases ho : opSem Γ σ o <;> simp only [ho, Out.isVal] at this
  · exact .inl ⟨_, _, rfl⟩
  · exact .inr rfl
def Out.isNew : Out → Prop
  | .new _ _ _ => True
  | .bad => True
  | _ => False
theorem kind_new' {o : Op} (h : kindOf o = .new) : (opSem Γ σ o).isNew := by
  cases o <;> first | (simp [kindOf] at h; done) | skip
  case alloc T => simp only [opSem]; split <;> trivial
  case box T x => simp only [opSem]; split <;> trivial
  case call c => obtain ⟨callee, args, argTypes⟩ := c; simp only [kindOf] at h; split at h <;> cases h
theorem kind_new {o : Op} (h : kindOf o = .new) : (∃ cs rw side, opSem Γ σ o = .new cs rw side) ∨ opSem Γ σ o = .bad := by
  have := kind_new' (Γ := Γ) (σ := σ) h
  cases ho : opSem Γ σ o <;> simp only [ho, Out.isNew] at this
  · exact .inl ⟨_, _, _, rfl⟩
  · exact .inr rfl
def Out.isCall : Out → Prop
  | .call _ _ => True
  | .bad => True
  | _ => False
theorem opOther_call (o : Op) : (opOther σ o).isCall := by
  unfold opOther; split <;> trivial
theorem kind_call' {o : Op} (h : kindOf o = .call) : (opSem Γ σ o).isCall := by
  cases o <;> first | (simp [kindOf] at h; done) | exact opOther_call _ | skip
  case ready g => exact opOther_call (σ := σ) (.ready g)
  case waits g => exact opOther_call (σ := σ) (.waits g)
  case call c =>
    obtain ⟨callee, args, argTypes⟩ := c
    simp only [opSem]
    split
    · split <;> trivial
    · simp [kindOf] at h
    · exact opOther_call _
def isPure : Op → Bool
  | .load _ _ => false
  | _ => true
theorem opSem_pure (o : Op) (hk : kindOf o = .val) (hp : isPure o = true) (hs : ∀ x ∈ o.operands.toList, ∀ t, x = .tmp t → σ'.slots t = σ.slots t) : opSem Γ σ' o = opSem Γ σ o := by
  cases o <;> first | rfl | (simp [kindOf] at hk; done) | (simp [isPure] at hp; done) | skip
  case build T parts => simp only [opSem, rdParts_local (xs := parts.toList) (fun x hx => hs x (by simpa [Op.operands] using hx))]
  case move x => simp only [opSem, rdS_local (hs x (by simp [Op.operands]))]
  case assign x => simp only [opSem, rdS_local (hs x (by simp [Op.operands]))]
  case pick c x y => simp only [opSem, rd_local (hs c (by simp [Op.operands])), rd_local (hs x (by simp [Op.operands])), rd_local (hs y (by simp [Op.operands]))]
  case nilCheck x => simp only [opSem, rd_local (hs x (by simp [Op.operands]))]
  case binOp op T x y yT => simp only [opSem, rd_local (hs x (by simp [Op.operands])), rd_local (hs y (by simp [Op.operands]))]
  case unOp op T x => simp only [opSem, rd_local (hs x (by simp [Op.operands]))]
  case convert S D x => simp only [opSem, rd_local (hs x (by simp [Op.operands]))]
  case sliceToArrayPointer T x => simp only [opSem, rd_local (hs x (by simp [Op.operands]))]
  case slice T x lo hi mx =>
    simp only [opSem, opSlice, rd_local (hs x (by simp [Op.operands])), bnd_local (x := lo) (fun y hy => hs y (by simp [Op.operands] at hy ⊢; simp [hy])),
      bnd_local (x := hi) (fun y hy => hs y (by simp [Op.operands] at hy ⊢; simp [hy]))]
  case fieldAddr T x f => simp only [opSem, rd_local (hs x (by simp [Op.operands]))]
  case field T x f => simp only [opSem, rd_local (hs x (by simp [Op.operands]))]
  case indexAddr T x i => simp only [opSem, opIndexAddr, rd_local (hs x (by simp [Op.operands])), rd_local (hs i (by simp [Op.operands]))]
  case index T x i => simp only [opSem, rd_local (hs x (by simp [Op.operands])), rd_local (hs i (by simp [Op.operands]))]
  case extract x i => simp only [opSem, rdS_local (hs x (by simp [Op.operands]))]
  case call c =>
    obtain ⟨callee, args, argTypes⟩ := c
    have ha : ∀ x ∈ args.toList, ∀ t, x = .tmp t → σ'.slots t = σ.slots t := fun x hx => hs x (by simp [Op.operands, Call.operands] at hx ⊢; exact .inr hx)
    simp only [opSem]
    split
    · rw [rdAll_local ha]
    · split
      · rename_i x hx; rw [rd_local (ha x (by rw [hx]; exact List.mem_cons_self))]
      · rfl
    · exact opOther_local hs
theorem opSem_set (hb : σ'.blks = σ.blks) (o : Op) (hk : kindOf o = .set) (hs : ∀ x ∈ o.operands.toList, ∀ t, x = .tmp t → σ'.slots t = σ.slots t) : opSem Γ σ' o = opSem Γ σ o := by
  cases o <;> first | (simp [kindOf] at hk; done) | skip
  case store T x y => simp only [opSem, opStore, rd_local (hs x (by simp [Op.operands])), rd_local (hs y (by simp [Op.operands])), hb]
  case call c => obtain ⟨callee, args, argTypes⟩ := c; simp only [kindOf] at hk; split at hk <;> cases hk
def Out.isSet : Out → Prop
  | .set _ _ _ => True
  | .bad => True
  | _ => False
theorem kind_set {o : Op} (h : kindOf o = .set) : (opSem Γ σ o).isSet := by
  cases o <;> first | (simp [kindOf] at h; done) | skip
  case store T x y => simp only [opSem, opStore]; repeat' (first | trivial | split)
  case call c => obtain ⟨callee, args, argTypes⟩ := c; simp only [kindOf] at h; split at h <;> cases h
theorem kind_call {o : Op} (h : kindOf o = .call) : (∃ f args, opSem Γ σ o = .call f args) ∨ opSem Γ σ o = .bad := by
  have := kind_call' (Γ := Γ) (σ := σ) h
  cases ho : opSem Γ σ o <;> simp only [ho, Out.isCall] at this
  · exact .inl ⟨_, _, rfl⟩
  · exact .inr rfl
end
end Go.SX
