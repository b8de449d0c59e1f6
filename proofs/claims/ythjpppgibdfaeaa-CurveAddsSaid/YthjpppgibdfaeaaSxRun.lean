/- SxRun: a part of the proof: lemmas alone, of no statement. -/
import Derived.Test.YthjpppgibdfaeaaSxStep
namespace Go.SX
open Go.RowKit

/-! calls -/
def Invokes (P : Program) (f : FuncId) (args : Array Value) (w : World) (R : Value → World → Prop) : Prop :=
  ((callFunc f args).run P w = .ok (.enter f args) w ∧ Calls P f args w (fun e w' => ∃ v, e = .returned v ∧ R v w')) ∨
  (∃ v w', (callFunc f args).run P w = .ok (.value v) w' ∧ R v w')
theorem Invokes.mono {P : Program} {f : FuncId} {args : Array Value} {w : World} {R R' : Value → World → Prop} (h : Invokes P f args w R) (hr : ∀ v w', R v w' → R' v w') : Invokes P f args w R' := by
  rcases h with ⟨h1, h2⟩ | ⟨v, w', h1, h2⟩
  · exact .inl ⟨h1, h2.mono fun e w' ⟨v, he, hv⟩ => ⟨v, he, hr v w' hv⟩⟩
  · exact .inr ⟨v, w', h1, hr v w' h2⟩
theorem invokes_of_calls {P : Program} {f : FuncId} {fn : Func} (hf : P.funcs[f]? = some fn) (hb : fn.body.isNone = false) (hn : (fn.name == "runtime.NumGoroutine") = false) {args : Array Value} {w : World}
    {R : Value → World → Prop} (h : Calls P f args w (fun e w' => ∃ v, e = .returned v ∧ R v w')) : Invokes P f args w R := by
  refine .inl ⟨?_, h⟩
  simp only [callFunc, Sem.run_bind, run_program, Result.andThen_ok, hf, hn, Bool.false_eq_true, if_false, hb, Sem.run_pure]

/-- what a call comes to -/
def CalRuns (P : Program) (c : Cal) (args : List Value) (w : World) (R : Value → World → Prop) : Prop :=
  match c with
  | .fn f => Invokes P f args.toArray w R
  | .op o => ∀ (ev : Operand → Value) (oo : Oper), oo.op = o → o.operands.toList.map ev = args →
    (∃ v w', ((execOp ev oo).run P w = .ok (.value v) w' ∨ (execOp ev oo).run P w = .ok .skip w' ∧ v = undef) ∧ R v w') ∨
    (∃ f as, (execOp ev oo).run P w = (callFunc f as).run P w ∧ Invokes P f as w R)
theorem CalRuns.mono {P : Program} {c : Cal} {args : List Value} {w : World} {R R' : Value → World → Prop} (h : CalRuns P c args w R) (hr : ∀ v w', R v w' → R' v w') : CalRuns P c args w R' := by
  cases c with
  | fn f => exact Invokes.mono h hr
  | op o =>
    intro ev oo h1 h2
    rcases h ev oo h1 h2 with ⟨v, w', h3, h4⟩ | ⟨f, as, h3, h4⟩
    · exact .inl ⟨v, w', h3, hr v w' h4⟩
    · exact .inr ⟨f, as, h3, h4.mono hr⟩
/-- what the caller must have read for a call -/
def CalGiven (c : Cal) (ev : Operand → Value) (args : List Value) : Prop :=
  match c with
  | .fn _ => True
  | .op p => p.operands.toList.map ev = args
theorem Invokes.some {P : Program} {w : World} {f : FuncId} {args : Array Value} {R : Value → World → Prop} (h : Invokes P f args w R) : ∃ v w', R v w' := by
  rcases h with ⟨_, h2⟩ | ⟨v, w', _, h2⟩
  · obtain ⟨e, w', fr, ⟨v, _, hr⟩, _⟩ := h2 []
    exact ⟨v, w', hr⟩
  · exact ⟨v, w', h2⟩
theorem CalRuns.some {P : Program} {w : World} {c : Cal} {args : List Value} {R : Value → World → Prop} (h : CalRuns P c args w R) {ev : Operand → Value} (hg : CalGiven c ev args) : ∃ v w', R v w' := by
  cases c with
  | fn f => exact Invokes.some h
  | op o =>
    rcases h ev ⟨none, o, 0, "", #[], none⟩ rfl hg with ⟨v, w', _, h4⟩ | ⟨f, as, _, h4⟩
    · exact ⟨v, w', h4⟩
    · exact h4.some

structure MSat (σ : SSt) (ρ : Rho) (w : World) : Prop where
  blks : ∀ k B, σ.blks k = some B → BlkSat ρ k B w
  sep : ∀ k l B C, k ≠ l → σ.blks k = some B → σ.blks l = some C → B.rw = true → (ρ k).1 ≠ (ρ l).1
  ok : ∀ k B, σ.blks k = some B → okC (fun _ => True) B.cs

def bindL (σ : SSt) (nm : Nat) : List Blk → SSt
  | [] => σ
  | B :: Bs => bindL (σ.bind nm B) (nm + 1) Bs
def rhoL (ρ : Rho) (nm : Nat) : List Nat → Rho
  | [] => ρ
  | b :: bs => rhoL (upd ρ nm (b, 0)) (nm + 1) bs
def okL (σ : SSt) (nm : Nat) : List Blk → Prop
  | [] => True
  | B :: Bs => okC (σ.bind nm B).dom B.cs ∧ okL (σ.bind nm B) (nm + 1) Bs
def NewOK (w w' : World) (ρ : Rho) (nm : Nat) : List Nat → List Blk → Prop
  | [], [] => True
  | b :: bs, B :: Bs => w.heap.size ≤ b ∧ b ∉ bs ∧ (∃ T, w'.heap[b]? = some (.cells (flat (upd ρ nm (b, 0)) B.cs).toArray T (0, 0))) ∧ NewOK w w' (upd ρ nm (b, 0)) (nm + 1) bs Bs
  | _, _ => False
def setL (σ : SSt) : List (Nat × List CV) → SSt
  | [] => σ
  | (k, cs) :: r => setL (σ.bind k ⟨cs, true⟩) r
def SetOK (σ : SSt) (ρ : Rho) (w' : World) : List (Nat × List CV) → Prop
  | [] => True
  | (k, cs) :: r => (∃ B, σ.blks k = some B ∧ B.rw = true) ∧ okC σ.dom cs ∧ (∀ x ∈ r, x.1 ≠ k) ∧ (∃ T, w'.heap[(ρ k).1]? = some (.cells (flat ρ cs).toArray T (0, 0))) ∧ (ρ k).2 = 0 ∧ SetOK σ ρ w' r

/-- what must be shown of a call -/
structure CallVC (P : Program) (eff : Bool) (f : Cal) (args : List SV) (σ : SSt) (nm : Nat) (K : SSt → SS → Prop) : Prop where
  out : ∃ (Y : Type) (res : Y → SS) (sets : Y → List (Nat × List CV)) (news : Y → List Blk) (cond : Y → Prop),
    (∀ ρ w, MSat σ ρ w → CalRuns P f (args.map (SV.den ρ)) w fun v w' => ∃ y bs, cond y ∧ v = (res y).den (rhoL ρ nm bs) ∧
      Frame' (fun b => ∃ x ∈ sets y, b = (ρ x.1).1) w w' ∧ SetOK σ ρ w' (sets y) ∧ NewOK w w' ρ nm bs (news y)) ∧
    ∀ y, cond y → (eff = false → sets y = []) ∧ (news y).length ≤ 8 ∧ okL (setL σ (sets y)) nm (news y) ∧ (res y).ok (bindL (setL σ (sets y)) nm (news y)).dom ∧
      K (bindL (setL σ (sets y)) nm (news y)) (res y)

section
variable {M : Nat → Prop} {w0 w w' : World} {σ : SSt} {ρ : Rho} {a : Act}

theorem Sat.mem (h : Sat M w0 σ ρ a w) : MSat σ ρ w := ⟨h.blks, h.sep, fun k B hk => okC_mono (fun _ _ => trivial) (h.named k B hk).2⟩

theorem Sat.bindL {w1 : World} : ∀ (Bs : List Blk) (bs : List Nat) (σ : SSt) (ρ : Rho) (nm : Nat), Sat M w0 σ ρ a w' → (∀ j, j < Bs.length → σ.blks (nm + j) = none ∧ nm + j < σ.next) → okL σ nm Bs →
    NewOK w1 w' ρ nm bs Bs → (∀ k C, σ.blks k = some C → (ρ k).1 ∉ bs) → w0.heap.size ≤ w1.heap.size → Sat M w0 (SX.bindL σ nm Bs) (rhoL ρ nm bs) a w'
  | [], [], σ, ρ, nm, h, _, _, _, _, _ => h
  | [], b :: bs, σ, ρ, nm, h, _, _, hn, _, _ => by simp [NewOK] at hn
  | B :: Bs, [], σ, ρ, nm, h, _, _, hn, _, _ => by simp [NewOK] at hn
  | B :: Bs, b :: bs, σ, ρ, nm, h, hfree, hok, hn, hnew, hsz => by
    obtain ⟨n1, n2, ⟨T, n3⟩, n4⟩ := hn
    obtain ⟨f1, f2⟩ := hfree 0 (by simp)
    simp only [SX.bindL, rhoL]
    have h' := h.bind (nm := nm) (by simpa using f1) (by simpa using f2) hok.1 n3 (fun k C hk e => hnew k C hk (by rw [e]; exact List.mem_cons_self)) (by omega)
    refine Sat.bindL Bs bs _ _ _ h' ?_ hok.2 n4 ?_ hsz
    · intro j hj
      obtain ⟨g1, g2⟩ := hfree (j + 1) (by simp; omega)
      refine ⟨?_, ?_⟩
      · simp only [SSt.bind]; rw [upd_ne _ _ (by omega)]; rw [show nm + 1 + j = nm + (j + 1) from by omega]; exact g1
      · show nm + 1 + j < σ.next; omega
    · intro k C hk
      by_cases he : k = nm
      · subst he; rw [upd_same]; exact n2
      · simp only [SSt.bind, upd_ne _ _ he] at hk
        rw [upd_ne _ _ he]
        exact fun hm => hnew k C hk (List.mem_cons_of_mem _ hm)

theorem setL_blks : ∀ (l : List (Nat × List CV)) (σ : SSt), (∀ x ∈ l, ∃ B, σ.blks x.1 = some B ∧ B.rw = true) → ∀ k B', (setL σ l).blks k = some B' →
    (σ.blks k = some B' ∧ ∀ x ∈ l, x.1 ≠ k) ∨ (∃ cs, (k, cs) ∈ l ∧ B' = ⟨cs, true⟩)
  | [], _, _, _, _, hk => .inl ⟨hk, by simp⟩
  | (j, cs) :: r, σ, h, k, B', hk => by
    simp only [setL] at hk
    rcases setL_blks r (σ.bind j ⟨cs, true⟩) (fun x hx => by
        obtain ⟨B, h1, h2⟩ := h x (List.mem_cons_of_mem _ hx)
        by_cases he : x.1 = j
        · rw [he]; exact ⟨⟨cs, true⟩, by simp [SSt.bind, upd_same], rfl⟩
        · exact ⟨B, by simp only [SSt.bind, upd_ne _ _ he]; exact h1, h2⟩) k B' hk with ⟨h1, h2⟩ | ⟨ds, h1, h2⟩
    · by_cases he : k = j
      · subst he
        simp only [SSt.bind, upd_same, Option.some.injEq] at h1
        exact .inr ⟨cs, List.mem_cons_self, h1.symm⟩
      · simp only [SSt.bind, upd_ne _ _ he] at h1
        refine .inl ⟨h1, fun x hx => ?_⟩
        rcases List.mem_cons.1 hx with rfl | hx
        · exact Ne.symm he
        · exact h2 x hx
    · exact .inr ⟨ds, List.mem_cons_of_mem _ h1, h2⟩
theorem setL_same : ∀ (l : List (Nat × List CV)) (σ : SSt), (setL σ l).slots = σ.slots ∧ (setL σ l).n = σ.n ∧ (setL σ l).next = σ.next
  | [], _ => ⟨rfl, rfl, rfl⟩
  | (j, cs) :: r, σ => setL_same r (σ.bind j ⟨cs, true⟩)
theorem setL_dom : ∀ (l : List (Nat × List CV)) (σ : SSt), (∀ x ∈ l, σ.dom x.1) → (setL σ l).dom = σ.dom
  | [], _, _ => rfl
  | (j, cs) :: r, σ, h => by
    have hd : (σ.bind j ⟨cs, true⟩).dom = σ.dom := by
      funext k
      by_cases he : k = j
      · subst he
        exact propext ⟨fun _ => h _ List.mem_cons_self, fun _ => dom_bind_self _ _ _⟩
      · simp [SSt.dom, SSt.bind, upd_ne _ _ he]
    simp only [setL]
    rw [setL_dom r _ (fun x hx => by rw [hd]; exact h x (List.mem_cons_of_mem _ hx)), hd]
theorem SetOK.all : ∀ {l : List (Nat × List CV)}, SetOK σ ρ w' l → ∀ x ∈ l, (∃ B, σ.blks x.1 = some B ∧ B.rw = true) ∧ okC σ.dom x.2 ∧ (∃ T, w'.heap[(ρ x.1).1]? = some (.cells (flat ρ x.2).toArray T (0, 0))) ∧ (ρ x.1).2 = 0
  | (k, cs) :: r, h, x, hx => by
    obtain ⟨h1, h2, h3, h4, h5, h6⟩ := h
    rcases List.mem_cons.1 hx with rfl | hx
    · exact ⟨h1, h2, h4, h5⟩
    · exact SetOK.all h6 x hx

theorem Sat.setL (h : Sat M w0 σ ρ a w) {l : List (Nat × List CV)} (hl : SetOK σ ρ w' l) (hf : Frame' (fun b => ∃ x ∈ l, b = (ρ x.1).1) w w') : Sat M w0 (SX.setL σ l) ρ a w' := by
  have hall := hl.all
  have hdom := setL_dom l σ (fun x hx => by
    obtain ⟨⟨B, hB, _⟩, _⟩ := hall x hx; simp [SSt.dom, hB])
  obtain ⟨e1, e2, e3⟩ := setL_same l σ
  have hcases := setL_blks l σ (fun x hx => (hall x hx).1)
  have old : ∀ k B', (SX.setL σ l).blks k = some B' → ∃ B, σ.blks k = some B ∧ B.rw = B'.rw := by
    intro k B' hk
    rcases hcases k B' hk with ⟨h1, _⟩ | ⟨cs, h1, rfl⟩
    · exact ⟨B', h1, rfl⟩
    · obtain ⟨⟨B, hB, hr⟩, _⟩ := hall _ h1
      exact ⟨B, hB, hr⟩
  exact
  { size := by rw [e2]; exact h.size
    defers := h.defers
    slots := fun t s hs => by rw [e1] at hs; rw [hdom]; exact h.slots t s hs
    named := fun k B' hk => by
      rw [e3, hdom]
      rcases hcases k B' hk with ⟨h1, _⟩ | ⟨cs, h1, rfl⟩
      · exact h.named k B' h1
      · obtain ⟨⟨B, hB, hr⟩, h2, _⟩ := hall _ h1
        exact ⟨(h.named k B hB).1, h2⟩
    blks := fun k B' hk => by
      rcases hcases k B' hk with ⟨h1, h2⟩ | ⟨cs, h1, rfl⟩
      · obtain ⟨c, T, fz, hc, hr⟩ := h.blks k B' h1
        refine ⟨c, T, fz, ?_, hr⟩
        rw [hf.block _ (get_lt hc)]
        · exact hc
        · rintro ⟨x, hx, he⟩
          obtain ⟨⟨B, hB, hrw⟩, _⟩ := hall x hx
          exact h.sep x.1 k B B' (h2 x hx) hB h1 hrw he.symm
      · obtain ⟨⟨B, hB, hr⟩, _, ⟨T, hT⟩, h0⟩ := hall _ h1
        exact ⟨_, T, (0, 0), hT, fun i hi => by rw [h0]; simp, fun _ => ⟨h0, by simp, rfl⟩⟩
    sep := fun k j B' C' hkj hk hj hrw => by
      obtain ⟨B, hB, e⟩ := old k B' hk
      obtain ⟨C, hC, _⟩ := old j C' hj
      exact h.sep k j B C hkj hB hC (e.trans hrw)
    own := fun k B' hk hrw => by
      obtain ⟨B, hB, e⟩ := old k B' hk
      exact h.own k B hB (e.trans hrw)
    grow := h.grow.trans hf fun i hi ⟨x, hx, he⟩ => by
      obtain ⟨⟨B, hB, hrw⟩, _⟩ := hall x hx
      rcases h.own x.1 B hB hrw with ho | ho
      · omega
      · rw [he]; exact ho }

/-! one operation -/
variable {P : Program} {Γ : TyEnv}

def yieldV : Value → Option (Option Bool)
  | .bool b => some (some b)
  | .tuple _ => some none
  | _ => none
/-- what a guard is told: some none: the operation that it asks was left out -/
def yieldS (ops : Array Oper) (σ : SSt) (j : Nat) : Option (Option Bool) :=
  match ops[j]? with
  | some o => match o.dst with
    | some d => match σ.slots d with
      | some (.one (.v x)) => yieldV x
      | _ => none
    | none => none
  | none => none
theorem yieldS_spec (h : Sat M w0 σ ρ a w) {ops : Array Oper} {j : Nat} {b : Option Bool} (hy : yieldS ops σ j = some b) : yielded ops a.tmps j = b := by
  unfold yieldS at hy
  split at hy
  · rename_i o ho
    split at hy
    · rename_i d hd
      split at hy
      · rename_i x hs
        have := (h.slots d _ hs).1
        cases x <;> simp only [yieldV, Option.some.injEq, reduceCtorEq] at hy
        · subst hy; simp [yielded, ho, hd, this, SS.den, SV.den]
        · subst hy; simp [yielded, ho, hd, this, SS.den, SV.den]
      · cases hy
    · cases hy
  · cases hy

def execVC (P : Program) (Γ : TyEnv) (eff : Bool) (nm : Nat) (o : Oper) (σ : SSt) (K : SSt → Prop) : Prop :=
  match opSem Γ σ o.op with
  | .val s side => side ∧ K (σ.put o.dst s)
  | .new cs rw side => side ∧ K ((σ.bind nm ⟨cs, rw⟩).put o.dst (.one (.p nm 0)))
  | .set k cs side => side ∧ K ((σ.bind k ⟨cs, true⟩).put o.dst (.one (.v undef)))
  | .call f args => CallVC P eff f args σ nm fun σ' s => K (σ'.put o.dst s)
  | .bad => False
def dstOK (n : Nat) : Option Tmp → Bool
  | none => true
  | some d => Nat.blt d n
def guardS (ops : Array Oper) (σ : SSt) (o : Oper) : Option Bool :=
  match o.guard with
  | none => some true
  | some (j, true) => match yieldS ops σ j with
    | some (some b) => some b
    | some none => some false
    | none => none
  | some (j, false) => match yieldS ops σ j with
    | some (some b) => some (!b)
    | some none => some false
    | none => none
def stepVC (P : Program) (Γ : TyEnv) (ops : Array Oper) (eff : Bool) (nm : Nat) (o : Oper) (σ : SSt) (K : SSt → Prop) : Prop :=
  match dstOK σ.n o.dst with
  | false => False
  | true => match guardS ops σ o with
    | some g => match g with
      | true => execVC P Γ eff nm o σ K
      | false => K (σ.put o.dst (.one (.v undef)))
    | none => False

theorem guardS_spec (h : Sat M w0 σ ρ a w) {ops : Array Oper} {o : Oper} {g : Bool} (hg : guardS ops σ o = some g) : Region.wanted o (yielded ops a.tmps) = g := by
  unfold guardS at hg
  split at hg
  · rename_i hn; simp only [Option.some.injEq] at hg; subst hg; simp [Region.wanted, hn]
  · rename_i j hn
    split at hg
    · rename_i b hb
      simp only [Option.some.injEq] at hg; subst hg
      have := yieldS_spec h hb
      simp only [Region.wanted, hn, this]; cases b <;> rfl
    · rename_i hb
      simp only [Option.some.injEq] at hg; subst hg
      have := yieldS_spec h hb
      simp only [Region.wanted, hn, this]; rfl
    · cases hg
  · rename_i j hn
    split at hg
    · rename_i b hb
      simp only [Option.some.injEq] at hg; subst hg
      have := yieldS_spec h hb
      simp only [Region.wanted, hn, this]; cases b <;> rfl
    · rename_i hb
      simp only [Option.some.injEq] at hg; subst hg
      have := yieldS_spec h hb
      simp only [Region.wanted, hn, this]; rfl
    · cases hg

/-- what a step leaves of the names -/
def Named (nm : Nat) (σ σ' : SSt) : Prop := σ'.next = σ.next ∧ σ'.n = σ.n ∧ ∀ k, (k < nm ∨ nm + 8 ≤ k) → σ.blks k = none → σ'.blks k = none

theorem Act.put_undef (a : Act) (d : Option Tmp) (ρ : Rho) : a.put d undef = a.put d ((SS.one (.v undef)).den ρ) := rfl

theorem bindL_named : ∀ (Bs : List Blk) (σ : SSt) (nm : Nat), (bindL σ nm Bs).next = σ.next ∧ (bindL σ nm Bs).n = σ.n ∧ ∀ k, (k < nm ∨ nm + Bs.length ≤ k) → (bindL σ nm Bs).blks k = σ.blks k
  | [], σ, nm => ⟨rfl, rfl, fun _ _ => rfl⟩
  | B :: Bs, σ, nm => by
    obtain ⟨h1, h2, h3⟩ := bindL_named Bs (σ.bind nm B) (nm + 1)
    refine ⟨h1, h2, fun k hk => ?_⟩
    simp only [bindL]
    rw [h3 k (by simp at hk; omega)]
    simp only [SSt.bind]
    rw [upd_ne _ _ (by simp at hk; omega)]

theorem step_sound (hΓ : TyOK P Γ) {ops : Array Oper} {eff : Bool} {nm : Nat} {o : Oper} {K : SSt → Prop} (hfree : ∀ j, j < 8 → σ.blks (nm + j) = none ∧ nm + j < σ.next)
    (h : Sat M w0 σ ρ a w) (hvc : stepVC P Γ ops eff nm o σ K) {next : Act → World → Prop} {Q : Exit → Act → World → Prop}
    (hnext : ∀ σ' ρ' a' w', K σ' → Sat M w0 σ' ρ' a' w' → Named nm σ σ' → next a' w') :
    if Region.wanted o (yielded ops a.tmps) then o.wp P a w next Q else next (a.put o.dst undef) w := by
  unfold stepVC at hvc
  split at hvc
  · exact hvc.elim
  · rename_i hdst
    have hd : ∀ t, o.dst = some t → t < σ.n := by
      intro t ht
      rw [ht] at hdst
      simpa [dstOK, Nat.blt_eq] using hdst
    split at hvc
    · rename_i g hg
      rw [guardS_spec h hg]
      cases g with
      | false =>
        rw [if_neg (by simp)]
        rw [Act.put_undef a o.dst ρ]
        refine hnext _ _ _ _ hvc (h.put (s := .one (.v undef)) trivial hd) ⟨?_, ?_, ?_⟩ <;> cases o.dst <;> first | rfl | exact fun _ _ h => h
      | true =>
        rw [if_pos rfl]
        have hop := opSem_spec hΓ h o
        simp only [execVC] at hvc
        unfold Oper.wp
        split at hvc
        · rename_i s side hs
          rw [hs] at hop
          obtain ⟨h1, h2⟩ := hop hvc.1
          rw [h1, Oper.upon_value]
          refine hnext _ _ _ _ hvc.2 (h.put h2 hd) ⟨?_, ?_, ?_⟩ <;> cases o.dst <;> first | rfl | exact fun _ _ h => h
        · rename_i cs rw' side hs
          rw [hs] at hop
          obtain ⟨h1, T, h2⟩ := hop hvc.1
          rw [h2, Oper.upon_value]
          obtain ⟨f1, f2⟩ := hfree 0 (by omega)
          have hnew := h.new (nm := nm) (by simpa using f1) (by simpa using f2) (rw' := rw') h1 T
          have hput := hnew.put (d := o.dst) (s := .one (.p nm 0)) (dom_bind_self _ _ _) hd
          have hden : (SS.one (.p nm 0)).den (upd ρ nm (w.heap.size, 0)) = .pointer (some ⟨w.heap.size, 0, none⟩) := by simp [SS.den, SV.den, upd_same]
          rw [hden] at hput
          refine hnext _ _ _ _ hvc.2 hput ⟨?_, ?_, ?_⟩
          · cases o.dst <;> rfl
          · cases o.dst <;> rfl
          · intro k hk hkn
            have : (σ.bind nm ⟨cs, rw'⟩).blks k = none := by simp only [SSt.bind]; rw [upd_ne _ _ (by omega)]; exact hkn
            cases o.dst <;> exact this
        · rename_i k cs side hs
          rw [hs] at hop
          obtain ⟨B, E, h1, h2, h3, h4, h5⟩ := hop hvc.1
          rw [h5, Oper.upon_skip, Act.put_undef a o.dst ρ]
          have hset := (h.set h1 h2 h3 h4 E).put (d := o.dst) (s := .one (.v undef)) trivial hd
          refine hnext _ _ _ _ hvc.2 hset ⟨?_, ?_, ?_⟩
          · cases o.dst <;> rfl
          · cases o.dst <;> rfl
          · intro j hj hjn
            have : (σ.bind k ⟨cs, true⟩).blks j = none := by
              by_cases he : j = k
              · subst he; rw [h1] at hjn; cases hjn
              · simp only [SSt.bind]; rw [upd_ne _ _ he]; exact hjn
            cases o.dst <;> exact this
        · rename_i f args hs
          rw [hs] at hop
          obtain ⟨h1, h2⟩ := hop
          obtain ⟨Y, res, sets, news, cond, hinv, hK⟩ := hvc
          have after : ∀ v w', (∃ y bs, cond y ∧ v = (res y).den (rhoL ρ nm bs) ∧ Frame' (fun b => ∃ x ∈ sets y, b = (ρ x.1).1) w w' ∧ SetOK σ ρ w' (sets y) ∧ NewOK w w' ρ nm bs (news y)) →
              next (a.put o.dst v) w' := by
            rintro v w' ⟨y, bs, hc, rfl, hf, hset, hnew⟩
            obtain ⟨_, hlen, hok, hres, hk⟩ := hK y hc
            have s1 := h.setL hset hf
            obtain ⟨e1, e2, e3⟩ := setL_same (sets y) σ
            have hcases := setL_blks (sets y) σ (fun x hx => (hset.all x hx).1)
            have hnone : ∀ k, σ.blks k = none → (setL σ (sets y)).blks k = none := by
              intro k hk
              cases hb : (setL σ (sets y)).blks k with
              | none => rfl
              | some B' =>
                rcases hcases k B' hb with ⟨q, _⟩ | ⟨cs, q, _⟩
                · rw [hk] at q; cases q
                · obtain ⟨⟨B, hB, _⟩, _⟩ := hset.all _ q
                  simp only at hB; rw [hk] at hB; cases hB
            suffices hk0 : ∀ k C, (setL σ (sets y)).blks k = some C → (ρ k).1 ∉ bs from ?_
            · have s2 := Sat.bindL (w1 := w) (news y) bs _ _ nm s1 (fun j hj => ⟨hnone _ (hfree j (by omega)).1, by rw [e3]; exact (hfree j (by omega)).2⟩) hok hnew hk0 h.grow.size
              obtain ⟨b1, b2, b3⟩ := bindL_named (news y) (setL σ (sets y)) nm
              have s3 := s2.put (d := o.dst) (s := res y) hres (by rw [b2, e2]; exact hd)
              refine hnext _ _ _ _ hk s3 ⟨?_, ?_, ?_⟩
              · cases o.dst <;> exact b1.trans e3
              · cases o.dst <;> exact b2.trans e2
              · intro k hk hkn
                have : (bindL (setL σ (sets y)) nm (news y)).blks k = none := by rw [b3 k (by omega)]; exact hnone k hkn
                cases o.dst <;> exact this
            · intro k C hk hm
              have hlt : (ρ k).1 < w.heap.size := by
                rcases hcases k C hk with ⟨q, _⟩ | ⟨cs, q, _⟩
                · exact h.lt q
                · obtain ⟨⟨B, hB, _⟩, _⟩ := hset.all _ q
                  exact h.lt hB
              have hge : ∀ (Bs : List Blk) (bs : List Nat) (ρ : Rho) (nm : Nat), NewOK w w' ρ nm bs Bs → ∀ b ∈ bs, w.heap.size ≤ b := by
                intro Bs
                induction Bs with
                | nil => intro bs ρ nm hn b hb; cases bs <;> simp [NewOK] at hn hb
                | cons B Bs ih =>
                  intro bs ρ nm hn b hb
                  cases bs with
                  | nil => simp at hb
                  | cons c bs =>
                    obtain ⟨n1, _, _, n4⟩ := hn
                    rcases List.mem_cons.1 hb with rfl | hb
                    · exact n1
                    · exact ih bs _ _ n4 b hb
              have := hge _ _ _ _ hnew _ hm
              omega
          have hrun := hinv ρ w h.mem
          cases f with
          | fn f =>
            simp only at h1
            rw [h1]
            rcases hrun with ⟨h3, h4⟩ | ⟨v, w', h3, h4⟩
            · rw [h3, Oper.upon_enter]
              refine h4.mono ?_
              rintro e w' ⟨v, rfl, hr⟩
              exact after v w' hr
            · rw [h3, Oper.upon_value]
              exact after v w' h4
          | op p =>
            obtain ⟨h1, h5⟩ := h1
            rcases hrun a.eval o h1.symm h5 with ⟨v, w', h3, h4⟩ | ⟨f, as, h3, h4⟩
            · rcases h3 with h3 | ⟨h3, rfl⟩
              · rw [h3, Oper.upon_value]; exact after v w' h4
              · rw [h3, Oper.upon_skip]; exact after undef w' h4
            · rw [h3]
              rcases h4 with ⟨h3, h4⟩ | ⟨v, w', h3, h4⟩
              · rw [h3, Oper.upon_enter]
                refine h4.mono ?_
                rintro e w' ⟨v, rfl, hr⟩
                exact after v w' hr
              · rw [h3, Oper.upon_value]
                exact after v w' h4
        · exact hvc.elim
    · exact hvc.elim
end
end Go.SX
