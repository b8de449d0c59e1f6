/- SxSwap: a part of the proof: lemmas alone, of no statement. -/
import Derived.Test.YthjpppgibdfaeaaSxOrder
namespace Go.SX
open Go.RowKit

def SSt.bindO (σ : SSt) (nm : Nat) : Option Blk → SSt
  | none => σ
  | some B => σ.bind nm B

/-- an operation that makes no call and no store: its block, its value, its side condition -/
def freeOut (Γ : TyEnv) (ops : Array Oper) (nm : Nat) (o : Oper) (σ : SSt) : Option (Option Blk × SS × Prop) :=
  match dstOK σ.n o.dst with
  | false => none
  | true => match guardS ops σ o with
    | some true => match opSem Γ σ o.op with
      | .val s side => some (none, s, side)
      | .new cs rw side => some (some ⟨cs, rw⟩, .one (.p nm 0), side)
      | _ => none
    | some false => some (none, .one (.v undef), True)
    | none => none
def isFree (o : Oper) : Prop := kindOf o.op = .val ∨ kindOf o.op = .new

section
variable {P : Program} {Γ : TyEnv} {ops : Array Oper} {eff : Bool}

theorem stepVC_free {nm : Nat} {o : Oper} {σ : SSt} {K : SSt → Prop} (h : isFree o) :
    stepVC P Γ ops eff nm o σ K ↔ ∃ b s p, freeOut Γ ops nm o σ = some (b, s, p) ∧ p ∧ K ((σ.bindO nm b).put o.dst s) := by
  unfold stepVC freeOut
  cases dstOK σ.n o.dst with
  | false => simp
  | true =>
    dsimp only
    cases guardS ops σ o with
    | none => simp
    | some g =>
      cases g with
      | false =>
        dsimp only
        exact ⟨fun hk => ⟨none, _, _, rfl, trivial, hk⟩, fun ⟨b, s, p, he, _, hk⟩ => by
          simp only [Option.some.injEq, Prod.mk.injEq] at he
          obtain ⟨rfl, rfl, rfl⟩ := he
          exact hk⟩
      | true =>
        dsimp only [execVC]
        rcases h with h | h
        · rcases kind_val (Γ := Γ) (σ := σ) h with ⟨s, side, ho⟩ | ho
          · rw [ho]
            exact ⟨fun hk => ⟨none, _, _, rfl, hk.1, hk.2⟩, fun ⟨b, s, p, he, hp, hk⟩ => by
              simp only [Option.some.injEq, Prod.mk.injEq] at he
              obtain ⟨rfl, rfl, rfl⟩ := he
              exact ⟨hp, hk⟩⟩
          · rw [ho]; simp
        · rcases kind_new (Γ := Γ) (σ := σ) h with ⟨cs, rw', side, ho⟩ | ho
          · rw [ho]
            exact ⟨fun hk => ⟨some _, _, _, rfl, hk.1, hk.2⟩, fun ⟨b, s, p, he, hp, hk⟩ => by
              simp only [Option.some.injEq, Prod.mk.injEq] at he
              obtain ⟨rfl, rfl, rfl⟩ := he
              exact ⟨hp, hk⟩⟩
          · rw [ho]; simp

theorem put_slots_ne (σ : SSt) {d : Option Tmp} {s : SS} {t : Nat} (h : ∀ e, d = some e → t ≠ e) : (σ.put d s).slots t = σ.slots t := by
  cases d with
  | none => rfl
  | some e => exact upd_ne _ _ (h e rfl)
theorem put_blks (σ : SSt) (d : Option Tmp) (s : SS) : (σ.put d s).blks = σ.blks := by cases d <;> rfl
theorem put_n (σ : SSt) (d : Option Tmp) (s : SS) : (σ.put d s).n = σ.n := by cases d <;> rfl
theorem put_next (σ : SSt) (d : Option Tmp) (s : SS) : (σ.put d s).next = σ.next := by cases d <;> rfl
theorem bindO_slots (σ : SSt) (nm : Nat) (b : Option Blk) : (σ.bindO nm b).slots = σ.slots := by cases b <;> rfl
theorem bindO_n (σ : SSt) (nm : Nat) (b : Option Blk) : (σ.bindO nm b).n = σ.n := by cases b <;> rfl
theorem bindO_blks (σ : SSt) {nm k : Nat} (b : Option Blk) (h : k ≠ nm) : (σ.bindO nm b).blks k = σ.blks k := by
  cases b with
  | none => rfl
  | some B => exact upd_ne _ _ h
theorem put_comm (σ : SSt) {d e : Option Tmp} (s t : SS) (h : ∀ x, d = some x → e ≠ some x) : (σ.put d s).put e t = (σ.put e t).put d s := by
  cases d with
  | none => rfl
  | some d =>
    cases e with
    | none => rfl
    | some e =>
      simp only [SSt.put]
      rw [upd_comm]
      exact fun he => h d rfl (by rw [he])
theorem put_bindO (σ : SSt) (d : Option Tmp) (s : SS) (nm : Nat) (b : Option Blk) : (σ.put d s).bindO nm b = (σ.bindO nm b).put d s := by
  cases d <;> cases b <;> rfl
theorem bindO_comm (σ : SSt) {nm nm' : Nat} (b b' : Option Blk) (h : nm ≠ nm') : (σ.bindO nm b).bindO nm' b' = (σ.bindO nm' b').bindO nm b := by
  cases b <;> cases b' <;> first | rfl | skip
  simp only [SSt.bindO, SSt.bind]
  rw [upd_comm _ _ _ h]
theorem put_bindL : ∀ (Bs : List Blk) (σ : SSt) (d : Option Tmp) (s : SS) (nm : Nat), bindL (σ.put d s) nm Bs = (bindL σ nm Bs).put d s
  | [], _, _, _, _ => rfl
  | B :: Bs, σ, d, s, nm => by
    have : (σ.put d s).bind nm B = (σ.bind nm B).put d s := by cases d <;> rfl
    simp only [bindL, this, put_bindL Bs]
theorem bind_bindL : ∀ (Bs : List Blk) (σ : SSt) (k : Nat) (C : Blk) (nm : Nat), (k < nm ∨ nm + Bs.length ≤ k) → bindL (σ.bind k C) nm Bs = (bindL σ nm Bs).bind k C
  | [], _, _, _, _, _ => rfl
  | B :: Bs, σ, k, C, nm, h => by
    have : (σ.bind k C).bind nm B = (σ.bind nm B).bind k C := by
      simp only [SSt.bind]
      rw [upd_comm _ _ _ (by simp at h; omega)]
    simp only [bindL, this]
    exact bind_bindL Bs _ k C (nm + 1) (by simp at h; omega)
theorem bindO_bindL (Bs : List Blk) (σ : SSt) (k : Nat) (b : Option Blk) (nm : Nat) (h : k < nm ∨ nm + Bs.length ≤ k) : bindL (σ.bindO k b) nm Bs = (bindL σ nm Bs).bindO k b := by
  cases b with
  | none => rfl
  | some C => exact bind_bindL Bs σ k C nm h
theorem okL_mono : ∀ (Bs : List Blk) (σ τ : SSt) (nm : Nat), (∀ k, σ.dom k → τ.dom k) → okL σ nm Bs → okL τ nm Bs
  | [], _, _, _, _, _ => trivial
  | B :: Bs, σ, τ, nm, hd, h => by
    have : ∀ k, (σ.bind nm B).dom k → (τ.bind nm B).dom k := by
      intro k hk
      by_cases he : k = nm
      · subst he; exact dom_bind_self _ _ _
      · simp only [SSt.dom, SSt.bind, upd_ne _ _ he] at hk ⊢
        exact hd k hk
    exact ⟨okC_mono this h.1, okL_mono Bs _ _ _ this h.2⟩

/-- one operation's slots are no other's business -/
theorem looks_ops {x y : Oper} (h : x.apart ops y = true) {σ σ' : SSt} (hs : ∀ t, (∀ d, x.dst = some d → t ≠ d) → σ'.slots t = σ.slots t) :
    (∀ z ∈ y.op.operands.toList, ∀ t, z = .tmp t → σ'.slots t = σ.slots t) ∧ guardS ops σ' y = guardS ops σ y := by
  obtain ⟨h1, h2, h3⟩ := Oper.apart_spec h
  constructor
  · rintro z hz t rfl
    refine hs t fun d hd he => h1 d hd ?_
    subst he
    simp only [Oper.looksAt, List.mem_append, List.mem_filterMap]
    exact .inl ⟨_, hz, rfl⟩
  · have hy : ∀ j b, y.guard = some (j, b) → yieldS ops σ' j = yieldS ops σ j := by
      intro j b hg
      unfold yieldS
      cases ho : ops[j]? with
      | none => rfl
      | some o =>
        dsimp only
        cases hd : o.dst with
        | none => rfl
        | some e =>
          dsimp only
          rw [hs e (fun d hd' he => h1 d hd' (by
            subst he
            simp [Oper.looksAt, hg, ho, hd]))]
    unfold guardS
    cases hg : y.guard with
    | none => rfl
    | some p =>
      obtain ⟨j, b⟩ := p
      cases b <;> dsimp only <;> rw [hy j _ hg]

theorem freeOut_local {nm : Nat} {x y : Oper} (h : x.apart ops y = true) (hy : isFree y) {σ σ' : SSt} (hs : ∀ t, (∀ d, x.dst = some d → t ≠ d) → σ'.slots t = σ.slots t)
    (hb : ∀ k, σ.dom k → σ'.blks k = σ.blks k) (hn : σ'.n = σ.n) (hc : ∀ t s, σ.slots t = some s → s.ok σ.dom) : freeOut Γ ops nm y σ' = freeOut Γ ops nm y σ := by
  obtain ⟨h1, h2⟩ := looks_ops h hs
  unfold freeOut
  rw [hn, h2, opSem_local hc hb y.op h1 (by rcases hy with hy | hy <;> rw [hy] <;> intro e <;> cases e)]

variable {M : Nat → Prop} {w0 w : World} {ρ : Rho} {a : Act} {σ : SSt}

/-- a free operation, carried out -/
theorem Sat.free (hΓ : TyOK P Γ) (h : Sat M w0 σ ρ a w) {nm : Nat} {o : Oper} {b : Option Blk} {s : SS} {p : Prop} (hf : freeOut Γ ops nm o σ = some (b, s, p)) (hp : p)
    (hnm : σ.blks nm = none ∧ nm < σ.next) : ∃ ρ' a' w', Sat M w0 ((σ.bindO nm b).put o.dst s) ρ' a' w' := by
  unfold freeOut at hf
  split at hf
  · cases hf
  · rename_i hdst
    have hd : ∀ t, o.dst = some t → t < σ.n := by
      intro t ht
      rw [ht] at hdst
      simpa [dstOK, Nat.blt_eq] using hdst
    split at hf
    · have hop := opSem_spec hΓ h o
      split at hf
      · rename_i s' side ho
        simp only [Option.some.injEq, Prod.mk.injEq] at hf
        obtain ⟨rfl, rfl, rfl⟩ := hf
        rw [ho] at hop
        exact ⟨ρ, _, w, h.put (hop hp).2 hd⟩
      · rename_i cs rw' side ho
        simp only [Option.some.injEq, Prod.mk.injEq] at hf
        obtain ⟨rfl, rfl, rfl⟩ := hf
        rw [ho] at hop
        obtain ⟨h1, T, _⟩ := hop hp
        exact ⟨_, _, _, (h.new hnm.1 hnm.2 (rw' := rw') h1 T).put (d := o.dst) (s := .one (.p nm 0)) (dom_bind_self _ _ _) hd⟩
      · cases hf
    · simp only [Option.some.injEq, Prod.mk.injEq] at hf
      obtain ⟨rfl, rfl, rfl⟩ := hf
      exact ⟨ρ, _, w, h.put (s := .one (.v undef)) trivial hd⟩
    · cases hf

theorem apart_symm {x y : Oper} (h : x.apart ops y = true) : y.apart ops x = true := by
  obtain ⟨h1, h2, h3⟩ := Oper.apart_spec h
  unfold Oper.apart
  simp only [Bool.and_eq_true]
  constructor
  · cases hy : y.dst with
    | none => rfl
    | some d =>
      simp only [Bool.and_eq_true, Bool.not_eq_true', bne_iff_ne, ne_eq]
      refine ⟨?_, fun he => h2 d he hy⟩
      have := h3 d hy
      simpa using this
  · cases hx : x.dst with
    | none => rfl
    | some d =>
      have := h1 d hx
      simpa using this

theorem swap_free (h : Sat M w0 σ ρ a w) {ny nx : Nat} {x y : Oper} (hy : isFree y) (hx : isFree x) (hap : y.apart ops x = true) (hne : ny ≠ nx)
    (hfy : σ.blks ny = none) (hfx : σ.blks nx = none) {K : SSt → Prop} (hvc : stepVC P Γ ops eff ny y σ fun σ1 => stepVC P Γ ops eff nx x σ1 K) :
    stepVC P Γ ops eff nx x σ fun σ1 => stepVC P Γ ops eff ny y σ1 K := by
  obtain ⟨by', sy, py, e1, p1, hvc⟩ := (stepVC_free hy).1 hvc
  obtain ⟨bx, sx, px, e2, p2, hk⟩ := (stepVC_free hx).1 hvc
  have hc : ∀ t s, σ.slots t = some s → s.ok σ.dom := fun t s hs => (h.slots t s hs).2
  have ex : freeOut Γ ops nx x σ = some (bx, sx, px) := by
    rw [← e2]
    refine (freeOut_local hap hx (fun t ht => ?_) (fun k hk' => ?_) ?_ hc).symm
    · rw [put_slots_ne _ ht, bindO_slots]
    · rw [put_blks, bindO_blks _ _ (fun e => by subst e; simp [SSt.dom, hfy] at hk')]
    · rw [put_n, bindO_n]
  have ey : freeOut Γ ops ny y ((σ.bindO nx bx).put x.dst sx) = some (by', sy, py) := by
    rw [← e1]
    refine freeOut_local (apart_symm hap) hy (fun t ht => ?_) (fun k hk' => ?_) ?_ hc
    · rw [put_slots_ne _ ht, bindO_slots]
    · rw [put_blks, bindO_blks _ _ (fun e => by subst e; simp [SSt.dom, hfx] at hk')]
    · rw [put_n, bindO_n]
  refine (stepVC_free hx).2 ⟨bx, sx, px, ex, p2, (stepVC_free hy).2 ⟨by', sy, py, ey, p1, ?_⟩⟩
  have : (((σ.bindO nx bx).put x.dst sx).bindO ny by').put y.dst sy = (((σ.bindO ny by').put y.dst sy).bindO nx bx).put x.dst sx := by
    rw [put_bindO, put_bindO, bindO_comm _ _ _ (Ne.symm hne)]
    refine put_comm _ _ _ fun d hd he => ?_
    obtain ⟨_, h2, _⟩ := Oper.apart_spec hap
    exact h2 d he hd
  rw [this]; exact hk

theorem MSat.weaken {σ σ' : SSt} (hb : ∀ k B, σ.blks k = some B → σ'.blks k = some B) {ρ : Rho} {w : World} (h : MSat σ' ρ w) : MSat σ ρ w :=
  ⟨fun k B hk => h.blks k B (hb k B hk), fun k l B C hkl hk hl => h.sep k l B C hkl (hb k B hk) (hb l C hl), fun k B hk => h.ok k B (hb k B hk)⟩

theorem stepVC_call {nm : Nat} {o : Oper} {σ : SSt} {K : SSt → Prop} (h : kindOf o.op = .call) :
    stepVC P Γ ops eff nm o σ K ↔ dstOK σ.n o.dst = true ∧ ((guardS ops σ o = some false ∧ K (σ.put o.dst (.one (.v undef)))) ∨
      (guardS ops σ o = some true ∧ ∃ f args, opSem Γ σ o.op = .call f args ∧ CallVC P eff f args σ nm fun σ' s => K (σ'.put o.dst s))) := by
  unfold stepVC
  cases dstOK σ.n o.dst with
  | false => simp
  | true =>
    dsimp only
    cases guardS ops σ o with
    | none => simp
    | some g =>
      cases g with
      | false => simp
      | true =>
        dsimp only [execVC]
        rcases kind_call (Γ := Γ) (σ := σ) h with ⟨f, args, ho⟩ | ho
        · rw [ho]
          exact ⟨fun hv => ⟨rfl, .inr ⟨rfl, f, args, rfl, hv⟩⟩, fun ⟨_, hv⟩ => by
            rcases hv with ⟨h1, _⟩ | ⟨_, f', args', he, hv⟩
            · cases h1
            · simp only [Out.call.injEq] at he
              obtain ⟨rfl, rfl⟩ := he
              exact hv⟩
        · rw [ho]; simp

/-- a call ahead of an operation that only reads -/
theorem swap_val_call (h : Sat M w0 σ ρ a w) {ny nx : Nat} {x y : Oper} (hy : kindOf y.op = .val) (hx : kindOf x.op = .call) (hap : y.apart ops x = true)
    (hfx : ∀ j, j < 8 → σ.blks (nx + j) = none) {K : SSt → Prop} (hvc : stepVC P Γ ops false ny y σ fun σ1 => stepVC P Γ ops false nx x σ1 K) :
    stepVC P Γ ops false nx x σ fun σ1 => stepVC P Γ ops false ny y σ1 K := by
  have hyf : isFree y := .inl hy
  obtain ⟨by', sy, py, e1, p1, hvc⟩ := (stepVC_free hyf).1 hvc
  have hby : by' = none := by
    unfold freeOut at e1
    split at e1
    · cases e1
    · split at e1
      · rcases kind_val (Γ := Γ) (σ := σ) hy with ⟨s, side, ho⟩ | ho
        · rw [ho] at e1; simp only [Option.some.injEq, Prod.mk.injEq] at e1; exact e1.1.symm
        · rw [ho] at e1; simp at e1
      · simp only [Option.some.injEq, Prod.mk.injEq] at e1; exact e1.1.symm
      · cases e1
  subst hby
  simp only [SSt.bindO] at hvc
  have hc : ∀ t s, σ.slots t = some s → s.ok σ.dom := fun t s hs => (h.slots t s hs).2
  obtain ⟨hl, hg⟩ := looks_ops (σ := σ) (σ' := σ.put y.dst sy) hap (fun t ht => put_slots_ne _ ht)
  have hop : opSem Γ (σ.put y.dst sy) x.op = opSem Γ σ x.op := opSem_local hc (fun k _ => by rw [put_blks]) x.op hl (by rw [hx]; intro e; cases e)
  obtain ⟨hd, hcase⟩ := (stepVC_call hx).1 hvc
  rw [put_n] at hd
  rw [hg, hop] at hcase
  have hcomm : ∀ (τ : SSt) (s : SS), (τ.put y.dst sy).put x.dst s = (τ.put x.dst s).put y.dst sy := fun τ s => put_comm _ _ _ fun d hd' he => by
    obtain ⟨_, h2, _⟩ := Oper.apart_spec hap
    exact h2 d hd' he
  refine (stepVC_call hx).2 ⟨hd, ?_⟩
  rcases hcase with ⟨hg', hk⟩ | ⟨hg', f, args, ho, Y, res, sets, news, cond, hinv, hK⟩
  · refine .inl ⟨hg', (stepVC_free hyf).2 ⟨none, sy, py, ?_, p1, ?_⟩⟩
    · rw [← e1]
      exact freeOut_local (apart_symm hap) hyf (fun t ht => put_slots_ne _ ht) (fun k _ => by rw [put_blks]) (put_n _ _ _) hc
    · simp only [SSt.bindO]; rw [← hcomm]; exact hk
  · refine .inr ⟨hg', f, args, ho, Y, res, sets, news, cond, fun ρ w hm => ?_, fun y0 hy0 => ?_⟩
    · refine (hinv ρ w (MSat.weaken (fun k B hk => by rw [put_blks] at hk; exact hk) hm)).mono ?_
      rintro v w' ⟨y0, bs, c1, c2, c3, c4, c5⟩
      refine ⟨y0, bs, c1, c2, c3, ?_, c5⟩
      rw [(hK y0 c1).1 rfl]; trivial
    · obtain ⟨k1, k2, k3, k4, k5⟩ := hK y0 hy0
      have hs0 := k1 rfl
      rw [hs0] at k3 k4 k5
      refine ⟨k1, k2, ?_, ?_, ?_⟩
      · rw [hs0]; exact okL_mono _ _ _ _ (fun k hk => by simpa [SSt.dom, put_blks, setL] using hk) k3
      · rw [hs0]; simp only [setL, put_bindL, dom_put] at k4 ⊢; exact k4
      · rw [hs0]
        simp only [setL, put_bindL] at k5 ⊢
        refine (stepVC_free hyf).2 ⟨none, sy, py, ?_, p1, ?_⟩
        · rw [← e1]
          obtain ⟨_, b2, b3⟩ := bindL_named (news y0) σ nx
          refine freeOut_local (apart_symm hap) hyf (fun t ht => ?_) (fun k hk => ?_) ?_ hc
          · rw [put_slots_ne _ ht]
            exact congrFun (bindL_slots (news y0) σ nx) t
          · rw [put_blks]
            refine b3 k ?_
            rcases Nat.lt_or_ge k nx with hlt | hge
            · exact .inl hlt
            · right
              rcases Nat.lt_or_ge k (nx + 8) with hlt | hge'
              · have := hfx (k - nx) (by omega)
                rw [show nx + (k - nx) = k from by omega] at this
                simp [SSt.dom, this] at hk
              · omega
          · rw [put_n]; exact b2
        · simp only [SSt.bindO]; rw [← hcomm]; exact k5
where
  bindL_slots : ∀ (Bs : List Blk) (σ : SSt) (nm : Nat), (bindL σ nm Bs).slots = σ.slots
    | [], _, _ => rfl
    | B :: Bs, σ, nm => bindL_slots Bs (σ.bind nm B) (nm + 1)
end
end Go.SX
