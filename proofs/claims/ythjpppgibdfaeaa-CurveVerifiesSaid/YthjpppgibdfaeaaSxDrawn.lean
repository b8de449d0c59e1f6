/- SxDrawn: a part of the proof: lemmas alone, of no statement. -/
import Derived.Test.YthjpppgibdfaeaaSxSwap
namespace Go.SX
open Go.RowKit

section
variable {P : Program} {Γ : TyEnv} {ops : Array Oper}
variable {M : Nat → Prop} {w0 w : World} {ρ : Rho} {a : Act} {σ : SSt}

theorem opSem_given (h : Sat M w0 σ ρ a w) {o : Op} {f : Cal} {args : List SV} (ho : opSem Γ σ o = .call f args) : CalGiven f a.eval (args.map (SV.den ρ)) := by
  have oth : ∀ o : Op, opOther σ o = .call f args → CalGiven f a.eval (args.map (SV.den ρ)) := by
    intro o ho
    unfold opOther at ho
    split at ho
    · rename_i l hl
      simp only [Out.call.injEq] at ho
      obtain ⟨rfl, rfl⟩ := ho
      exact (rdAll_spec h hl).1
    · cases ho
  cases hk : kindOf o with
  | val => have := kind_val' (Γ := Γ) (σ := σ) hk; rw [ho] at this; exact this.elim
  | new => have := kind_new' (Γ := Γ) (σ := σ) hk; rw [ho] at this; exact this.elim
  | set => have := kind_set (Γ := Γ) (σ := σ) hk; rw [ho] at this; exact this.elim
  | call =>
    cases o <;> first | (simp [kindOf] at hk; done) | exact oth _ ho | skip
    case ready g => exact oth (.ready g) ho
    case waits g => exact oth (.waits g) ho
    case call c =>
      obtain ⟨callee, as, argTypes⟩ := c
      simp only [opSem] at ho
      split at ho
      · split at ho
        · simp only [Out.call.injEq] at ho
          obtain ⟨rfl, rfl⟩ := ho
          trivial
        · cases ho
      · simp [kindOf] at hk
      · exact oth _ ho

theorem bindL_slots (Bs : List Blk) (σ : SSt) (nm : Nat) : (bindL σ nm Bs).slots = σ.slots := swap_val_call.bindL_slots Bs σ nm

theorem bindL_dom {Bs : List Blk} {nm : Nat} (hlen : Bs.length ≤ 8) (hf : ∀ j, j < 8 → σ.blks (nm + j) = none) : ∀ k, σ.dom k → (bindL σ nm Bs).blks k = σ.blks k := by
  intro k hk
  obtain ⟨_, _, b3⟩ := bindL_named Bs σ nm
  refine b3 k ?_
  rcases Nat.lt_or_ge k nm with hlt | hge
  · exact .inl hlt
  · right
    rcases Nat.lt_or_ge k (nm + 8) with hlt | hge'
    · have := hf (k - nm) (by omega)
      rw [show nm + (k - nm) = k from by omega] at this
      simp [SSt.dom, this] at hk
    · omega

/-- a free operation ahead of a call that does not wait for it -/
theorem swap_call_free (h : Sat M w0 σ ρ a w) {ny nx : Nat} {x y : Oper} (hy : kindOf y.op = .call) (hx : isFree x) (hap : y.apart ops x = true)
    (hfy : ∀ j, j < 8 → σ.blks (ny + j) = none) (hfx : σ.blks nx = none) (hne : nx < ny ∨ ny + 8 ≤ nx) {K : SSt → Prop}
    (hvc : stepVC P Γ ops false ny y σ fun σ1 => stepVC P Γ ops false nx x σ1 K) :
    stepVC P Γ ops false nx x σ fun σ1 => stepVC P Γ ops false ny y σ1 K := by
  have hc : ∀ t s, σ.slots t = some s → s.ok σ.dom := fun t s hs => (h.slots t s hs).2
  obtain ⟨hd, hcase⟩ := (stepVC_call hy).1 hvc
  have hcomm : ∀ (τ : SSt) (s t : SS), (τ.put y.dst s).put x.dst t = (τ.put x.dst t).put y.dst s := fun τ s t => put_comm _ _ _ fun d hd' he => by
    obtain ⟨_, h2, _⟩ := Oper.apart_spec hap
    exact h2 d hd' he
  -- what x does, whatever y has done
  have xloc : ∀ (Bs : List Blk) (s : SS), Bs.length ≤ 8 → freeOut Γ ops nx x ((bindL σ ny Bs).put y.dst s) = freeOut Γ ops nx x σ := by
    intro Bs s hlen
    refine freeOut_local hap hx (fun t ht => ?_) (fun k hk => ?_) ?_ hc
    · rw [put_slots_ne _ ht, bindL_slots]
    · rw [put_blks]; exact bindL_dom hlen hfy k hk
    · rw [put_n]; exact (bindL_named Bs σ ny).2.1
  have xloc' : ∀ s : SS, freeOut Γ ops nx x (σ.put y.dst s) = freeOut Γ ops nx x σ := fun s => xloc [] s (by simp)
  have xsome : ∃ b s p, freeOut Γ ops nx x σ = some (b, s, p) ∧ p := by
    rcases hcase with ⟨_, hk⟩ | ⟨_, f, args, hfa, Y, res, sets, news, cond, hinv, hK⟩
    · obtain ⟨b, s, p, e, hp, _⟩ := (stepVC_free hx).1 hk
      rw [xloc'] at e
      exact ⟨b, s, p, e, hp⟩
    · obtain ⟨v, w', y0, bs, c1, _⟩ := (hinv ρ w h.mem).some (opSem_given h hfa)
      obtain ⟨k1, k2, k3, k4, k5⟩ := hK y0 c1
      rw [k1 rfl] at k5
      obtain ⟨b, s, p, e, hp, _⟩ := (stepVC_free hx).1 k5
      simp only [setL] at e
      rw [xloc _ _ k2] at e
      exact ⟨b, s, p, e, hp⟩
  obtain ⟨b, s, p, e, hp⟩ := xsome
  refine (stepVC_free hx).2 ⟨b, s, p, e, hp, ?_⟩
  -- y behind x
  have hbk : ∀ k, σ.dom k → ((σ.bindO nx b).put x.dst s).blks k = σ.blks k := fun k hk => by
    rw [put_blks, bindO_blks _ _ (fun e => by subst e; simp [SSt.dom, hfx] at hk)]
  obtain ⟨hl, hg⟩ := looks_ops (σ := σ) (σ' := (σ.bindO nx b).put x.dst s) (apart_symm hap) (fun t ht => by rw [put_slots_ne _ ht, bindO_slots])
  have hop : opSem Γ ((σ.bindO nx b).put x.dst s) y.op = opSem Γ σ y.op := opSem_local hc hbk y.op hl (by rw [hy]; intro e; cases e)
  refine (stepVC_call hy).2 ⟨by rw [put_n, bindO_n]; exact hd, ?_⟩
  rw [hg, hop]
  rcases hcase with ⟨hg', hk⟩ | ⟨hg', f, args, ho, Y, res, sets, news, cond, hinv, hK⟩
  · refine .inl ⟨hg', ?_⟩
    obtain ⟨b', s', p', e', _, hk'⟩ := (stepVC_free hx).1 hk
    rw [xloc', e, Option.some.injEq, Prod.mk.injEq, Prod.mk.injEq] at e'
    obtain ⟨rfl, rfl, rfl⟩ := e'
    rw [put_bindO, hcomm] at hk'
    exact hk'
  · have hsub : ∀ k B, σ.blks k = some B → ((σ.bindO nx b).put x.dst s).blks k = some B := fun k B hk => by
      rw [hbk k (by simp [SSt.dom, hk])]; exact hk
    have hdom : ∀ k, σ.dom k → ((σ.bindO nx b).put x.dst s).dom k := fun k hk => by
      have := hbk k hk; simp only [SSt.dom, this]; exact hk
    refine .inr ⟨hg', f, args, ho, Y, res, sets, news, cond, fun ρ w hm => ?_, fun y0 hy0 => ?_⟩
    · refine (hinv ρ w (MSat.weaken hsub hm)).mono ?_
      rintro v w' ⟨y0, bs, c1, c2, c3, c4, c5⟩
      refine ⟨y0, bs, c1, c2, c3, ?_, c5⟩
      rw [(hK y0 c1).1 rfl]; trivial
    · obtain ⟨k1, k2, k3, k4, k5⟩ := hK y0 hy0
      have hs0 := k1 rfl
      rw [hs0] at k3 k4 k5
      simp only [setL] at k3 k4 k5
      have hbl : bindL ((σ.bindO nx b).put x.dst s) ny (news y0) = ((bindL σ ny (news y0)).bindO nx b).put x.dst s := by
        rw [put_bindL, bindO_bindL _ _ _ _ _ (by omega)]
      refine ⟨k1, k2, ?_, ?_, ?_⟩
      · rw [hs0]; exact okL_mono _ _ _ _ hdom k3
      · rw [hs0]; simp only [setL]; rw [hbl]
        refine SS.ok_mono (fun k hk => ?_) k4
        rw [dom_put]
        cases b with
        | none => exact hk
        | some B => exact dom_bind _ _ _ k hk
      · rw [hs0]; simp only [setL]; rw [hbl]
        obtain ⟨b', s', p', e', _, hk'⟩ := (stepVC_free hx).1 k5
        rw [xloc _ _ k2, e, Option.some.injEq, Prod.mk.injEq, Prod.mk.injEq] at e'
        obtain ⟨rfl, rfl, rfl⟩ := e'
        rw [put_bindO, hcomm] at hk'
        exact hk'

/-- a store ahead of an operation upon slots alone -/
theorem swap_pure_set {eff : Bool} {ny nx : Nat} {x y : Oper} (hy : kindOf y.op = .val) (hp : isPure y.op = true) (hx : kindOf x.op = .set) (hap : y.apart ops x = true) {K : SSt → Prop}
    (hvc : stepVC P Γ ops eff ny y σ fun σ1 => stepVC P Γ ops eff nx x σ1 K) : stepVC P Γ ops eff nx x σ fun σ1 => stepVC P Γ ops eff ny y σ1 K := by
  have hyf : isFree y := .inl hy
  obtain ⟨by', sy, py, e1, p1, hvc⟩ := (stepVC_free hyf).1 hvc
  have hby : by' = none := by
    unfold freeOut at e1
    split at e1
    · cases e1
    · split at e1
      · rcases kind_val (Γ := Γ) (σ := σ) hy with ⟨s, side, ho⟩ | ho
        · rw [ho] at e1; simp only [Option.some.injEq, Prod.mk.injEq] at e1; exact e1.1.symm
        · rw [ho] at e1; simp at e1
      · simp only [Option.some.injEq, Prod.mk.injEq] at e1; exact e1.1.symm
      · cases e1
  subst hby
  simp only [SSt.bindO] at hvc
  obtain ⟨hl, hg⟩ := looks_ops (σ := σ) (σ' := σ.put y.dst sy) hap (fun t ht => put_slots_ne _ ht)
  have hop : opSem Γ (σ.put y.dst sy) x.op = opSem Γ σ x.op := opSem_set (put_blks _ _ _) x.op hx hl
  have hcomm : ∀ (τ : SSt) (s : SS), (τ.put y.dst sy).put x.dst s = (τ.put x.dst s).put y.dst sy := fun τ s => put_comm _ _ _ fun d hd' he => by
    obtain ⟨_, h2, _⟩ := Oper.apart_spec hap
    exact h2 d hd' he
  have yloc : ∀ σ' : SSt, (∀ t, (∀ d, x.dst = some d → t ≠ d) → σ'.slots t = σ.slots t) → σ'.n = σ.n → freeOut Γ ops ny y σ' = some (none, sy, py) := by
    intro σ' hs hn
    obtain ⟨h1, h2⟩ := looks_ops (apart_symm hap) hs
    rw [← e1]; unfold freeOut
    rw [hn, h2, opSem_pure y.op hy hp h1]
  unfold stepVC at hvc ⊢
  rw [put_n, hg] at hvc
  cases hd : dstOK σ.n x.dst with
  | false => rw [hd] at hvc; exact hvc.elim
  | true =>
    rw [hd] at hvc
    dsimp only at hvc ⊢
    cases hgs : guardS ops σ x with
    | none => rw [hgs] at hvc; exact hvc.elim
    | some g =>
      rw [hgs] at hvc
      dsimp only at hvc ⊢
      cases g with
      | false =>
        dsimp only at hvc ⊢
        rw [hcomm] at hvc
        exact (stepVC_free hyf).2 ⟨none, sy, py, yloc _ (fun t ht => put_slots_ne _ ht) (put_n _ _ _), p1, hvc⟩
      | true =>
        dsimp only [execVC] at hvc ⊢
        rw [hop] at hvc
        have hset := kind_set (Γ := Γ) (σ := σ) hx
        cases ho : opSem Γ σ x.op <;> simp only [ho, Out.isSet] at hset hvc ⊢
        · rename_i k cs side
          obtain ⟨hside, hk⟩ := hvc
          refine ⟨hside, (stepVC_free hyf).2 ⟨none, sy, py, yloc _ (fun t ht => by rw [put_slots_ne _ ht]; rfl) (put_n _ _ _), p1, ?_⟩⟩
          have : (σ.put y.dst sy).bind k ⟨cs, true⟩ = (σ.bind k ⟨cs, true⟩).put y.dst sy := by cases y.dst <;> rfl
          rw [this, hcomm] at hk
          exact hk

/-! regions -/
def regVC (P : Program) (Γ : TyEnv) (ops : Array Oper) (eff : Bool) (base : Nat) : List Nat → SSt → (SSt → Prop) → Prop
  | [], σ, K => K σ
  | i :: L, σ, K => match ops[i]? with
    | some o => stepVC P Γ ops eff (base + 8 * i) o σ fun σ' => regVC P Γ ops eff base L σ' K
    | none => False

def SSt.upto (σ : SSt) (n : Nat) : SSt := ⟨σ.slots, σ.blks, n, σ.n⟩
theorem Sat.next (h : Sat M w0 σ ρ a w) {n : Nat} (hn : σ.next ≤ n) : Sat M w0 (σ.upto n) ρ a w :=
  { h with named := fun k B hk => ⟨Nat.lt_of_lt_of_le (h.named k B hk).1 hn, (h.named k B hk).2⟩ }
theorem Sat.drew (h : Sat M w0 σ ρ a w) : Sat M w0 σ ρ a { w with drawn := w.drawn + 1 } :=
  h.grow' ⟨rfl, rfl, rfl, Nat.le_refl _, fun _ _ _ => rfl⟩

/-- the names of those still to come are free -/
def Free (base : Nat) (L : List Nat) (σ : SSt) : Prop := ∀ i ∈ L, ∀ j, j < 8 → σ.blks (base + 8 * i + j) = none ∧ base + 8 * i + j < σ.next
theorem Free.step {base i : Nat} {L : List Nat} {σ σ' : SSt} (h : Free base L σ) (hn : Named (base + 8 * i) σ σ') (hi : i ∉ L) : Free base L σ' := by
  intro k hk j hj
  obtain ⟨n1, n2, n3⟩ := hn
  obtain ⟨f1, f2⟩ := h k hk j hj
  have hne : k ≠ i := fun e => hi (e ▸ hk)
  exact ⟨n3 _ (by omega) f1, by rw [n1]; exact f2⟩

theorem regVC_ops (hΓ : TyOK P Γ) {eff : Bool} {base : Nat} {K : SSt → Prop} {Q : Exit → Act → World → Prop} : ∀ (L : List Nat) (σ : SSt) (ρ : Rho) (a : Act) (w : World), L.Nodup → Free base L σ →
    Sat M w0 σ ρ a w → regVC P Γ ops eff base L σ K → (∀ σ' ρ' a' w', K σ' → Sat M w0 σ' ρ' a' w' → Q .normal a' w') → wpOps P ops Q L a w
  | [], σ, ρ, a, w, _, _, h, hvc, hK => hK σ ρ a w hvc h
  | i :: L, σ, ρ, a, w, hnd, hf, h, hvc, hK => by
    simp only [regVC] at hvc
    simp only [wpOps]
    cases ho : ops[i]? with
    | none => rw [ho] at hvc; exact hvc.elim
    | some o =>
      rw [ho] at hvc
      dsimp only at hvc ⊢
      have := step_sound hΓ (hf i List.mem_cons_self) h hvc (next := wpOps P ops Q L) (Q := Q) (fun σ' ρ' a' w' hvc' h' hn =>
        regVC_ops hΓ L σ' ρ' a' w' (List.nodup_cons.1 hnd).2 (Free.step (fun k hk => hf k (List.mem_cons_of_mem _ hk)) hn (List.nodup_cons.1 hnd).1) h' hvc' hK)
      split
      · rename_i hw; rw [if_pos hw] at this; exact .inl this
      · rename_i hw; rw [if_neg hw] at this; exact this

theorem wp_straight (hΓ : TyOK P Γ) {id : Nat} {eff : Bool} {K : SSt → Prop} {Q : Exit → Act → World → Prop} (h : Sat M w0 σ ρ a w)
    {L : List Nat} (hL : L = List.range ops.size) (base nxt : Nat) (h1 : Nat.ble σ.next base = true) (h2 : Nat.ble (base + 8 * ops.size) nxt = true)
    (hvc : regVC P Γ ops eff base L (σ.upto nxt) K) (hK : ∀ σ' ρ' a' w', K σ' → Sat M w0 σ' ρ' a' w' → Q .normal a' w') :
    (Code.region id ops false).wp P Q a w := by
  subst hL
  have h1 := Nat.le_of_ble_eq_true h1
  have h2 := Nat.le_of_ble_eq_true h2
  refine wp_region (regVC_ops hΓ (List.range ops.size) _ ρ a w List.nodup_range ?_ (h.next (by omega)) hvc hK)
  intro i hi j hj
  have hi' := List.mem_range.1 hi
  refine ⟨?_, by show base + 8 * i + j < nxt; omega⟩
  show σ.blks (base + 8 * i + j) = none
  cases hb : σ.blks (base + 8 * i + j) with
  | none => rfl
  | some B => have := (h.named _ B hb).1; omega

/-! any order -/
def predsOf (o : Oper) : List Nat := (o.after.toList.filter (Region.binds .any ·)).map (·.on)
/-- y comes ahead of x, whatever the order -/
def ancB (ops : Array Oper) : Nat → Nat → Nat → Bool
  | 0, _, _ => false
  | f + 1, y, x => match ops[x]? with
    | some o => (predsOf o).any fun z => Nat.beq z y || ancB ops f y z
    | none => false
def swapB (ops : Array Oper) (eff : Bool) (y x : Oper) : Bool :=
  y.apart ops x && match kindOf y.op, kindOf x.op with
    | .val, .val | .val, .new | .new, .val | .new, .new => true
    | .val, .call | .call, .val | .call, .new => !eff
    | .val, .set => isPure y.op
    | _, _ => false
def pairB (ops : Array Oper) (eff : Bool) (y x : Nat) : Bool :=
  ancB ops ops.size y x || match ops[y]?, ops[x]? with
    | some oy, some ox => swapB ops eff oy ox
    | _, _ => false
def orderB (ops : Array Oper) (eff : Bool) : List Nat → Bool
  | [] => true
  | y :: L => (L.all fun x => pairB ops eff y x) && orderB ops eff L
def allB (ops : Array Oper) (L : List Nat) : Bool := (List.range ops.size).all (fun i => L.contains i) && L.all (fun i => Nat.blt i ops.size)

theorem swapB_spec {eff : Bool} (h : Sat M w0 σ ρ a w) {ny nx : Nat} {x y : Oper} (hs : swapB ops eff y x = true) (hfy : ∀ j, j < 8 → σ.blks (ny + j) = none) (hfx : ∀ j, j < 8 → σ.blks (nx + j) = none)
    (hne : nx + 8 ≤ ny ∨ ny + 8 ≤ nx) {K : SSt → Prop} (hvc : stepVC P Γ ops eff ny y σ fun σ1 => stepVC P Γ ops eff nx x σ1 K) :
    stepVC P Γ ops eff nx x σ fun σ1 => stepVC P Γ ops eff ny y σ1 K := by
  unfold swapB at hs
  rw [Bool.and_eq_true] at hs
  obtain ⟨hap, hk⟩ := hs
  split at hk
  · rename_i h1 h2; exact swap_free h (.inl h1) (.inl h2) hap (by omega) (hfy 0 (by omega)) (hfx 0 (by omega)) hvc
  · rename_i h1 h2; exact swap_free h (.inl h1) (.inr h2) hap (by omega) (hfy 0 (by omega)) (hfx 0 (by omega)) hvc
  · rename_i h1 h2; exact swap_free h (.inr h1) (.inl h2) hap (by omega) (hfy 0 (by omega)) (hfx 0 (by omega)) hvc
  · rename_i h1 h2; exact swap_free h (.inr h1) (.inr h2) hap (by omega) (hfy 0 (by omega)) (hfx 0 (by omega)) hvc
  · rename_i h1 h2
    cases eff with
    | true => cases hk
    | false => exact swap_val_call h h1 h2 hap hfx hvc
  · rename_i h1 h2
    cases eff with
    | true => cases hk
    | false => exact swap_call_free h h1 (.inl h2) hap hfy (hfx 0 (by omega)) (by omega) hvc
  · rename_i h1 h2
    cases eff with
    | true => cases hk
    | false => exact swap_call_free h h1 (.inr h2) hap hfy (hfx 0 (by omega)) (by omega) hvc
  · rename_i h1 h2; exact swap_pure_set h1 hk h2 hap hvc
  · cases hk

/-! a state that nothing need have come to -/
structure Closed (σ : SSt) : Prop where
  slots : ∀ t s, σ.slots t = some s → t < σ.n ∧ s.ok σ.dom
  named : ∀ k B, σ.blks k = some B → k < σ.next ∧ okC σ.dom B.cs
theorem Sat.closed (h : Sat M w0 σ ρ a w) : Closed σ :=
  ⟨fun t s hs => by
    obtain ⟨h1, h2⟩ := h.slots t s hs
    refine ⟨?_, h2⟩
    rcases Nat.lt_or_ge t a.tmps.size with hlt | hge
    · rw [← h.size]; exact hlt
    · rw [Array.getElem?_eq_none hge] at h1; exact absurd h1 (by simp), h.named⟩
theorem Closed.sat (h : Closed σ) : ∃ M w0 ρ a w, Sat M w0 σ ρ a w := by
  let ρ : Rho := fun k => (k, 0)
  let hp : Array Obj := Array.ofFn (n := σ.next) fun k => match σ.blks k with
    | some B => .cells (flat ρ B.cs).toArray 0 (0, 0)
    | none => .cells #[] 0 (0, 0)
  let w : World := { (default : World) with heap := hp }
  let a : Act := ⟨Array.ofFn (n := σ.n) fun t => match σ.slots t with | some s => s.den ρ | none => undef, []⟩
  refine ⟨fun _ => True, { w with heap := #[] }, ρ, a, w, ?_⟩
  exact
  { size := by simp [a]
    defers := rfl
    slots := fun t s hs => by
      obtain ⟨h1, h2⟩ := h.slots t s hs
      exact ⟨by simp [a, h1, hs], h2⟩
    named := h.named
    blks := fun k B hk => by
      have hlt := (h.named k B hk).1
      exact ⟨(flat ρ B.cs).toArray, 0, (0, 0), by simp [w, hp, ρ, hlt, hk], fun i hi => by simp [ρ], fun _ => ⟨rfl, by simp, rfl⟩⟩
    sep := fun k l B C hkl _ _ _ => hkl
    own := fun k B _ _ => .inl (by simp)
    grow := ⟨rfl, rfl, rfl, by simp, fun k hk => by simp at hk⟩ }

theorem Closed.bindL : ∀ (Bs : List Blk) (σ : SSt) (nm : Nat), Closed σ → (∀ j, j < Bs.length → nm + j < σ.next) → okL σ nm Bs → (∀ j, j < Bs.length → σ.blks (nm + j) = none) → Closed (SX.bindL σ nm Bs)
  | [], _, _, h, _, _, _ => h
  | B :: Bs, σ, nm, h, hn, hok, hf => by
    refine Closed.bindL Bs (σ.bind nm B) (nm + 1) ?_ (fun j hj => ?_) hok.2 (fun j hj => ?_)
    · refine ⟨fun t s hs => ⟨(h.slots t s hs).1, SS.ok_mono (dom_bind _ _ _) (h.slots t s hs).2⟩, fun k C hk => ?_⟩
      by_cases he : k = nm
      · subst he
        simp only [SSt.bind, upd_same, Option.some.injEq] at hk
        subst hk
        exact ⟨by have := hn 0 (by simp); exact this, hok.1⟩
      · simp only [SSt.bind, upd_ne _ _ he] at hk
        exact ⟨(h.named k C hk).1, okC_mono (dom_bind _ _ _) (h.named k C hk).2⟩
    · have := hn (j + 1) (by simp; omega)
      show nm + 1 + j < σ.next; omega
    · have := hf (j + 1) (by simp; omega)
      simp only [SSt.bind]
      rw [upd_ne _ _ (by omega), show nm + 1 + j = nm + (j + 1) from by omega]
      exact this
theorem Closed.put (h : Closed σ) {d : Option Tmp} {s : SS} (hs : s.ok σ.dom) (hd : dstOK σ.n d = true) : Closed (σ.put d s) := by
  cases d with
  | none => exact h
  | some d =>
    refine ⟨fun t s' hs' => ?_, h.named⟩
    by_cases he : t = d
    · subst he
      simp only [SSt.put, upd_same, Option.some.injEq] at hs'
      subst hs'
      have hd' : t < σ.n := by simpa [dstOK, Nat.blt_eq] using hd
      exact ⟨hd', hs⟩
    · simp only [SSt.put, upd_ne _ _ he] at hs'
      exact h.slots t s' hs'

/-- a step under another goal -/
theorem stepVC_mono (hΓ : TyOK P Γ) {eff : Bool} {nm : Nat} {o : Oper} (hk : kindOf o.op ≠ .set ∧ (eff = true → kindOf o.op ≠ .call)) (h : Closed σ) (hf : ∀ j, j < 8 → σ.blks (nm + j) = none ∧ nm + j < σ.next) {K K' : SSt → Prop}
    (hvc : stepVC P Γ ops eff nm o σ K) (hKK : ∀ σ', K σ' → Closed σ' → Named nm σ σ' → K' σ') : stepVC P Γ ops eff nm o σ K' := by
  have hfree : isFree o → stepVC P Γ ops eff nm o σ K' := by
    intro hfr
    obtain ⟨b, s, p, e, hp, hk⟩ := (stepVC_free hfr).1 hvc
    refine (stepVC_free hfr).2 ⟨b, s, p, e, hp, hKK _ hk ?_ ⟨?_, ?_, ?_⟩⟩
    · obtain ⟨M, w0, ρ, a, w, hs⟩ := h.sat
      have h0 := hf 0 (by omega)
      obtain ⟨ρ', a', w', hs'⟩ := hs.free hΓ e hp (by simpa using h0)
      exact hs'.closed
    · rw [put_next]; cases b <;> rfl
    · rw [put_n, bindO_n]
    · intro k hk' hn
      rw [put_blks, bindO_blks _ _ (by omega)]; exact hn
  cases hkind : kindOf o.op with
  | val => exact hfree (.inl hkind)
  | new => exact hfree (.inr hkind)
  | set => exact absurd hkind hk.1
  | call =>
    have heff : eff = false := by
      cases eff with
      | true => exact absurd hkind (hk.2 rfl)
      | false => rfl
    subst heff
    obtain ⟨hd, hcase⟩ := (stepVC_call hkind).1 hvc
    refine (stepVC_call hkind).2 ⟨hd, ?_⟩
    rcases hcase with ⟨hg, hk⟩ | ⟨hg, f, args, ho, Y, res, sets, news, cond, hinv, hK⟩
    · refine .inl ⟨hg, hKK _ hk (h.put (s := .one (.v undef)) trivial hd) ⟨put_next _ _ _, put_n _ _ _, fun k _ hn => by rw [put_blks]; exact hn⟩⟩
    · refine .inr ⟨hg, f, args, ho, Y, res, sets, news, cond, hinv, fun y0 hy0 => ?_⟩
      obtain ⟨k1, k2, k3, k4, k5⟩ := hK y0 hy0
      refine ⟨k1, k2, k3, k4, ?_⟩
      have hs0 := k1 rfl
      rw [hs0] at k3 k4 k5 ⊢
      simp only [setL] at k3 k4 k5 ⊢
      obtain ⟨b1, b2, b3⟩ := bindL_named (news y0) σ nm
      refine hKK _ k5 ?_ ⟨by rw [put_next]; exact b1, by rw [put_n]; exact b2, fun k hk' hn => by rw [put_blks, b3 k (by omega)]; exact hn⟩
      exact (Closed.bindL (news y0) σ nm h (fun j hj => (hf j (by omega)).2) k3 (fun j hj => (hf j (by omega)).1)).put k4 (by rw [b2]; exact hd)

theorem pull (hΓ : TyOK P Γ) {eff : Bool} {base : Nat} {K : SSt → Prop} {x : Nat} {ox : Oper} (hx : ops[x]? = some ox) {L2 : List Nat} :
    ∀ (L1 : List Nat) (σ : SSt), Closed σ → Free base (L1 ++ x :: L2) σ → (L1 ++ x :: L2).Nodup → (∀ y ∈ L1, ∃ oy, ops[y]? = some oy ∧ swapB ops eff oy ox = true) →
      regVC P Γ ops eff base (L1 ++ x :: L2) σ K → stepVC P Γ ops eff (base + 8 * x) ox σ fun σ' => regVC P Γ ops eff base (L1 ++ L2) σ' K
  | [], σ, _, _, _, _, hvc => by simpa [regVC, hx] using hvc
  | y :: L1, σ, hc, hf, hnd, hs, hvc => by
    obtain ⟨oy, hy, hsw⟩ := hs y List.mem_cons_self
    simp only [List.cons_append, regVC, hy] at hvc
    have hnd' := List.nodup_cons.1 hnd
    have hky : kindOf oy.op ≠ .set ∧ (eff = true → kindOf oy.op ≠ .call) := by
      simp only [swapB, Bool.and_eq_true] at hsw
      refine ⟨fun hk => ?_, fun he hk => ?_⟩
      · rw [hk] at hsw; exact absurd hsw.2 (by simp)
      · rw [hk, he] at hsw
        have h2 := hsw.2
        cases hk2 : kindOf ox.op <;> simp [hk2] at h2
    have h1 := stepVC_mono hΓ hky hc (hf y (by simp)) hvc (K' := fun σ1 => stepVC P Γ ops eff (base + 8 * x) ox σ1 fun σ' => regVC P Γ ops eff base (L1 ++ L2) σ' K)
      (fun σ1 hv hc1 hn => pull hΓ hx L1 σ1 hc1 (Free.step (fun k hk => hf k (List.mem_cons_of_mem _ hk)) hn hnd'.1) hnd'.2 (fun z hz => hs z (List.mem_cons_of_mem _ hz)) hv)
    obtain ⟨M, w0, ρ, a, w, hS⟩ := hc.sat
    have hne : x ≠ y := fun e => hnd'.1 (by rw [← e]; simp)
    have h2 := swapB_spec hS hsw (fun j hj => (hf y (by simp) j hj).1) (fun j hj => (hf x (by simp) j hj).1) (by omega) h1
    simpa only [List.cons_append, regVC, hy] using h2

theorem anc_blocked {listed : Array Bool} (hcl : ∀ i o, ops[i]? = some o → listed.getD i false = true → ∀ z ∈ predsOf o, listed.getD z false = true) {y : Nat} (hy : listed.getD y false = false) :
    ∀ (f x : Nat), ancB ops f y x = true → x ∉ Region.ready .any ops listed
  | 0, x, h => by simp [ancB] at h
  | f + 1, x, h => by
    intro hr
    unfold ancB at h
    cases ho : ops[x]? with
    | none => rw [ho] at h; cases h
    | some o =>
      rw [ho] at h
      dsimp only at h
      obtain ⟨z, hz, hzy⟩ := List.any_eq_true.1 h
      have hr' := List.mem_filter.1 hr
      have hpred : listed.getD z false = true := by
        have h2 := hr'.2
        rw [ho] at h2
        simp only [Option.map_some, Option.getD_some, Bool.and_eq_true] at h2
        obtain ⟨e, he, rfl⟩ := List.mem_map.1 hz
        have he' := List.mem_filter.1 he
        have h3 := (Array.all_eq_true_iff_forall_mem.1 h2.2) e (by simpa using he'.1)
        simp only [he'.2, Bool.not_true, Bool.false_or] at h3
        exact h3
      rcases Bool.or_eq_true _ _ ▸ hzy with h1 | h1
      · have := Nat.eq_of_beq_eq_true h1
        rw [this, hy] at hpred; cases hpred
      · -- z is listed, and y is one of its ancestors
        exact anc_unlisted hcl hy f z h1 hpred
where
  anc_unlisted {listed : Array Bool} (hcl : ∀ i o, ops[i]? = some o → listed.getD i false = true → ∀ z ∈ predsOf o, listed.getD z false = true) {y : Nat} (hy : listed.getD y false = false) :
      ∀ (f z : Nat), ancB ops f y z = true → listed.getD z false = true → False
    | 0, z, h, _ => by simp [ancB] at h
    | f + 1, z, h, hl => by
      unfold ancB at h
      cases ho : ops[z]? with
      | none => rw [ho] at h; cases h
      | some o =>
        rw [ho] at h
        dsimp only at h
        obtain ⟨u, hu, huy⟩ := List.any_eq_true.1 h
        have hlu := hcl z o ho hl u hu
        rcases Bool.or_eq_true _ _ ▸ huy with h1 | h1
        · have := Nat.eq_of_beq_eq_true h1
          rw [this, hy] at hlu; cases hlu
        · exact anc_unlisted hcl hy f u h1 hlu

/-- each comes behind those that it waits for -/
def topoB (ops : Array Oper) : List Nat → Bool
  | [] => true
  | x :: L => (match ops[x]? with
    | some o => (predsOf o).all fun z => Nat.blt z ops.size && !(x :: L).contains z
    | none => false) && topoB ops L
theorem topoB_drop : ∀ {L1 : List Nat} {x : Nat} {L2 : List Nat}, topoB ops (L1 ++ x :: L2) = true → topoB ops (L1 ++ L2) = true
  | [], x, L2, h => by simp only [List.nil_append, topoB, Bool.and_eq_true] at h; exact h.2
  | y :: L1, x, L2, h => by
    simp only [List.cons_append, topoB, Bool.and_eq_true] at h ⊢
    refine ⟨?_, topoB_drop h.2⟩
    cases ho : ops[y]? with
    | none => rw [ho] at h; exact absurd h.1 (by simp)
    | some o =>
      rw [ho] at h
      dsimp only at h ⊢
      refine List.all_eq_true.2 fun z hz => ?_
      have := List.all_eq_true.1 h.1 z hz
      simp only [Bool.and_eq_true, Bool.not_eq_true', List.contains_eq_mem, decide_eq_false_iff_not, List.mem_cons, List.mem_append] at this ⊢
      refine ⟨this.1, fun hm => this.2 ?_⟩
      rcases hm with hm | hm | hm
      · exact .inl hm
      · exact .inr (.inl hm)
      · exact .inr (.inr (.inr hm))
theorem orderB_spec {eff : Bool} : ∀ {L1 : List Nat} {x : Nat} {L2 : List Nat}, orderB ops eff (L1 ++ x :: L2) = true → (∀ y ∈ L1, pairB ops eff y x = true) ∧ orderB ops eff (L1 ++ L2) = true
  | [], x, L2, h => ⟨by simp, by simp only [List.nil_append, orderB, Bool.and_eq_true] at h; exact h.2⟩
  | y :: L1, x, L2, h => by
    simp only [List.cons_append, orderB, Bool.and_eq_true] at h
    obtain ⟨h1, h2⟩ := orderB_spec h.2
    have h0 := List.all_eq_true.1 h.1
    refine ⟨fun z hz => ?_, ?_⟩
    · rcases List.mem_cons.1 hz with rfl | hz
      · exact h0 x (by simp)
      · exact h1 z hz
    · simp only [List.cons_append, orderB, Bool.and_eq_true]
      exact ⟨List.all_eq_true.2 fun z hz => h0 z (by
        rcases List.mem_append.1 hz with hz | hz
        · exact List.mem_append.2 (.inl hz)
        · exact List.mem_append.2 (.inr (List.mem_cons_of_mem _ hz))), h2⟩

theorem wpAny_drawn (hΓ : TyOK P Γ) {eff : Bool} {base : Nat} {K : SSt → Prop} {Q : Exit → Act → World → Prop} (hK : ∀ σ' ρ' a' w', K σ' → Sat M w0 σ' ρ' a' w' → Q .normal a' w') :
    ∀ (fuel : Nat) (L : List Nat) (listed : Array Bool) (σ : SSt) (ρ : Rho) (a : Act) (w : World), L.length ≤ fuel → L.Nodup → listed.size = ops.size → (∀ i, i < ops.size → (i ∈ L ↔ listed.getD i false = false)) →
      (∀ i ∈ L, i < ops.size) → (∀ i o, ops[i]? = some o → listed.getD i false = true → ∀ z ∈ predsOf o, listed.getD z false = true) → orderB ops eff L = true → topoB ops L = true →
      Free base L σ → Sat M w0 σ ρ a w → regVC P Γ ops eff base L σ K → wpAny P .any ops Q fuel listed a w := by
  have ready_in : ∀ (L : List Nat) (listed : Array Bool), listed.size = ops.size → (∀ i, i < ops.size → (i ∈ L ↔ listed.getD i false = false)) → ∀ x ∈ Region.ready .any ops listed, x ∈ L ∧ x < ops.size := by
    intro L listed hsz hL x hx
    obtain ⟨h1, h2⟩ := List.mem_filter.1 hx
    have hlt := List.mem_range.1 h1
    refine ⟨(hL x hlt).2 ?_, hlt⟩
    simp only [Bool.and_eq_true, Bool.not_eq_true'] at h2
    have h3 := h2.1
    simp only [Array.getD_eq_getD_getElem?, Array.getElem?_eq_getElem (show x < listed.size by omega), Option.getD_some] at h3 ⊢
    exact h3
  have head_ready : ∀ (x : Nat) (L : List Nat) (listed : Array Bool), listed.size = ops.size → (∀ i, i < ops.size → (i ∈ x :: L ↔ listed.getD i false = false)) → x < ops.size → topoB ops (x :: L) = true →
      x ∈ Region.ready .any ops listed := by
    intro x L listed hsz hL hx ht
    simp only [topoB, Bool.and_eq_true] at ht
    refine List.mem_filter.2 ⟨List.mem_range.2 hx, ?_⟩
    have hx0 := (hL x hx).1 List.mem_cons_self
    cases ho : ops[x]? with
    | none => rw [ho] at ht; exact absurd ht.1 (by simp)
    | some o =>
      rw [ho] at ht
      simp only [Option.map_some, Option.getD_some, Bool.and_eq_true, Bool.not_eq_true']
      constructor
      · simp only [Array.getD_eq_getD_getElem?, Array.getElem?_eq_getElem (show x < listed.size by omega), Option.getD_some] at hx0 ⊢
        exact hx0
      · refine Array.all_eq_true_iff_forall_mem.2 fun e he => ?_
        cases hb : Region.binds .any e with
        | false => rfl
        | true =>
          simp only [Bool.not_true, Bool.false_or]
          have := List.all_eq_true.1 ht.1 e.on (List.mem_map.2 ⟨e, List.mem_filter.2 ⟨by simpa using he, hb⟩, rfl⟩)
          simp only [Bool.and_eq_true, Nat.blt_eq, Bool.not_eq_true', List.contains_eq_mem, decide_eq_false_iff_not] at this
          cases hg : listed.getD e.on false with
          | true => rfl
          | false => exact absurd ((hL e.on this.1).2 hg) this.2
  intro fuel
  induction fuel with
  | zero =>
    intro L listed σ ρ a w hlen hnd hsz hL hLs hcl hord htopo hf h hvc
    have hnil : L = [] := List.length_eq_zero_iff.1 (Nat.le_zero.1 hlen)
    subst hnil
    refine ⟨?_, hK σ ρ a w hvc h⟩
    cases hr : Region.ready .any ops listed with
    | nil => rfl
    | cons x r => exact absurd (ready_in [] listed hsz hL x (by rw [hr]; exact List.mem_cons_self)).1 (by simp)
  | succ fuel ih =>
    intro L listed σ ρ a w hlen hnd hsz hL hLs hcl hord htopo hf h hvc
    refine ⟨fun hr => ?_, fun x hx => ?_⟩
    · cases L with
      | nil => exact hK σ ρ a w hvc h
      | cons x L' =>
        have := head_ready x L' listed hsz hL (hLs x List.mem_cons_self) htopo
        rw [hr] at this; cases this
    · obtain ⟨hxL, hxs⟩ := ready_in L listed hsz hL x hx
      obtain ⟨L1, L2, rfl⟩ := List.append_of_mem hxL
      obtain ⟨hpair, hord'⟩ := orderB_spec hord
      have hox : ops[x]? = some ops[x] := Array.getElem?_eq_getElem hxs
      have hsw : ∀ y ∈ L1, ∃ oy, ops[y]? = some oy ∧ swapB ops eff oy ops[x] = true := by
        intro y hy
        have hyL : y ∈ L1 ++ x :: L2 := List.mem_append.2 (.inl hy)
        have hys := hLs y hyL
        have hp := hpair y hy
        unfold pairB at hp
        rcases Bool.or_eq_true _ _ ▸ hp with h1 | h1
        · exact absurd hx (anc_blocked hcl ((hL y hys).1 hyL) _ x h1)
        · rw [Array.getElem?_eq_getElem hys, hox] at h1
          exact ⟨_, Array.getElem?_eq_getElem hys, h1⟩
      have hv := pull hΓ hox L1 σ h.closed hf hnd hsw hvc
      have hnd2 : (L1 ++ L2).Nodup ∧ x ∉ L1 ++ L2 := by
        have := List.perm_middle.nodup_iff.1 hnd
        exact ⟨(List.nodup_cons.1 this).2, (List.nodup_cons.1 this).1⟩
      have hxf := hf x (by simp)
      have hnext : ∀ σ' ρ' a' w', regVC P Γ ops eff base (L1 ++ L2) σ' K → Sat M w0 σ' ρ' a' w' → Named (base + 8 * x) σ σ' → wpAny P .any ops Q fuel (listed.setIfInBounds x true) a' w' := by
        intro σ' ρ' a' w' hvc' h' hn
        have hget : ∀ i, (listed.setIfInBounds x true).getD i false = if i = x then true else listed.getD i false := by
          intro i
          simp only [Array.getD_eq_getD_getElem?]
          by_cases he : i = x
          · subst he; rw [Array.getElem?_setIfInBounds_self]; simp [hsz, hxs]
          · rw [Array.getElem?_setIfInBounds_ne (Ne.symm he), if_neg he]
        refine ih (L1 ++ L2) _ σ' ρ' a' w' (by simp at hlen ⊢; omega) hnd2.1 (by simpa using hsz) (fun i hi => ?_) (fun i hi => hLs i ?_) (fun i o ho hl z hz => ?_) hord' (topoB_drop htopo)
          (Free.step (fun k hk => hf k ?_) hn hnd2.2) h' hvc'
        · rw [hget]
          by_cases he : i = x
          · subst he; simp only [if_true]; exact ⟨fun hm => absurd hm hnd2.2, fun hm => by cases hm⟩
          · rw [if_neg he, ← hL i hi]
            simp only [List.mem_append, List.mem_cons]
            exact ⟨fun hm => hm.elim .inl (fun h => .inr (.inr h)), fun hm => hm.elim .inl (fun h => h.elim (fun e => absurd e he) .inr)⟩
        · simp only [List.mem_append, List.mem_cons] at hi ⊢
          exact hi.elim .inl (fun h => .inr (.inr h))
        · rw [hget] at hl ⊢
          by_cases hez : z = x
          · rw [if_pos hez]
          · rw [if_neg hez]
            by_cases he : i = x
            · subst he
              have hr2 := (List.mem_filter.1 hx).2
              rw [ho] at hr2
              simp only [Option.map_some, Option.getD_some, Bool.and_eq_true] at hr2
              obtain ⟨e, he, rfl⟩ := List.mem_map.1 hz
              have he' := List.mem_filter.1 he
              have h3 := (Array.all_eq_true_iff_forall_mem.1 hr2.2) e (by simpa using he'.1)
              simp only [he'.2, Bool.not_true, Bool.false_or] at h3
              exact h3
            · rw [if_neg he] at hl
              exact hcl i o ho hl z hz
        · simp only [List.mem_append, List.mem_cons] at hk ⊢
          exact hk.elim .inl (fun h => .inr (.inr h))
      have hstep := step_sound hΓ hxf h hv (next := wpAny P .any ops Q fuel (listed.setIfInBounds x true)) (Q := Q) hnext
      unfold wpOp
      rw [hox]
      dsimp only
      split
      · rename_i hw; rw [if_pos hw] at hstep; exact .inl hstep
      · rename_i hw; rw [if_neg hw] at hstep; exact hstep

def nodupB : List Nat → Bool
  | [] => true
  | x :: L => !L.contains x && nodupB L
/-- all that is asked of an order -/
def goodB (ops : Array Oper) (eff : Bool) (L : List Nat) : Bool :=
  orderB ops eff L && topoB ops L && (List.range ops.size).all (fun i => L.contains i) && L.all (fun i => Nat.blt i ops.size) && Nat.beq L.length ops.size && nodupB L

theorem nodupB_spec : ∀ {L : List Nat}, nodupB L = true → L.Nodup
  | [], _ => List.nodup_nil
  | x :: L, h => by
    simp only [nodupB, Bool.and_eq_true, Bool.not_eq_true', List.contains_eq_mem, decide_eq_false_iff_not] at h
    exact List.nodup_cons.2 ⟨h.1, nodupB_spec h.2⟩

theorem wp_drawn (hΓ : TyOK P Γ) {id : Nat} (eff : Bool) (L : List Nat) {K : SSt → Prop} {Q : Exit → Act → World → Prop} (hm : P.follows .mixedOrders = true) (hL : goodB ops eff L = true) (h : Sat M w0 σ ρ a w)
    (base nxt : Nat) (g1 : Nat.ble σ.next base = true) (g2 : Nat.ble (base + 8 * ops.size) nxt = true) (hvc : regVC P Γ ops eff base L (σ.upto nxt) K) (hK : ∀ σ' ρ' a' w', K σ' → Sat M w0 σ' ρ' a' w' → Q .normal a' w') :
    (Code.region id ops true).wp P Q a w := by
  have g1 := Nat.le_of_ble_eq_true g1
  have g2 := Nat.le_of_ble_eq_true g2
  simp only [goodB, Bool.and_eq_true] at hL
  obtain ⟨⟨⟨⟨⟨h1, h2⟩, h3⟩, h4⟩, h5⟩, h6⟩ := hL
  have hlen := Nat.eq_of_beq_eq_true h5
  have hin : ∀ i, i < ops.size → i ∈ L := fun i hi => by
    have := List.all_eq_true.1 h3 i (List.mem_range.2 hi)
    simpa using this
  have hlt : ∀ i ∈ L, i < ops.size := fun i hi => by
    have := List.all_eq_true.1 h4 i hi
    simpa [Nat.blt_eq] using this
  refine wp_region_any hm ?_
  refine wpAny_drawn hΓ hK ops.size L _ _ ρ a _ (by omega) (nodupB_spec h6) (by simp) (fun i hi => ?_) hlt (fun i o ho hl => ?_) h1 h2 ?_ (h.next (by omega)).drew hvc
  · refine ⟨fun _ => ?_, fun _ => hin i hi⟩
    simp [Array.getD_eq_getD_getElem?, hi]
  · have hi : i < ops.size := by
      rcases Nat.lt_or_ge i ops.size with hi | hi
      · exact hi
      · rw [Array.getElem?_eq_none hi] at ho; cases ho
    simp [Array.getD_eq_getD_getElem?, hi] at hl
  · intro i hi j hj
    have hi' := hlt i hi
    refine ⟨?_, by show base + 8 * i + j < nxt; omega⟩
    show σ.blks (base + 8 * i + j) = none
    cases hb : σ.blks (base + 8 * i + j) with
    | none => rfl
    | some B => have := (h.named _ B hb).1; omega
end
end Go.SX
