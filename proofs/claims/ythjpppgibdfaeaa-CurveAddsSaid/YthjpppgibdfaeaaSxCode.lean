/- SxCode: a part of the proof: lemmas alone, of no statement. -/
import Derived.Test.YthjpppgibdfaeaaSxDrawn
namespace Go.SX
open Go.RowKit

/-- what a symbolic post says of frames and worlds -/
def post (M : Nat → Prop) (w0 : World) (S : Exit → SSt → Prop) : Exit → Act → World → Prop := fun e a w => ∃ σ ρ, S e σ ∧ Sat M w0 σ ρ a w
structure VC (P : Program) (M : Nat → Prop) (w0 : World) (c : Code) (σ : SSt) (S : Exit → SSt → Prop) : Prop where
  out : ∀ ρ a w, Sat M w0 σ ρ a w → c.wp P (post M w0 S) a w

section
variable {P : Program} {Γ : TyEnv} {M : Nat → Prop} {w0 : World} {σ : SSt} {S : Exit → SSt → Prop}

def seqS (P : Program) (M : Nat → Prop) (w0 : World) (y : Code) (S : Exit → SSt → Prop) : Exit → SSt → Prop
  | .normal, σ => VC P M w0 y σ S
  | e, σ => S e σ
theorem vc_seq {x y : Code} (h : VC P M w0 x σ (seqS P M w0 y S)) : VC P M w0 (.seq x y) σ S := by
  refine ⟨fun ρ a w hs => ?_⟩
  refine wp_seq (wp_mono (h.out ρ a w hs) ?_)
  rintro e a' w' ⟨σ', ρ', hS, hs'⟩
  cases e <;> first | exact hS.out ρ' a' w' hs' | exact ⟨σ', ρ', hS, hs'⟩
theorem vc_skip (h : S .normal σ) : VC P M w0 .skip σ S := ⟨fun ρ _ _ hs => wp_skip ⟨σ, ρ, h, hs⟩⟩
theorem vc_exit {id : Nat} (h : S (.exit id) σ) : VC P M w0 (.exit id) σ S := ⟨fun ρ _ _ hs => wp_exit ⟨σ, ρ, h, hs⟩⟩
theorem vc_ret (h : S .ret σ) : VC P M w0 .ret σ S := ⟨fun ρ _ _ hs => wp_ret ⟨σ, ρ, h, hs⟩⟩
def blockS (id : Nat) (S : Exit → SSt → Prop) : Exit → SSt → Prop
  | .exit id', σ => match Nat.beq id' id with
    | true => S .normal σ
    | false => S (.exit id') σ
  | e, σ => S e σ
theorem vc_block {id : Nat} {c : Code} (h : VC P M w0 c σ (blockS id S)) : VC P M w0 (.block id c) σ S := by
  refine ⟨fun ρ a w hs => ?_⟩
  refine wp_block (wp_mono (h.out ρ a w hs) ?_)
  rintro e a' w' ⟨σ', ρ', hS, hs'⟩
  cases e with
  | exit id' =>
    simp only [blockS] at hS
    simp only [Exit.inBlock]
    split
    · rename_i he; subst he; simp only [Nat.beq_refl] at hS; exact ⟨σ', ρ', hS, hs'⟩
    · rename_i he
      cases hb : Nat.beq id' id with
      | true => exact absurd (Nat.eq_of_beq_eq_true hb) he
      | false => rw [hb] at hS; exact ⟨σ', ρ', hS, hs'⟩
  | _ => exact ⟨σ', ρ', hS, hs'⟩
theorem vc_cond {c : Operand} {x y : Code} (b : Bool) (hc : rd σ c = some (.v (.bool b))) (h : match b with | true => VC P M w0 x σ S | false => VC P M w0 y σ S) : VC P M w0 (.cond c x y) σ S := by
  refine ⟨fun ρ a w hs => ?_⟩
  obtain ⟨he, _⟩ := rd_spec hs hc
  refine wp_cond (t := b) he ?_
  cases b
  · exact h.out ρ a w hs
  · exact h.out ρ a w hs
theorem vc_if {c : Operand} {x y : Code} {b : Bool} (hc : rd σ c = some (.v (.bool b))) (h1 : b = true → VC P M w0 x σ S) (h2 : b = false → VC P M w0 y σ S) : VC P M w0 (.cond c x y) σ S := by
  refine vc_cond b hc ?_
  cases b
  · exact h2 rfl
  · exact h1 rfl
/-- a truth value given a name -/
theorem step_bool {ops : Array Oper} {eff : Bool} {nm : Nat} {o : Oper} {K : SSt → Prop} {e : Bool} {side : Prop} (hd : dstOK σ.n o.dst = true) (hg : guardS ops σ o = some true)
    (ho : opSem Γ σ o.op = .val (.one (.v (.bool e))) side) (hs : side) (h : ∀ b, e = b → K (σ.put o.dst (.one (.v (.bool b))))) : stepVC P Γ ops eff nm o σ K := by
  unfold stepVC execVC
  rw [hd, hg, ho]
  exact ⟨hs, h e rfl⟩
/-- a value put another way -/
theorem step_val {ops : Array Oper} {eff : Bool} {nm : Nat} {o : Oper} {K : SSt → Prop} {x y : Value} {side : Prop} (hd : dstOK σ.n o.dst = true) (hg : guardS ops σ o = some true)
    (ho : opSem Γ σ o.op = .val (.one (.v x)) side) (hs : side) (hx : x = y) (h : K (σ.put o.dst (.one (.v y)))) : stepVC P Γ ops eff nm o σ K := by
  unfold stepVC execVC
  rw [hd, hg, ho]
  subst hx
  exact ⟨hs, h⟩
theorem step_name {ops : Array Oper} {eff : Bool} {nm : Nat} {o : Oper} {K : SSt → Prop} {x : Value} {side : Prop} (hd : dstOK σ.n o.dst = true) (hg : guardS ops σ o = some true)
    (ho : opSem Γ σ o.op = .val (.one (.v x)) side) (hs : side) (h : ∀ y, x = y → K (σ.put o.dst (.one (.v y)))) : stepVC P Γ ops eff nm o σ K :=
  step_val hd hg ho hs rfl (h x rfl)
theorem reg_name {ops : Array Oper} {eff : Bool} {base i : Nat} {L : List Nat} {o : Oper} {K : SSt → Prop} {x : Value} {side : Prop} (hi : ops[i]? = some o) (hd : dstOK σ.n o.dst = true) (hg : guardS ops σ o = some true)
    (ho : opSem Γ σ o.op = .val (.one (.v x)) side) (hs : side) (h : ∀ y, x = y → regVC P Γ ops eff base L (σ.put o.dst (.one (.v y))) K) : regVC P Γ ops eff base (i :: L) σ K := by
  unfold regVC
  rw [hi]
  exact step_name (K := fun σ' => regVC P Γ ops eff base L σ' K) hd hg ho hs h
theorem reg_bool {ops : Array Oper} {eff : Bool} {base i : Nat} {L : List Nat} {o : Oper} {K : SSt → Prop} {e : Bool} {side : Prop} (hi : ops[i]? = some o) (hd : dstOK σ.n o.dst = true) (hg : guardS ops σ o = some true)
    (ho : opSem Γ σ o.op = .val (.one (.v (.bool e))) side) (hs : side) (h : ∀ b, e = b → regVC P Γ ops eff base L (σ.put o.dst (.one (.v (.bool b)))) K) : regVC P Γ ops eff base (i :: L) σ K := by
  unfold regVC
  rw [hi]
  exact step_bool (K := fun σ' => regVC P Γ ops eff base L σ' K) hd hg ho hs h
theorem reg_sv {ops : Array Oper} {eff : Bool} {base i : Nat} {L : List Nat} {o : Oper} {K : SSt → Prop} {x : SV} {side : Prop} (hi : ops[i]? = some o) (hd : dstOK σ.n o.dst = true) (hg : guardS ops σ o = some true)
    (ho : opSem Γ σ o.op = .val (.one x) side) (hs : side) (h : ∀ y, x = y → regVC P Γ ops eff base L (σ.put o.dst (.one y)) K) : regVC P Γ ops eff base (i :: L) σ K := by
  unfold regVC
  rw [hi]
  show stepVC P Γ ops eff (base + 8 * i) o σ _
  unfold stepVC execVC
  rw [hd, hg, ho]
  exact ⟨hs, h x rfl⟩
theorem vc_straight (hΓ : TyOK P Γ) {id : Nat} {ops : Array Oper} (eff : Bool) (L : List Nat) (hL : L = List.range ops.size) (base nxt : Nat) (h1 : Nat.ble σ.next base = true)
    (h2 : Nat.ble (base + 8 * ops.size) nxt = true) (h : regVC P Γ ops eff base L (σ.upto nxt) (S .normal)) : VC P M w0 (.region id ops false) σ S :=
  ⟨fun _ _ _ hs => wp_straight hΓ hs hL base nxt h1 h2 h fun σ' ρ' _ _ hS hs' => ⟨σ', ρ', hS, hs'⟩⟩
theorem vc_drawn (hΓ : TyOK P Γ) (hm : P.follows .mixedOrders = true) {id : Nat} {ops : Array Oper} (eff : Bool) (L : List Nat) (hL : goodB ops eff L = true)
    (base nxt : Nat) (h1 : Nat.ble σ.next base = true) (h2 : Nat.ble (base + 8 * ops.size) nxt = true) (h : regVC P Γ ops eff base L (σ.upto nxt) (S .normal)) : VC P M w0 (.region id ops true) σ S :=
  ⟨fun _ _ _ hs => wp_drawn hΓ eff L hm hL hs base nxt h1 h2 h fun σ' ρ' _ _ hS hs' => ⟨σ', ρ', hS, hs'⟩⟩
theorem vc_mono {c : Code} {S' : Exit → SSt → Prop} (h : VC P M w0 c σ S) (hS : ∀ e σ', S e σ' → S' e σ') : VC P M w0 c σ S' :=
  ⟨fun ρ a w hs => wp_mono (h.out ρ a w hs) fun e _ _ ⟨σ', ρ', h1, h2⟩ => ⟨σ', ρ', hS e σ' h1, h2⟩⟩

/-! the same cells, put another way -/
structure BlkEq (B B' : Blk) : Prop where
  rw : B.rw = B'.rw
  flat : ∀ ρ, SX.flat ρ B.cs = SX.flat ρ B'.cs
  ok : ∀ D, okC D B.cs → okC D B'.cs
theorem Sat.as {ρ : Rho} {a : Act} {w : World} (h : Sat M w0 σ ρ a w) {k : Nat} {B B' : Blk} (hB : σ.blks k = some B) (he : BlkEq B B') : Sat M w0 (σ.bind k B') ρ a w := by
  have hdom : ∀ j, σ.dom j → (σ.bind k B').dom j := dom_bind _ _ _
  have lift : ∀ i X, (σ.bind k B').blks i = some X → ∃ Y, σ.blks i = some Y ∧ Y.rw = X.rw := by
    intro i X hi
    by_cases hik : i = k
    · subst hik
      simp only [SSt.bind, upd_same, Option.some.injEq] at hi
      subst hi; exact ⟨B, hB, he.rw⟩
    · simp only [SSt.bind, upd_ne _ _ hik] at hi
      exact ⟨X, hi, rfl⟩
  exact
  { size := h.size
    defers := h.defers
    slots := fun t s hs => ⟨(h.slots t s hs).1, SS.ok_mono hdom (h.slots t s hs).2⟩
    named := fun j C hj => by
      by_cases hjk : j = k
      · subst hjk
        simp only [SSt.bind, upd_same, Option.some.injEq] at hj
        subst hj; exact ⟨(h.named j B hB).1, okC_mono hdom (he.ok _ (h.named j B hB).2)⟩
      · simp only [SSt.bind, upd_ne _ _ hjk] at hj
        exact ⟨(h.named j C hj).1, okC_mono hdom (h.named j C hj).2⟩
    blks := fun j C hj => by
      by_cases hjk : j = k
      · subst hjk
        simp only [SSt.bind, upd_same, Option.some.injEq] at hj
        subst hj
        obtain ⟨c, T, fz, hc, h1, h2⟩ := h.blks j B hB
        refine ⟨c, T, fz, hc, fun i hi => ?_, fun hf => ?_⟩
        · rw [← he.flat] at hi ⊢; exact h1 i hi
        · rw [← he.flat]; exact h2 (he.rw.trans hf)
      · simp only [SSt.bind, upd_ne _ _ hjk] at hj
        exact h.blks j C hj
    sep := fun j l C F hjl hj hl hr => by
      obtain ⟨C', hC', e1⟩ := lift j C hj
      obtain ⟨F', hF', e2⟩ := lift l F hl
      exact h.sep j l C' F' hjl hC' hF' (e1.trans hr)
    own := fun j C hj hr => by
      obtain ⟨C', hC', e1⟩ := lift j C hj
      exact h.own j C' hC' (e1.trans hr)
    grow := h.grow }
theorem vc_as {c : Code} (k : Nat) {B : Blk} (B' : Blk) (hB : σ.blks k = some B) (he : BlkEq B B') (h : VC P M w0 c (σ.bind k B') S) : VC P M w0 c σ S :=
  ⟨fun ρ a w hs => h.out ρ a w (hs.as hB he)⟩

/-! a state for another -/
def Ent (M : Nat → Prop) (w0 : World) (σ τ : SSt) : Prop := ∀ ρ a w, Sat M w0 σ ρ a w → ∃ ρ', Sat M w0 τ ρ' a w
theorem vc_ent {c : Code} {τ : SSt} (he : Ent M w0 σ τ) (h : VC P M w0 c τ S) : VC P M w0 c σ S := ⟨fun ρ a w hs =>
  let ⟨ρ', hs'⟩ := he ρ a w hs
  h.out ρ' a w hs'⟩
def loopS {X : Type} (M : Nat → Prop) (w0 : World) (I : X → Prop) (τ : X → SSt) (μ : X → Nat) (x : X) (S : Exit → SSt → Prop) : Exit → SSt → Prop
  | .normal, σ' => ∃ x', I x' ∧ Ent M w0 σ' (τ x') ∧ μ x' < μ x
  | e, σ' => S e σ'
theorem vc_loop {X : Type} {c : Code} (I : X → Prop) (τ : X → SSt) (μ : X → Nat) (x0 : X) (h0 : I x0) (he : Ent M w0 σ (τ x0))
    (round : ∀ x, I x → VC P M w0 c (τ x) (loopS M w0 I τ μ x S)) : VC P M w0 (.loop c) σ S := by
  refine ⟨fun ρ a w hs => ?_⟩
  obtain ⟨ρ0, hs0⟩ := he ρ a w hs
  -- by the measure
  have key : ∀ n x, I x → μ x = n → ∀ ρ a w, Sat M w0 (τ x) ρ a w → ∀ (b : Frame) (k : List Item) (cs : List Frame),
      ∃ e a' w', post M w0 S e a' w' ∧ Arrives P (lone (b.at a (.code c :: .inLoop c :: k)) cs w) b k cs e a' w' := by
    intro n
    induction n using Nat.strongRecOn with
    | _ n ih =>
      intro x hx hn ρ a w hs b k cs
      obtain ⟨e, a₁, w₁, ⟨σ', ρ', hS, hs'⟩, harr⟩ := (round x hx).out ρ a w hs b (.inLoop c :: k) cs
      cases e with
      | normal =>
        obtain ⟨x', hx', hent, hlt⟩ := hS
        obtain ⟨ρ2, hs2⟩ := hent ρ' a₁ w₁ hs'
        obtain ⟨e₂, a₂, w₂, hq₂, harr₂⟩ := ih (μ x') (by omega) x' hx' rfl ρ2 a₁ w₁ hs2 b k cs
        exact ⟨e₂, a₂, w₂, hq₂, .of_steps (Steps.trans harr (.one step_inLoop)) harr₂⟩
      | exit id => exact ⟨_, a₁, w₁, ⟨σ', ρ', hS, hs'⟩, .pass (x := .inLoop c) rfl (fun _ _ => .inl (by simp)) harr⟩
      | goto l => exact ⟨_, a₁, w₁, ⟨σ', ρ', hS, hs'⟩, .pass (x := .inLoop c) rfl (fun _ _ => .inl (by simp)) harr⟩
      | ret => exact ⟨_, a₁, w₁, ⟨σ', ρ', hS, hs'⟩, .pass (x := .inLoop c) rfl (fun _ _ => .inl (by simp)) harr⟩
      | panic ch => exact ⟨_, a₁, w₁, ⟨σ', ρ', hS, hs'⟩, .pass (x := .inLoop c) rfl (fun _ _ => .inl (by simp)) harr⟩
      | outgrown => exact ⟨_, a₁, w₁, ⟨σ', ρ', hS, hs'⟩, .pass (x := .inLoop c) rfl (fun _ _ => .inl (by simp)) harr⟩
  intro b k cs
  obtain ⟨e, a', w', hq, harr⟩ := key _ x0 h0 rfl ρ0 a w hs0 b k cs
  exact ⟨e, a', w', hq, .of_steps (.one step_loop) harr⟩

/-! states written out -/
def look {α : Type} : List (Nat × α) → Nat → Option α
  | [], _ => none
  | (k, v) :: l, t => match Nat.beq t k with
    | true => some v
    | false => look l t
def mkSt (l : List (Nat × SS)) (m : List (Nat × Blk)) (next n : Nat) : SSt := ⟨look l, look m, next, n⟩
theorem look_mem {α : Type} : ∀ {l : List (Nat × α)} {t : Nat} {v : α}, look l t = some v → (t, v) ∈ l
  | (k, v') :: l, t, v, h => by
    unfold look at h
    cases hb : Nat.beq t k with
    | true =>
      rw [hb] at h
      simp only [Option.some.injEq] at h; subst h
      rw [Nat.eq_of_beq_eq_true hb]; exact List.mem_cons_self
    | false => rw [hb] at h; exact List.mem_cons_of_mem _ (look_mem h)
def CV.names : CV → List Nat
  | .pt k _ => [k]
  | .sl k _ _ _ _ => [k]
  | _ => []
def namesC (cs : List CV) : List Nat := cs.flatMap CV.names
def SV.names : SV → List Nat
  | .v _ => []
  | .p k _ => [k]
  | .e k _ _ => [k]
  | .s k _ _ _ _ => [k]
  | .g cs => namesC cs
def SS.names : SS → List Nat
  | .one x => x.names
  | .tup l => l.flatMap SV.names
theorem okC_names {D E : Nat → Prop} {cs : List CV} (h : okC D cs) (hn : ∀ k ∈ namesC cs, E k) : okC E cs := by
  intro c hc
  have h1 := h c hc
  have h2 : ∀ k ∈ c.names, E k := fun k hk => hn k (List.mem_flatMap.2 ⟨c, hc, hk⟩)
  cases c <;> first | exact h1 | exact h2 _ (by simp [CV.names])
theorem SV.ok_names {D E : Nat → Prop} {s : SV} (h : s.ok D) (hn : ∀ k ∈ s.names, E k) : s.ok E := by
  cases s with
  | v x => trivial
  | g cs => exact okC_names h hn
  | p k off => exact hn k (by simp [SV.names])
  | e k b j => exact hn k (by simp [SV.names])
  | s k b st l c => exact hn k (by simp [SV.names])
theorem SS.ok_names {D E : Nat → Prop} {s : SS} (h : s.ok D) (hn : ∀ k ∈ s.names, E k) : s.ok E := by
  cases s with
  | one x => exact SV.ok_names h hn
  | tup l => exact fun x hx => SV.ok_names (h x hx) fun k hk => hn k (List.mem_flatMap.2 ⟨x, hx, hk⟩)
/-- no name without a block; no name too great -/
def tidyB (l : List (Nat × SS)) (m : List (Nat × Blk)) (next : Nat) : Bool :=
  (l.all fun p => p.2.names.all fun k => (look m k).isSome) && (m.all fun p => Nat.blt p.1 next && (namesC p.2.cs).all fun k => (look m k).isSome)
def slotsEq (σ : SSt) : List (Nat × SS) → Prop
  | [] => True
  | (t, s) :: l => σ.slots t = some s ∧ slotsEq σ l
def blksEq (σ : SSt) : List (Nat × Blk) → Prop
  | [] => True
  | (k, B) :: l => σ.blks k = some B ∧ blksEq σ l
theorem slotsEq_mem : ∀ {l : List (Nat × SS)}, slotsEq σ l → ∀ p ∈ l, σ.slots p.1 = some p.2
  | (t, s) :: l, h, p, hp => by
    rcases List.mem_cons.1 hp with rfl | hp
    · exact h.1
    · exact slotsEq_mem h.2 p hp
theorem blksEq_mem : ∀ {l : List (Nat × Blk)}, blksEq σ l → ∀ p ∈ l, σ.blks p.1 = some p.2
  | (t, s) :: l, h, p, hp => by
    rcases List.mem_cons.1 hp with rfl | hp
    · exact h.1
    · exact blksEq_mem h.2 p hp
theorem ent_mk {l : List (Nat × SS)} {m : List (Nat × Blk)} {next n : Nat} (hn : σ.n = n) (hl : slotsEq σ l) (hm : blksEq σ m) (ht : tidyB l m next = true) : Ent M w0 σ (mkSt l m next n) := by
  intro ρ a w h
  simp only [tidyB, Bool.and_eq_true, List.all_eq_true] at ht
  obtain ⟨t1, t2⟩ := ht
  refine ⟨ρ, ?_⟩
  exact
  { size := by rw [h.size, hn]; rfl
    defers := h.defers
    slots := fun t s hs => by
      have hm' := look_mem hs
      obtain ⟨h1, h2⟩ := h.slots t s (slotsEq_mem hl _ hm')
      exact ⟨h1, SS.ok_names h2 fun k hk => t1 _ hm' k hk⟩
    named := fun k B hk => by
      have hm' := look_mem hk
      obtain ⟨h1, h2⟩ := h.named k B (blksEq_mem hm _ hm')
      have := t2 _ hm'
      have h3 : k < next := by simpa [Nat.blt_eq] using this.1
      exact ⟨h3, okC_names h2 fun j hj => this.2 j hj⟩
    blks := fun k B hk => h.blks k B (blksEq_mem hm _ (look_mem hk))
    sep := fun k j B C hkj hk hj => h.sep k j B C hkj (blksEq_mem hm _ (look_mem hk)) (blksEq_mem hm _ (look_mem hj))
    own := fun k B hk => h.own k B (blksEq_mem hm _ (look_mem hk))
    grow := h.grow }

/-! a function's body -/
def resS (Γ : TyEnv) (σ : SSt) : List ResultVar → Option (List SV × Prop)
  | [] => some ([], True)
  | .tmp t :: l => match rd σ (.tmp t), resS Γ σ l with
    | some s, some (r, p) => some (s :: r, p)
    | _, _ => none
  | .cell a T :: l => match opLoad Γ σ T (rd σ (.tmp a)), resS Γ σ l with
    | .val (.one s) q, some (r, p) => some (s :: r, q ∧ p)
    | _, _ => none
def valOf (ρ : Rho) : List SV → Value
  | [s] => s.den ρ
  | l => .tuple (l.map (SV.den ρ)).toArray

theorem asAddr_sure {v : Value} {a : Addr} (h : v = .pointer (some a)) : asAddr v = Instr.sureAddr v := by subst h; rfl

def resOp (tmps : Array Value) : ResultVar → Sem Value
  | .tmp t => pure (tmps.getD t undef)
  | .cell a t => do loadVar t (← asAddr (tmps.getD a undef))
theorem run_results (hΓ : TyOK P Γ) {ρ : Rho} {a : Act} {w : World} (h : Sat M w0 σ ρ a w) : ∀ (l : List ResultVar) (r : List SV) (p : Prop), resS Γ σ l = some (r, p) → p →
    (l.mapM (m := Sem) (resOp a.tmps)).run P w = .ok (r.map (SV.den ρ)) w
  | [], r, p, hr, _ => by simp only [resS, Option.some.injEq, Prod.mk.injEq] at hr; obtain ⟨rfl, rfl⟩ := hr; rfl
  | .tmp t :: l, r, p, hr, hp => by
    simp only [resS] at hr
    split at hr
    · rename_i s r' p' h1 h2
      simp only [Option.some.injEq, Prod.mk.injEq] at hr
      obtain ⟨rfl, rfl⟩ := hr
      have he := (rd_spec h h1).1
      simp only [Act.eval] at he
      simp only [List.mapM_cons, resOp, Sem.run_bind, Sem.run_pure, Result.andThen_ok, he, run_results hΓ h l r' p' h2 hp, List.map_cons]
    · cases hr
  | .cell b T :: l, r, p, hr, hp => by
    simp only [resS] at hr
    split at hr
    · rename_i s q r' p' h1 h2
      simp only [Option.some.injEq, Prod.mk.injEq] at hr
      obtain ⟨rfl, rfl⟩ := hr
      have he := (opLoad_spec hΓ h h1 hp.1).1
      have hptr : ∃ ad, a.eval (.tmp b) = .pointer (some ad) := by
        cases hx : rd σ (.tmp b) with
        | none => rw [hx] at h1; unfold opLoad at h1; split at h1 <;> first | (rename_i hh; cases hh) | cases h1
        | some v =>
          have hv := (rd_spec h hx).1
          cases v with
          | p k off => exact ⟨_, hv⟩
          | e k base j => exact ⟨_, hv⟩
          | v x => rw [hx] at h1; unfold opLoad at h1; split at h1 <;> first | (rename_i hh; cases hh) | cases h1
          | s k b st ll c => rw [hx] at h1; unfold opLoad at h1; split at h1 <;> first | (rename_i hh; cases hh) | cases h1
          | g cs => rw [hx] at h1; unfold opLoad at h1; split at h1 <;> first | (rename_i hh; cases hh) | cases h1
      obtain ⟨ad, had⟩ := hptr
      simp only [Instr.loadAt, Sem.run_bind] at he
      simp only [Act.eval] at he had
      simp only [List.mapM_cons, resOp, Sem.run_bind, asAddr_sure had, he, Result.andThen_ok, run_results hΓ h l r' p' h2 hp.2, List.map_cons, SS.den, Sem.run_pure]
    · cases hr

/-- what is asked where a body ends -/
def endS (Γ : TyEnv) (rs : List ResultVar) (F : SSt → List SV → Prop) : Exit → SSt → Prop
  | .normal, σ => match resS Γ σ rs with
    | some (r, p) => p ∧ F σ r
    | none => False
  | .ret, σ => match resS Γ σ rs with
    | some (r, p) => p ∧ F σ r
    | none => False
  | _, _ => False

def argSlots : Nat → List SV → List (Nat × SS)
  | _, [] => []
  | i, s :: l => (i, .one s) :: argSlots (i + 1) l
theorem argSlots_mem : ∀ {l : List SV} {i t : Nat} {s : SS}, (t, s) ∈ argSlots i l → ∃ v, s = .one v ∧ i ≤ t ∧ l[t - i]? = some v
  | v :: l, i, t, s, h => by
    rcases List.mem_cons.1 h with h | h
    · simp only [Prod.mk.injEq] at h
      obtain ⟨rfl, rfl⟩ := h
      exact ⟨v, rfl, Nat.le_refl _, by simp⟩
    · obtain ⟨v', rfl, h1, h2⟩ := argSlots_mem h
      refine ⟨v', rfl, by omega, ?_⟩
      rw [show t - i = (t - (i + 1)) + 1 from by omega, List.getElem?_cons_succ]
      exact h2

/-- a call, out of its body -/
theorem calls_of_vc (hΓ : TyOK P Γ) {f : FuncId} {fn : Func} {c : Code} (hf : P.funcs[f]? = some fn) (hb : fn.body = some c) {rs : List ResultVar} (hrs : fn.results = rs.toArray)
    {args : List SV} {m : List (Nat × Blk)} {next : Nat} {w : World} {ρ : Rho} (hn : args.length ≤ fn.ntmps) (hok : ∀ s ∈ args, s.ok fun k => (look m k).isSome = true)
    (hm : ∀ k B, look m k = some B → k < next ∧ okC (fun k => (look m k).isSome = true) B.cs ∧ BlkSat ρ k B w ∧ (B.rw = true → M (ρ k).1))
    (hsep : ∀ k l B C, k ≠ l → look m k = some B → look m l = some C → B.rw = true → (ρ k).1 ≠ (ρ l).1) {R : Value → World → Prop} {F : SSt → List SV → Prop}
    (hF : ∀ σ r ρ a w', F σ r → Sat M w σ ρ a w' → R (valOf ρ r) w')
    (hvc : VC P M w c (mkSt (argSlots 0 args) m next fn.ntmps) (endS Γ rs F)) :
    Calls P f (args.map (SV.den ρ)).toArray w (fun e w' => ∃ v, e = .returned v ∧ R v w') := by
  refine calls_of_wp hf hb ?_
  refine wp_mono (hvc.out ρ _ w ?_) ?_
  · exact
    { size := by simp [mkSt]; omega
      defers := rfl
      slots := fun t s hs => by
        obtain ⟨v, rfl, _, h2⟩ := argSlots_mem (look_mem hs)
        simp only [Nat.sub_zero] at h2
        have hlt := (List.getElem?_eq_some_iff.1 h2).1
        refine ⟨?_, hok v (List.mem_of_getElem? h2)⟩
        rw [Array.getElem?_append_left (by simpa using hlt)]
        simp [h2, SS.den]
      named := fun k B hk => ⟨(hm k B hk).1, (hm k B hk).2.1⟩
      blks := fun k B hk => (hm k B hk).2.2.1
      sep := hsep
      own := fun k B hk hr => .inr ((hm k B hk).2.2.2 hr)
      grow := Frame'.refl _ _ }
  · have fin : ∀ (a : Act) (w' : World) (σ : SSt) (ρ : Rho), Sat M w σ ρ a w' → (match resS Γ σ rs with | some (r, p) => p ∧ F σ r | none => False) →
        a.defers = [] ∧ ∃ v, (results fn a.tmps).run P w' = .ok v w' ∧ ∃ v', Ending.returned v = .returned v' ∧ R v' w' := by
      intro a w' σ ρ hs hS
      refine ⟨hs.defers, ?_⟩
      split at hS
      · rename_i r p hr
        have h1 := run_results hΓ hs rs r p hr hS.1
        refine ⟨valOf ρ r, ?_, _, rfl, hF σ r ρ a w' hS.2 hs⟩
        have hmap : ∀ (q : Sem (List Value)), (List.toArray <$> q).run P w' = (q.run P w').andThen fun x w => .ok x.toArray w := by
          intro q
          show (q >>= fun x => pure x.toArray).run P w' = _
          rw [Sem.run_bind]; rfl
        have hres : results fn a.tmps = (do
            let vs ← fn.results.mapM (resOp a.tmps)
            pure (if h : vs.size = 1 then vs[0] else .tuple vs)) := rfl
        simp only [hres, hrs, List.mapM_toArray, Sem.run_bind, hmap, h1, Result.andThen_ok, Sem.run_pure]
        congr 1
        match r with
        | [] => rfl
        | [s] => rfl
        | s :: t :: l => simp [valOf]
      · exact hS.elim
    rintro e a w' ⟨σ, ρ, hS, hs⟩
    cases e <;> first | exact fin a w' σ ρ hs hS | exact hS.elim
end
end Go.SX
