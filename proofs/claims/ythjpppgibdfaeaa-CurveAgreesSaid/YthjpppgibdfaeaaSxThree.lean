/- SxThree: a part of the proof: lemmas alone, of no statement. -/
import Derived.Test.YthjpppgibdfaeaaSxTwo
import Derived.KernelRfl
import Derived.Laws.OwnMore
namespace Go.SX
def okB (cs : List CV) : Bool := cs.all fun
  | .one x => cellish x
  | .many n xs => Nat.beq xs.length n && xs.all cellish
  | _ => false
theorem okB_spec {cs : List CV} (h : okB cs = true) (D : Nat → Prop) : okC D cs := by
  intro c hc
  have := List.all_eq_true.1 h c hc
  cases c with
  | one x => exact this
  | many n xs =>
    simp only [Bool.and_eq_true] at this
    exact ⟨Nat.eq_of_beq_eq_true this.1, fun x hx => List.all_eq_true.1 this.2 x hx⟩
  | pt k off => cases this
  | sl k b st l c => cases this
def notArr : TypeDesc → Bool
  | .array _ _ => false
  | _ => true
theorem TyOK1.mk' {P : Program} {t : Nat} {d : TypeDesc} {n : Nat} {z : List CV} (h1 : P.underlying t = some d) (h2 : (P.info? t).map (·.size) = some n)
    (h3 : ∀ ρ, ((P.info? t).bind (·.zero)).map (·.cells.toList) = some (flat ρ z)) (h4 : okB z = true) (h5 : notArr d = true ∨ P.eqGuardType P.depth t = false) : TyOK1 P t ⟨d, n, z⟩ :=
  ⟨h1, h2, h3, okB_spec h4, fun len E he => by
    rcases h5 with h | h
    · simp only at he; subst he; cases h
    · exact h⟩
theorem tyOK_of {P : Program} {l : List (Nat × TInfo)} (h : ∀ p ∈ l, TyOK1 P p.1 p.2) : TyOK P (look l) := fun t i hi => h (t, i) (look_mem hi)
end Go.SX

namespace Go.SX
open Go.RowKit
theorem callVC_val {P : Program} {eff : Bool} {f : FuncId} {args : List SV} {σ : SSt} {nm : Nat} {K : SSt → SS → Prop} (res : SS) (hok : res.ok σ.dom)
    (h : ∀ ρ w, MSat σ ρ w → Invokes P f (args.map (SV.den ρ)).toArray w (fun v w' => v = res.den ρ ∧ Frame' (fun _ => False) w w')) (hk : K σ res) : CallVC P eff (.fn f) args σ nm K := by
  refine ⟨Unit, fun _ => res, fun _ => [], fun _ => [], fun _ => True, fun ρ w hm => ?_, fun _ _ => ⟨fun _ => rfl, by simp, trivial, hok, hk⟩⟩
  refine (h ρ w hm).mono ?_
  rintro v w' ⟨rfl, hf⟩
  exact ⟨(), [], trivial, rfl, ⟨hf.os, hf.tape, hf.output, hf.size, fun k hk _ => hf.block k hk id⟩, trivial, trivial⟩

/-- a result that may be one of many -/
theorem callVC_any {P : Program} {eff : Bool} {f : FuncId} {args : List SV} {σ : SSt} {nm : Nat} {K : SSt → SS → Prop} {Y : Type} (res : Y → SS) (cond : Y → Prop) (hok : ∀ y, cond y → (res y).ok σ.dom)
    (h : ∀ ρ w, MSat σ ρ w → Invokes P f (args.map (SV.den ρ)).toArray w (fun v w' => ∃ y, cond y ∧ v = (res y).den ρ ∧ Frame' (fun _ => False) w w')) (hk : ∀ y, cond y → K σ (res y)) : CallVC P eff (.fn f) args σ nm K := by
  refine ⟨Y, res, fun _ => [], fun _ => [], cond, fun ρ w hm => ?_, fun y hy => ⟨fun _ => rfl, by simp, trivial, hok y hy, hk y hy⟩⟩
  refine (h ρ w hm).mono ?_
  rintro v w' ⟨y, hy, rfl, hf⟩
  exact ⟨y, [], hy, rfl, ⟨hf.os, hf.tape, hf.output, hf.size, fun k hk _ => hf.block k hk id⟩, trivial, trivial⟩

def ssOf : List SV → SS
  | [s] => .one s
  | l => .tup l
theorem ssOf_den (ρ : Rho) (l : List SV) : (ssOf l).den ρ = valOf ρ l := by
  match l with
  | [] => rfl
  | [s] => rfl
  | s :: t :: l => rfl
theorem ssOf_ok {D : Nat → Prop} {l : List SV} (h : ∀ s ∈ l, s.ok D) : (ssOf l).ok D := by
  match l, h with
  | [], _ => exact fun _ hm => by cases hm
  | [s], h => exact h s (by simp)
  | s :: t :: l, h => exact h
/-- no names -/
def Plain (l : List SV) : Prop := ∀ s ∈ l, s.ok fun _ => False
theorem Plain.ok {l : List SV} (h : Plain l) {D : Nat → Prop} : ∀ s ∈ l, s.ok D := fun s hs => SV.ok_mono (fun _ hf => hf.elim) (h s hs)
theorem valOf_plain {l : List SV} (h : Plain l) (ρ ρ' : Rho) : valOf ρ l = valOf ρ' l := by
  rw [← ssOf_den, ← ssOf_den]
  exact SS.den_congr (D := fun _ => False) (fun _ hf => hf.elim) (ssOf_ok h)
theorem plain_nil : Plain [] := fun _ h => by cases h
theorem plain_v {x : Value} {l : List SV} (h : Plain l) : Plain (.v x :: l) := fun s hs => by
  rcases List.mem_cons.1 hs with rfl | hs
  · trivial
  · exact h s hs
theorem plain_g {cs : List CV} {l : List SV} (hc : okC (fun _ => False) cs) (h : Plain l) : Plain (.g cs :: l) := fun s hs => by
  rcases List.mem_cons.1 hs with rfl | hs
  · exact hc
  · exact h s hs

/-- these cells lie in those, from a place on -/
def Part (off : Nat) (cs ds : List CV) : Prop := ∀ (D : Nat → Prop) (ρ : Rho), okC D cs → ∃ l r, flat ρ cs = l ++ (flat ρ ds ++ r) ∧ l.length = off
theorem part_of {off n : Nat} {cs ds : List CV} (h : partC off n cs = some ds) : Part off cs ds := by
  intro D ρ hc
  obtain ⟨h1, _, h3⟩ := partC_spec (ρ := ρ) hc h
  refine ⟨(flat ρ cs).take off, (flat ρ cs).drop (off + n), ?_, by simp; omega⟩
  rw [h1, ← List.drop_drop, List.take_append_drop, List.take_append_drop]
theorem part_row {off n : Nat} {cs : List CV} {xs : List Value} (h : rowAt off cs = some (n, xs)) : Part off cs [.many n xs] := by
  intro D ρ hc
  obtain ⟨_, _, l, r, h3, h4⟩ := rowAt_spec (ρ := ρ) cs off n xs hc h
  exact ⟨l, r, by rw [h3]; simp [flat, CV.den], h4⟩
theorem part_all {cs : List CV} : Part 0 cs cs := fun _ _ _ => ⟨[], [], by simp, rfl⟩
theorem part_trans {o o' : Nat} {cs ds es : List CV} (h : Part o cs ds) (k : Part o' ds es) (hd : ∀ D, okC D cs → okC D ds) : Part (o + o') cs es := by
  intro D ρ hc
  obtain ⟨l, r, h1, h2⟩ := h D ρ hc
  obtain ⟨l', r', k1, k2⟩ := k D ρ (hd D hc)
  exact ⟨l ++ l', r' ++ r, by rw [h1, k1]; simp, by simp [h2, k2]⟩

/-! what a callee sees of the caller's blocks, to read -/
abbrev View := Nat × Nat × List CV
def viewRho (ρ : Rho) (vs : List View) : Rho := fun j => match vs[j]? with
  | some (k, off, _) => ((ρ k).1, (ρ k).2 + off)
  | none => (0, 0)
def viewBlks : Nat → List View → List (Nat × Blk)
  | _, [] => []
  | j, (_, _, ds) :: vs => (j, ⟨ds, false⟩) :: viewBlks (j + 1) vs
/-- a block has these cells from a place on -/
def Has (σ : SSt) (k off : Nat) (ds : List CV) : Prop := ∃ cs r, σ.blks k = some ⟨cs, r⟩ ∧ Part off cs ds
/-- each view is a part of a block -/
def Seen (σ : SSt) : List View → Prop
  | [] => True
  | (k, off, ds) :: vs => Has σ k off ds ∧ okC (fun _ => False) ds ∧ Seen σ vs
theorem Seen.get {σ : SSt} : ∀ {vs : List View}, Seen σ vs → ∀ v ∈ vs, Has σ v.1 v.2.1 v.2.2 ∧ okC (fun _ => False) v.2.2
  | (k, off, ds) :: vs, h, v, hv => by
    rcases List.mem_cons.1 hv with rfl | hv
    · exact ⟨h.1, h.2.1⟩
    · exact Seen.get h.2.2 v hv
theorem viewBlks_get : ∀ {vs : List View} {i j : Nat} {B : Blk}, look (viewBlks i vs) j = some B → ∃ v, vs[j - i]? = some v ∧ i ≤ j ∧ B = ⟨v.2.2, false⟩
  | [], i, j, B, h => by simp [viewBlks, look] at h
  | (k, off, ds) :: vs, i, j, B, h => by
    simp only [viewBlks, look] at h
    cases hb : Nat.beq j i with
    | true =>
      rw [hb] at h
      simp only [Option.some.injEq] at h
      have := Nat.eq_of_beq_eq_true hb
      subst this
      exact ⟨(k, off, ds), by simp, Nat.le_refl _, h.symm⟩
    | false =>
      rw [hb] at h
      obtain ⟨v, h1, h2, h3⟩ := viewBlks_get h
      refine ⟨v, ?_, by omega, h3⟩
      rw [show j - i = (j - (i + 1)) + 1 from by omega, List.getElem?_cons_succ]; exact h1
theorem view_sat {σ : SSt} {ρ : Rho} {w : World} (hm : MSat σ ρ w) {vs : List View} (h : Seen σ vs) {j : Nat} {v : View} (hv : vs[j]? = some v) :
    BlkSat (viewRho ρ vs) j ⟨v.2.2, false⟩ w := by
  obtain ⟨⟨cs, r, hB, hp⟩, hpl⟩ := h.get v (List.mem_of_getElem? hv)
  obtain ⟨c, T, fz, hc, hs, _⟩ := hm.blks _ _ hB
  obtain ⟨l, r', h1, h3⟩ := hp _ ρ (hm.ok _ _ hB)
  have hfl : flat (viewRho ρ vs) v.2.2 = flat ρ v.2.2 := flat_congr (D := fun _ => False) (fun _ hf => hf.elim) hpl
  have hr : viewRho ρ vs j = ((ρ v.1).1, (ρ v.1).2 + v.2.1) := by simp [viewRho, hv]
  refine ⟨c, T, fz, by rw [hr]; exact hc, fun i hi => ?_, fun hf => by cases hf⟩
  rw [hr]
  simp only at hi ⊢
  rw [hfl] at hi ⊢
  rw [Nat.add_assoc, hs (v.2.1 + i) (by simp only [h1]; simp only [List.length_append]; omega)]
  simp only [h1]
  rw [List.getElem?_append_right (by omega), h3, Nat.add_sub_cancel_left, List.getElem?_append_left hi]

/-- a callee that reads what it is shown, and gives plain values -/
theorem call_fn {P : Program} {Γ : TyEnv} (hΓ : TyOK P Γ) {f : FuncId} {fn : Func} {c : Code} (hf : P.funcs[f]? = some fn) (hb : fn.body = some c) (hn1 : (fn.name == "runtime.NumGoroutine") = false) {rs : List ResultVar}
    (hrs : fn.results = rs.toArray) {args : List SV} {vs : List View} (hn : args.length ≤ fn.ntmps) (hargs : ∀ s ∈ args, s.ok fun j => j < vs.length) {Y : Type} {res : Y → List SV} {cond : Y → Prop} (hres : ∀ y, cond y → Plain (res y))
    (hvc : ∀ w, VC P (fun _ => False) w c (mkSt (argSlots 0 args) (viewBlks 0 vs) vs.length fn.ntmps) (endS Γ rs fun _ r => ∃ y, cond y ∧ r = res y))
    {eff : Bool} {σ : SSt} {nm : Nat} {K : SSt → SS → Prop} {cargs : List SV} (hseen : Seen σ vs) (hden : ∀ ρ, cargs.map (SV.den ρ) = args.map (SV.den (viewRho ρ vs)))
    (hk : ∀ y, cond y → K σ (ssOf (res y))) : CallVC P eff (.fn f) cargs σ nm K := by
  refine callVC_any (fun y => ssOf (res y)) cond (fun y hy => ssOf_ok (hres y hy).ok) (fun ρ w hm => ?_) hk
  rw [hden ρ]
  refine invokes_of_calls hf (by rw [hb]; rfl) hn1 ?_
  have hdom : ∀ j, j < vs.length → (look (viewBlks 0 vs) j).isSome = true := by
    have gen : ∀ (vs : List View) (i j : Nat), i ≤ j → j < i + vs.length → (look (viewBlks i vs) j).isSome = true := by
      intro vs
      induction vs with
      | nil => intro i j h1 h2; simp at h2; omega
      | cons v vs ih =>
        intro i j h1 h2
        obtain ⟨k, off, ds⟩ := v
        simp only [viewBlks, look]
        cases hb : Nat.beq j i with
        | true => rfl
        | false =>
          have : j ≠ i := fun e => by subst e; simp at hb
          exact ih (i + 1) j (by omega) (by simp at h2; omega)
    intro j hj; exact gen vs 0 j (Nat.zero_le _) (by omega)
  refine calls_of_vc (M := fun _ => False) hΓ hf hb hrs (args := args) (m := viewBlks 0 vs) (next := vs.length) (ρ := viewRho ρ vs) hn (fun s hs => SV.ok_mono hdom (hargs s hs)) (fun j B hB => ?_) (fun j l B C _ hj _ hrw => ?_)
    (R := fun v w' => ∃ y, cond y ∧ v = (ssOf (res y)).den ρ ∧ Frame' (fun _ => False) w w') (fun σ' r ρ' a w' hr hs => ?_) (hvc w)
  · obtain ⟨v, h1, h2, rfl⟩ := viewBlks_get hB
    simp only [Nat.sub_zero] at h1
    refine ⟨(List.getElem?_eq_some_iff.1 h1).1, okC_mono (fun _ hf => hf.elim) (hseen.get v (List.mem_of_getElem? h1)).2, view_sat hm hseen h1, fun hf => by cases hf⟩
  · obtain ⟨v, _, _, rfl⟩ := viewBlks_get hj
    cases hrw
  · obtain ⟨y, hy, rfl⟩ := hr
    exact ⟨y, hy, by rw [ssOf_den]; exact valOf_plain (hres y hy) _ _, hs.grow⟩
theorem call_fn1 {P : Program} {Γ : TyEnv} (hΓ : TyOK P Γ) {f : FuncId} {fn : Func} {c : Code} (hf : P.funcs[f]? = some fn) (hb : fn.body = some c) (hn1 : (fn.name == "runtime.NumGoroutine") = false) {rs : List ResultVar}
    (hrs : fn.results = rs.toArray) {args : List SV} (vs : List View) (hn : args.length ≤ fn.ntmps) (hargs : ∀ s ∈ args, s.ok fun j => j < vs.length) {res : List SV} (hres : Plain res)
    (hvc : ∀ w, VC P (fun _ => False) w c (mkSt (argSlots 0 args) (viewBlks 0 vs) vs.length fn.ntmps) (endS Γ rs fun _ r => r = res))
    {eff : Bool} {σ : SSt} {nm : Nat} {K : SSt → SS → Prop} {cargs : List SV} (hseen : Seen σ vs) (hden : ∀ ρ, cargs.map (SV.den ρ) = args.map (SV.den (viewRho ρ vs)))
    (hk : K σ (ssOf res)) : CallVC P eff (.fn f) cargs σ nm K := by
  refine call_fn (Y := Unit) (res := fun _ => res) (cond := fun _ => True) hΓ hf hb hn1 hrs hn hargs (fun _ _ => hres) (fun w => ?_) hseen hden (fun _ _ => hk)
  refine vc_mono (hvc w) fun e σ h => ?_
  cases e <;> simp only [endS] at h ⊢ <;> first | exact h | (split at h <;> first | exact ⟨h.1, (), trivial, h.2⟩ | exact h)
def OkAll (D : Nat → Prop) : List SV → Prop
  | [] => True
  | s :: l => s.ok D ∧ OkAll D l
theorem okAll_mem {D : Nat → Prop} : ∀ {l : List SV}, OkAll D l → ∀ s ∈ l, s.ok D
  | [], _, s, hs => by cases hs
  | t :: l, h, s, hs => by
    rcases List.mem_cons.1 hs with rfl | hs
    · exact h.1
    · exact okAll_mem h.2 s hs
/-- no views -/
theorem call_plain {P : Program} {Γ : TyEnv} (hΓ : TyOK P Γ) {f : FuncId} {fn : Func} {c : Code} (hf : P.funcs[f]? = some fn) (hb : fn.body = some c) (hn1 : (fn.name == "runtime.NumGoroutine") = false) {rs : List ResultVar}
    (hrs : fn.results = rs.toArray) {args : List SV} (hn : args.length ≤ fn.ntmps) (hargs : Plain args) {res : List SV} (hres : Plain res)
    (hvc : ∀ w, VC P (fun _ => False) w c (mkSt (argSlots 0 args) [] 0 fn.ntmps) (endS Γ rs fun _ r => r = res))
    {eff : Bool} {σ : SSt} {nm : Nat} {K : SSt → SS → Prop} (hk : K σ (ssOf res)) : CallVC P eff (.fn f) args σ nm K :=
  call_fn1 hΓ hf hb hn1 hrs [] hn (fun s hs => SV.ok_mono (fun _ hf => hf.elim) (hargs s hs)) hres hvc trivial
    (fun ρ => List.map_congr_left fun s hs => SV.den_congr (D := fun _ => False) (fun _ hf => hf.elim) (hargs s hs)) hk
/-- a callee that gives a pointer to a block of its own -/
theorem call_new1 {P : Program} {Γ : TyEnv} (hΓ : TyOK P Γ) {f : FuncId} {fn : Func} {c : Code} (hf : P.funcs[f]? = some fn) (hb : fn.body = some c) (hn1 : (fn.name == "runtime.NumGoroutine") = false) {rs : List ResultVar}
    (hrs : fn.results = rs.toArray) {args : List SV} (hn : args.length ≤ fn.ntmps) (hargs : Plain args) {cs : List CV} (hcs : okC (fun _ => False) cs)
    (hvc : ∀ w, VC P (fun _ => False) w c (mkSt (argSlots 0 args) [] 0 fn.ntmps) (endS Γ rs fun σ' r => ∃ k, r = [.p k 0] ∧ σ'.blks k = some ⟨cs, true⟩))
    {eff : Bool} {σ : SSt} {nm : Nat} {K : SSt → SS → Prop} (hk : K (σ.bind nm ⟨cs, true⟩) (.one (.p nm 0))) : CallVC P eff (.fn f) args σ nm K := by
  have hcs' : ∀ D, okC D cs := fun D => okC_mono (fun _ hf => hf.elim) hcs
  refine ⟨Unit, fun _ => .one (.p nm 0), fun _ => [], fun _ => [⟨cs, true⟩], fun _ => True, fun ρ w hm => ?_, fun _ _ => ⟨fun _ => rfl, by simp, ⟨hcs' _, trivial⟩, dom_bind_self _ _ _, hk⟩⟩
  refine invokes_of_calls hf (by rw [hb]; rfl) hn1 ?_
  refine calls_of_vc (M := fun _ => False) hΓ hf hb hrs (args := args) (m := []) (next := 0) (ρ := ρ) hn (fun s hs => SV.ok_mono (fun _ hf => hf.elim) (hargs s hs)) (fun j B hB => by simp [look] at hB) (fun j l B C _ hj _ _ => by simp [look] at hj)
    (fun σ' r ρ' a w' hr hs => ?_) (hvc w)
  obtain ⟨k, rfl, hB⟩ := hr
  obtain ⟨c', T, fz, hc, h1, h2⟩ := hs.blks _ _ hB
  obtain ⟨h0, h3, rfl⟩ := h2 rfl
  have hflat : ∀ ρ1 ρ2 : Rho, flat ρ1 cs = flat ρ2 cs := fun ρ1 ρ2 => flat_congr (D := fun _ => False) (fun _ hf => hf.elim) hcs
  refine ⟨(), [(ρ' k).1], trivial, ?_, ⟨hs.grow.os, hs.grow.tape, hs.grow.output, hs.grow.size, fun j hj _ => hs.grow.block j hj id⟩, trivial, ?_, by simp, ⟨T, ?_⟩, trivial⟩
  · simp [valOf, SS.den, SV.den, rhoL, upd_same, h0]
  · rcases hs.own k _ hB rfl with h | h
    · exact h
    · exact h.elim
  · rw [hc]
    congr 2
    have hsz : c'.toList = flat ρ' cs := by
      apply List.ext_getElem?
      intro i
      by_cases hi : i < (flat ρ' cs).length
      · have := h1 i hi
        rw [h0, Nat.zero_add] at this
        simpa using this
      · have h4 : c'.size = (flat ρ' cs).length := h3
        rw [List.getElem?_eq_none (by simp only [Array.length_toList]; omega), List.getElem?_eq_none (by omega)]
    apply Array.toList_inj.1
    rw [hsz]; exact hflat _ _
end Go.SX

namespace Go.SX
open Go.RowKit

section
variable {P : Program} {Γ : TyEnv}

/-- copy, of rows of cells -/
theorem copy_vc (hΓ : TyOK P Γ) {as : Array Operand} {ts : Array TypeId} {T E n z1 : Nat} {zc ze : List CV} {de : TypeDesc} (hts : ts[0]? = some T) (hT : Γ T = some ⟨.slice E, z1, zc⟩) (hE : Γ E = some ⟨de, 1, ze⟩)
    (has : as.size = 2) {k base st len cap k2 base2 st2 len2 cap2 : Nat} {cs cs2 new cs' : List CV} {r : Bool} {σ : SSt} {nm : Nat} {K : SSt → SS → Prop}
    (hn : n = Nat.min len2 len) (h1 : σ.blks k = some ⟨cs, true⟩) (h2 : σ.blks k2 = some ⟨cs2, r⟩) (h3 : partC (base2 + st2) n cs2 = some new) (h4 : putC (base + st) new cs = some cs')
    (hp : okC (fun _ => False) new) (hc : okC (fun _ => False) cs) (hk : K (σ.bind k ⟨cs', true⟩) (.one (.v (.int .i64 n)))) :
    CallVC P true (.op (.call ⟨.builtin .copy, as, ts⟩)) [.s k base st len cap, .s k2 base2 st2 len2 cap2] σ nm K := by
  have hok' : okC σ.dom cs' := (putC_spec (ρ := fun k => (k, 0)) (okC_mono (fun _ hf => hf.elim) hc) (okC_mono (fun _ hf => hf.elim) hp) h4).2.1
  refine ⟨Unit, fun _ => .one (.v (.int .i64 n)), fun _ => [(k, cs')], fun _ => [], fun _ => True, fun ρ w hm => ?_, fun _ _ => ⟨(by intro h; cases h), by simp, trivial, trivial, hk⟩⟩
  intro ev oo hoo hev
  obtain ⟨dst, op, type, pos, after, guard⟩ := oo
  simp only at hoo
  subst hoo
  obtain ⟨x, y, rfl⟩ : ∃ x y, as = #[x, y] := by
    match as, has with
    | ⟨[x, y]⟩, _ => exact ⟨x, y, rfl⟩
  have hx : ev x = SV.den ρ (.s k base st len cap) ∧ ev y = SV.den ρ (.s k2 base2 st2 len2 cap2) := by
    simpa [Op.operands, Call.operands] using hev
  obtain ⟨hx, hy⟩ := hx
  refine .inl ⟨.int .i64 n, ?_⟩
  -- the blocks
  obtain ⟨c, F, fz, hb, hcs, hrest⟩ := hm.blks _ _ h1
  obtain ⟨h0, hcsz, rfl⟩ := hrest rfl
  obtain ⟨c2, F2, fz2, hb2, hcs2, _⟩ := hm.blks _ _ h2
  have hokc : okC (fun _ => True) cs := okC_mono (fun _ _ => trivial) hc
  have hok2 := hm.ok _ _ h2
  obtain ⟨p1, p2, p3⟩ := partC_spec (ρ := ρ) hok2 h3
  obtain ⟨q1, q2, q3⟩ := putC_spec (ρ := ρ) hokc p2 h4
  replace p3 : base2 + st2 + n ≤ (flat ρ cs2).length := p3
  replace hcsz : c.size = (flat ρ cs).length := hcsz
  replace hcs : ∀ i, i < (flat ρ cs).length → c[(ρ k).2 + i]? = (flat ρ cs)[i]? := hcs
  replace hcs2 : ∀ i, i < (flat ρ cs2).length → c2[(ρ k2).2 + i]? = (flat ρ cs2)[i]? := hcs2
  have hlen : (flat ρ new).length = n := by rw [p1]; simp; omega
  have hcl : c.toList = flat ρ cs := by
    apply List.ext_getElem?
    intro j
    rcases Nat.lt_or_ge j (flat ρ cs).length with hj | hj
    · have := hcs j hj; rw [h0, Nat.zero_add] at this; simpa using this
    · rw [List.getElem?_eq_none hj, List.getElem?_eq_none (by simp at hcsz ⊢; omega)]
  have hT' := (hΓ _ _ hT).und
  simp only at hT'
  have hE' := run_sizeOf (hΓ _ _ hE) w
  simp only at hE'
  have hld : (loadCells ⟨(ρ k2).1, (ρ k2).2 + (base2 + st2), none⟩ n).run P w = .ok (flat ρ new).toArray w := by
    rw [← hlen]
    refine run_loadCells (fun i hi => ?_)
    rw [cell_of hb2]
    rw [hlen] at hi
    rw [Nat.add_assoc, hcs2 (base2 + st2 + i) (by omega), p1]
    rw [List.getElem?_take, if_pos hi, List.getElem?_drop]
  have hst := run_storeCells (P := P) (o := (ρ k).2 + (base + st)) (flat ρ new) 0 w c hb (by omega) (cellish_flat p2)
  refine ⟨withBlock w (ρ k).1 (.cells (flat ρ cs').toArray F (0, 0)), .inl ?_, (), [], trivial, rfl, ?_, ?_, trivial⟩
  · have hmin : Nat.min len2 len = n := hn.symm
    simp only [execOp, resolve, invoke, builtin, Builtin.copy_, Sem.run_bind, Sem.run_pure, Result.andThen_ok, hx, hy, SV.den, List.map_toArray, List.map_cons, List.map_nil]
    simp only [hts, List.getElem?_toArray, List.getElem?_cons_zero, List.getElem?_cons_succ, Sem.run_bind, run_underlying hT', Result.andThen_ok, Builtin.lenOf, Sem.run_pure, hE', hmin, Builtin.firstCells, Nat.mul_one, hld]
    rw [hst, q1, h0]
    simp only [Result.andThen_ok, Nat.zero_add, Nat.add_zero, hcl, goInt]
  · refine ⟨rfl, rfl, rfl, by simp [withBlock], fun i hi hne => ?_⟩
    have : i ≠ (ρ k).1 := fun e => hne ⟨(k, cs'), List.mem_singleton.2 rfl, e⟩
    simp only [withBlock, Array.getElem?_setIfInBounds_ne (Ne.symm this)]
  · exact ⟨⟨_, h1, rfl⟩, hok', (by intro x hx; cases hx), ⟨F, withBlock_get w _ (lt_of_get hb)⟩, h0, trivial⟩
end
end Go.SX

namespace Go.SX
open Go.RowKit

/-- make, of a row of single cells -/
theorem make_vc {P : Program} {Γ : TyEnv} (hΓ : TyOK P Γ) {T E z1 : Nat} {zc : List CV} {z0 : Value} {bytes n : Nat} {l c : Operand} {kl kc : IntKind} (hT : Γ T = some ⟨.slice E, z1, zc⟩)
    (hE : (P.info? E).map (fun i => (i.bytes, i.size, i.zero.map (·.cells))) = some (bytes, 1, some #[z0])) (hb : bytes * n ≤ 281474976710656) (hn : n ≤ 9223372036854775807) (hz : cellish z0 = true)
    {eff : Bool} {σ : SSt} {nm : Nat} {K : SSt → SS → Prop} (hk : K (σ.bind nm ⟨[.many n (List.replicate n z0)], true⟩) (.one (.s nm 0 0 n n))) :
    CallVC P eff (.op (.makeSlice T l c)) [.v (.int kl (n : Nat)), .v (.int kc (n : Nat))] σ nm K := by
  have hok : ∀ D, okC D [CV.many n (List.replicate n z0)] := fun D => okC_cons.2 ⟨⟨by simp, fun x hx => by rw [List.eq_of_mem_replicate hx]; exact hz⟩, okC_nil⟩
  refine ⟨Unit, fun _ => .one (.s nm 0 0 n n), fun _ => [], fun _ => [⟨[.many n (List.replicate n z0)], true⟩], fun _ => True, fun ρ w hm => ?_, fun _ _ => ⟨fun _ => rfl, by simp, ⟨hok _, trivial⟩, dom_bind_self _ _ _, hk⟩⟩
  intro ev oo hoo hev
  obtain ⟨dst, op, type, pos, after, guard⟩ := oo
  simp only at hoo
  subst hoo
  have hx : ev l = .int kl (n : Nat) ∧ ev c = .int kc (n : Nat) := by
    simpa [Op.operands, SV.den] using hev
  obtain ⟨hx, hy⟩ := hx
  obtain ⟨i, hi, he⟩ : ∃ i, P.info? E = some i ∧ (i.bytes, i.size, i.zero.map (·.cells)) = (bytes, 1, some #[z0]) := by
    cases h : P.info? E with
    | none => rw [h] at hE; cases hE
    | some i => rw [h] at hE; exact ⟨i, rfl, by simpa using hE⟩
  simp only [Prod.mk.injEq] at he
  obtain ⟨rfl, hsz, hzz⟩ := he
  obtain ⟨z, hz2, hz3⟩ : ∃ z, i.zero = some z ∧ z.cells = #[z0] := by
    cases h : i.zero with
    | none => rw [h] at hzz; cases hzz
    | some z => rw [h] at hzz; exact ⟨z, rfl, by simpa using hzz⟩
  have hT' := (hΓ _ _ hT).und
  simp only at hT'
  have hb' : (i.bytes : Int) * ((n : Nat) : Int) ≤ 281474976710656 := by
    have h : ((i.bytes * n : Nat) : Int) ≤ 281474976710656 := by omega
    rwa [Int.natCast_mul] at h
  have hr := run_make (P := P) w T E i z hT' hi hz2 kl kc n n (by omega) (Int.le_refl _) hb' (by omega)
  rw [hsz, hz3, Int.toNat_natCast, Nat.mul_one] at hr
  have hcells : Go.madeCells #[z0] n = (flat (upd ρ nm (w.heap.size, 0)) [CV.many n (List.replicate n z0)]).toArray := by
    apply Array.toList_inj.1
    rw [toList_madeCells_one]; simp [flat, CV.den]
  refine .inl ⟨.slice (some ⟨w.heap.size, 0, none⟩) n n, w.alloc (.cells (Go.madeCells #[z0] n) E), .inl ?_, (), [w.heap.size], trivial, ?_, ?_, trivial, ?_⟩
  · simp only [execOp, hx, hy]
    rw [Sem.run_bind, hr]; rfl
  · simp [SS.den, SV.den, rhoL, upd_same]
  · have := Frame'.alloc w (.cells (Go.madeCells #[z0] n) E)
    exact ⟨this.os, this.tape, this.output, this.size, fun k hk _ => this.block k hk id⟩
  · refine ⟨Nat.le_refl _, by simp, ⟨E, ?_⟩, trivial⟩
    rw [← hcells]
    show (w.heap.push _)[w.heap.size]? = _
    simp
end Go.SX

namespace Go.SX
open Go.RowKit

def tupV : List Value → Value
  | [v] => v
  | l => .tuple l.toArray
theorem valOf_map (ρ : Rho) : ∀ l : List SV, valOf ρ l = tupV (l.map (SV.den ρ))
  | [] => rfl
  | [s] => rfl
  | s :: t :: l => rfl
/-- a callee that reads what it is shown, and gives values that may lead into one block of its own -/
theorem call_own1 {P : Program} {Γ : TyEnv} (hΓ : TyOK P Γ) {f : FuncId} {fn : Func} {c : Code} (hf : P.funcs[f]? = some fn) (hb : fn.body = some c) (hn1 : (fn.name == "runtime.NumGoroutine") = false) {rs : List ResultVar}
    (hrs : fn.results = rs.toArray) {args : List SV} (vs : List View) (hn : args.length ≤ fn.ntmps) (hargs : ∀ s ∈ args, s.ok fun j => j < vs.length) {Y : Type} (res : Y → Nat → List SV) (cs : Y → List CV) (cond : Y → Prop)
    (hcs : ∀ y, cond y → okC (fun _ => False) (cs y)) (hres : ∀ y k (D : Nat → Prop), D k → ∀ s ∈ res y k, s.ok D)
    (hrn : ∀ y k j (ρ ρ' : Rho), ρ k = ρ' j → (res y k).map (SV.den ρ) = (res y j).map (SV.den ρ'))
    (hvc : ∀ w, VC P (fun _ => False) w c (mkSt (argSlots 0 args) (viewBlks 0 vs) vs.length fn.ntmps) (endS Γ rs fun σ' r => ∃ y k, cond y ∧ r = res y k ∧ σ'.blks k = some ⟨cs y, true⟩))
    {eff : Bool} {σ : SSt} {nm : Nat} {K : SSt → SS → Prop} {cargs : List SV} (hseen : Seen σ vs) (hden : ∀ ρ, cargs.map (SV.den ρ) = args.map (SV.den (viewRho ρ vs)))
    (hk : ∀ y, cond y → K (σ.bind nm ⟨cs y, true⟩) (ssOf (res y nm))) : CallVC P eff (.fn f) cargs σ nm K := by
  have hcs' : ∀ y, cond y → ∀ D, okC D (cs y) := fun y hy D => okC_mono (fun _ hf => hf.elim) (hcs y hy)
  refine ⟨Y, fun y => ssOf (res y nm), fun _ => [], fun y => [⟨cs y, true⟩], cond, fun ρ w hm => ?_, fun y hy => ⟨fun _ => rfl, by simp, ⟨hcs' y hy _, trivial⟩, ssOf_ok (hres y nm _ (dom_bind_self _ _ _)), hk y hy⟩⟩
  rw [hden ρ]
  refine invokes_of_calls hf (by rw [hb]; rfl) hn1 ?_
  have hdom : ∀ j, j < vs.length → (look (viewBlks 0 vs) j).isSome = true := by
    have gen : ∀ (vs : List View) (i j : Nat), i ≤ j → j < i + vs.length → (look (viewBlks i vs) j).isSome = true := by
      intro vs
      induction vs with
      | nil => intro i j h1 h2; simp at h2; omega
      | cons v vs ih =>
        intro i j h1 h2
        obtain ⟨k, off, ds⟩ := v
        simp only [viewBlks, look]
        cases hb : Nat.beq j i with
        | true => rfl
        | false =>
          have : j ≠ i := fun e => by subst e; simp at hb
          exact ih (i + 1) j (by omega) (by simp at h2; omega)
    intro j hj; exact gen vs 0 j (Nat.zero_le _) (by omega)
  refine calls_of_vc (M := fun _ => False) hΓ hf hb hrs (args := args) (m := viewBlks 0 vs) (next := vs.length) (ρ := viewRho ρ vs) hn (fun s hs => SV.ok_mono hdom (hargs s hs)) (fun j B hB => ?_) (fun j l B C _ hj _ hrw => ?_)
    (fun σ' r ρ' a w' hr hs => ?_) (hvc w)
  · obtain ⟨v, h1, h2, rfl⟩ := viewBlks_get hB
    simp only [Nat.sub_zero] at h1
    refine ⟨(List.getElem?_eq_some_iff.1 h1).1, okC_mono (fun _ hf => hf.elim) (hseen.get v (List.mem_of_getElem? h1)).2, view_sat hm hseen h1, fun hf => by cases hf⟩
  · obtain ⟨v, _, _, rfl⟩ := viewBlks_get hj
    cases hrw
  · obtain ⟨y, k, hy, rfl, hB⟩ := hr
    obtain ⟨c', T, fz, hc, h1, h2⟩ := hs.blks _ _ hB
    obtain ⟨h0, h3, rfl⟩ := h2 rfl
    have hflat : ∀ ρ1 ρ2 : Rho, flat ρ1 (cs y) = flat ρ2 (cs y) := fun ρ1 ρ2 => flat_congr (D := fun _ => False) (fun _ hf => hf.elim) (hcs y hy)
    refine ⟨y, [(ρ' k).1], hy, ?_, ⟨hs.grow.os, hs.grow.tape, hs.grow.output, hs.grow.size, fun j hj _ => hs.grow.block j hj id⟩, trivial, ?_, by simp, ⟨T, ?_⟩, trivial⟩
    · rw [ssOf_den]
      have e : ρ' k = rhoL ρ nm [(ρ' k).1] nm := by simp only [rhoL, upd_same]; exact Prod.ext rfl h0
      have := hrn y k nm ρ' (rhoL ρ nm [(ρ' k).1]) e
      rw [valOf_map, valOf_map, this]
    · rcases hs.own k _ hB rfl with h | h
      · exact h
      · exact h.elim
    · rw [hc]
      congr 2
      have hsz : c'.toList = flat ρ' (cs y) := by
        apply List.ext_getElem?
        intro i
        by_cases hi : i < (flat ρ' (cs y)).length
        · have := h1 i hi
          rw [h0, Nat.zero_add] at this
          simpa using this
        · have h4 : c'.size = (flat ρ' (cs y)).length := h3
          rw [List.getElem?_eq_none (by simp only [Array.length_toList]; omega), List.getElem?_eq_none (by omega)]
      apply Array.toList_inj.1
      rw [hsz]; exact hflat _ _
end Go.SX
