/- SxOwn: a part of the proof: lemmas alone, of no statement. -/
import Derived.Test.YthjpppgibdfaeaaSxCall
namespace Go.SX
open Go.RowKit

def tupV : List Value → Value
  | [v] => v
  | l => .tuple l.toArray
theorem valOf_map (ρ : Rho) : ∀ l : List SV, valOf ρ l = tupV (l.map (SV.den ρ))
  | [] => rfl
  | [s] => rfl
  | s :: t :: l => rfl
/-- a callee that reads what it is shown, and gives values that may lead into one block of its own -/
theorem call_own1 {P : Program} {Γ : TyEnv} (hΓ : TyOK P Γ) {f : FuncId} {fn : Func} {c : Code} (hf : P.funcs[f]? = some fn) (hb : fn.body = some c) (hn1 : (fn.name == "runtime.NumGoroutine") = false) {rs : List ResultVar}
    (hrs : fn.results = rs.toArray) {args : List SV} (vs : List View) (hn : args.length ≤ fn.ntmps) (hargs : ∀ s ∈ args, s.ok fun j => j < vs.length) {Y : Type} (res : Y → Nat → List SV) (cs : Y → List CV) (cond : Y → Prop)
    (hcs : ∀ y, cond y → okC (fun _ => False) (cs y)) (hres : ∀ y k (D : Nat → Prop), D k → ∀ s ∈ res y k, s.ok D)
    (hrn : ∀ y k j (ρ ρ' : Rho), ρ k = ρ' j → (res y k).map (SV.den ρ) = (res y j).map (SV.den ρ'))
    (hvc : ∀ w, VC P (fun _ => False) w c (mkSt (argSlots 0 args) (viewBlks 0 vs) vs.length fn.ntmps) (endS Γ rs fun σ' r => ∃ y k, cond y ∧ r = res y k ∧ σ'.blks k = some ⟨cs y, true⟩))
    {eff : Bool} {σ : SSt} {nm : Nat} {K : SSt → SS → Prop} {cargs : List SV} (hseen : Seen σ vs) (hden : ∀ ρ, cargs.map (SV.den ρ) = args.map (SV.den (viewRho ρ vs)))
    (hk : ∀ y, cond y → K (σ.bind nm ⟨cs y, true⟩) (ssOf (res y nm))) : CallVC P eff (.fn f) cargs σ nm K := by
  have hcs' : ∀ y, cond y → ∀ D, okC D (cs y) := fun y hy D => okC_mono (fun _ hf => hf.elim) (hcs y hy)
  refine ⟨Y, fun y => ssOf (res y nm), fun _ => [], fun y => [⟨cs y, true⟩], cond, fun ρ w hm => ?_, fun y hy => ⟨fun _ => rfl, by simp, ⟨hcs' y hy _, trivial⟩, ssOf_ok (hres y nm _ (dom_bind_self _ _ _)), hk y hy⟩⟩
  rw [hden ρ]
  refine invokes_of_calls hf (by rw [hb]; rfl) hn1 ?_
  have hdom : ∀ j, j < vs.length → (look (viewBlks 0 vs) j).isSome = true := by
    have gen : ∀ (vs : List View) (i j : Nat), i ≤ j → j < i + vs.length → (look (viewBlks i vs) j).isSome = true := by
      intro vs
      induction vs with
      | nil => intro i j h1 h2; simp at h2; omega
      | cons v vs ih =>
        intro i j h1 h2
        obtain ⟨k, off, ds⟩ := v
        simp only [viewBlks, look]
        cases hb : Nat.beq j i with
        | true => rfl
        | false =>
          have : j ≠ i := fun e => by subst e; simp at hb
          exact ih (i + 1) j (by omega) (by simp at h2; omega)
    intro j hj; exact gen vs 0 j (Nat.zero_le _) (by omega)
  refine calls_of_vc (M := fun _ => False) hΓ hf hb hrs (args := args) (m := viewBlks 0 vs) (next := vs.length) (ρ := viewRho ρ vs) hn (fun s hs => SV.ok_mono hdom (hargs s hs)) (fun j B hB => ?_) (fun j l B C _ hj _ hrw => ?_)
    (fun σ' r ρ' a w' hr hs => ?_) (hvc w)
  · obtain ⟨v, h1, h2, rfl⟩ := viewBlks_get hB
    simp only [Nat.sub_zero] at h1
    refine ⟨(List.getElem?_eq_some_iff.1 h1).1, okC_mono (fun _ hf => hf.elim) (hseen.get v (List.mem_of_getElem? h1)).2, view_sat hm hseen h1, fun hf => by cases hf⟩
  · obtain ⟨v, _, _, rfl⟩ := viewBlks_get hj
    cases hrw
  · obtain ⟨y, k, hy, rfl, hB⟩ := hr
    obtain ⟨c', T, fz, hc, h1, h2⟩ := hs.blks _ _ hB
    obtain ⟨h0, h3, rfl⟩ := h2 rfl
    have hflat : ∀ ρ1 ρ2 : Rho, flat ρ1 (cs y) = flat ρ2 (cs y) := fun ρ1 ρ2 => flat_congr (D := fun _ => False) (fun _ hf => hf.elim) (hcs y hy)
    refine ⟨y, [(ρ' k).1], hy, ?_, ⟨hs.grow.os, hs.grow.tape, hs.grow.output, hs.grow.size, fun j hj _ => hs.grow.block j hj id⟩, trivial, ?_, by simp, ⟨T, ?_⟩, trivial⟩
    · rw [ssOf_den]
      have e : ρ' k = rhoL ρ nm [(ρ' k).1] nm := by simp only [rhoL, upd_same]; exact Prod.ext rfl h0
      have := hrn y k nm ρ' (rhoL ρ nm [(ρ' k).1]) e
      rw [valOf_map, valOf_map, this]
    · rcases hs.own k _ hB rfl with h | h
      · exact h
      · exact h.elim
    · rw [hc]
      congr 2
      have hsz : c'.toList = flat ρ' (cs y) := by
        apply List.ext_getElem?
        intro i
        by_cases hi : i < (flat ρ' (cs y)).length
        · have := h1 i hi
          rw [h0, Nat.zero_add] at this
          simpa using this
        · have h4 : c'.size = (flat ρ' (cs y)).length := h3
          rw [List.getElem?_eq_none (by simp only [Array.length_toList]; omega), List.getElem?_eq_none (by omega)]
      apply Array.toList_inj.1
      rw [hsz]; exact hflat _ _
end Go.SX
