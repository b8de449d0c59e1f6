/- SxTy: a part of the proof: lemmas alone, of no statement. -/
import Derived.Test.YthjpppgibdfaeaaSxCode
import Derived.KernelRfl
namespace Go.SX
def okB (cs : List CV) : Bool := cs.all fun
  | .one x => cellish x
  | .many n xs => Nat.beq xs.length n && xs.all cellish
  | _ => false
theorem okB_spec {cs : List CV} (h : okB cs = true) (D : Nat → Prop) : okC D cs := by
  intro c hc
  have := List.all_eq_true.1 h c hc
  cases c with
  | one x => exact this
  | many n xs =>
    simp only [Bool.and_eq_true] at this
    exact ⟨Nat.eq_of_beq_eq_true this.1, fun x hx => List.all_eq_true.1 this.2 x hx⟩
  | pt k off => cases this
  | sl k b st l c => cases this
def notArr : TypeDesc → Bool
  | .array _ _ => false
  | _ => true
theorem TyOK1.mk' {P : Program} {t : Nat} {d : TypeDesc} {n : Nat} {z : List CV} (h1 : P.underlying t = some d) (h2 : (P.info? t).map (·.size) = some n)
    (h3 : ∀ ρ, ((P.info? t).bind (·.zero)).map (·.cells.toList) = some (flat ρ z)) (h4 : okB z = true) (h5 : notArr d = true ∨ P.eqGuardType P.depth t = false) : TyOK1 P t ⟨d, n, z⟩ :=
  ⟨h1, h2, h3, okB_spec h4, fun len E he => by
    rcases h5 with h | h
    · simp only at he; subst he; cases h
    · exact h⟩
theorem tyOK_of {P : Program} {l : List (Nat × TInfo)} (h : ∀ p ∈ l, TyOK1 P p.1 p.2) : TyOK P (look l) := fun t i hi => h (t, i) (look_mem hi)
end Go.SX
