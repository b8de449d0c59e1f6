/- SxMake: a part of the proof: lemmas alone, of no statement. -/
import Derived.Test.YthjpppgibdfaeaaSxCall
import Derived.Laws.OwnMore
namespace Go.SX
open Go.RowKit

/-- make, of a row of single cells -/
theorem make_vc {P : Program} {Γ : TyEnv} (hΓ : TyOK P Γ) {T E z1 : Nat} {zc : List CV} {z0 : Value} {bytes n : Nat} {l c : Operand} {kl kc : IntKind} (hT : Γ T = some ⟨.slice E, z1, zc⟩)
    (hE : (P.info? E).map (fun i => (i.bytes, i.size, i.zero.map (·.cells))) = some (bytes, 1, some #[z0])) (hb : bytes * n ≤ 281474976710656) (hn : n ≤ 9223372036854775807) (hz : cellish z0 = true)
    {eff : Bool} {σ : SSt} {nm : Nat} {K : SSt → SS → Prop} (hk : K (σ.bind nm ⟨[.many n (List.replicate n z0)], true⟩) (.one (.s nm 0 0 n n))) :
    CallVC P eff (.op (.makeSlice T l c)) [.v (.int kl (n : Nat)), .v (.int kc (n : Nat))] σ nm K := by
  have hok : ∀ D, okC D [CV.many n (List.replicate n z0)] := fun D => okC_cons.2 ⟨⟨by simp, fun x hx => by rw [List.eq_of_mem_replicate hx]; exact hz⟩, okC_nil⟩
  refine ⟨Unit, fun _ => .one (.s nm 0 0 n n), fun _ => [], fun _ => [⟨[.many n (List.replicate n z0)], true⟩], fun _ => True, fun ρ w hm => ?_, fun _ _ => ⟨fun _ => rfl, by simp, ⟨hok _, trivial⟩, dom_bind_self _ _ _, hk⟩⟩
  intro ev oo hoo hev
  obtain ⟨dst, op, type, pos, after, guard⟩ := oo
  simp only at hoo
  subst hoo
  have hx : ev l = .int kl (n : Nat) ∧ ev c = .int kc (n : Nat) := by
    simpa [Op.operands, SV.den] using hev
  obtain ⟨hx, hy⟩ := hx
  obtain ⟨i, hi, he⟩ : ∃ i, P.info? E = some i ∧ (i.bytes, i.size, i.zero.map (·.cells)) = (bytes, 1, some #[z0]) := by
    cases h : P.info? E with
    | none => rw [h] at hE; cases hE
    | some i => rw [h] at hE; exact ⟨i, rfl, by simpa using hE⟩
  simp only [Prod.mk.injEq] at he
  obtain ⟨rfl, hsz, hzz⟩ := he
  obtain ⟨z, hz2, hz3⟩ : ∃ z, i.zero = some z ∧ z.cells = #[z0] := by
    cases h : i.zero with
    | none => rw [h] at hzz; cases hzz
    | some z => rw [h] at hzz; exact ⟨z, rfl, by simpa using hzz⟩
  have hT' := (hΓ _ _ hT).und
  simp only at hT'
  have hb' : (i.bytes : Int) * ((n : Nat) : Int) ≤ 281474976710656 := by
    have h : ((i.bytes * n : Nat) : Int) ≤ 281474976710656 := by omega
    rwa [Int.natCast_mul] at h
  have hr := run_make (P := P) w T E i z hT' hi hz2 kl kc n n (by omega) (Int.le_refl _) hb' (by omega)
  rw [hsz, hz3, Int.toNat_natCast, Nat.mul_one] at hr
  have hcells : Go.madeCells #[z0] n = (flat (upd ρ nm (w.heap.size, 0)) [CV.many n (List.replicate n z0)]).toArray := by
    apply Array.toList_inj.1
    rw [toList_madeCells_one]; simp [flat, CV.den]
  refine .inl ⟨.slice (some ⟨w.heap.size, 0, none⟩) n n, w.alloc (.cells (Go.madeCells #[z0] n) E), .inl ?_, (), [w.heap.size], trivial, ?_, ?_, trivial, ?_⟩
  · simp only [execOp, hx, hy]
    rw [Sem.run_bind, hr]; rfl
  · simp [SS.den, SV.den, rhoL, upd_same]
  · have := Frame'.alloc w (.cells (Go.madeCells #[z0] n) E)
    exact ⟨this.os, this.tape, this.output, this.size, fun k hk _ => this.block k hk id⟩
  · refine ⟨Nat.le_refl _, by simp, ⟨E, ?_⟩, trivial⟩
    rw [← hcells]
    show (w.heap.push _)[w.heap.size]? = _
    simp
end Go.SX
