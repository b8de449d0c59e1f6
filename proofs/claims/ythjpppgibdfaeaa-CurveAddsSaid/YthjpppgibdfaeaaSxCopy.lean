/- SxCopy: a part of the proof: lemmas alone, of no statement. -/
import Derived.Test.YthjpppgibdfaeaaSxCall
namespace Go.SX
open Go.RowKit

section
variable {P : Program} {Γ : TyEnv}

/-- copy, of rows of cells -/
theorem copy_vc (hΓ : TyOK P Γ) {as : Array Operand} {ts : Array TypeId} {T E n z1 : Nat} {zc ze : List CV} {de : TypeDesc} (hts : ts[0]? = some T) (hT : Γ T = some ⟨.slice E, z1, zc⟩) (hE : Γ E = some ⟨de, 1, ze⟩)
    (has : as.size = 2) {k base st len cap k2 base2 st2 len2 cap2 : Nat} {cs cs2 new cs' : List CV} {r : Bool} {σ : SSt} {nm : Nat} {K : SSt → SS → Prop}
    (hn : n = Nat.min len2 len) (h1 : σ.blks k = some ⟨cs, true⟩) (h2 : σ.blks k2 = some ⟨cs2, r⟩) (h3 : partC (base2 + st2) n cs2 = some new) (h4 : putC (base + st) new cs = some cs')
    (hp : okC (fun _ => False) new) (hc : okC (fun _ => False) cs) (hk : K (σ.bind k ⟨cs', true⟩) (.one (.v (.int .i64 n)))) :
    CallVC P true (.op (.call ⟨.builtin .copy, as, ts⟩)) [.s k base st len cap, .s k2 base2 st2 len2 cap2] σ nm K := by
  have hok' : okC σ.dom cs' := (putC_spec (ρ := fun k => (k, 0)) (okC_mono (fun _ hf => hf.elim) hc) (okC_mono (fun _ hf => hf.elim) hp) h4).2.1
  refine ⟨Unit, fun _ => .one (.v (.int .i64 n)), fun _ => [(k, cs')], fun _ => [], fun _ => True, fun ρ w hm => ?_, fun _ _ => ⟨(by intro h; cases h), by simp, trivial, trivial, hk⟩⟩
  intro ev oo hoo hev
  obtain ⟨dst, op, type, pos, after, guard⟩ := oo
  simp only at hoo
  subst hoo
  obtain ⟨x, y, rfl⟩ : ∃ x y, as = #[x, y] := by
    match as, has with
    | ⟨[x, y]⟩, _ => exact ⟨x, y, rfl⟩
  have hx : ev x = SV.den ρ (.s k base st len cap) ∧ ev y = SV.den ρ (.s k2 base2 st2 len2 cap2) := by
    simpa [Op.operands, Call.operands] using hev
  obtain ⟨hx, hy⟩ := hx
  refine .inl ⟨.int .i64 n, ?_⟩
  -- the blocks
  obtain ⟨c, F, fz, hb, hcs, hrest⟩ := hm.blks _ _ h1
  obtain ⟨h0, hcsz, rfl⟩ := hrest rfl
  obtain ⟨c2, F2, fz2, hb2, hcs2, _⟩ := hm.blks _ _ h2
  have hokc : okC (fun _ => True) cs := okC_mono (fun _ _ => trivial) hc
  have hok2 := hm.ok _ _ h2
  obtain ⟨p1, p2, p3⟩ := partC_spec (ρ := ρ) hok2 h3
  obtain ⟨q1, q2, q3⟩ := putC_spec (ρ := ρ) hokc p2 h4
  replace p3 : base2 + st2 + n ≤ (flat ρ cs2).length := p3
  replace hcsz : c.size = (flat ρ cs).length := hcsz
  replace hcs : ∀ i, i < (flat ρ cs).length → c[(ρ k).2 + i]? = (flat ρ cs)[i]? := hcs
  replace hcs2 : ∀ i, i < (flat ρ cs2).length → c2[(ρ k2).2 + i]? = (flat ρ cs2)[i]? := hcs2
  have hlen : (flat ρ new).length = n := by rw [p1]; simp; omega
  have hcl : c.toList = flat ρ cs := by
    apply List.ext_getElem?
    intro j
    rcases Nat.lt_or_ge j (flat ρ cs).length with hj | hj
    · have := hcs j hj; rw [h0, Nat.zero_add] at this; simpa using this
    · rw [List.getElem?_eq_none hj, List.getElem?_eq_none (by simp at hcsz ⊢; omega)]
  have hT' := (hΓ _ _ hT).und
  simp only at hT'
  have hE' := run_sizeOf (hΓ _ _ hE) w
  simp only at hE'
  have hld : (loadCells ⟨(ρ k2).1, (ρ k2).2 + (base2 + st2), none⟩ n).run P w = .ok (flat ρ new).toArray w := by
    rw [← hlen]
    refine run_loadCells (fun i hi => ?_)
    rw [cell_of hb2]
    rw [hlen] at hi
    rw [Nat.add_assoc, hcs2 (base2 + st2 + i) (by omega), p1]
    rw [List.getElem?_take, if_pos hi, List.getElem?_drop]
  have hst := run_storeCells (P := P) (o := (ρ k).2 + (base + st)) (flat ρ new) 0 w c hb (by omega) (cellish_flat p2)
  refine ⟨withBlock w (ρ k).1 (.cells (flat ρ cs').toArray F (0, 0)), .inl ?_, (), [], trivial, rfl, ?_, ?_, trivial⟩
  · have hmin : Nat.min len2 len = n := hn.symm
    simp only [execOp, resolve, invoke, builtin, Builtin.copy_, Sem.run_bind, Sem.run_pure, Result.andThen_ok, hx, hy, SV.den, List.map_toArray, List.map_cons, List.map_nil]
    simp only [hts, List.getElem?_toArray, List.getElem?_cons_zero, List.getElem?_cons_succ, Sem.run_bind, run_underlying hT', Result.andThen_ok, Builtin.lenOf, Sem.run_pure, hE', hmin, Builtin.firstCells, Nat.mul_one, hld]
    rw [hst, q1, h0]
    simp only [Result.andThen_ok, Nat.zero_add, Nat.add_zero, hcl, goInt]
  · refine ⟨rfl, rfl, rfl, by simp [withBlock], fun i hi hne => ?_⟩
    have : i ≠ (ρ k).1 := fun e => hne ⟨(k, cs'), List.mem_singleton.2 rfl, e⟩
    simp only [withBlock, Array.getElem?_setIfInBounds_ne (Ne.symm this)]
  · exact ⟨⟨_, h1, rfl⟩, hok', (by intro x hx; cases hx), ⟨F, withBlock_get w _ (lt_of_get hb)⟩, h0, trivial⟩
end
end Go.SX
