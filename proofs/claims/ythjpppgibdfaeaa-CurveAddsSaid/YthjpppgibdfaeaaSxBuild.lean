/- SxBuild: a part of the proof: lemmas alone, of no statement. -/
import Derived.Test.YthjpppgibdfaeaaSxSem
namespace Go.SX
open Go.RowKit

section
variable {P : Program} {Γ : TyEnv}

theorem zipIdx_fold : ∀ (l : List Value) (off k : Nat) (cells : Array Value), off + k + l.length ≤ cells.size →
    ((l.zipIdx k).foldl (fun cs (x : Value × Nat) => cs.setIfInBounds (off + x.2) x.1) cells).toList = splice l (off + k) cells.toList
  | [], off, k, cells, _ => by simp [splice]
  | v :: l, off, k, cells, h => by
    simp only [List.zipIdx_cons, List.foldl_cons]
    rw [zipIdx_fold l off (k + 1) _ (by simp at h ⊢; omega)]
    simp only [splice, Array.toList_setIfInBounds]
    apply List.ext_getElem?
    intro j
    simp only [List.getElem?_append, List.length_take, List.length_set, Array.length_toList, List.getElem?_take, List.getElem?_drop, List.getElem?_set, List.length_append, List.length_cons]
    have hs : off + k + (l.length + 1) ≤ cells.size := by simpa using h
    grind

/-- the parts, put one after the other -/
def putAll (place : Nat → Option (Nat × Nat)) : List (Nat × SV) → List CV → Option (List CV × Prop)
  | [], cs => some (cs, True)
  | (i, s) :: r, cs => match place i with
    | some (off, sz) => match putC off (toC s).1 cs with
      | some cs' => match putAll place r cs' with
        | some (q, p) => some (q, (toC s).2 ∧ sizeC (toC s).1 = sz ∧ p)
        | none => none
      | none => none
    | none => none
theorem fill_all {D : Nat → Prop} {ρ : Rho} {place : Nat → Option (Nat × Nat)} : ∀ (parts : List (Nat × SV)) (cs q : List CV) (p : Prop) (cells : Array Value), okC D cs → (∀ x ∈ parts, x.2.ok D) → cells.toList = flat ρ cs →
    putAll place parts cs = some (q, p) → p → okC D q ∧ ∃ cells', Instr.fill place cells (parts.map fun x => (x.1, x.2.den ρ)) = some cells' ∧ cells'.toList = flat ρ q
  | [], cs, q, p, cells, hok, _, hc, h, _ => by
    simp only [putAll, Option.some.injEq, Prod.mk.injEq] at h
    obtain ⟨rfl, rfl⟩ := h
    exact ⟨hok, cells, rfl, hc⟩
  | (i, s) :: r, cs, q, p, cells, hok, hs, hc, h, hp => by
    simp only [putAll] at h
    split at h
    · rename_i off sz hpl
      split at h
      · rename_i cs' hput
        split at h
        · rename_i q' p' hr
          simp only [Option.some.injEq, Prod.mk.injEq] at h
          obtain ⟨rfl, rfl⟩ := h
          obtain ⟨h1, h2, h3⟩ := hp
          have hs' : s.ok D := hs (i, s) List.mem_cons_self
          obtain ⟨t1, t2⟩ := toC_spec (ρ := ρ) hs' h1
          obtain ⟨k1, k2, k3⟩ := putC_spec (ρ := ρ) hok t1 hput
          have hlen : (s.den ρ).cells.size = (flat ρ (toC s).1).length := by rw [← t2]; simp
          have hsz : (s.den ρ).cells.size = sz := by rw [hlen, length_flat t1]; exact h2
          have hcs : cells.size = (flat ρ cs).length := by rw [← hc]; simp
          have hz : ((s.den ρ).cells.zipIdx.foldl (fun cs (x : Value × Nat) => cs.setIfInBounds (off + x.2) x.1) cells).toList = flat ρ cs' := by
            rw [← Array.foldl_toList, Array.toList_zipIdx, zipIdx_fold _ _ _ _ (by simp; omega), k1, t2, hc]; rfl
          obtain ⟨g1, cells', g2, g3⟩ := fill_all r cs' q' p' _ k2 (fun x hx => hs x (List.mem_cons_of_mem _ hx)) hz hr h3
          refine ⟨g1, cells', ?_, g3⟩
          simp only [List.map_cons, Instr.fill, hpl]
          rw [if_neg (by simp [hsz]; omega)]
          exact g2
        · cases h
      · cases h
    · cases h

/-- scalars into one row -/
def setAll : List (Nat × SV) → List Value → Option (List Value × Prop)
  | [], xs => some (xs, True)
  | (i, .v x) :: r, xs => match setAll r (xs.set i x) with
    | some (q, p) => some (q, cellish x = true ∧ i < xs.length ∧ p)
    | none => none
  | _ :: _, _ => none
theorem fill_row {ρ : Rho} : ∀ (parts : List (Nat × SV)) (xs q : List Value) (p : Prop) (cells : Array Value), (∀ x ∈ xs, cellish x = true) → cells.toList = xs → setAll parts xs = some (q, p) → p →
    q.length = xs.length ∧ (∀ x ∈ q, cellish x = true) ∧ ∃ cells', Instr.fill (fun i => some (i * 1, 1)) cells (parts.map fun x => (x.1, x.2.den ρ)) = some cells' ∧ cells'.toList = q
  | [], xs, q, p, cells, hx, hc, h, _ => by
    simp only [setAll, Option.some.injEq, Prod.mk.injEq] at h
    obtain ⟨rfl, rfl⟩ := h
    exact ⟨rfl, hx, cells, rfl, hc⟩
  | (i, .v x) :: r, xs, q, p, cells, hx, hc, h, hp => by
    simp only [setAll] at h
    split at h
    · rename_i q' p' hr
      simp only [Option.some.injEq, Prod.mk.injEq] at h
      obtain ⟨rfl, rfl⟩ := h
      obtain ⟨h1, h2, h3⟩ := hp
      have hxs : x.cells = #[x] := by cases x <;> first | (simp [cellish] at h1; done) | rfl
      have hsz : cells.size = xs.length := by rw [← hc]; simp
      obtain ⟨g1, g2, cells', g3, g4⟩ := fill_row r (xs.set i x) q' p' (cells.setIfInBounds i x) (fun y hy => by
        rcases List.mem_or_eq_of_mem_set hy with hm | rfl
        · exact hx y hm
        · exact h1) (by simp [hc]) hr h3
      refine ⟨by rw [g1]; simp, g2, cells', ?_, g4⟩
      have hden : SV.den ρ (.v x) = x := rfl
      simp only [List.map_cons, Instr.fill, hden, hxs, Nat.mul_one]
      rw [if_neg (by simp; omega)]
      simpa using g3
    · cases h
  | (i, .p _ _) :: r, xs, q, p, cells, _, _, h, _ => by simp [setAll] at h
  | (i, .e _ _ _) :: r, xs, q, p, cells, _, _, h, _ => by simp [setAll] at h
  | (i, .s _ _ _ _ _) :: r, xs, q, p, cells, _, _, h, _ => by simp [setAll] at h
  | (i, .g _) :: r, xs, q, p, cells, _, _, h, _ => by simp [setAll] at h

def rdParts (σ : SSt) : List (Nat × Operand) → Option (List (Nat × SV))
  | [] => some []
  | (i, x) :: r => match rd σ x, rdParts σ r with
    | some s, some l => some ((i, s) :: l)
    | _, _ => none
theorem rdParts_spec {M : Nat → Prop} {w0 w : World} {σ : SSt} {ρ : Rho} {a : Act} (h : Sat M w0 σ ρ a w) : ∀ {ps : List (Nat × Operand)} {l : List (Nat × SV)}, rdParts σ ps = some l →
    (ps.map fun p => (p.1, a.eval p.2)) = (l.map fun p => (p.1, p.2.den ρ)) ∧ ∀ x ∈ l, x.2.ok σ.dom
  | [], l, hl => by simp only [rdParts, Option.some.injEq] at hl; subst hl; simp
  | (i, x) :: ps, l, hl => by
    simp only [rdParts] at hl
    split at hl
    · rename_i s l' h1 h2
      simp only [Option.some.injEq] at hl; subst hl
      obtain ⟨e1, e2⟩ := rd_spec h h1
      obtain ⟨e3, e4⟩ := rdParts_spec h h2
      refine ⟨by simp [e1, e3], fun t ht => ?_⟩
      rcases List.mem_cons.1 ht with rfl | ht
      · exact e2
      · exact e4 t ht
    · cases hl

def placeOf (Γ : TyEnv) (fields : Array Field) (i : Nat) : Option (Nat × Nat) :=
  match fields[i]? with
  | some fl => match Γ fl.type with
    | some ⟨_, sz, _⟩ => some (fl.offset, sz)
    | none => none
  | none => none
def opBuild (Γ : TyEnv) (T : Nat) (parts : Option (List (Nat × SV))) : Out :=
  match Γ T, parts with
  | some ⟨.struct fields, _, z⟩, some l => match putAll (placeOf Γ fields) l z with
    | some (q, p) => .val (.one (.g q)) (p ∧ (fields.toList.all fun fl => (Γ fl.type).isSome) = true)
    | none => .bad
  | some ⟨.array _ E, _, [.many m zs]⟩, some l => match Γ E with
    | some ⟨_, 1, _⟩ => match setAll l zs with
      | some (q, p) => .val (.one (.g [.many m q])) p
      | none => .bad
    | some ⟨_, sz, _⟩ => match putAll (fun i => some (i * sz, sz)) l [.many m zs] with
      | some (q, p) => .val (.one (.g q)) p
      | none => .bad
    | none => .bad
  | _, _ => .bad

theorem opBuild_spec (hΓ : TyOK P Γ) {M : Nat → Prop} {w0 w : World} {σ : SSt} {ρ : Rho} {a : Act} (h : Sat M w0 σ ρ a w) {T : Nat} {parts : Array (Nat × Operand)} {s : SS} {side : Prop}
    (ho : opBuild Γ T (rdParts σ parts.toList) = .val s side) (hside : side) : (Instr.build T (parts.map fun p => (p.1, a.eval p.2))).run P w = .ok (s.den ρ) w ∧ s.ok σ.dom := by
  unfold opBuild at ho
  split at ho
  · rename_i fields n z l hT hp
    obtain ⟨hp1, hp2⟩ := rdParts_spec h hp
    have hT' := hΓ _ _ hT
    have hu := hT'.und
    simp only at hu
    obtain ⟨zv, hz1, hz2⟩ := run_zeroValue hT' w ρ
    split at ho
    · rename_i q p hq
      simp only [Out.val.injEq] at ho
      obtain ⟨rfl, rfl⟩ := ho
      obtain ⟨hpp, hall⟩ := hside
      -- the places
      have hpl : ∃ places : Array (Nat × Nat), (fields.mapM (m := Sem) fun f => do pure (f.offset, ← sizeOf f.type)).run P w = .ok places w ∧ ∀ i, places[i]? = placeOf Γ fields i := by
        have gen : ∀ l : List Field, (∀ fl ∈ l, (Γ fl.type).isSome = true) → ∃ ps : List (Nat × Nat), (l.mapM (m := Sem) fun f => do pure (f.offset, ← sizeOf f.type)).run P w = .ok ps w ∧
            ∀ i : Nat, ps[i]? = (l[i]?).bind fun fl => (Γ fl.type).map fun i => (fl.offset, i.size) := by
          intro l
          induction l with
          | nil => intro _; exact ⟨[], rfl, fun i => by simp⟩
          | cons fl l ih =>
            intro hl
            obtain ⟨ps, h1, h2⟩ := ih (fun x hx => hl x (List.mem_cons_of_mem _ hx))
            have hs := hl fl List.mem_cons_self
            cases hg : Γ fl.type with
            | none => rw [hg] at hs; cases hs
            | some i =>
              refine ⟨(fl.offset, i.size) :: ps, ?_, fun j => ?_⟩
              · simp only [List.mapM_cons, Sem.run_bind, run_sizeOf (hΓ _ _ hg), Result.andThen_ok, Sem.run_pure, h1]
              · cases j with
                | zero => simp [hg]
                | succ j => simpa using h2 j
        obtain ⟨ps, h1, h2⟩ := gen fields.toList (fun fl hfl => List.all_eq_true.1 hall fl hfl)
        refine ⟨ps.toArray, ?_, fun i => ?_⟩
        · have hmap : ∀ (q : Sem (List (Nat × Nat))), (List.toArray <$> q).run P w = (q.run P w).andThen fun x w => .ok x.toArray w := by
            intro q
            show (q >>= fun x => pure x.toArray).run P w = _
            rw [Sem.run_bind]; rfl
          rw [← Array.toArray_toList (xs := fields), List.mapM_toArray, hmap, h1]; rfl
        · have := h2 i
          simp only [List.getElem?_toArray, this, placeOf, Array.getElem?_toList]
          cases fields[i]? with
          | none => rfl
          | some fl => cases hg : Γ fl.type <;> simp [hg]
      obtain ⟨places, hpl1, hpl2⟩ := hpl
      obtain ⟨g1, cells', g2, g3⟩ := fill_all (D := σ.dom) (ρ := ρ) l z q p zv.cells (hT'.okz _) hp2 hz2 hq hpp
      refine ⟨?_, g1⟩
      have hfun : (fun i => places[i]?) = placeOf Γ fields := funext hpl2
      have hlist : (parts.map fun p => (p.1, a.eval p.2)).toList = l.map fun p => (p.1, p.2.den ρ) := by rw [← hp1]; simp
      simp only [Instr.build, Sem.run_bind, hz1, Result.andThen_ok, run_underlying hu, hpl1, hlist]
      rw [hfun, g2]
      simp only [Sem.run_pure, SS.den, SV.den]
      rw [← g3]
    · cases ho
  · rename_i len E n m zs l hT hp
    obtain ⟨hp1, hp2⟩ := rdParts_spec h hp
    have hT' := hΓ _ _ hT
    have hu := hT'.und
    simp only at hu
    obtain ⟨zv, hz1, hz2⟩ := run_zeroValue hT' w ρ
    have hz0 : okC σ.dom [CV.many m zs] := hT'.okz _
    have hfl : flat ρ [CV.many m zs] = zs := by simp [flat, CV.den]
    have hlist : (parts.map fun p => (p.1, a.eval p.2)).toList = l.map fun p => (p.1, p.2.den ρ) := by rw [← hp1]; simp
    split at ho
    · rename_i dE zE hE
      have hE2 := run_sizeOf (hΓ _ _ hE) w
      simp only at hE2
      split at ho
      · rename_i q p hq
        simp only [Out.val.injEq] at ho
        obtain ⟨rfl, rfl⟩ := ho
        simp only [hfl] at hz2
        obtain ⟨g1, g2, cells', g3, g4⟩ := fill_row (ρ := ρ) l zs q p zv.cells (okC_cons.1 hz0).1.2 hz2 hq hside
        refine ⟨?_, okC_cons.2 ⟨⟨by rw [g1]; exact (okC_cons.1 hz0).1.1, g2⟩, okC_nil⟩⟩
        simp only [Instr.build, Sem.run_bind, hz1, Result.andThen_ok, run_underlying hu, hE2, hlist]
        rw [g3]
        simp only [Sem.run_pure, SS.den, SV.den, flat, List.flatMap_cons, List.flatMap_nil, CV.den, List.append_nil]
        rw [← g4]
      · cases ho
    · rename_i dE sz zE hne hE
      have hE2 := run_sizeOf (hΓ _ _ hE) w
      simp only at hE2
      split at ho
      · rename_i q p hq
        simp only [Out.val.injEq] at ho
        obtain ⟨rfl, rfl⟩ := ho
        obtain ⟨g1, cells', g2, g3⟩ := fill_all (D := σ.dom) (ρ := ρ) l [.many m zs] q p zv.cells hz0 hp2 hz2 hq hside
        refine ⟨?_, g1⟩
        simp only [Instr.build, Sem.run_bind, hz1, Result.andThen_ok, run_underlying hu, hE2, hlist]
        rw [g2]
        simp only [Sem.run_pure, SS.den, SV.den]
        rw [← g3]
      · cases ho
    · cases ho
  · cases ho
end
end Go.SX
