/- SxAddr: a part of the proof: lemmas alone, of no statement. -/
import Derived.Test.YthjpppgibdfaeaaSxVal
namespace Go.SX
open Go.RowKit

section
variable {P : Program} {Γ : TyEnv}

def opFieldAddr (Γ : TyEnv) (T : Nat) (x : Option SV) (f : Nat) : Out :=
  match Γ T with
  | some ⟨.struct fields, _, _⟩ => match fields[f]? with
    | some fl => match Γ fl.type, x with
      | some i, some (.p k off) => .val (.one (.p k (off + fl.offset))) (i.size ≠ 0)
      | some i, some (.e k b j) => .val (.one (.e k b (j + fl.offset))) (i.size ≠ 0)
      | _, _ => .bad
    | none => .bad
  | _ => .bad
theorem run_fieldAt (hΓ : TyOK P Γ) {T : Nat} {fields : Array Field} {n f : Nat} {z : List CV} {fl : Field} {fi : TInfo} (hT : Γ T = some ⟨.struct fields, n, z⟩) (hf : fields[f]? = some fl)
    (hi : Γ fl.type = some fi) (hs : fi.size ≠ 0) (b o : Nat) (w : World) :
    (Instr.fieldAt T (.pointer (some ⟨b, o, none⟩)) f).run P w = .ok (.pointer (some ⟨b, o + fl.offset, none⟩)) w := by
  have h1 := (hΓ _ _ hT).und
  simp only at h1
  simp only [Instr.fieldAt, Sem.run_bind, run_underlying h1, Result.andThen_ok, hf, Instr.sureAddr, Sem.run_pure, fieldPlace, run_sizeOf (hΓ _ _ hi), hs, if_false, add_none]
theorem opFieldAddr_spec (hΓ : TyOK P Γ) {M : Nat → Prop} {w0 w : World} {σ : SSt} {ρ : Rho} {a : Act} (h : Sat M w0 σ ρ a w) {T f : Nat} {x : Operand} {s : SS} {side : Prop}
    (ho : opFieldAddr Γ T (rd σ x) f = .val s side) (hside : side) : (Instr.fieldAt T (a.eval x) f).run P w = .ok (s.den ρ) w ∧ s.ok σ.dom := by
  unfold opFieldAddr at ho
  split at ho
  · rename_i fields n z hT
    split at ho
    · rename_i fl hf
      split at ho
      · rename_i i k off hi hx
        simp only [Out.val.injEq] at ho
        obtain ⟨rfl, rfl⟩ := ho
        obtain ⟨he, hk⟩ := rd_spec h hx
        rw [he]
        exact ⟨by simp only [SV.den, SS.den]; rw [run_fieldAt hΓ hT hf hi hside, Nat.add_assoc], hk⟩
      · rename_i i k b j hi hx
        simp only [Out.val.injEq] at ho
        obtain ⟨rfl, rfl⟩ := ho
        obtain ⟨he, hk⟩ := rd_spec h hx
        rw [he]
        exact ⟨by simp only [SV.den, SS.den]; rw [run_fieldAt hΓ hT hf hi hside, Nat.add_assoc, Nat.add_assoc], hk⟩
      · cases ho
    · cases ho
  · cases ho

/-- an index in cells -/
def idxOut (sz n : Nat) (F : Nat → Out) : Out :=
  match sz with
  | 1 => F n
  | s => F (n * s)
theorem idxOut_eq (sz n : Nat) (F : Nat → Out) : idxOut sz n F = F (n * sz) := by
  unfold idxOut; split
  · simp
  · rfl
def isConst : Operand → Bool
  | .const _ => true
  | _ => false
def opIndexAddr (Γ : TyEnv) (σ : SSt) (T : Nat) (x : Option SV) (ix : Operand) : Out :=
  match rd σ ix with
  | some (.v (.int _ n)) => match Γ T, x with
    | some ⟨.array len E, _, _⟩, some (.p k off) => match Γ E with
      | some ⟨_, sz, _⟩ => match isConst ix with
        | true => .val (.one (.p k (off + n.toNat * sz))) (0 ≤ n ∧ n < len)
        | false => idxOut sz n.toNat fun m => .val (.one (.e k off m)) (0 ≤ n ∧ n < len)
      | none => .bad
    | some ⟨.array len E, _, _⟩, some (.e k b j) => match Γ E with
      | some ⟨_, sz, _⟩ => idxOut sz n.toNat fun m => .val (.one (.e k b (j + m))) (0 ≤ n ∧ n < len)
      | none => .bad
    | some ⟨.slice E, _, _⟩, some (.s k b st len _) => match Γ E with
      | some ⟨_, sz, _⟩ => idxOut sz n.toNat fun m => .val (.one (.e k b (st + m))) (0 ≤ n ∧ n < len)
      | none => .bad
    | _, _ => .bad
  | _ => .bad
theorem run_indexAt_arr (hΓ : TyOK P Γ) {T E len : Nat} {n : Nat} {z : List CV} {ei : TInfo} (hT : Γ T = some ⟨.array len E, n, z⟩) (hE : Γ E = some ei) (ik : IntKind) {ix : Int} (h0 : 0 ≤ ix) (h1 : ix < len)
    (b o : Nat) (w : World) : (Instr.indexAt T (.pointer (some ⟨b, o, none⟩)) (.int ik ix)).run P w = .ok (.pointer (some ⟨b, o + ix.toNat * ei.size, none⟩)) w := by
  have hu := (hΓ _ _ hT).und
  simp only at hu
  simp only [Instr.indexAt, asIntOf, Sem.run_bind, Sem.run_pure, Result.andThen_ok, run_underlying hu, Instr.sureAddr]
  rw [if_pos ⟨h0, h1⟩]
  simp only [Sem.run_bind, run_sizeOf (hΓ _ _ hE), Result.andThen_ok, Sem.run_pure, add_none]
theorem run_indexAt_slice (hΓ : TyOK P Γ) {T E : Nat} {n : Nat} {z : List CV} {ei : TInfo} (hT : Γ T = some ⟨.slice E, n, z⟩) (hE : Γ E = some ei) (ik : IntKind) {ix : Int} {len cap : Nat} (h0 : 0 ≤ ix) (h1 : ix < len)
    (b o : Nat) (w : World) : (Instr.indexAt T (.slice (some ⟨b, o, none⟩) len cap) (.int ik ix)).run P w = .ok (.pointer (some ⟨b, o + ix.toNat * ei.size, none⟩)) w := by
  have hu := (hΓ _ _ hT).und
  simp only at hu
  simp only [Instr.indexAt, asIntOf, Sem.run_bind, Sem.run_pure, Result.andThen_ok, run_underlying hu]
  rw [if_pos ⟨h0, h1⟩]
  simp only [Sem.run_bind, run_sizeOf (hΓ _ _ hE), Result.andThen_ok, Sem.run_pure, add_none]
theorem opIndexAddr_spec (hΓ : TyOK P Γ) {M : Nat → Prop} {w0 w : World} {σ : SSt} {ρ : Rho} {a : Act} (h : Sat M w0 σ ρ a w) {T : Nat} {x ix : Operand} {s : SS} {side : Prop}
    (ho : opIndexAddr Γ σ T (rd σ x) ix = .val s side) (hside : side) : (Instr.indexAt T (a.eval x) (a.eval ix)).run P w = .ok (s.den ρ) w ∧ s.ok σ.dom := by
  unfold opIndexAddr at ho
  split at ho
  · rename_i ik n hix
    obtain ⟨hi, _⟩ := rd_spec h hix
    rw [hi]
    split at ho
    · rename_i len E sz z k off hT hx
      obtain ⟨he, hk⟩ := rd_spec h hx
      rw [he]
      split at ho
      · rename_i d sz z hE
        split at ho
        · simp only [Out.val.injEq] at ho
          obtain ⟨rfl, rfl⟩ := ho
          exact ⟨by simp only [SV.den, SS.den]; rw [run_indexAt_arr hΓ hT hE ik hside.1 hside.2, Nat.add_assoc], hk⟩
        · simp only [idxOut_eq, Out.val.injEq] at ho
          obtain ⟨rfl, rfl⟩ := ho
          exact ⟨by simp only [SV.den, SS.den]; rw [run_indexAt_arr hΓ hT hE ik hside.1 hside.2, Nat.add_assoc], hk⟩
      · cases ho
    · rename_i len E sz z k b j hT hx
      obtain ⟨he, hk⟩ := rd_spec h hx
      rw [he]
      split at ho
      · rename_i d sz z hE
        simp only [idxOut_eq, Out.val.injEq] at ho
        obtain ⟨rfl, rfl⟩ := ho
        exact ⟨by simp only [SV.den, SS.den]; rw [run_indexAt_arr hΓ hT hE ik hside.1 hside.2, Nat.add_assoc, Nat.add_assoc], hk⟩
      · cases ho
    · rename_i E sz z k b st len cap hT hx
      obtain ⟨he, hk⟩ := rd_spec h hx
      rw [he]
      split at ho
      · rename_i d sz z hE
        simp only [idxOut_eq, Out.val.injEq] at ho
        obtain ⟨rfl, rfl⟩ := ho
        exact ⟨by simp only [SV.den, SS.den]; rw [run_indexAt_slice hΓ hT hE ik hside.1 hside.2, Nat.add_assoc, Nat.add_assoc], hk⟩
      · cases ho
    · cases ho
  · cases ho

/-- parts of values -/
def opPart (Γ : TyEnv) (E : Nat) (cs : List CV) (off : Nat) : Out :=
  match Γ E with
  | some i => match isAggD i.desc with
    | true => match partC off i.size cs with
      | some r => .val (.one (.g r)) True
      | none => .bad
    | false => match partC off 1 cs with
      | some r => match oneC r with
        | some s => .val (.one s) True
        | none => .bad
      | none => .bad
  | none => .bad
theorem opPart_spec {D : Nat → Prop} (hΓ : TyOK P Γ) {E off : Nat} {cs : List CV} (hok : okC D cs) {s : SS} {side : Prop} (ho : opPart Γ E cs off = .val s side) (ρ : Rho) (w : World) :
    (part E (flat ρ cs).toArray off).run P w = .ok (s.den ρ) w ∧ s.ok D := by
  unfold opPart at ho
  split at ho
  · rename_i i hE
    have hE' := hΓ _ _ hE
    cases hd : isAggD i.desc with
    | true =>
      simp only [hd] at ho
      split at ho
      · rename_i r hp
        simp only [Out.val.injEq] at ho
        obtain ⟨rfl, _⟩ := ho
        obtain ⟨h1, h2, h3⟩ := partC_spec (ρ := ρ) hok hp
        refine ⟨?_, h2⟩
        simp only [part, Sem.run_bind, run_isAgg hE', hd, Result.andThen_ok, if_true, run_sizeOf hE', Sem.run_pure, SS.den, SV.den, h1]
        congr 2
        simp [List.take_drop]
      · cases ho
    | false =>
      simp only [hd] at ho
      split at ho
      · rename_i r hp
        split at ho
        · rename_i s' hq
          simp only [Out.val.injEq] at ho
          obtain ⟨rfl, _⟩ := ho
          obtain ⟨h1, h2, h3⟩ := partC_spec (ρ := ρ) hok hp
          obtain ⟨h4, h5⟩ := oneC_spec (ρ := ρ) h2 hq
          refine ⟨?_, h5⟩
          have : (flat ρ r)[0]? = some (s'.den ρ) := by rw [h4]; rfl
          rw [h1, List.getElem?_take, if_pos (by omega), List.getElem?_drop, Nat.add_zero] at this
          simp only [part, Sem.run_bind, run_isAgg hE', hd, Result.andThen_ok, Bool.false_eq_true, if_false, List.getElem?_toArray, this, Sem.run_pure, SS.den]
        · cases ho
      · cases ho
  · cases ho
def opField (Γ : TyEnv) (T : Nat) (x : Option SV) (f : Nat) : Out :=
  match Γ T, x with
  | some ⟨.struct fields, _, _⟩, some (.g cs) => match fields[f]? with
    | some fl => opPart Γ fl.type cs fl.offset
    | none => .bad
  | _, _ => .bad
theorem opField_spec (hΓ : TyOK P Γ) {M : Nat → Prop} {w0 w : World} {σ : SSt} {ρ : Rho} {a : Act} (h : Sat M w0 σ ρ a w) {T f : Nat} {x : Operand} {s : SS} {side : Prop}
    (ho : opField Γ T (rd σ x) f = .val s side) : (Instr.field T (a.eval x) f).run P w = .ok (s.den ρ) w ∧ s.ok σ.dom := by
  unfold opField at ho
  split at ho
  · rename_i fields n z cs hT hx
    obtain ⟨he, hok⟩ := rd_spec h hx
    split at ho
    · rename_i fl hf
      obtain ⟨h1, h2⟩ := opPart_spec hΓ hok ho ρ w
      have hu := (hΓ _ _ hT).und
      simp only at hu
      refine ⟨?_, h2⟩
      rw [he]
      simp only [Instr.field, Sem.run_bind, run_underlying hu, Result.andThen_ok, hf, SV.den, asAgg, Sem.run_pure, h1]
    · cases ho
  · cases ho
def opIndex (Γ : TyEnv) (T : Nat) (x i : Option SV) : Out :=
  match i with
  | some (.v (.int _ n)) => match Γ T, x with
    | some ⟨.array len E, _, _⟩, some (.g [.many m xs]) => match Γ E with
      | some ⟨d, sz, _⟩ => match isAggD d with
        | false => .val (.one (.v (xs.getD n.toNat undef))) (0 ≤ n ∧ n < len ∧ sz = 1 ∧ len ≤ m)
        | true => idxOut sz n.toNat fun q => .val (.one (.g [.many sz ((xs.drop q).take sz)])) (0 ≤ n ∧ n < len ∧ len * sz ≤ m)
      | none => .bad
    | some ⟨.string, _, _⟩, some (.v (.string s)) => .val (.one (.v (.int .u8 ((s.data.toList.getD n.toNat 0).toNat : Nat)))) (0 ≤ n ∧ n < s.size)
    | _, _ => .bad
  | _ => .bad
theorem opIndex_spec (hΓ : TyOK P Γ) {M : Nat → Prop} {w0 w : World} {σ : SSt} {ρ : Rho} {a : Act} (h : Sat M w0 σ ρ a w) {T : Nat} {x i : Operand} {s : SS} {side : Prop}
    (ho : opIndex Γ T (rd σ x) (rd σ i) = .val s side) (hside : side) : (Instr.index T (a.eval x) (a.eval i)).run P w = .ok (s.den ρ) w ∧ s.ok σ.dom := by
  unfold opIndex at ho
  split at ho
  · rename_i ik n hi
    obtain ⟨hie, _⟩ := rd_spec h hi
    split at ho
    · rename_i len E sz z m xs hT hx
      obtain ⟨he, hok⟩ := rd_spec h hx
      have hxs := (okC_cons.1 hok).1
      have hxl : xs.length = m := hxs.1
      have hu := (hΓ _ _ hT).und
      simp only at hu
      split at ho
      · rename_i d sz z hE
        have hE' := hΓ _ _ hE
        have hE2 := run_sizeOf hE'
        have hE3 := run_isAgg hE'
        simp only at hE2 hE3
        have hfl : flat ρ [CV.many m xs] = xs := by simp [flat, CV.den]
        cases hd : isAggD d with
        | false =>
          simp only [hd, Out.val.injEq] at ho
          obtain ⟨rfl, rfl⟩ := ho
          obtain ⟨h0, h1, h2, h3⟩ := hside
          refine ⟨?_, trivial⟩
          rw [he, hie]
          simp only [Instr.index, SV.den, asIntOf, Sem.run_bind, Sem.run_pure, Result.andThen_ok, run_underlying hu, hfl]
          rw [if_pos ⟨h0, h1⟩]
          have hlt : n.toNat < xs.length := by omega
          simp only [Sem.run_bind, hE2, Result.andThen_ok, h2, Nat.mul_one, part, hE3, hd, Bool.false_eq_true, if_false, List.getElem?_toArray,
            List.getElem?_eq_getElem hlt, Sem.run_pure, SS.den, SV.den, List.getD_eq_getElem?_getD, Option.getD_some]
        | true =>
          simp only [hd, idxOut_eq, Out.val.injEq] at ho
          obtain ⟨rfl, rfl⟩ := ho
          obtain ⟨h0, h1, h2⟩ := hside
          have hle : (n.toNat + 1) * sz ≤ len * sz := Nat.mul_le_mul_right _ (by omega)
          rw [Nat.add_mul, Nat.one_mul] at hle
          refine ⟨?_, okC_cons.2 ⟨⟨by simp; omega, fun y hy => hxs.2 y (List.mem_of_mem_drop (List.mem_of_mem_take hy))⟩, okC_nil⟩⟩
          rw [he, hie]
          simp only [Instr.index, SV.den, asIntOf, Sem.run_bind, Sem.run_pure, Result.andThen_ok, run_underlying hu, hfl]
          rw [if_pos ⟨h0, h1⟩]
          simp only [Sem.run_bind, hE2, Result.andThen_ok, part, hE3, hd, if_true, Sem.run_pure, SS.den, SV.den]
          congr 2
          simp [flat, CV.den, List.take_drop, Nat.add_comm]
      · cases ho
    · rename_i sz z s' hT hx
      obtain ⟨he, hk⟩ := rd_spec h hx
      simp only [Out.val.injEq] at ho
      obtain ⟨rfl, rfl⟩ := ho
      obtain ⟨h0, h1⟩ := hside
      have hu := (hΓ _ _ hT).und
      simp only at hu
      refine ⟨?_, trivial⟩
      rw [he, hie]
      have hlt : n.toNat < s'.size := by omega
      simp only [Instr.index, SV.den, asIntOf, Sem.run_bind, Sem.run_pure, Result.andThen_ok, run_underlying hu, h0, if_true]
      have : s'[n.toNat]? = some (s'.data.toList.getD n.toNat 0) := by
        rw [getElem?_pos s' n.toNat hlt]
        congr 1
        simp [List.getD_eq_getElem?_getD, hlt]
        rfl
      rw [this]
      rfl
    · cases ho
  · cases ho
end
end Go.SX
