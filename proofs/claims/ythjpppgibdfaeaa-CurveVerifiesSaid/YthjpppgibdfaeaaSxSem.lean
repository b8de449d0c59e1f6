/- SxSem: a part of the proof: lemmas alone, of no statement. -/
import Derived.Test.YthjpppgibdfaeaaSxAddr
namespace Go.SX
open Go.RowKit

section
variable {P : Program} {Γ : TyEnv}

/-- a bound of a slice expression, if there is one -/
def bnd (σ : SSt) : Option Operand → Option (Option Int)
  | none => some none
  | some x => match rd σ x with
    | some (.v (.int _ n)) => some (some n)
    | _ => none
theorem bnd_spec {M : Nat → Prop} {w0 w : World} {σ : SSt} {ρ : Rho} {a : Act} (h : Sat M w0 σ ρ a w) {x : Option Operand} {n : Option Int} (hb : bnd σ x = some n) :
    (x = none ∧ n = none) ∨ ∃ k m, n = some m ∧ x.map a.eval = some (.int k m) := by
  unfold bnd at hb
  split at hb
  · simp only [Option.some.injEq] at hb; exact .inl ⟨rfl, hb.symm⟩
  · rename_i y
    split at hb
    · rename_i k m hr
      simp only [Option.some.injEq] at hb
      exact .inr ⟨k, m, hb.symm, by simp [(rd_spec h hr).1, SV.den]⟩
    · cases hb

def lowOf : Option Int → Nat
  | none => 0
  | some n => n.toNat
def highOf (len : Nat) : Option Int → Nat
  | none => len
  | some n => n.toNat
def boundsOK (len cap : Nat) (lo hi : Option Int) : Prop :=
  (match lo with | none => True | some n => 0 ≤ n) ∧ (match hi with | none => True | some n => 0 ≤ n ∧ n ≤ cap) ∧ (match lo with | none => True | some n => n ≤ highOf len hi)

theorem run_sliceBounds {b : Bool} {len cap : Nat} {vl vh : Option Value} {lo hi : Option Int} (hl : (vl = none ∧ lo = none) ∨ ∃ k m, lo = some m ∧ vl = some (.int k m))
    (hh : (vh = none ∧ hi = none) ∨ ∃ k m, hi = some m ∧ vh = some (.int k m)) (hok : boundsOK len cap lo hi) (w : World) :
    (Instr.sliceBounds b len cap vl vh none).run P w = .ok (lowOf lo, highOf len hi, cap) w := by
  obtain ⟨o1, o2, o3⟩ := hok
  have e : ∀ (k : IntKind) (m : Int) (y : Nat) (c : BoundsCode) (w : World), 0 ≤ m → m ≤ y → (Instr.sliceBound (.int k m) y c).run P w = .ok m.toNat w := by
    intro k m y c w h0 h1
    simp [Instr.sliceBound, asIntOf, h0, h1]
  rcases hl with ⟨rfl, rfl⟩ | ⟨k, m, rfl, rfl⟩ <;> rcases hh with ⟨rfl, rfl⟩ | ⟨k', m', rfl, rfl⟩
  · simp [Instr.sliceBounds, lowOf, highOf]
  · simp only [Instr.sliceBounds, Sem.run_bind, Sem.run_pure, Result.andThen_ok, e k' m' cap _ w o2.1 o2.2, lowOf, highOf]
  · simp only [Instr.sliceBounds, Sem.run_bind, Sem.run_pure, Result.andThen_ok, e k m len _ w o1 o3, lowOf, highOf]
  · simp only [highOf] at o3
    simp only [Instr.sliceBounds, Sem.run_bind, Sem.run_pure, Result.andThen_ok, e k' m' cap _ w o2.1 o2.2, e k m _ _ w o1 o3, lowOf, highOf]

def opSlice (Γ : TyEnv) (σ : SSt) (T : Nat) (x : Option SV) (lo hi mx : Option Operand) : Out :=
  match mx, bnd σ lo, bnd σ hi with
  | none, some l, some h => match Γ T, x with
    | some ⟨.array len E, _, _⟩, some (.p k off) => match Γ E with
      | some i => .val (.one (.s k off (if len = lowOf l then 0 else lowOf l * i.size) (highOf len h - lowOf l) (len - lowOf l))) (boundsOK len len l h)
      | none => .bad
    | some ⟨.slice E, _, _⟩, some (.s k b st len cap) => match Γ E with
      | some i => .val (.one (.s k b (if cap = lowOf l then st else st + lowOf l * i.size) (highOf len h - lowOf l) (cap - lowOf l))) (boundsOK len cap l h)
      | none => .bad
    | some ⟨.slice E, _, _⟩, some (.v (.slice none 0 0)) => match Γ E with
      | some _ => .val (.one (.v (.slice none 0 0))) (boundsOK 0 0 l h)
      | none => .bad
    | some ⟨.string, _, _⟩, some (.v (.string s)) => .val (.one (.v (.string (s.extract (lowOf l) (highOf s.size h))))) (boundsOK s.size s.size l h)
    | _, _ => .bad
  | _, _, _ => .bad
theorem bnd_map {M : Nat → Prop} {w0 w : World} {σ : SSt} {ρ : Rho} {a : Act} (h : Sat M w0 σ ρ a w) {x : Option Operand} {n : Option Int} (hb : bnd σ x = some n) :
    (x.map a.eval = none ∧ n = none) ∨ ∃ k m, n = some m ∧ x.map a.eval = some (.int k m) := by
  rcases bnd_spec h hb with ⟨rfl, h2⟩ | h
  · exact .inl ⟨rfl, h2⟩
  · exact .inr h
theorem opSlice_spec (hΓ : TyOK P Γ) {M : Nat → Prop} {w0 w : World} {σ : SSt} {ρ : Rho} {a : Act} (h : Sat M w0 σ ρ a w) {T : Nat} {x : Operand} {lo hi mx : Option Operand} {s : SS} {side : Prop}
    (ho : opSlice Γ σ T (rd σ x) lo hi mx = .val s side) (hside : side) : (Instr.sliceAt T (a.eval x) (lo.map a.eval) (hi.map a.eval) (mx.map a.eval)).run P w = .ok (s.den ρ) w ∧ s.ok σ.dom := by
  unfold opSlice at ho
  split at ho
  · rename_i l hh hl hhi
    have hl' := bnd_map h hl
    have hh' := bnd_map h hhi
    split at ho
    · rename_i len E sz z k off hT hx
      obtain ⟨he, hk⟩ := rd_spec h hx
      split at ho
      · rename_i i hE
        simp only [Out.val.injEq] at ho
        obtain ⟨rfl, rfl⟩ := ho
        have hu := (hΓ _ _ hT).und
        simp only at hu
        refine ⟨?_, by first | exact hk | trivial⟩
        rw [he]
        simp only [Instr.sliceAt, Sem.run_bind, run_underlying hu, Result.andThen_ok, SV.den, Instr.sureAddr, Sem.run_pure, run_sliceBounds hl' hh' hside, run_sizeOf (hΓ _ _ hE), SS.den,
          Option.map_none]
        congr 3
        by_cases hc : len = lowOf l
        · rw [if_pos hc, if_pos hc]; simp
        · rw [if_neg hc, if_neg hc, add_none, Nat.add_assoc]
      · cases ho
    · rename_i E sz z k b st len cap hT hx
      obtain ⟨he, hk⟩ := rd_spec h hx
      split at ho
      · rename_i i hE
        simp only [Out.val.injEq] at ho
        obtain ⟨rfl, rfl⟩ := ho
        have hu := (hΓ _ _ hT).und
        simp only at hu
        refine ⟨?_, by first | exact hk | trivial⟩
        rw [he]
        simp only [Instr.sliceAt, Instr.slice, Sem.run_bind, run_underlying hu, Result.andThen_ok, SV.den, Sem.run_pure, run_sliceBounds hl' hh' hside, run_sizeOf (hΓ _ _ hE), SS.den,
          Option.map_none]
        congr 2
        by_cases hc : cap = lowOf l
        · rw [if_pos hc, if_pos hc]
        · rw [if_neg hc, if_neg hc, Option.map_some, add_none, Nat.add_assoc, Nat.add_assoc]
      · cases ho
    · rename_i E sz z hT hx
      obtain ⟨he, hk⟩ := rd_spec h hx
      split at ho
      · rename_i i hE
        simp only [Out.val.injEq] at ho
        obtain ⟨rfl, rfl⟩ := ho
        have hu := (hΓ _ _ hT).und
        simp only at hu
        refine ⟨?_, by first | exact hk | trivial⟩
        rw [he]
        have h0 : lowOf l = 0 ∧ highOf 0 hh = 0 := by
          obtain ⟨o1, o2, o3⟩ := hside
          have hz : highOf 0 hh = 0 := by cases hh <;> simp [highOf] at o2 ⊢; omega
          refine ⟨?_, hz⟩
          cases l <;> simp [lowOf] at o3 ⊢; rw [hz] at o3; omega
        simp only [Instr.sliceAt, Instr.slice, Sem.run_bind, run_underlying hu, Result.andThen_ok, SV.den, Sem.run_pure, run_sliceBounds hl' hh' hside, run_sizeOf (hΓ _ _ hE), SS.den,
          Option.map_none, h0.1, h0.2, Nat.sub_self, if_true]
      · cases ho
    · rename_i sz z s' hT hx
      obtain ⟨he, hk⟩ := rd_spec h hx
      simp only [Out.val.injEq] at ho
      obtain ⟨rfl, rfl⟩ := ho
      have hu := (hΓ _ _ hT).und
      simp only at hu
      refine ⟨?_, by first | exact hk | trivial⟩
      rw [he]
      simp only [Instr.sliceAt, Instr.slice, Sem.run_bind, run_underlying hu, Result.andThen_ok, SV.den, Sem.run_pure, run_sliceBounds hl' hh' hside, SS.den,
        Option.map_none, Option.isSome_none, Bool.false_eq_true, if_false]
    · cases ho
  · cases ho

def opArrayAt (Γ : TyEnv) (T : Nat) (x : Option SV) : Out :=
  match Γ T, x with
  | some ⟨.array n _, _, _⟩, some (.s k b st len _) => .val (.one (.e k b st)) (n ≤ len)
  | _, _ => .bad
theorem opArrayAt_spec (hΓ : TyOK P Γ) {M : Nat → Prop} {w0 w : World} {σ : SSt} {ρ : Rho} {a : Act} (h : Sat M w0 σ ρ a w) {T : Nat} {x : Operand} {s : SS} {side : Prop}
    (ho : opArrayAt Γ T (rd σ x) = .val s side) (hside : side) : (Instr.arrayAt T (a.eval x)).run P w = .ok (s.den ρ) w ∧ s.ok σ.dom := by
  unfold opArrayAt at ho
  split at ho
  · rename_i n E sz z k b st len cap hT hx
    obtain ⟨he, hk⟩ := rd_spec h hx
    simp only [Out.val.injEq] at ho
    obtain ⟨rfl, rfl⟩ := ho
    have hu := (hΓ _ _ hT).und
    simp only at hu
    refine ⟨?_, by first | exact hk | trivial⟩
    rw [he]
    have : ¬ len < n := by omega
    simp only [Instr.arrayAt, Sem.run_bind, run_underlying hu, Result.andThen_ok, SV.den, this, if_false, Sem.run_pure, SS.den]
  · cases ho

def opConvert (Γ : TyEnv) (S D : Nat) (x : Option SV) : Out :=
  match Γ S, Γ D, x with
  | some _, some ⟨.int k, _, _⟩, some (.v (.int _ n)) => .val (.one (.v (.int k (k.wrap n)))) True
  | some ⟨.string, _, _⟩, some ⟨.string, _, _⟩, some (.v (.string s)) => .val (.one (.v (.string s))) True
  | _, _, _ => .bad
theorem opConvert_spec (hΓ : TyOK P Γ) {M : Nat → Prop} {w0 w : World} {σ : SSt} {ρ : Rho} {a : Act} (h : Sat M w0 σ ρ a w) {S D : Nat} {x : Operand} {s : SS} {side : Prop}
    (ho : opConvert Γ S D (rd σ x) = .val s side) : (convert S D (a.eval x)).run P w = .ok (s.den ρ) w ∧ s.ok σ.dom := by
  unfold opConvert at ho
  split at ho
  · rename_i si k sz z k' n hS hD hx
    obtain ⟨he, _⟩ := rd_spec h hx
    simp only [Out.val.injEq] at ho
    obtain ⟨rfl, _⟩ := ho
    have hu := (hΓ _ _ hS).und
    have hv := (hΓ _ _ hD).und
    simp only at hu hv
    refine ⟨?_, trivial⟩
    rw [he]
    simp only [convert, Sem.run_bind, run_underlying hu, run_underlying hv, Result.andThen_ok, SV.den]
    cases si.desc <;> simp [Conv.intToInt, SS.den, SV.den]
  · rename_i sz z sz' z' s' hS hD hx
    obtain ⟨he, _⟩ := rd_spec h hx
    simp only [Out.val.injEq] at ho
    obtain ⟨rfl, _⟩ := ho
    have hu := (hΓ _ _ hS).und
    have hv := (hΓ _ _ hD).und
    simp only at hu hv
    refine ⟨?_, trivial⟩
    rw [he]
    simp only [convert, Sem.run_bind, run_underlying hu, run_underlying hv, Result.andThen_ok, SV.den, SS.den, Sem.run_pure]
  · cases ho

def unV (op : UnOp) : Value → Option Value
  | .int k n => match op with
    | .neg => some (.int k (k.wrap (0 - n)))
    | .xor => some (.int k (intb .xor k (if k.signed then -1 else k.max) n))
    | _ => none
  | .bool b => match op with
    | .not => some (.bool (!b))
    | _ => none
  | _ => none
theorem unV_spec {op : UnOp} {x v : Value} (h : unV op x = some v) (w : World) : (Op.unary op x).run P w = .ok v w := by
  unfold unV at h
  split at h
  · split at h <;> simp only [Option.some.injEq, reduceCtorEq] at h <;> subst h <;> simp [Op.unary, Op.intArith, Op.intBits, intb]
  · split at h <;> simp only [Option.some.injEq, reduceCtorEq] at h <;> subst h <;> simp [Op.unary]
  · cases h
end
end Go.SX
