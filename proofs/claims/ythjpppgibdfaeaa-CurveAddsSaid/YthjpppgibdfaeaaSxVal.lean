/- SxVal: a part of the proof: lemmas alone, of no statement. -/
import Derived.Test.YthjpppgibdfaeaaSxOps
namespace Go.SX
open Go.RowKit

/-! words -/
def intb (op : BinOp) (k : IntKind) (x y : Int) : Int :=
  let a := BitVec.ofInt k.bits x
  let b := BitVec.ofInt k.bits y
  k.wrap (match op with
    | .and => (a &&& b).toNat
    | .or => (a ||| b).toNat
    | .xor => (a ^^^ b).toNat
    | _ => (a &&& ~~~b).toNat)
/-- the integer in a cell -/
def toI : Value → Int
  | .int _ n => n
  | _ => 0
def binV (op : BinOp) : Value → Value → Option (Value × Prop)
  | .int k a, .int k' b => match op with
    | .shl => some (.int k (k.wrap (a * 2 ^ (min b.toNat k.bits))), 0 ≤ b)
    | .shr => some (.int k (a.fdiv (2 ^ (min b.toNat k.bits))), 0 ≤ b)
    | .add => some (.int k (k.wrap (a + b)), k = k')
    | .sub => some (.int k (k.wrap (a - b)), k = k')
    | .mul => some (.int k (k.wrap (a * b)), k = k')
    | .quo => some (.int k (k.wrap (a.tdiv b)), k = k' ∧ b ≠ 0)
    | .rem => some (.int k (a.tmod b), k = k' ∧ b ≠ 0)
    | .and => some (.int k (intb .and k a b), k = k')
    | .or => some (.int k (intb .or k a b), k = k')
    | .xor => some (.int k (intb .xor k a b), k = k')
    | .andNot => some (.int k (intb .andNot k a b), k = k')
    | .eql => some (.bool (a == b), k = k')
    | .neq => some (.bool (a != b), k = k')
    | .lss => some (.bool (decide (a < b)), k = k')
    | .leq => some (.bool (decide (a ≤ b)), k = k')
    | .gtr => some (.bool (decide (a > b)), k = k')
    | .geq => some (.bool (decide (a ≥ b)), k = k')
  | _, _ => none
theorem binV_spec {P : Program} {op : BinOp} {T : Nat} {x y v : Value} {side : Prop} (h : binV op x y = some (v, side)) (hs : side) (w : World) :
    (binOp op T x y).run P w = .ok v w ∧ (∃ k a k' b, x = .int k a ∧ y = .int k' b) := by
  unfold binV at h
  split at h
  · rename_i k a k' b
    refine ⟨?_, ⟨k, a, k', b, rfl, rfl⟩⟩
    cases op <;> simp only [Option.some.injEq, Prod.mk.injEq] at h <;> obtain ⟨rfl, rfl⟩ := h
    case quo => obtain ⟨rfl, hb⟩ := hs; simp [binOp, Op.intDiv, hb]
    case rem => obtain ⟨rfl, hb⟩ := hs; simp [binOp, Op.intDiv, hb]
    case shl => have : ¬ b < 0 := by omega
                simp [binOp, Op.shift, this]
    case shr => have : ¬ b < 0 := by omega
                simp [binOp, Op.shift, this]
    all_goals subst hs; simp [binOp, Op.intArith, Op.intBits, Op.intCmp, intb]
  · cases h

/-- plain cells -/
def plainL : List CV → Option (List Value)
  | [] => some []
  | .one x :: cs => match plainL cs with
    | some r => some (x :: r)
    | none => none
  | .many _ xs :: cs => match plainL cs with
    | some r => some (xs ++ r)
    | none => none
  | _ :: _ => none
theorem plainL_spec {ρ : Rho} : ∀ (cs : List CV) (r : List Value), plainL cs = some r → flat ρ cs = r
  | [], r, h => by simp only [plainL, Option.some.injEq] at h; subst h; rfl
  | .one x :: cs, r, h => by
    simp only [plainL] at h
    split at h
    · rename_i r' h'
      simp only [Option.some.injEq] at h; subst h
      rw [flat_cons, plainL_spec cs r' h']; rfl
    · cases h
  | .many n xs :: cs, r, h => by
    simp only [plainL] at h
    split at h
    · rename_i r' h'
      simp only [Option.some.injEq] at h; subst h
      rw [flat_cons, plainL_spec cs r' h']; rfl
    · cases h
  | .pt _ _ :: cs, r, h => by simp [plainL] at h
  | .sl _ _ _ _ _ :: cs, r, h => by simp [plainL] at h

def isI (k : IntKind) : Value → Prop
  | .int k' _ => k' = k
  | _ => False
theorem isI_eq {k : IntKind} {v : Value} (h : isI k v) : v = .int k (toI v) := by
  cases v <;> simp only [isI] at h <;> first | exact h.elim | (subst h; rfl)

theorem run_equalIn_ints' {P : Program} (d e : Nat) (he : e = d + 1) {T E len : Nat} {k : IntKind} {xs ys : List Value} (hT : P.underlying T = some (.array len E)) (hE : P.underlying E = some (.int k))
    (hsz : (P.info? E).map (·.size) = some 1) (hx : xs.length = len) (hy : ys.length = len) (hix : ∀ x ∈ xs, isI k x) (hiy : ∀ x ∈ ys, isI k x) (w : World) :
    (Op.equalIn (e + 1) T (.agg xs.toArray) (.agg ys.toArray)).run P w = .ok (decide (xs.map toI = ys.map toI)) w := by
  have hszr : ∀ w, (sizeOf E).run P w = .ok 1 w := by
    intro w
    cases hi : P.info? E with
    | none => simp [hi] at hsz
    | some x => simp [hi] at hsz; simp [sizeOf, typeInfo, hi, hsz]
  have hag : ∀ w, (isAgg E).run P w = .ok false w := by
    intro w; simp [isAgg, run_underlying hE]
  have hpart : ∀ (zs : List Value) (i : Nat) (hi : i < zs.length) (w : World), (part E zs.toArray (i * 1)).run P w = .ok zs[i] w := by
    intro zs i hi w
    simp [part, hag, hi]
  simp only [Op.equalIn, Sem.run_bind, run_underlying hT, Result.andThen_ok, hszr]
  rw [Std.Legacy.Range.forIn_eq_forIn_range', Std.Legacy.Range.size]
  simp only [Nat.sub_zero, Nat.add_sub_cancel, Nat.div_one]
  have heq : ∀ (a b : Int) (w : World), (Op.equalIn e E (.int k a) (.int k b)).run P w = .ok (a == b) w := by
    intro a b w; subst he; exact run_equalIn_int (h := hE) ..
  have key : ∀ (m i : Nat), i + m = len → (forIn (m := Sem) (List.range' i m) (none, ()) (fun (i : Nat) (r : Option Bool × Unit) => do
        let a ← part E xs.toArray (i * 1)
        let b ← part E ys.toArray (i * 1)
        let c ← Op.equalIn e E a b
        if (!c) = true then pure (ForInStep.done (some false, ())) else pure (ForInStep.yield (none, ())))).run P w =
      .ok (if (xs.drop i).map toI = (ys.drop i).map toI then none else some false, ()) w := by
    intro m
    induction m with
    | zero => intro i hi; simp [List.drop_of_length_le (l := xs) (by omega : xs.length ≤ i), List.drop_of_length_le (l := ys) (by omega : ys.length ≤ i)]
    | succ m ih =>
      intro i hi
      have h1 : i < xs.length := by omega
      have h2 : i < ys.length := by omega
      have e1 := isI_eq (hix xs[i] (List.getElem_mem h1))
      have e2 := isI_eq (hiy ys[i] (List.getElem_mem h2))
      rw [List.range'_succ, List.forIn_cons]
      simp only [Sem.run_bind, hpart xs i h1, hpart ys i h2, Result.andThen_ok]
      rw [e1, e2, heq]
      simp only [Result.andThen_ok]
      rw [List.drop_eq_getElem_cons h1, List.drop_eq_getElem_cons h2, List.map_cons, List.map_cons]
      by_cases hq : toI xs[i] = toI ys[i]
      · simp only [hq, beq_self_eq_true, Bool.not_true, Bool.false_eq_true, if_false, Sem.run_pure, Result.andThen_ok, ih (i + 1) (by omega), List.cons.injEq, true_and]
      · have hb : (toI xs[i] == toI ys[i]) = false := by simpa using hq
        simp [hb, hq]
  have := key len 0 (by omega)
  simp only [List.drop_zero] at this
  rw [this]
  simp only [Result.andThen_ok]
  by_cases hq : xs.map toI = ys.map toI <;> simp [hq]
theorem run_equalIn_ints {P : Program} {T E len : Nat} {k : IntKind} {xs ys : List Value} (hT : P.underlying T = some (.array len E)) (hE : P.underlying E = some (.int k))
    (hsz : (P.info? E).map (·.size) = some 1) (hx : xs.length = len) (hy : ys.length = len) (hix : ∀ x ∈ xs, isI k x) (hiy : ∀ x ∈ ys, isI k x) (w : World) :
    (Op.equalIn 10000 T (.agg xs.toArray) (.agg ys.toArray)).run P w = .ok (decide (xs.map toI = ys.map toI)) w :=
  run_equalIn_ints' 9998 9999 rfl hT hE hsz hx hy hix hiy w
end Go.SX
