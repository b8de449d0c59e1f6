/- SxMem: a part of the proof: lemmas alone, of no statement. -/
import Derived.Test.YthjpppgibdfaeaaSxCore
namespace Go.SX
open Go.RowKit
variable {D : Nat → Prop}

/-! parts of a block -/
def dropN : Nat → List CV → Option (List CV)
  | 0, cs => some cs
  | _ + 1, [] => none
  | o + 1, c :: cs => match Nat.ble c.size (o + 1) with
    | true => dropN (o + 1 - c.size) cs
    | false => match c with
      | .many m xs => some (.many (m - (o + 1)) (xs.drop (o + 1)) :: cs)
      | _ => none
def takeN : Nat → List CV → Option (List CV)
  | 0, _ => some []
  | _ + 1, [] => none
  | n + 1, c :: cs => match Nat.ble c.size (n + 1) with
    | true => match takeN (n + 1 - c.size) cs with
      | some r => some (c :: r)
      | none => none
    | false => match c with
      | .many _ xs => some [.many (n + 1) (xs.take (n + 1))]
      | _ => none

theorem okC_cons {c : CV} {cs : List CV} : okC D (c :: cs) ↔ c.ok D ∧ okC D cs := by simp [okC]
theorem okC_nil : okC D [] := by simp [okC]
theorem flat_cons {ρ : Rho} {c : CV} {cs : List CV} : flat ρ (c :: cs) = c.den ρ ++ flat ρ cs := by simp [flat]
theorem flat_nil {ρ : Rho} : flat ρ [] = [] := rfl
theorem flat_append {ρ : Rho} {cs ds : List CV} : flat ρ (cs ++ ds) = flat ρ cs ++ flat ρ ds := by simp [flat]
theorem okC_append {cs ds : List CV} : okC D (cs ++ ds) ↔ okC D cs ∧ okC D ds := by
  simp only [okC, List.mem_append]
  exact ⟨fun h => ⟨fun c hc => h c (.inl hc), fun c hc => h c (.inr hc)⟩, fun h c hc => hc.elim (h.1 c) (h.2 c)⟩

theorem dropN_spec {ρ : Rho} : ∀ (cs : List CV) (o : Nat) (r : List CV), okC D cs → dropN o cs = some r → flat ρ r = (flat ρ cs).drop o ∧ okC D r ∧ o ≤ (flat ρ cs).length
  | cs, 0, r, h, hr => by
    have : r = cs := by cases cs <;> simpa [dropN] using hr.symm
    subst this; exact ⟨by simp, h, by simp⟩
  | [], o + 1, r, h, hr => by simp [dropN] at hr
  | c :: cs, o + 1, r, h, hr => by
    obtain ⟨hc, hcs⟩ := okC_cons.1 h
    have hl := CV.length_den (ρ := ρ) hc
    unfold dropN at hr
    cases hb : Nat.ble c.size (o + 1) with
    | true =>
      rw [hb] at hr
      have hle : c.size ≤ o + 1 := Nat.le_of_ble_eq_true hb
      obtain ⟨h1, h2, h3⟩ := dropN_spec cs _ r hcs hr
      refine ⟨?_, h2, ?_⟩
      · rw [h1, flat_cons, List.drop_append, hl, List.drop_of_length_le (l := CV.den ρ c) (by omega), List.nil_append]
      · simp only [flat_cons, List.length_append]; omega
    | false =>
      rw [hb] at hr
      have hlt : ¬ c.size ≤ o + 1 := fun hle => by rw [Nat.ble_eq_true_of_le hle] at hb; cases hb
      cases c with
      | many m xs =>
        simp only [Option.some.injEq] at hr
        subst hr
        simp only [CV.size] at hlt
        have hxs : xs.length = m := hc.1
        refine ⟨?_, okC_cons.2 ⟨⟨by simp [hxs], fun x hx => hc.2 x (List.mem_of_mem_drop hx)⟩, hcs⟩, ?_⟩
        · simp only [flat_cons, CV.den]
          rw [List.drop_append_of_le_length (by omega)]
        · simp only [flat_cons, CV.den, List.length_append]; omega
      | _ => simp at hr
theorem takeN_spec {ρ : Rho} : ∀ (cs : List CV) (n : Nat) (r : List CV), okC D cs → takeN n cs = some r → flat ρ r = (flat ρ cs).take n ∧ okC D r ∧ n ≤ (flat ρ cs).length
  | cs, 0, r, h, hr => by
    have : r = [] := by cases cs <;> simpa [takeN] using hr.symm
    subst this; exact ⟨by simp [flat], okC_nil, by simp⟩
  | [], n + 1, r, h, hr => by simp [takeN] at hr
  | c :: cs, n + 1, r, h, hr => by
    obtain ⟨hc, hcs⟩ := okC_cons.1 h
    have hl := CV.length_den (ρ := ρ) hc
    unfold takeN at hr
    cases hb : Nat.ble c.size (n + 1) with
    | true =>
      rw [hb] at hr
      have hle : c.size ≤ n + 1 := Nat.le_of_ble_eq_true hb
      cases ht : takeN (n + 1 - c.size) cs with
      | none => simp [ht] at hr
      | some r' =>
        simp only [ht, Option.some.injEq] at hr
        subst hr
        obtain ⟨h1, h2, h3⟩ := takeN_spec cs _ r' hcs ht
        refine ⟨?_, okC_cons.2 ⟨hc, h2⟩, ?_⟩
        · simp only [flat_cons]; rw [h1, List.take_append, hl, List.take_of_length_le (l := CV.den ρ c) (by omega)]
        · simp only [flat_cons, List.length_append]; omega
    | false =>
      rw [hb] at hr
      have hlt : ¬ c.size ≤ n + 1 := fun hle => by rw [Nat.ble_eq_true_of_le hle] at hb; cases hb
      cases c with
      | many m xs =>
        simp only [Option.some.injEq] at hr
        subst hr
        simp only [CV.size] at hlt
        have hxs : xs.length = m := hc.1
        refine ⟨?_, okC_cons.2 ⟨⟨by simp [hxs]; omega, fun x hx => hc.2 x (List.mem_of_mem_take hx)⟩, okC_nil⟩, ?_⟩
        · simp only [flat_cons, CV.den, flat_nil, List.append_nil]
          rw [List.take_append_of_le_length (by omega)]
        · simp only [flat_cons, CV.den, List.length_append]; omega
      | _ => simp at hr

/-- n cells from o on -/
def partC (o n : Nat) (cs : List CV) : Option (List CV) :=
  match dropN o cs with
  | some r => takeN n r
  | none => none
theorem partC_spec {ρ : Rho} {cs r : List CV} {o n : Nat} (h : okC D cs) (hr : partC o n cs = some r) :
    flat ρ r = ((flat ρ cs).drop o).take n ∧ okC D r ∧ o + n ≤ (flat ρ cs).length := by
  unfold partC at hr
  cases hd : dropN o cs with
  | none => simp [hd] at hr
  | some d =>
    simp only [hd] at hr
    obtain ⟨h1, h2, h3⟩ := dropN_spec (ρ := ρ) cs o d h hd
    obtain ⟨k1, k2, k3⟩ := takeN_spec (ρ := ρ) d n r h2 hr
    rw [h1] at k1 k3
    simp at k3
    exact ⟨k1, k2, by omega⟩
/-- the cells from o on replaced -/
def putC (o : Nat) (new : List CV) (cs : List CV) : Option (List CV) :=
  match takeN o cs, dropN (o + sizeC new) cs with
  | some a, some b => some (a ++ (new ++ b))
  | _, _ => none
theorem putC_spec {ρ : Rho} {cs new r : List CV} {o : Nat} (h : okC D cs) (hn : okC D new) (hr : putC o new cs = some r) :
    flat ρ r = splice (flat ρ new) o (flat ρ cs) ∧ okC D r ∧ o + (flat ρ new).length ≤ (flat ρ cs).length := by
  unfold putC at hr
  cases ht : takeN o cs with
  | none => simp [ht] at hr
  | some a =>
    cases hd : dropN (o + sizeC new) cs with
    | none => simp [ht, hd] at hr
    | some b =>
      simp only [ht, hd, Option.some.injEq] at hr
      subst hr
      obtain ⟨h1, h2, h3⟩ := takeN_spec (ρ := ρ) cs o a h ht
      obtain ⟨k1, k2, k3⟩ := dropN_spec (ρ := ρ) cs _ b h hd
      rw [← length_flat (ρ := ρ) hn] at k1 k3
      exact ⟨by simp [flat_append, h1, k1, splice], okC_append.2 ⟨h2, okC_append.2 ⟨hn, k2⟩⟩, k3⟩

/-- one cell -/
def oneC : List CV → Option SV
  | [.one x] => some (.v x)
  | [.pt k f] => some (.p k f)
  | [.sl k b st l c] => some (.s k b st l c)
  | [.many 1 xs] => some (.v (xs.getD 0 undef))
  | _ => none
theorem oneC_spec {ρ : Rho} {cs : List CV} {s : SV} (h : okC D cs) (hs : oneC cs = some s) : flat ρ cs = [s.den ρ] ∧ s.ok D := by
  unfold oneC at hs
  split at hs
  · injection hs with hs; subst hs; exact ⟨rfl, trivial⟩
  · injection hs with hs; subst hs; exact ⟨rfl, (okC_cons.1 h).1⟩
  · injection hs with hs; subst hs; exact ⟨rfl, (okC_cons.1 h).1⟩
  · injection hs with hs; subst hs
    have := (okC_cons.1 h).1.1
    rename_i xs
    match xs, this with
    | [x], _ => exact ⟨rfl, trivial⟩
  · cases hs

/-- a whole row of cells at a place -/
def rowAt : Nat → List CV → Option (Nat × List Value)
  | _, [] => none
  | 0, c :: _ => match c with
    | .many n xs => some (n, xs)
    | _ => none
  | o + 1, c :: cs => match Nat.ble c.size (o + 1) with
    | true => rowAt (o + 1 - c.size) cs
    | false => none
theorem rowAt_spec {ρ : Rho} : ∀ (cs : List CV) (o n : Nat) (xs : List Value), okC D cs → rowAt o cs = some (n, xs) →
    xs.length = n ∧ (∀ x ∈ xs, cellish x = true) ∧ ∃ l r, flat ρ cs = l ++ (xs ++ r) ∧ l.length = o
  | [], o, n, xs, h, hr => by simp [rowAt] at hr
  | c :: cs, 0, n, xs, h, hr => by
    obtain ⟨hc, hcs⟩ := okC_cons.1 h
    cases c <;> simp only [rowAt, Option.some.injEq, Prod.mk.injEq, reduceCtorEq] at hr
    obtain ⟨rfl, rfl⟩ := hr
    exact ⟨hc.1, hc.2, [], flat ρ cs, by simp [flat_cons, CV.den], rfl⟩
  | c :: cs, o + 1, n, xs, h, hr => by
    obtain ⟨hc, hcs⟩ := okC_cons.1 h
    have hl := CV.length_den (ρ := ρ) hc
    unfold rowAt at hr
    cases hb : Nat.ble c.size (o + 1) with
    | true =>
      rw [hb] at hr
      have hle := Nat.le_of_ble_eq_true hb
      obtain ⟨h1, h2, l, r, h3, h4⟩ := rowAt_spec (ρ := ρ) cs _ n xs hcs hr
      exact ⟨h1, h2, CV.den ρ c ++ l, r, by simp [flat_cons, h3], by simp [hl, h4]; omega⟩
    | false => rw [hb] at hr; cases hr
/-- a whole row replaced -/
def setRow : Nat → List Value → List CV → Option (List CV)
  | _, _, [] => none
  | 0, ys, c :: cs => match c with
    | .many n _ => some (.many n ys :: cs)
    | _ => none
  | o + 1, ys, c :: cs => match Nat.ble c.size (o + 1) with
    | true => match setRow (o + 1 - c.size) ys cs with
      | some r => some (c :: r)
      | none => none
    | false => none
theorem setRow_spec {ρ : Rho} : ∀ (cs : List CV) (o n : Nat) (xs ys : List Value) (r : List CV), okC D cs → rowAt o cs = some (n, xs) → ys.length = n → (∀ x ∈ ys, cellish x = true) →
    setRow o ys cs = some r → okC D r ∧ flat ρ r = splice ys o (flat ρ cs) ∧ o + ys.length ≤ (flat ρ cs).length
  | [], o, n, xs, ys, r, h, hr, _, _, _ => by simp [rowAt] at hr
  | c :: cs, 0, n, xs, ys, r, h, hr, hy, hy', hs => by
    obtain ⟨hc, hcs⟩ := okC_cons.1 h
    cases c <;> simp only [rowAt, setRow, Option.some.injEq, Prod.mk.injEq, reduceCtorEq] at hr hs
    obtain ⟨rfl, rfl⟩ := hr
    subst hs
    have hx := hc.1
    refine ⟨okC_cons.2 ⟨⟨hy, hy'⟩, hcs⟩, ?_, ?_⟩
    · simp [flat_cons, CV.den, splice, hy, hx]
    · simp [flat_cons, CV.den]; omega
  | c :: cs, o + 1, n, xs, ys, r, h, hr, hy, hy', hs => by
    obtain ⟨hc, hcs⟩ := okC_cons.1 h
    have hl := CV.length_den (ρ := ρ) hc
    unfold setRow at hs
    unfold rowAt at hr
    cases hb : Nat.ble c.size (o + 1) with
    | false => rw [hb] at hr; cases hr
    | true =>
      have hle := Nat.le_of_ble_eq_true hb
      rw [hb] at hr hs
      cases hq : setRow (o + 1 - c.size) ys cs with
      | none => simp [hq] at hs
      | some r' =>
        simp only [hq, Option.some.injEq] at hs
        subst hs
        obtain ⟨h1, h2, h3⟩ := setRow_spec (ρ := ρ) cs _ n xs ys r' hcs hr hy hy' hq
        refine ⟨okC_cons.2 ⟨hc, h1⟩, ?_, ?_⟩
        · simp only [flat_cons, h2, splice, List.take_append, List.drop_append, hl]
          rw [List.take_of_length_le (l := CV.den ρ c) (by omega), List.drop_of_length_le (l := CV.den ρ c) (by omega)]
          simp; congr 1; omega
        · simp only [flat_cons, List.length_append]; omega
end Go.SX
