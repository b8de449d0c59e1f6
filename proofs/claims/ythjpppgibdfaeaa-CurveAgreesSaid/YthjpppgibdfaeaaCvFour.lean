/- CvFour: a part of the proof: lemmas alone, of no statement. -/
import Derived.Test.YthjpppgibdfaeaaCvThree
/- Sparse polynomials with whole coefficients, over the field, modulo y*y = x*x*x + 7 at chosen places: what the kernel reckons is so. Plain. -/
namespace Cv
/-! monomials: exponents below 32, digits of a number -/
def ex (m i : Nat) : Nat := m / 32 ^ i % 32
def pwF (a : F) : Nat → F
  | 0 => 1
  | n + 1 => pwF a n * a
theorem pwF_add (a : F) (m : Nat) : ∀ n, pwF a (m + n) = pwF a m * pwF a n
  | 0 => by show pwF a m = pwF a m * 1; grind
  | n + 1 => by
    show pwF a (m + n) * a = pwF a m * (pwF a n * a)
    rw [pwF_add a m n]; grind
def mono (r : Nat → F) (m : Nat) : Nat → F
  | 0 => 1
  | k + 1 => mono r m k * pwF (r k) (ex m k)
theorem p32 (i : Nat) : 0 < 32 ^ i := Nat.pow_pos (by decide)
theorem low_small {m : Nat} : ∀ i, (∀ j, j < i → ex m j < 16) → 2 * (m % 32 ^ i) < 32 ^ i
  | 0, _ => by rw [Nat.pow_zero, Nat.mod_one]; decide
  | i + 1, h => by
    have ih := low_small i fun j hj => h j (by omega)
    have h1 := h i (by omega)
    unfold ex at h1
    rw [Nat.pow_succ, Nat.mod_mul]
    have h2 : 32 ^ i * (m / 32 ^ i % 32) ≤ 32 ^ i * 15 := Nat.mul_le_mul_left _ (by omega)
    omega
theorem ex_add {a b : Nat} {k : Nat} (ha : ∀ j, j < k → ex a j < 16) (hb : ∀ j, j < k → ex b j < 16) {i : Nat} (hi : i < k) : ex (a + b) i = ex a i + ex b i := by
  have l1 := low_small i fun j hj => ha j (by omega)
  have l2 := low_small i fun j hj => hb j (by omega)
  have h1 := ha i hi
  have h2 := hb i hi
  unfold ex at *
  have e1 := Nat.div_add_mod a (32 ^ i)
  have e2 := Nat.div_add_mod b (32 ^ i)
  have : (a + b) / 32 ^ i = a / 32 ^ i + b / 32 ^ i := by
    rw [← e1, ← e2, show 32 ^ i * (a / 32 ^ i) + a % 32 ^ i + (32 ^ i * (b / 32 ^ i) + b % 32 ^ i) = (a % 32 ^ i + b % 32 ^ i) + 32 ^ i * (a / 32 ^ i + b / 32 ^ i) from by rw [Nat.mul_add]; omega]
    rw [Nat.add_mul_div_left _ _ (p32 i), Nat.div_eq_of_lt (by omega), Nat.zero_add, e1, e2]
  rw [this]; omega
theorem mono_add {r : Nat → F} {a b k : Nat} (ha : ∀ j, j < k → ex a j < 16) (hb : ∀ j, j < k → ex b j < 16) : ∀ i, i ≤ k → mono r (a + b) i = mono r a i * mono r b i
  | 0, _ => by show (1 : F) = 1 * 1; grind
  | i + 1, hi => by
    show mono r (a + b) i * pwF (r i) (ex (a + b) i) = mono r a i * pwF (r i) (ex a i) * (mono r b i * pwF (r i) (ex b i))
    rw [mono_add ha hb i (by omega), ex_add ha hb (by omega), pwF_add]; grind
/-- one digit more -/
theorem ex_one {a c j : Nat} (h : ex a j + c < 32) (i : Nat) : ex (a + c * 32 ^ j) i = if i = j then ex a j + c else ex a i := by
  unfold ex at *
  rcases Nat.lt_trichotomy i j with hij | hij | hij
  · rw [if_neg (by omega)]
    obtain ⟨d, rfl⟩ : ∃ d, j = i + 1 + d := ⟨j - i - 1, by omega⟩
    rw [show c * 32 ^ (i + 1 + d) = 32 ^ i * (32 * (c * 32 ^ d)) from by rw [Nat.pow_add, Nat.pow_succ]; rw [Nat.mul_assoc (32 ^ i), Nat.mul_left_comm c, Nat.mul_left_comm c], Nat.add_mul_div_left _ _ (p32 i), Nat.add_mul_mod_self_left]
  · subst hij
    rw [if_pos rfl, Nat.add_mul_div_right _ _ (p32 i)]; omega
  · rw [if_neg (by omega)]
    obtain ⟨d, rfl⟩ : ∃ d, i = j + 1 + d := ⟨i - j - 1, by omega⟩
    rw [Nat.pow_add, Nat.pow_succ, ← Nat.div_div_eq_div_mul, ← Nat.div_div_eq_div_mul, ← Nat.div_div_eq_div_mul, ← Nat.div_div_eq_div_mul, Nat.add_mul_div_right _ _ (p32 j)]
    congr 2
    omega
theorem mono_one {r : Nat → F} {a c j : Nat} (h : ex a j + c < 32) : ∀ k, mono r (a + c * 32 ^ j) k = if j < k then mono r a k * pwF (r j) c else mono r a k
  | 0 => by rw [if_neg (by omega)]; rfl
  | k + 1 => by
    show mono r (a + c * 32 ^ j) k * pwF (r k) (ex (a + c * 32 ^ j) k) = _
    rw [mono_one h k, ex_one h]
    by_cases hk : k = j
    · subst hk
      rw [if_neg (by omega), if_pos rfl, if_pos (by omega), pwF_add]
      show _ = mono r a k * pwF (r k) (ex a k) * pwF (r k) c
      grind
    · rw [if_neg hk]
      by_cases hj : j < k
      · rw [if_pos hj, if_pos (by omega)]
        show _ = mono r a k * pwF (r k) (ex a k) * pwF (r j) c
        grind
      · rw [if_neg hj, if_neg (by omega)]; rfl
/-! coefficients -/
def iF (c : Int) : F := cF (c % (Pp : Int)).toNat
theorem iF_val (c : Int) : ((iF c).val : Int) = c % (Pp : Int) := by
  have h := Int.emod_nonneg c (show (Pp : Int) ≠ 0 by decide)
  have h2 := Int.emod_lt_of_pos c (show (0 : Int) < (Pp : Int) by decide)
  rw [iF, cF_val, Nat.mod_eq_of_lt (by omega)]; omega
theorem F_ext {a b : F} (h : (a.val : Int) = (b.val : Int)) : a = b := Fin.ext (by omega)
theorem iF_add (a b : Int) : iF (a + b) = iF a + iF b := F_ext (by
  rw [iF_val, Fin.val_add, Int.natCast_emod, Int.natCast_add, iF_val, iF_val, ← Int.add_emod])
theorem iF_mul (a b : Int) : iF (a * b) = iF a * iF b := F_ext (by
  rw [iF_val, Fin.val_mul, Int.natCast_emod, Int.natCast_mul, iF_val, iF_val, ← Int.mul_emod])
theorem iF_0 : iF 0 = 0 := rfl
theorem iF_1 : iF 1 = 1 := by decide
theorem iF_7 : iF 7 = 7 := by decide
theorem iF_m1 : iF (-1) = -1 := by decide
/-! polynomials: the functions that the kernel runs -/
abbrev Pol := List (Nat × Int)
def isZ : Int → Bool
  | .ofNat k => Nat.beq k 0
  | .negSucc _ => false
theorem isZ_eq {c : Int} (h : isZ c = true) : c = 0 := by
  cases c with
  | ofNat k => exact congrArg Int.ofNat (Nat.eq_of_beq_eq_true h)
  | negSucc k => cases h
noncomputable def addP (p : Pol) : Pol → Pol :=
  List.rec (motive := fun _ => Pol → Pol) (fun q => q)
    (fun t p ih q => List.rec (motive := fun _ => Pol) (t :: p)
      (fun u q ih2 => cond (Nat.beq t.1 u.1) (cond (isZ (t.2 + u.2)) (ih q) ((t.1, t.2 + u.2) :: ih q)) (cond (Nat.ble t.1 u.1) (t :: ih (u :: q)) (u :: ih2))) q) p
theorem addP_nil (q : Pol) : addP [] q = q := rfl
theorem addP_cons_nil (t : Nat × Int) (p : Pol) : addP (t :: p) [] = t :: p := rfl
theorem addP_cons (t u : Nat × Int) (p q : Pol) : addP (t :: p) (u :: q) =
    cond (Nat.beq t.1 u.1) (cond (isZ (t.2 + u.2)) (addP p q) ((t.1, t.2 + u.2) :: addP p q)) (cond (Nat.ble t.1 u.1) (t :: addP p (u :: q)) (u :: addP (t :: p) q)) := rfl
noncomputable def mulT (m : Nat) (a : Int) (q : Pol) : Pol := List.rec (motive := fun _ => Pol) [] (fun t _ ih => (m + t.1, a * t.2) :: ih) q
theorem mulT_cons (m : Nat) (a : Int) (t : Nat × Int) (q : Pol) : mulT m a (t :: q) = (m + t.1, a * t.2) :: mulT m a q := rfl
noncomputable def mulP (p q : Pol) : Pol := List.rec (motive := fun _ => Pol) [] (fun t _ ih => addP (mulT t.1 t.2 q) ih) p
theorem mulP_cons (t : Nat × Int) (p q : Pol) : mulP (t :: p) q = addP (mulT t.1 t.2 q) (mulP p q) := rfl
def fits (m : Nat) : Nat → Bool
  | 0 => true
  | k + 1 => Nat.blt (ex m k) 16 && fits m k
theorem fits_spec {m : Nat} : ∀ {k}, fits m k = true → ∀ j, j < k → ex m j < 16
  | k + 1, h, j, hj => by
    simp only [fits, Bool.and_eq_true, Nat.blt_eq] at h
    by_cases hk : j = k
    · subst hk; exact h.1
    · exact fits_spec h.2 j (by omega)
noncomputable def fitsP (p : Pol) : Bool := List.rec (motive := fun _ => Bool) true (fun t _ ih => fits t.1 6 && ih) p
theorem fitsP_cons (t : Nat × Int) (p : Pol) : fitsP (t :: p) = (fits t.1 6 && fitsP p) := rfl
noncomputable def hi (i m : Nat) : Bool := Nat.ble 2 (ex m (i + 1)) && Nat.ble (ex m i) 28
noncomputable def lows (i : Nat) (p : Pol) : Pol := List.rec (motive := fun _ => Pol) [] (fun t _ ih => cond (hi i t.1) ih (t :: ih)) p
noncomputable def sevens (i : Nat) (p : Pol) : Pol := List.rec (motive := fun _ => Pol) [] (fun t _ ih => cond (hi i t.1) ((t.1 - 2 * 32 ^ (i + 1), 7 * t.2) :: ih) ih) p
noncomputable def cubes (i : Nat) (p : Pol) : Pol := List.rec (motive := fun _ => Pol) [] (fun t _ ih => cond (hi i t.1) ((t.1 - 2 * 32 ^ (i + 1) + 3 * 32 ^ i, t.2) :: ih) ih) p
noncomputable def redP (i : Nat) (p : Pol) : Pol := addP (lows i p) (addP (cubes i p) (sevens i p))
theorem lows_cons (i : Nat) (t : Nat × Int) (p : Pol) : lows i (t :: p) = cond (hi i t.1) (lows i p) (t :: lows i p) := rfl
theorem sevens_cons (i : Nat) (t : Nat × Int) (p : Pol) : sevens i (t :: p) = cond (hi i t.1) ((t.1 - 2 * 32 ^ (i + 1), 7 * t.2) :: sevens i p) (sevens i p) := rfl
theorem cubes_cons (i : Nat) (t : Nat × Int) (p : Pol) : cubes i (t :: p) = cond (hi i t.1) ((t.1 - 2 * 32 ^ (i + 1) + 3 * 32 ^ i, t.2) :: cubes i p) (cubes i p) := rfl
def eqP : Pol → Pol → Bool
  | [], [] => true
  | (m, a) :: p, (k, b) :: q => Nat.beq m k && isZ (a - b) && eqP p q
  | _, _ => false
/-! what they say -/
def ev (r : Nat → F) : Pol → F
  | [] => 0
  | t :: p => iF t.2 * mono r t.1 6 + ev r p
variable {r : Nat → F}
theorem ev_cons (t : Nat × Int) (p : Pol) : ev r (t :: p) = iF t.2 * mono r t.1 6 + ev r p := rfl
theorem ev_nil : ev r [] = 0 := rfl
theorem ev_addP : ∀ p q : Pol, ev r (addP p q) = ev r p + ev r q
  | [], q => by rw [addP_nil, ev_nil]; grind
  | t :: p, [] => by rw [addP_cons_nil, ev_nil]; grind
  | t :: p, u :: q => by
    rw [addP_cons]
    have h1 := ev_addP p q
    have h2 := ev_addP p (u :: q)
    have h3 := ev_addP (t :: p) q
    cases hb : Nat.beq t.1 u.1 with
    | true =>
      have he := Nat.eq_of_beq_eq_true hb
      have hadd := iF_add t.2 u.2
      cases hz : isZ (t.2 + u.2) with
      | true =>
        rw [isZ_eq hz, iF_0] at hadd
        simp only [cond]
        rw [h1, ev_cons, ev_cons, he]; grind
      | false =>
        simp only [cond]
        rw [ev_cons, ev_cons, ev_cons, h1, hadd, he]; grind
    | false =>
      cases hl : Nat.ble t.1 u.1 with
      | true => simp only [cond]; rw [ev_cons, h2, ev_cons t p]; grind
      | false => simp only [cond]; rw [ev_cons, h3, ev_cons u q]; grind
theorem ev_mulT {m : Nat} (a : Int) (hm : fits m 6 = true) : ∀ q : Pol, fitsP q = true → ev r (mulT m a q) = iF a * mono r m 6 * ev r q
  | [], _ => by show (0 : F) = iF a * mono r m 6 * 0; grind
  | t :: q, h => by
    rw [fitsP_cons, Bool.and_eq_true] at h
    rw [mulT_cons, ev_cons, ev_cons, ev_mulT a hm q h.2, iF_mul, mono_add (fits_spec hm) (fits_spec h.1) 6 (Nat.le_refl _)]; grind
theorem ev_mulP {q : Pol} (hq : fitsP q = true) : ∀ p : Pol, fitsP p = true → ev r (mulP p q) = ev r p * ev r q
  | [], _ => by show (0 : F) = 0 * ev r q; grind
  | t :: p, h => by
    rw [fitsP_cons, Bool.and_eq_true] at h
    rw [mulP_cons, ev_addP, ev_mulT t.2 h.1 q hq, ev_mulP hq p h.2, ev_cons]; grind
theorem ev_scale (a : Int) : ∀ q : Pol, ev r (mulT 0 a q) = iF a * ev r q
  | [] => by show (0 : F) = iF a * 0; grind
  | t :: q => by rw [mulT_cons, ev_cons, ev_cons, ev_scale a q, iF_mul, Nat.zero_add]; grind
theorem hi_mono {i m : Nat} (hi6 : i + 1 < 6) (hr : r (i + 1) * r (i + 1) = r i * r i * r i + 7) (h : hi i m = true) :
    mono r m 6 = mono r (m - 2 * 32 ^ (i + 1) + 3 * 32 ^ i) 6 + 7 * mono r (m - 2 * 32 ^ (i + 1)) 6 := by
  simp only [hi, Bool.and_eq_true, Nat.ble_eq] at h
  obtain ⟨h1, h2⟩ := h
  have hge : 2 * 32 ^ (i + 1) ≤ m := by
    unfold ex at h1
    have e1 := Nat.div_add_mod m (32 ^ (i + 1))
    have e2 : 2 ≤ m / 32 ^ (i + 1) := Nat.le_trans h1 (Nat.mod_le _ _)
    have e3 : 32 ^ (i + 1) * 2 ≤ 32 ^ (i + 1) * (m / 32 ^ (i + 1)) := Nat.mul_le_mul_left _ e2
    omega
  obtain ⟨a, rfl⟩ : ∃ a, m = a + 2 * 32 ^ (i + 1) := ⟨m - 2 * 32 ^ (i + 1), by omega⟩
  rw [Nat.add_sub_cancel]
  have hx : ex a (i + 1) + 2 < 32 := by
    unfold ex at *
    rw [Nat.add_mul_div_right _ _ (p32 _)] at h1
    omega
  have hi2 : ex (a + 2 * 32 ^ (i + 1)) i = ex a i := by rw [ex_one hx, if_neg (by omega)]
  rw [hi2] at h2
  rw [mono_one hx, if_pos hi6, mono_one (c := 3) (by omega), if_pos (by omega)]
  have e2 : pwF (r (i + 1)) 2 = r (i + 1) * r (i + 1) := by show 1 * r (i + 1) * r (i + 1) = _; grind
  have e3 : pwF (r i) 3 = r i * r i * r i := by show 1 * r i * r i * r i = _; grind
  rw [e2, e3, hr]; grind
theorem ev_parts {i : Nat} (hi6 : i + 1 < 6) (hr : r (i + 1) * r (i + 1) = r i * r i * r i + 7) : ∀ p : Pol, ev r p = ev r (lows i p) + (ev r (cubes i p) + ev r (sevens i p))
  | [] => by show (0 : F) = 0 + (0 + 0); decide
  | t :: p => by
    rw [lows_cons, cubes_cons, sevens_cons, ev_cons, ev_parts hi6 hr p]
    cases hh : hi i t.1 with
    | true =>
      simp only [cond]
      rw [ev_cons, ev_cons, hi_mono hi6 hr hh, iF_mul, iF_7]; grind
    | false => simp only [cond]; rw [ev_cons]; grind
theorem ev_redP {i : Nat} (hi6 : i + 1 < 6) (hr : r (i + 1) * r (i + 1) = r i * r i * r i + 7) (p : Pol) : ev r (redP i p) = ev r p := by
  rw [redP, ev_addP, ev_addP, ← ev_parts hi6 hr p]
theorem ev_eqP : ∀ p q : Pol, eqP p q = true → ev r p = ev r q
  | [], [], _ => rfl
  | [], _ :: _, h => by cases h
  | _ :: _, [], h => by cases h
  | (m, a) :: p, (k, b) :: q, h => by
    simp only [eqP, Bool.and_eq_true] at h
    obtain ⟨⟨h1, h2⟩, h3⟩ := h
    have e1 := Nat.eq_of_beq_eq_true h1
    have e2 := isZ_eq h2
    obtain rfl : a = b := by omega
    subst e1
    rw [ev_cons, ev_cons, ev_eqP p q h3]
/-! expressions -/
inductive Ex where
  | v (i : Nat)
  | c (z : Int)
  | add (a b : Ex)
  | sub (a b : Ex)
  | mul (a b : Ex)
def Ex.val (r : Nat → F) : Ex → F
  | .v i => r i
  | .c z => iF z
  | .add a b => a.val r + b.val r
  | .sub a b => a.val r - b.val r
  | .mul a b => a.val r * b.val r
noncomputable def norm (e : Ex) : Pol :=
  Ex.rec (motive := fun _ => Pol) (fun i => [(32 ^ i, 1)]) (fun z => cond (isZ z) [] [(0, z)]) (fun _ _ p q => addP p q) (fun _ _ p q => addP p (mulT 0 (-1) q)) (fun _ _ p q => redP 0 (redP 2 (redP 4 (mulP p q)))) e
noncomputable def okE (e : Ex) : Bool :=
  Ex.rec (motive := fun _ => Bool) (fun i => Nat.blt i 6) (fun _ => true) (fun _ _ p q => p && q) (fun _ _ p q => p && q) (fun a b p q => p && (q && (fitsP (norm a) && fitsP (norm b)))) e
structure OnAll (r : Nat → F) : Prop where
  a : r 1 * r 1 = r 0 * r 0 * r 0 + 7
  b : r 3 * r 3 = r 2 * r 2 * r 2 + 7
  c : r 5 * r 5 = r 4 * r 4 * r 4 + 7
theorem mono_var {i : Nat} (hi : i < 6) : mono r (32 ^ i) 6 = r i := by
  have h := mono_one (r := r) (a := 0) (c := 1) (j := i) (by unfold ex; rw [Nat.zero_div]; decide) 6
  rw [Nat.zero_add, Nat.one_mul, if_pos hi] at h
  rw [h]
  have h0 : mono r 0 6 = 1 := by
    simp only [mono, ex, Nat.zero_div, Nat.zero_mod, pwF]; grind
  rw [h0]; show 1 * (1 * r i) = r i; grind
theorem mono_zero : mono r 0 6 = 1 := by
  simp only [mono, ex, Nat.zero_div, Nat.zero_mod, pwF]; grind
theorem ev_norm (hr : OnAll r) : ∀ e : Ex, okE e = true → ev r (norm e) = e.val r
  | .v i, h => by
    have hi : i < 6 := by simpa [okE, Nat.blt_eq] using h
    show iF 1 * mono r (32 ^ i) 6 + 0 = r i
    rw [iF_1, mono_var hi]; grind
  | .c z, _ => by
    show ev r (cond (isZ z) [] [(0, z)]) = iF z
    cases hz : isZ z with
    | true => rw [isZ_eq hz]; rfl
    | false => show iF z * mono r 0 6 + 0 = iF z; rw [mono_zero]; grind
  | .add a b, h => by
    obtain ⟨h1, h2⟩ : okE a = true ∧ okE b = true := by
      have : (okE a && okE b) = true := h
      simpa using this
    show ev r (addP (norm a) (norm b)) = a.val r + b.val r
    rw [ev_addP, ev_norm hr a h1, ev_norm hr b h2]
  | .sub a b, h => by
    obtain ⟨h1, h2⟩ : okE a = true ∧ okE b = true := by
      have : (okE a && okE b) = true := h
      simpa using this
    show ev r (addP (norm a) (mulT 0 (-1) (norm b))) = a.val r - b.val r
    rw [ev_addP, ev_scale, ev_norm hr a h1, ev_norm hr b h2, iF_m1]; grind
  | .mul a b, h => by
    obtain ⟨h1, h2, h3, h4⟩ : okE a = true ∧ okE b = true ∧ fitsP (norm a) = true ∧ fitsP (norm b) = true := by
      have : (okE a && (okE b && (fitsP (norm a) && fitsP (norm b)))) = true := h
      simpa using this
    show ev r (redP 0 (redP 2 (redP 4 (mulP (norm a) (norm b))))) = a.val r * b.val r
    rw [ev_redP (by decide) hr.a, ev_redP (by decide) hr.b, ev_redP (by decide) hr.c, ev_mulP h4 _ h3, ev_norm hr a h1, ev_norm hr b h2]
/-- two expressions are one -/
noncomputable def same (a b : Ex) : Bool := okE a && (okE b && eqP (norm a) (norm b))
theorem same_val (hr : OnAll r) {a b : Ex} (h : same a b = true) : a.val r = b.val r := by
  have : (okE a && (okE b && eqP (norm a) (norm b))) = true := h
  simp only [Bool.and_eq_true] at this
  rw [← ev_norm hr a this.1, ← ev_norm hr b this.2.1, ev_eqP _ _ this.2.2]
end Cv

/- The reference's formula, twice: the two ways to add three points are one. Plain; the kernel reckons. -/
namespace Cv
set_option maxRecDepth 100000
def v1 : Ex := .v 0
def w1 : Ex := .v 1
def v2 : Ex := .v 2
def w2 : Ex := .v 3
def v3 : Ex := .v 4
def w3 : Ex := .v 5
def plX (X1 Y1 Z1 X2 Y2 Z2 : Ex) : Ex := .sub (.mul (.add (.mul X1 Y2) (.mul X2 Y1)) (.sub (.mul Y1 Y2) (.mul (.c 21) (.mul Z1 Z2)))) (.mul (.add (.mul Y1 Z2) (.mul Y2 Z1)) (.mul (.c 21) (.add (.mul X1 Z2) (.mul X2 Z1))))
def plY (X1 Y1 Z1 X2 Y2 Z2 : Ex) : Ex := .add (.mul (.sub (.mul Y1 Y2) (.mul (.c 21) (.mul Z1 Z2))) (.add (.mul Y1 Y2) (.mul (.c 21) (.mul Z1 Z2)))) (.mul (.mul (.c 21) (.add (.mul X1 Z2) (.mul X2 Z1))) (.mul (.c 3) (.mul X1 X2)))
def plZ (X1 Y1 Z1 X2 Y2 Z2 : Ex) : Ex := .add (.mul (.add (.mul Y1 Y2) (.mul (.c 21) (.mul Z1 Z2))) (.add (.mul Y1 Z2) (.mul Y2 Z1))) (.mul (.mul (.c 3) (.mul X1 X2)) (.add (.mul X1 Y2) (.mul X2 Y1)))
def sX := plX v1 w1 (.c 1) v2 w2 (.c 1)
def sY := plY v1 w1 (.c 1) v2 w2 (.c 1)
def sZ := plZ v1 w1 (.c 1) v2 w2 (.c 1)
def tX := plX v2 w2 (.c 1) v3 w3 (.c 1)
def tY := plY v2 w2 (.c 1) v3 w3 (.c 1)
def tZ := plZ v2 w2 (.c 1) v3 w3 (.c 1)
def aX := plX sX sY sZ v3 w3 (.c 1)
def aY := plY sX sY sZ v3 w3 (.c 1)
def aZ := plZ sX sY sZ v3 w3 (.c 1)
def bX := plX v1 w1 (.c 1) tX tY tZ
def bY := plY v1 w1 (.c 1) tX tY tZ
def bZ := plZ v1 w1 (.c 1) tX tY tZ
theorem cross_x : same (.mul aX bZ) (.mul bX aZ) = true := by decide +kernel
theorem cross_y : same (.mul aY bZ) (.mul bY aZ) = true := by decide +kernel
end Cv

/- Sums of points are a group; the base's order. Plain. -/
namespace Cv
open Go Go.SX
set_option maxRecDepth 100000
def fX (X1 Y1 Z1 X2 Y2 Z2 : F) : F := (X1 * Y2 + X2 * Y1) * (Y1 * Y2 - 21 * (Z1 * Z2)) - (Y1 * Z2 + Y2 * Z1) * (21 * (X1 * Z2 + X2 * Z1))
def fY (X1 Y1 Z1 X2 Y2 Z2 : F) : F := (Y1 * Y2 - 21 * (Z1 * Z2)) * (Y1 * Y2 + 21 * (Z1 * Z2)) + 21 * (X1 * Z2 + X2 * Z1) * (3 * (X1 * X2))
def fZ (X1 Y1 Z1 X2 Y2 Z2 : F) : F := (Y1 * Y2 + 21 * (Z1 * Z2)) * (Y1 * Z2 + Y2 * Z1) + 3 * (X1 * X2) * (X1 * Y2 + X2 * Y1)
theorem iF_21 : iF 21 = 21 := by decide
theorem iF_3 : iF 3 = 3 := by decide
section
variable (r : Nat → F) (a b c d e f : Ex)
theorem val_X : (plX a b c d e f).val r = fX (a.val r) (b.val r) (c.val r) (d.val r) (e.val r) (f.val r) := by simp only [plX, Ex.val, iF_21, fX]
theorem val_Y : (plY a b c d e f).val r = fY (a.val r) (b.val r) (c.val r) (d.val r) (e.val r) (f.val r) := by simp only [plY, Ex.val, iF_21, iF_3, fY]
theorem val_Z : (plZ a b c d e f).val r = fZ (a.val r) (b.val r) (c.val r) (d.val r) (e.val r) (f.val r) := by simp only [plZ, Ex.val, iF_21, iF_3, fZ]
end
theorem pr_cross {a b : J} {P Q : Aff} (ha : OkJ a) (hb : OkJ b) (h : PR a P) (k : PR b Q) (hx : cF a.1 * cF b.2.2 = cF b.1 * cF a.2.2) (hy : cF a.2.1 * cF b.2.2 = cF b.2.1 * cF a.2.2) : P = Q := by
  cases P with
  | inf =>
    obtain ⟨h1, h2, h3⟩ := h
    cases Q with
    | inf => rfl
    | pt x y =>
      obtain ⟨k1, _, _⟩ := k
      rw [h3, cF_zero] at hy
      have : cF a.2.1 * cF b.2.2 = 0 := by rw [hy]; grind
      exact absurd this (mul_ne h2 (cF_ne hb.z k1))
  | pt x y =>
    obtain ⟨h1, h2, h3⟩ := h
    have hz := cF_ne ha.z h1
    cases Q with
    | inf =>
      obtain ⟨k1, k2, k3⟩ := k
      rw [k3, cF_zero] at hy
      have : cF b.2.1 * cF a.2.2 = 0 := by rw [← hy]; grind
      exact absurd this (mul_ne k2 hz)
    | pt x' y' =>
      obtain ⟨k1, k2, k3⟩ := k
      have kz := cF_ne hb.z k1
      rw [h2, k2] at hx
      rw [h3, k3] at hy
      generalize cF a.2.2 = z at *
      generalize cF b.2.2 = z' at *
      have e1 : x = x' := cancel (mul_ne hz kz) (by grind)
      have e2 : y = y' := cancel (mul_ne hz kz) (by grind)
      rw [e1, e2]
def rep (x y : F) : J := (x.val, y.val, 1)
theorem rep_ok (x y : F) : OkJ (rep x y) := ⟨x.isLt, y.isLt, by show 1 < Pp; decide⟩
theorem rep_pr (x y : F) : PR (rep x y) (.pt x y) := by
  have := @pr_1 x.val y.val
  rw [ptOf, cF_of, cF_of] at this; exact this
theorem aadd_inf (P : Aff) : aadd P .inf = P := by cases P <;> rfl
theorem aadd_assoc {P Q T : Aff} (hP : On P) (hQ : On Q) (hT : On T) : aadd (aadd P Q) T = aadd P (aadd Q T) := by
  cases P with
  | inf => rfl
  | pt x1 y1 =>
    cases Q with
    | inf => rw [aadd_inf]; rfl
    | pt x2 y2 =>
      cases T with
      | inf => rw [aadd_inf, aadd_inf]
      | pt x3 y3 =>
        have p1 := rep_pr x1 y1
        have p2 := rep_pr x2 y2
        have p3 := rep_pr x3 y3
        have o1 := rep_ok x1 y1
        have o2 := rep_ok x2 y2
        have o3 := rep_ok x3 y3
        have hs := pr_add (rplus_ok _ _) o3 (aadd_on hP hQ) hT (pr_add o1 o2 hP hQ p1 p2) p3
        have ht := pr_add o1 (rplus_ok _ _) hP (aadd_on hQ hT) p1 (pr_add o2 o3 hQ hT p2 p3)
        let r : Nat → F := fun i => match i with | 0 => x1 | 1 => y1 | 2 => x2 | 3 => y2 | 4 => x3 | _ => y3
        have hr : OnAll r := ⟨hP, hQ, hT⟩
        have cx := same_val hr cross_x
        have cy := same_val hr cross_y
        obtain ⟨s1, s2, s3⟩ := @rplus_F (rep x1 y1) (rep x2 y2)
        obtain ⟨t1, t2, t3⟩ := @rplus_F (rep x2 y2) (rep x3 y3)
        obtain ⟨a1, a2, a3⟩ := @rplus_F (rplus (rep x1 y1) (rep x2 y2)) (rep x3 y3)
        obtain ⟨b1, b2, b3⟩ := @rplus_F (rep x1 y1) (rplus (rep x2 y2) (rep x3 y3))
        rw [s1, s2, s3] at a1 a2 a3
        rw [t1, t2, t3] at b1 b2 b3
        have e1 : cF (rep x1 y1).1 = x1 := cF_of
        have e2 : cF (rep x1 y1).2.1 = y1 := cF_of
        have e3 : cF (rep x1 y1).2.2 = 1 := rfl
        have f1 : cF (rep x2 y2).1 = x2 := cF_of
        have f2 : cF (rep x2 y2).2.1 = y2 := cF_of
        have f3 : cF (rep x2 y2).2.2 = 1 := rfl
        have g1 : cF (rep x3 y3).1 = x3 := cF_of
        have g2 : cF (rep x3 y3).2.1 = y3 := cF_of
        have g3 : cF (rep x3 y3).2.2 = 1 := rfl
        rw [e1, e2, e3, f1, f2, f3, g1, g2, g3] at a1 a2 a3 b1 b2 b3
        have v1' : v1.val r = x1 := rfl
        have w1' : w1.val r = y1 := rfl
        have v2' : v2.val r = x2 := rfl
        have w2' : w2.val r = y2 := rfl
        have v3' : v3.val r = x3 := rfl
        have w3' : w3.val r = y3 := rfl
        have c1' : (Ex.c 1).val r = 1 := iF_1
        have vm : ∀ u w : Ex, (Ex.mul u w).val r = u.val r * w.val r := fun _ _ => rfl
        simp only [vm, aX, aY, aZ, bX, bY, bZ, sX, sY, sZ, tX, tY, tZ, val_X, val_Y, val_Z, v1', w1', v2', w2', v3', w3', c1'] at cx cy
        refine pr_cross (rplus_ok _ _) (rplus_ok _ _) hs ht ?_ ?_
        · rw [a1, a3, b1, b3]; exact cx
        · rw [a2, a3, b2, b3]; exact cy
/-! multiples -/
def smul (P : Aff) : Nat → Aff
  | 0 => .inf
  | n + 1 => aadd (smul P n) P
theorem smul_on {P : Aff} (hP : On P) : ∀ n, On (smul P n)
  | 0 => trivial
  | n + 1 => aadd_on (smul_on hP n) hP
theorem smul_add {P : Aff} (hP : On P) (m : Nat) : ∀ n, smul P (m + n) = aadd (smul P m) (smul P n)
  | 0 => (aadd_inf _).symm
  | n + 1 => by
    show aadd (smul P (m + n)) P = aadd (smul P m) (aadd (smul P n) P)
    rw [smul_add hP m n, aadd_assoc (smul_on hP m) (smul_on hP n) hP]
theorem smul_1 (P : Aff) : smul P 1 = P := rfl
theorem smul_mul {P : Aff} (hP : On P) (m : Nat) : ∀ n, smul P (m * n) = smul (smul P m) n
  | 0 => rfl
  | n + 1 => by
    rw [Nat.mul_succ, smul_add hP, smul_mul hP m n]; rfl
theorem smul_inf : ∀ n, smul .inf n = .inf
  | 0 => rfl
  | n + 1 => by show aadd (smul .inf n) .inf = .inf; rw [aadd_inf, smul_inf n]
theorem atimes_smul {k : Nat} {P : Aff} (hP : On P) (hk : k < 2 ^ 256) : ∀ n, n ≤ 256 → atimes k P n = smul P (k / 2 ^ (256 - n))
  | 0, _ => by rw [Nat.sub_zero, Nat.div_eq_of_lt hk]; rfl
  | n + 1, hn => by
    have ih := atimes_smul hP hk n (by omega)
    simp only [atimes]
    rw [ih, show 256 - (n + 1) = 255 - n from by omega, show 256 - n = 255 - n + 1 from by omega]
    generalize 255 - n = i
    have e2 : k / 2 ^ i = k / 2 ^ (i + 1) + k / 2 ^ (i + 1) + k / 2 ^ i % 2 := by rw [Nat.pow_succ, ← Nat.div_div_eq_div_mul]; omega
    split
    · rename_i hb
      rw [hb] at e2
      rw [e2, ← smul_add hP]; rfl
    · rename_i hb
      rw [show k / 2 ^ i % 2 = 0 from by omega, Nat.add_zero] at e2
      rw [e2, ← smul_add hP]
theorem times_smul {k : Nat} {P : Aff} (hP : On P) (hk : k < R) : atimes k P 256 = smul P k := by
  have := atimes_smul hP (show k < 2 ^ 256 from hk) 256 (Nat.le_refl _)
  rw [this, Nat.sub_self, Nat.pow_zero, Nat.div_one]
end Cv

/- The base's order; points as bytes and back; sums of keys and of public keys agree. Plain. -/
namespace Cv
open Go Go.SX
set_option maxRecDepth 100000
/-- n times the base, reckoned -/
theorem nG_z : (jtimes Nn (Gx, Gy, 1) 256).2.2 = 0 := by decide +kernel
theorem nG : smul aG Nn = .inf := by
  have h := jr_times (k := Nn) jG_ok aG_on jr_G 256
  rw [jG_eq, times_smul aG_on (by decide)] at h
  generalize smul aG Nn = P at *
  cases P with
  | inf => rfl
  | pt x y => exact absurd nG_z h.1
theorem smul_mod (k : Nat) : smul aG k = smul aG (k % Nn) := by
  have h := Nat.div_add_mod k Nn
  have e : smul aG (Nn * (k / Nn) + k % Nn) = smul aG (k % Nn) := by
    rw [smul_add aG_on, smul_mul aG_on, nG, smul_inf]; rfl
  rw [h] at e; exact e
theorem smul_ne {k : Nat} (h : k % Nn ≠ 0) : smul aG k ≠ .inf := by
  intro he
  have hf := fermat_N k h
  have e1 : smul aG (k * k ^ (Nn - 2)) = .inf := by rw [smul_mul aG_on, he, smul_inf]
  rw [smul_mod, ← Nat.pow_succ', show (Nn - 2).succ = Nn - 1 from by decide, hf] at e1
  cases e1
theorem key_ne {k : Nat} (h : keyOK k = true) : smul aG k ≠ .inf := smul_ne (by rw [Nat.mod_eq_of_lt (keyOK_lt h)]; exact keyOK_ne h)
/-! a point's bytes, read back -/
theorem lsq_y {x y : F} (h : On (.pt x y)) : lsq x.val = fm y.val y.val := by
  refine cF_inj (fa_lt _ _) (fm_lt _ _) ?_
  rw [lsq, cF_fa, cF_fm, cF_fm, cF_fm, cF_of, cF_of]
  exact h.symm
theorem root_sq {x y : F} (h : On (.pt x y)) : fm (lroot x.val) (lroot x.val) = lsq x.val := by
  have hy : y.val % Pp ≠ 0 := by
    rw [Nat.mod_eq_of_lt y.isLt]
    intro h0; exact on_y h (Fin.ext h0)
  have hq : Pq < R := by decide
  unfold lroot
  rw [lsq_y h, pw_eq mo_P hq]
  unfold fm
  rw [← Nat.pow_mod, ← Nat.mul_mod, ← Nat.pow_add, ← Nat.pow_two, ← Nat.pow_mul, show 2 * (Pq + Pq) = (Pp - 1) + 2 from by decide, Nat.pow_add, Nat.mul_mod, fermat_P _ hy, Nat.one_mul, Nat.mod_mod]
theorem root_pm {x y : F} (h : On (.pt x y)) : lroot x.val = y.val ∨ lroot x.val = Pp - y.val := by
  have hl : lroot x.val < Pp := pw_lt mo_P _ _
  have h1 := congrArg cF (root_sq h)
  rw [lsq_y h, cF_fm, cF_fm, cF_of] at h1
  have h2 : (cF (lroot x.val) - y) * (cF (lroot x.val) + y) = 0 := by grind
  rcases mul_0 h2 with h3 | h3
  · left
    refine cF_inj hl y.isLt ?_
    rw [cF_of]; grind
  · right
    have hy0 : y.val ≠ 0 := fun h0 => on_y h (Fin.ext h0)
    have hyl := y.isLt
    refine cF_inj hl (by omega) ?_
    have e : cF (Pp - y.val) = - y := by
      have := cF_fs (x := 0) y.isLt
      rw [fs, Nat.zero_add, cF_zero, cF_of, cF_mod] at this
      rw [this]; grind
    rw [e]; grind
theorem lift_pt {x y : F} (h : On (.pt x y)) : jlift x.val (y.val % 2) = ((x.val, y.val, 1), true) := by
  have hy0 : y.val ≠ 0 := fun h0 => on_y h (Fin.ext h0)
  have hyl := y.isLt
  have hodd : Pp % 2 = 1 := by decide
  unfold jlift
  rw [if_pos (root_sq h)]
  rcases root_pm h with e | e
  · rw [e, if_pos rfl]
  · rw [e, if_neg (by omega), show Pp - (Pp - y.val) = y.val from by omega, Nat.mod_eq_of_lt hyl]
theorem unpack_pk {x y : F} (h : On (.pt x y)) : junpack (pk33 x.val y.val) 0 33 = ((x.val, y.val, 1), true) := by
  have e0 : pk33 x.val y.val 0 = 2 + y.val % 2 := if_pos rfl
  have e1 : be (fun i => pk33 x.val y.val (0 + 1 + i)) 32 = x.val := by
    refine Eq.trans (be_congr 32 fun i hi => ?_) (be_Y (x := x.val) (Nat.lt_trans x.isLt mo_P.lt))
    rw [pk33, if_neg (by omega), show 32 - (0 + 1 + i) = 31 - i from by omega]
  rw [junpack_yes (by rw [e0]; omega) (by rw [e1]; exact x.isLt), e1, e0, show (2 + y.val % 2) % 2 = y.val % 2 from by omega]
  exact lift_pt h
theorem jpack_pt {a : J} {x y : F} (ha : OkJ a) (h : JR a (.pt x y)) : jpack a = pk33 x.val y.val := by
  unfold jpack; rw [jflat_pt ha h]
/-- a key's public key stands for the key times the base -/
theorem pub_pt {f : Nat → Nat} (h : keyOK (be f 32) = true) : ∃ x y, smul aG (be f 32) = .pt x y ∧ On (.pt x y) ∧ pubOf f = (pk33 x.val y.val, 0) := by
  have hk := keyOK_lt h
  have hj := jr_times (k := be f 32) jG_ok aG_on jr_G 256
  rw [times_smul aG_on (Nat.lt_trans hk mo_N.lt)] at hj
  have hon := smul_on aG_on (be f 32)
  have hne := key_ne h
  cases e : smul aG (be f 32) with
  | inf => exact absurd e hne
  | pt x y =>
    rw [e] at hj hon
    refine ⟨x, y, rfl, hon, ?_⟩
    rw [pubOf_yes h, jpack_pt (jtimes_ok jG_ok _) hj]
theorem pub_unpacks {f : Nat → Nat} (h : keyOK (be f 32) = true) : (junpack (pubOf f).1 0 33).2 = true := by
  obtain ⟨x, y, _, hon, e⟩ := pub_pt h
  rw [e, unpack_pk hon]
/-! the public key of a sum -/
theorem be_by {x : Nat} (hx : x < R) : be (by32 x) 32 = x := be_Y hx
structure Agree (f g : Nat → Nat) : Prop where
  bad : ¬ keyOK (be f 32) = true → (addKey f g).2 = 1
  same : keyOK (be f 32) = true → (addKey f g).2 ≠ 0 → (addPub (pubOf f).1 g).2 = (addKey f g).2
  ok : keyOK (be f 32) = true → (addKey f g).2 = 0 → (addPub (pubOf f).1 g).2 = 0 ∧ (pubOf (addKey f g).1).2 = 0 ∧ (addPub (pubOf f).1 g).1 = (pubOf (addKey f g).1).1
theorem agree (f g : Nat → Nat) : Agree f g := by
  by_cases h : keyOK (be f 32) = true
  · refine ⟨fun hh => absurd h hh, fun _ h0 => ?_, fun _ h0 => ?_⟩
    all_goals
      by_cases hg : be g 32 < Nn
      · obtain ⟨x, y, e, hon, ep⟩ := pub_pt h
        have hu := unpack_pk hon
        have hp1 : (pubOf f).1 = pk33 x.val y.val := by rw [ep]
        have hj2 := jr_times (k := be g 32) jG_ok aG_on jr_G 256
        rw [times_smul aG_on (Nat.lt_trans hg mo_N.lt)] at hj2
        have hj1 : JR (x.val, y.val, 1) (.pt x y) := by
          have := @jr_1 x.val y.val
          rw [ptOf, cF_of, cF_of] at this; exact this
        have hok1 : OkJ (x.val, y.val, 1) := rep_ok x y
        have hs := jr_add hok1 (jtimes_ok jG_ok 256) hon (smul_on aG_on _) hj1 hj2
        rw [← e, ← smul_add aG_on, smul_mod] at hs
        have huv : (junpack (pubOf f).1 0 33).2 = true := by rw [hp1, hu]
        have hu1 : (junpack (pubOf f).1 0 33).1 = (x.val, y.val, 1) := by rw [hp1, hu]
        by_cases h3 : (be f 32 + be g 32) % Nn = 0
        · have hz : (jadd (junpack (pubOf f).1 0 33).1 (jtimes (be g 32) jG 256)).2.2 = 0 := by
            rw [hu1]; rw [h3] at hs; exact hs
          first
          | (rw [addKey_0 h hg h3, addPub_0 hg huv hz]; done)
          | (rw [addKey_0 h hg h3] at h0; cases h0)
        · have hkey : keyOK ((be f 32 + be g 32) % Nn) = true := by
            simp only [keyOK, decide_eq_true_eq]; exact ⟨h3, mod_lt mo_N _⟩
          have hb : be (by32 ((be f 32 + be g 32) % Nn)) 32 = (be f 32 + be g 32) % Nn := be_by (mod_ltR mo_N _)
          obtain ⟨x', y', e', hon', ep'⟩ := pub_pt (f := by32 ((be f 32 + be g 32) % Nn)) (by rw [hb]; exact hkey)
          rw [hb] at e'
          rw [e'] at hs
          have hz : ¬ (jadd (junpack (pubOf f).1 0 33).1 (jtimes (be g 32) jG 256)).2.2 = 0 := by rw [hu1]; exact hs.1
          have hpk : jpack (jadd (junpack (pubOf f).1 0 33).1 (jtimes (be g 32) jG 256)) = pk33 x'.val y'.val := by
            rw [hu1]; exact jpack_pt (jadd_ok hok1 (jtimes_ok jG_ok 256)) hs
          first
          | (rw [addKey_yes h hg h3] at h0; exact absurd rfl h0)
          | (rw [addKey_yes h hg h3, addPub_yes hg huv hz, hpk]; exact ⟨rfl, by rw [ep'], by rw [ep']⟩)
      · first
        | (rw [addKey_no (fun hh => hg hh.2), addPub_no hg]; done)
        | (rw [addKey_no (fun hh => hg hh.2)] at h0; cases h0)
  · exact ⟨fun _ => by rw [addKey_no (fun hh => h hh.1)], fun hh => absurd hh h, fun hh => absurd hh h⟩
end Cv

/- What the laws on public keys ask. Plain. -/
namespace Cv
open Go Go.SX
theorem eq0_dec (n : Nat) : (((n : Nat) : Int) == 0) = decide (n = 0) := by
  rw [Bool.eq_iff_iff]; simp only [beq_iff_eq, decide_eq_true_eq]; omega
theorem pub_key (f : Nat → Nat) : keyOK (be f 32) = decide ((pubOf f).2 = 0) := by
  by_cases h : keyOK (be f 32) = true
  · rw [pubOf_yes h, h]; rfl
  · rw [pubOf_no h, Bool.eq_false_iff.2 h]; rfl
theorem pub_ok {f : Nat → Nat} (h : (pubOf f).2 = 0) : keyOK (be f 32) = true := by rw [pub_key, h]; rfl
theorem pub_err {f : Nat → Nat} (h : ¬ (pubOf f).2 = 0) : (pubOf f).2 = 1 := by
  have hk : ¬ keyOK (be f 32) = true := by rw [pub_key]; simpa using h
  rw [pubOf_no hk]
theorem pub_lt (f : Nat → Nat) (i : Nat) : (pubOf f).1 i < 256 := by
  unfold pubOf; split
  · exact jpack_lt _ _
  · show 0 < 256; decide
theorem addKey_lt (f g : Nat → Nat) (i : Nat) : (addKey f g).1 i < 256 := by
  unfold addKey; split
  · split
    · show 0 < 256; decide
    · exact by32_lt _ _
  · show 0 < 256; decide
theorem ne0 {n : Nat} (h : (((n : Nat) : Int) != 0) = true) : n ≠ 0 := bnen h
theorem nne0 {n : Nat} (h : (((n : Nat) : Int) != 0) = false) : n = 0 := nbnen h
theorem eqB {a b : Nat} (h : a = b) : (((a : Nat) : Int) == ((b : Nat) : Int)) = true := by rw [h]; simp
end Cv
