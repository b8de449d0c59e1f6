/- CvThree: a part of the proof: lemmas alone, of no statement. -/
import Derived.Test.YthjpppgibdfaeaaCvOne
import Derived.Test.YthjpppgibdfaeaaCvTwo
/- Primes by Lucas: a root whose powers are all. Plain. -/
namespace Cv
def Pr1 (n : Nat) : Prop := 1 < n ∧ ∀ d, d ∣ n → d = 1 ∨ d = n
theorem pr_dvd {r a b : Nat} (hr : Pr1 r) (h : r ∣ a * b) : r ∣ a ∨ r ∣ b := by
  rcases hr.2 (Nat.gcd r a) (Nat.gcd_dvd_left r a) with h1 | h1
  · exact .inr (Nat.Coprime.dvd_of_dvd_mul_left h1 h)
  · exact .inl (h1 ▸ Nat.gcd_dvd_right r a)
def mulL : List Nat → Nat
  | [] => 1
  | a :: l => a * mulL l
theorem pr_mulL {r : Nat} (hr : Pr1 r) : ∀ {l : List Nat}, r ∣ mulL l → (∀ q ∈ l, Pr1 q) → r ∈ l
  | [], h, _ => by
    have := Nat.le_of_dvd (by decide) h
    have := hr.1
    simp only [mulL] at *; omega
  | q :: l, h, hl => by
    rcases pr_dvd hr h with h1 | h1
    · rcases (hl q List.mem_cons_self).2 r h1 with h2 | h2
      · have := hr.1; omega
      · exact h2 ▸ List.mem_cons_self
    · exact List.mem_cons_of_mem _ (pr_mulL hr h1 fun x hx => hl x (List.mem_cons_of_mem _ hx))
/-- a number above 1 has a prime divisor -/
theorem has_pr : ∀ n, 1 < n → ∃ r, Pr1 r ∧ r ∣ n := by
  intro n
  induction n using Nat.strongRecOn with
  | _ n ih =>
    intro hn
    by_cases h : ∀ d, d ∣ n → d = 1 ∨ d = n
    · exact ⟨n, ⟨hn, h⟩, Nat.dvd_refl n⟩
    · obtain ⟨d, hd⟩ := Classical.not_forall.1 h
      have hdn : d ∣ n := Classical.byContradiction fun hh => hd fun hhh => (hh hhh).elim
      have hne : ¬ (d = 1 ∨ d = n) := fun hh => hd fun _ => hh
      have hle := Nat.le_of_dvd (by omega) hdn
      have h0 : d ≠ 0 := by rintro rfl; have := Nat.eq_zero_of_zero_dvd hdn; omega
      obtain ⟨r, hr, hrd⟩ := ih d (by omega) (by omega)
      exact ⟨r, hr, Nat.dvd_trans hrd hdn⟩
/-- as many as there are places: each is met -/
theorem pigeon : ∀ (n : Nat) (f : Nat → Nat), (∀ i, i < n → f i < n) → (∀ i j, i < n → j < n → f i = f j → i = j) → ∀ j, j < n → ∃ i, i < n ∧ f i = j := by
  intro n
  induction n with
  | zero => intro f _ _ j hj; omega
  | succ n ih =>
    intro f hlt hinj
    -- the value of the last one changes places with n
    let g : Nat → Nat := fun i => if f i = n then f n else f i
    have hg : ∀ i, i < n → g i < n := by
      intro i hi
      show (if f i = n then f n else f i) < n
      split
      · rename_i h
        have h1 := hlt n (by omega)
        have : f n ≠ n := fun e => by have := hinj i n (by omega) (by omega) (h.trans e.symm); omega
        omega
      · have := hlt i (by omega); omega
    have hgi : ∀ i j, i < n → j < n → g i = g j → i = j := by
      intro i j hi hj h
      change (if f i = n then f n else f i) = (if f j = n then f n else f j) at h
      split at h <;> split at h
      · rename_i h1 h2; exact hinj i j (by omega) (by omega) (h1.trans h2.symm)
      · have := hinj n j (by omega) (by omega) h; omega
      · have := hinj i n (by omega) (by omega) h; omega
      · exact hinj i j (by omega) (by omega) h
    intro j hj
    by_cases hjn : f n = j
    · exact ⟨n, by omega, hjn⟩
    · by_cases hjn2 : j = n
      · -- n is met: by f of some i
        subst hjn2
        have h1 := hlt j (by omega)
        obtain ⟨i, hi, he⟩ := ih g hg hgi (f j) (by omega)
        change (if f i = j then f j else f i) = f j at he
        split at he
        · rename_i h; exact ⟨i, by omega, h⟩
        · have := hinj i j (by omega) (by omega) he; omega
      · obtain ⟨i, hi, he⟩ := ih g hg hgi j (by omega)
        change (if f i = n then f n else f i) = j at he
        split at he
        · exact absurd he hjn
        · exact ⟨i, by omega, he⟩
theorem pow_gcd {N a : Nat} (hN : 1 < N) {m : Nat} (hu : ∃ b, a * b % N = 1) : ∀ n, a ^ m % N = 1 → a ^ n % N = 1 → a ^ (Nat.gcd m n) % N = 1 := by
  obtain ⟨b, hb⟩ := hu
  have cancel : ∀ i j, a ^ (i + j) % N = 1 → a ^ i % N = 1 → a ^ j % N = 1 := by
    intro i j h1 h2
    rw [Nat.pow_add, Nat.mul_mod, h2, Nat.one_mul, Nat.mod_mod] at h1
    exact h1
  have hmul : ∀ i k, a ^ i % N = 1 → a ^ (i * k) % N = 1 := by
    intro i k h
    rw [Nat.pow_mul, Nat.pow_mod, h, Nat.one_pow, Nat.mod_eq_of_lt hN]
  induction m using Nat.strongRecOn with
  | _ m ih =>
    intro n h1 h2
    rcases Nat.eq_zero_or_pos m with rfl | hm
    · rw [Nat.gcd_zero_left]; exact h2
    · rw [Nat.gcd_rec]
      refine ih (n % m) (Nat.mod_lt _ hm) m ?_ h1
      refine cancel (m * (n / m)) (n % m) ?_ (hmul m _ h1)
      rw [Nat.div_add_mod]; exact h2
/-- Lucas -/
theorem lucas {N a : Nat} (l : List Nat) (hN : 2 < N) (hl : ∀ q ∈ l, Pr1 q) (hM : mulL l = N - 1) (h1 : a ^ (N - 1) % N = 1) (h2 : ∀ q ∈ l, a ^ ((N - 1) / q) % N ≠ 1) :
    Pr1 N ∧ ∀ z, z % N ≠ 0 → z ^ (N - 1) % N = 1 := by
  have hu : ∃ b, a * b % N = 1 := ⟨a ^ (N - 2), by rw [← Nat.pow_succ', show (N - 2).succ = N - 1 from by omega]; exact h1⟩
  have hord : ∀ d, 0 < d → d < N - 1 → a ^ d % N ≠ 1 := by
    intro d hd hlt he
    have hg := pow_gcd (by omega) hu d h1 he
    have hg1 : Nat.gcd (N - 1) d ∣ N - 1 := Nat.gcd_dvd_left _ _
    have hg2 := Nat.le_of_dvd hd (Nat.gcd_dvd_right (N - 1) d)
    obtain ⟨c, hc⟩ := hg1
    have hc1 : 1 < c := by
      rcases Nat.lt_or_ge 1 c with h | h
      · exact h
      · exfalso
        have : Nat.gcd (N - 1) d * c ≤ Nat.gcd (N - 1) d * 1 := Nat.mul_le_mul_left _ h
        omega
    obtain ⟨r, hr, hrc⟩ := has_pr c hc1
    have hrM : r ∣ mulL l := by rw [hM, hc]; exact Nat.dvd_trans hrc (Nat.dvd_mul_left c _)
    have hrl := pr_mulL hr hrM hl
    refine h2 r hrl ?_
    obtain ⟨e, he2⟩ := hrc
    have hge : ∀ g, N - 1 = g * c → (N - 1) / r = g * e := by
      intro g hgc
      rw [hgc, he2, Nat.mul_left_comm, Nat.mul_div_cancel_left _ (by have := hr.1; omega)]
    have := hge _ hc
    rw [this, Nat.pow_mul, Nat.pow_mod, hg, Nat.one_pow, Nat.mod_eq_of_lt (by omega)]
  obtain ⟨b, hb⟩ := hu
  have hunit : ∀ k, a ^ k * b ^ k % N = 1 := by
    intro k
    rw [← Nat.mul_pow, Nat.pow_mod, hb, Nat.one_pow, Nat.mod_eq_of_lt (by omega)]
  have hne : ∀ k, a ^ k % N ≠ 0 := by
    intro k h0
    have := hunit k
    rw [Nat.mul_mod, h0, Nat.zero_mul, Nat.zero_mod] at this
    omega
  have hinj : ∀ i j, i < j → j < N - 1 → a ^ i % N ≠ a ^ j % N := by
    intro i j hij hj he
    refine hord (j - i) (by omega) (by omega) ?_
    have e1 : a ^ j = a ^ i * a ^ (j - i) := by rw [← Nat.pow_add]; congr 1; omega
    have e2 : b ^ i * a ^ j % N = a ^ (j - i) % N := by
      rw [e1, ← Nat.mul_assoc, Nat.mul_mod, Nat.mul_comm (b ^ i), hunit i, Nat.one_mul, Nat.mod_mod]
    rw [← e2, Nat.mul_mod, ← he, ← Nat.mul_mod, Nat.mul_comm, hunit]
  have hall : ∀ z, z % N ≠ 0 → ∃ i, a ^ i % N = z % N := by
    intro z hz
    obtain ⟨i, _, hi⟩ := pigeon (N - 1) (fun i => a ^ i % N - 1) (fun i _ => by
      have := hne i; have := Nat.mod_lt (a ^ i) (show N > 0 by omega); show a ^ i % N - 1 < N - 1; omega) (fun i j hi hj h => by
      have h3 := hne i; have h4 := hne j
      have h5 : a ^ i % N = a ^ j % N := by have h' : a ^ i % N - 1 = a ^ j % N - 1 := h; omega
      rcases Nat.lt_trichotomy i j with h6 | h6 | h6
      · exact (hinj i j h6 hj h5).elim
      · exact h6
      · exact (hinj j i h6 hi h5.symm).elim) (z % N - 1) (by have := Nat.mod_lt z (show N > 0 by omega); omega)
    have := hne i
    exact ⟨i, by have h' : a ^ i % N - 1 = z % N - 1 := hi; omega⟩
  have hfer : ∀ z, z % N ≠ 0 → z ^ (N - 1) % N = 1 := by
    intro z hz
    obtain ⟨i, hi⟩ := hall z hz
    rw [Nat.pow_mod, ← hi, ← Nat.pow_mod, ← Nat.pow_mul, Nat.mul_comm, Nat.pow_mul, Nat.pow_mod, h1, Nat.one_pow, Nat.mod_eq_of_lt (by omega)]
  refine ⟨⟨by omega, fun d hd => ?_⟩, hfer⟩
  have hle := Nat.le_of_dvd (by omega) hd
  by_cases hdN : d = N
  · exact .inr hdN
  · left
    have h0 : d ≠ 0 := by rintro rfl; have := Nat.eq_zero_of_zero_dvd hd; omega
    have hf := hfer d (by rw [Nat.mod_eq_of_lt (by omega)]; exact h0)
    have hd1 : d ∣ d ^ (N - 1) := ⟨d ^ (N - 2), by rw [← Nat.pow_succ', show (N - 2).succ = N - 1 from by omega]⟩
    have e := Nat.div_add_mod (d ^ (N - 1)) N
    rw [hf] at e
    have : d ∣ 1 := (Nat.dvd_add_right (Nat.dvd_trans hd (Nat.dvd_mul_right N _))).1 (e ▸ hd1)
    exact Nat.dvd_one.1 this
/-! powers that the kernel can reckon, of any modulus -/
theorem pwGo_eq1 {m x e : Nat} (h : 1 < m) (he : e < 2 ^ 256) : ∀ j, j ≤ 256 → pwGo m x e j = x ^ (e / 2 ^ (256 - j)) % m
  | 0, _ => by
    show 1 = _
    rw [Nat.sub_zero, Nat.div_eq_of_lt he, Nat.pow_zero, Nat.mod_eq_of_lt h]
  | j + 1, hj => by
    rw [pwGo_step rfl, pwGo_eq1 h he j (by omega), show 256 - (j + 1) = 255 - j from by omega, show 256 - j = 255 - j + 1 from by omega]
    generalize 255 - j = i
    have e2 : e / 2 ^ i = 2 * (e / 2 ^ (i + 1)) + e / 2 ^ i % 2 := by rw [Nat.pow_succ, ← Nat.div_div_eq_div_mul]; omega
    split
    · rename_i hb
      rw [hb] at e2
      rw [← Nat.mul_mod, ← Nat.pow_add, Nat.mod_mul_mod, ← Nat.pow_succ, e2]
      congr 2; omega
    · rename_i hb
      rw [show e / 2 ^ i % 2 = 0 from by omega] at e2
      rw [← Nat.mul_mod, ← Nat.pow_add, e2]
      congr 2; omega
theorem pw_eq1 {m x e : Nat} (h : 1 < m) (he : e < R) : pw m x e = x ^ e % m := by
  have := pwGo_eq1 (x := x) h (show e < 2 ^ 256 from he) 256 (Nat.le_refl _)
  rw [Nat.sub_self, Nat.pow_zero, Nat.div_one] at this
  exact this
/-- what the kernel looks at -/
def lucB (N a : Nat) (l : List Nat) : Bool := Nat.blt 2 N && Nat.blt N R && Nat.beq (mulL l) (N - 1) && Nat.beq (pw N a (N - 1)) 1 && l.all fun q => !(Nat.beq (pw N a ((N - 1) / q)) 1)
theorem lucas_of {N a : Nat} {l : List Nat} (h : lucB N a l = true) (hl : ∀ q ∈ l, Pr1 q) : Pr1 N ∧ ∀ z, z % N ≠ 0 → z ^ (N - 1) % N = 1 := by
  simp only [lucB, Bool.and_eq_true, List.all_eq_true, Nat.blt_eq] at h
  obtain ⟨⟨⟨⟨h1, h2⟩, h3⟩, h4⟩, h5⟩ := h
  have h3 := Nat.eq_of_beq_eq_true h3
  have h4 := Nat.eq_of_beq_eq_true h4
  have hlt : ∀ q, (N - 1) / q < R := fun q => Nat.lt_of_le_of_lt (Nat.div_le_self _ _) (by omega)
  rw [pw_eq1 (by omega) (by omega)] at h4
  refine lucas (a := a) l h1 hl h3 h4 fun q hq he => ?_
  have := h5 q hq
  rw [pw_eq1 (by omega) (hlt q), he] at this
  simp at this
/-- no divisor from 2 on -/
def noDiv (n : Nat) : Nat → Nat → Bool
  | 0, _ => true
  | k + 1, d => !(Nat.beq (n % d) 0) && noDiv n k (d + 1)
theorem noDiv_spec {n : Nat} : ∀ {k d : Nat}, noDiv n k d = true → ∀ e, d ≤ e → e < d + k → n % e ≠ 0
  | 0, d, _, e, h1, h2 => by omega
  | k + 1, d, h, e, h1, h2 => by
    simp only [noDiv, Bool.and_eq_true] at h
    by_cases he : e = d
    · subst he
      intro h0
      rw [h0] at h
      simp at h
    · exact noDiv_spec h.2 e (by omega) (by omega)
def smallB (n k : Nat) : Bool := Nat.blt 1 n && Nat.blt n ((k + 2) * (k + 2)) && noDiv n k 2
theorem small_pr {n k : Nat} (h : smallB n k = true) (hk : k + 2 ≤ n) : Pr1 n := by
  simp only [smallB, Bool.and_eq_true, Nat.blt_eq] at h
  obtain ⟨⟨h1, h2⟩, h3⟩ := h
  refine ⟨h1, fun d hd => ?_⟩
  obtain ⟨c, hc⟩ := hd
  have hno := noDiv_spec h3
  have key : ∀ x y, n = x * y → x < k + 2 → x = 1 := by
    intro x y hxy hx
    rcases Nat.lt_or_ge x 2 with h | h
    · rcases Nat.eq_zero_or_pos x with h0 | h0
      · subst h0; omega
      · omega
    · exact (hno x h (by omega) (by rw [hxy, Nat.mul_mod_right])).elim
  rcases Nat.lt_or_ge d (k + 2) with h | h
  · exact .inl (key d c hc h)
  · right
    have : c < k + 2 := by
      rcases Nat.lt_or_ge c (k + 2) with h4 | h4
      · exact h4
      · have := Nat.mul_le_mul h h4; omega
    have := key c d (by rw [hc, Nat.mul_comm]) this
    subst this; omega
end Cv

/- The two primes of the curve, by certificates. -/
namespace Cv
set_option maxRecDepth 100000
theorem all_cons {a : Nat} {l : List Nat} (h : Pr1 a) (hl : ∀ q ∈ l, Pr1 q) : ∀ q ∈ a :: l, Pr1 q := fun q hq => by
  rcases List.mem_cons.1 hq with rfl | hq
  · exact h
  · exact hl q hq
theorem pr_2 : Pr1 2 := small_pr (k := 0) (by decide +kernel) (by decide)
theorem pr_3 : Pr1 3 := small_pr (k := 0) (by decide +kernel) (by decide)
theorem pr_7 : Pr1 7 := small_pr (k := 1) (by decide +kernel) (by decide)
theorem pr_13441 : Pr1 13441 := small_pr (k := 114) (by decide +kernel) (by decide)
theorem pr_5 : Pr1 5 := small_pr (k := 1) (by decide +kernel) (by decide)
theorem pr_29 : Pr1 29 := small_pr (k := 4) (by decide +kernel) (by decide)
theorem pr_31 : Pr1 31 := small_pr (k := 4) (by decide +kernel) (by decide)
theorem pr_7723 : Pr1 7723 := small_pr (k := 86) (by decide +kernel) (by decide)
theorem pr_5323 : Pr1 5323 := small_pr (k := 71) (by decide +kernel) (by decide)
theorem pr_2621 : Pr1 2621 := small_pr (k := 50) (by decide +kernel) (by decide)
theorem pr_24809 : Pr1 24809 := small_pr (k := 156) (by decide +kernel) (by decide)
theorem pr_13331831 : Pr1 13331831 := small_pr (k := 3650) (by decide +kernel) (by decide)
theorem lu_173378833005251801 : lucB 173378833005251801 6 [2, 2, 2, 5, 5, 2621, 24809, 13331831] = true := by decide +kernel
theorem all_173378833005251801 : ∀ q ∈ [2, 2, 2, 5, 5, 2621, 24809, 13331831], Pr1 q := all_cons pr_2 (all_cons pr_2 (all_cons pr_2 (all_cons pr_5 (all_cons pr_5 (all_cons pr_2621 (all_cons pr_24809 (all_cons pr_13331831 (fun _ h => (List.not_mem_nil h).elim))))))))
theorem pr_173378833005251801 : Pr1 173378833005251801 := (lucas_of lu_173378833005251801 all_173378833005251801).1
theorem lu_22149492674086928081353 : lucB 22149492674086928081353 5 [2, 2, 2, 3, 5323, 173378833005251801] = true := by decide +kernel
theorem all_22149492674086928081353 : ∀ q ∈ [2, 2, 2, 3, 5323, 173378833005251801], Pr1 q := all_cons pr_2 (all_cons pr_2 (all_cons pr_2 (all_cons pr_3 (all_cons pr_5323 (all_cons pr_173378833005251801 (fun _ h => (List.not_mem_nil h).elim))))))
theorem pr_22149492674086928081353 : Pr1 22149492674086928081353 := (lucas_of lu_22149492674086928081353 all_22149492674086928081353).1
theorem lu_132896956044521568488119 : lucB 132896956044521568488119 6 [2, 3, 22149492674086928081353] = true := by decide +kernel
theorem all_132896956044521568488119 : ∀ q ∈ [2, 3, 22149492674086928081353], Pr1 q := all_cons pr_2 (all_cons pr_3 (all_cons pr_22149492674086928081353 (fun _ h => (List.not_mem_nil h).elim)))
theorem pr_132896956044521568488119 : Pr1 132896956044521568488119 := (lucas_of lu_132896956044521568488119 all_132896956044521568488119).1
theorem pr_11 : Pr1 11 := small_pr (k := 2) (by decide +kernel) (by decide)
theorem pr_1627 : Pr1 1627 := small_pr (k := 39) (by decide +kernel) (by decide)
theorem pr_2657 : Pr1 2657 := small_pr (k := 50) (by decide +kernel) (by decide)
theorem pr_4423 : Pr1 4423 := small_pr (k := 65) (by decide +kernel) (by decide)
theorem pr_41201 : Pr1 41201 := small_pr (k := 201) (by decide +kernel) (by decide)
theorem pr_96557 : Pr1 96557 := small_pr (k := 309) (by decide +kernel) (by decide)
theorem pr_7240687 : Pr1 7240687 := small_pr (k := 2689) (by decide +kernel) (by decide)
theorem pr_53 : Pr1 53 := small_pr (k := 6) (by decide +kernel) (by decide)
theorem lu_107590001 : lucB 107590001 3 [2, 2, 2, 2, 5, 5, 5, 5, 7, 29, 53] = true := by decide +kernel
theorem all_107590001 : ∀ q ∈ [2, 2, 2, 2, 5, 5, 5, 5, 7, 29, 53], Pr1 q := all_cons pr_2 (all_cons pr_2 (all_cons pr_2 (all_cons pr_2 (all_cons pr_5 (all_cons pr_5 (all_cons pr_5 (all_cons pr_5 (all_cons pr_7 (all_cons pr_29 (all_cons pr_53 (fun _ h => (List.not_mem_nil h).elim)))))))))))
theorem pr_107590001 : Pr1 107590001 := (lucas_of lu_107590001 all_107590001).1
theorem lu_255515944373312847190720520512484175977 : lucB 255515944373312847190720520512484175977 3 [2, 2, 2, 7, 7, 11, 1627, 2657, 4423, 41201, 96557, 7240687, 107590001] = true := by decide +kernel
theorem all_255515944373312847190720520512484175977 : ∀ q ∈ [2, 2, 2, 7, 7, 11, 1627, 2657, 4423, 41201, 96557, 7240687, 107590001], Pr1 q := all_cons pr_2 (all_cons pr_2 (all_cons pr_2 (all_cons pr_7 (all_cons pr_7 (all_cons pr_11 (all_cons pr_1627 (all_cons pr_2657 (all_cons pr_4423 (all_cons pr_41201 (all_cons pr_96557 (all_cons pr_7240687 (all_cons pr_107590001 (fun _ h => (List.not_mem_nil h).elim)))))))))))))
theorem pr_255515944373312847190720520512484175977 : Pr1 255515944373312847190720520512484175977 := (lucas_of lu_255515944373312847190720520512484175977 all_255515944373312847190720520512484175977).1
theorem lu_205115282021455665897114700593932402728804164701536103180137503955397371 : lucB 205115282021455665897114700593932402728804164701536103180137503955397371 10 [2, 3, 5, 29, 29, 31, 7723, 132896956044521568488119, 255515944373312847190720520512484175977] = true := by decide +kernel
theorem all_205115282021455665897114700593932402728804164701536103180137503955397371 : ∀ q ∈ [2, 3, 5, 29, 29, 31, 7723, 132896956044521568488119, 255515944373312847190720520512484175977], Pr1 q := all_cons pr_2 (all_cons pr_3 (all_cons pr_5 (all_cons pr_29 (all_cons pr_29 (all_cons pr_31 (all_cons pr_7723 (all_cons pr_132896956044521568488119 (all_cons pr_255515944373312847190720520512484175977 (fun _ h => (List.not_mem_nil h).elim)))))))))
theorem pr_205115282021455665897114700593932402728804164701536103180137503955397371 : Pr1 205115282021455665897114700593932402728804164701536103180137503955397371 := (lucas_of lu_205115282021455665897114700593932402728804164701536103180137503955397371 all_205115282021455665897114700593932402728804164701536103180137503955397371).1
theorem lu_115792089237316195423570985008687907853269984665640564039457584007908834671663 : lucB 115792089237316195423570985008687907853269984665640564039457584007908834671663 3 [2, 3, 7, 13441, 205115282021455665897114700593932402728804164701536103180137503955397371] = true := by decide +kernel
theorem all_115792089237316195423570985008687907853269984665640564039457584007908834671663 : ∀ q ∈ [2, 3, 7, 13441, 205115282021455665897114700593932402728804164701536103180137503955397371], Pr1 q := all_cons pr_2 (all_cons pr_3 (all_cons pr_7 (all_cons pr_13441 (all_cons pr_205115282021455665897114700593932402728804164701536103180137503955397371 (fun _ h => (List.not_mem_nil h).elim)))))
theorem pr_115792089237316195423570985008687907853269984665640564039457584007908834671663 : Pr1 115792089237316195423570985008687907853269984665640564039457584007908834671663 := (lucas_of lu_115792089237316195423570985008687907853269984665640564039457584007908834671663 all_115792089237316195423570985008687907853269984665640564039457584007908834671663).1
theorem pr_149 : Pr1 149 := small_pr (k := 11) (by decide +kernel) (by decide)
theorem pr_631 : Pr1 631 := small_pr (k := 24) (by decide +kernel) (by decide)
theorem pr_16699 : Pr1 16699 := small_pr (k := 128) (by decide +kernel) (by decide)
theorem pr_85831 : Pr1 85831 := small_pr (k := 291) (by decide +kernel) (by decide)
theorem pr_4681609 : Pr1 4681609 := small_pr (k := 2162) (by decide +kernel) (by decide)
theorem lu_107361793816595537 : lucB 107361793816595537 3 [2, 2, 2, 2, 16699, 85831, 4681609] = true := by decide +kernel
theorem all_107361793816595537 : ∀ q ∈ [2, 2, 2, 2, 16699, 85831, 4681609], Pr1 q := all_cons pr_2 (all_cons pr_2 (all_cons pr_2 (all_cons pr_2 (all_cons pr_16699 (all_cons pr_85831 (all_cons pr_4681609 (fun _ h => (List.not_mem_nil h).elim)))))))
theorem pr_107361793816595537 : Pr1 107361793816595537 := (lucas_of lu_107361793816595537 all_107361793816595537).1
theorem pr_17 : Pr1 17 := small_pr (k := 3) (by decide +kernel) (by decide)
theorem pr_59 : Pr1 59 := small_pr (k := 6) (by decide +kernel) (by decide)
theorem pr_4051 : Pr1 4051 := small_pr (k := 62) (by decide +kernel) (by decide)
theorem pr_120233 : Pr1 120233 := small_pr (k := 345) (by decide +kernel) (by decide)
theorem pr_797 : Pr1 797 := small_pr (k := 27) (by decide +kernel) (by decide)
theorem pr_9349 : Pr1 9349 := small_pr (k := 95) (by decide +kernel) (by decide)
theorem lu_44706919 : lucB 44706919 6 [2, 3, 797, 9349] = true := by decide +kernel
theorem all_44706919 : ∀ q ∈ [2, 3, 797, 9349], Pr1 q := all_cons pr_2 (all_cons pr_3 (all_cons pr_797 (all_cons pr_9349 (fun _ h => (List.not_mem_nil h).elim))))
theorem pr_44706919 : Pr1 44706919 := (lucas_of lu_44706919 all_44706919).1
theorem lu_174723607534414371449 : lucB 174723607534414371449 3 [2, 2, 2, 17, 59, 4051, 120233, 44706919] = true := by decide +kernel
theorem all_174723607534414371449 : ∀ q ∈ [2, 2, 2, 17, 59, 4051, 120233, 44706919], Pr1 q := all_cons pr_2 (all_cons pr_2 (all_cons pr_2 (all_cons pr_17 (all_cons pr_59 (all_cons pr_4051 (all_cons pr_120233 (all_cons pr_44706919 (fun _ h => (List.not_mem_nil h).elim))))))))
theorem pr_174723607534414371449 : Pr1 174723607534414371449 := (lucas_of lu_174723607534414371449 all_174723607534414371449).1
theorem pr_109 : Pr1 109 := small_pr (k := 9) (by decide +kernel) (by decide)
theorem pr_293 : Pr1 293 := small_pr (k := 16) (by decide +kernel) (by decide)
theorem pr_305873 : Pr1 305873 := small_pr (k := 552) (by decide +kernel) (by decide)
theorem pr_41 : Pr1 41 := small_pr (k := 5) (by decide +kernel) (by decide)
theorem pr_28181 : Pr1 28181 := small_pr (k := 166) (by decide +kernel) (by decide)
theorem lu_545358713 : lucB 545358713 5 [2, 2, 2, 41, 59, 28181] = true := by decide +kernel
theorem all_545358713 : ∀ q ∈ [2, 2, 2, 41, 59, 28181], Pr1 q := all_cons pr_2 (all_cons pr_2 (all_cons pr_2 (all_cons pr_41 (all_cons pr_59 (all_cons pr_28181 (fun _ h => (List.not_mem_nil h).elim))))))
theorem pr_545358713 : Pr1 545358713 := (lucas_of lu_545358713 all_545358713).1
theorem pr_461 : Pr1 461 := small_pr (k := 20) (by decide +kernel) (by decide)
theorem pr_1627771 : Pr1 1627771 := small_pr (k := 1274) (by decide +kernel) (by decide)
theorem lu_297159362677 : lucB 297159362677 2 [2, 2, 3, 3, 11, 461, 1627771] = true := by decide +kernel
theorem all_297159362677 : ∀ q ∈ [2, 2, 3, 3, 11, 461, 1627771], Pr1 q := all_cons pr_2 (all_cons pr_2 (all_cons pr_3 (all_cons pr_3 (all_cons pr_11 (all_cons pr_461 (all_cons pr_1627771 (fun _ h => (List.not_mem_nil h).elim)))))))
theorem pr_297159362677 : Pr1 297159362677 := (lucas_of lu_297159362677 all_297159362677).1
theorem lu_29047611873442575647497758179 : lucB 29047611873442575647497758179 2 [2, 293, 305873, 545358713, 297159362677] = true := by decide +kernel
theorem all_29047611873442575647497758179 : ∀ q ∈ [2, 293, 305873, 545358713, 297159362677], Pr1 q := all_cons pr_2 (all_cons pr_293 (all_cons pr_305873 (all_cons pr_545358713 (all_cons pr_297159362677 (fun _ h => (List.not_mem_nil h).elim)))))
theorem pr_29047611873442575647497758179 : Pr1 29047611873442575647497758179 := (lucas_of lu_29047611873442575647497758179 all_29047611873442575647497758179).1
theorem lu_341948486974166000522343609283189 : lucB 341948486974166000522343609283189 2 [2, 2, 3, 3, 3, 109, 29047611873442575647497758179] = true := by decide +kernel
theorem all_341948486974166000522343609283189 : ∀ q ∈ [2, 2, 3, 3, 3, 109, 29047611873442575647497758179], Pr1 q := all_cons pr_2 (all_cons pr_2 (all_cons pr_3 (all_cons pr_3 (all_cons pr_3 (all_cons pr_109 (all_cons pr_29047611873442575647497758179 (fun _ h => (List.not_mem_nil h).elim)))))))
theorem pr_341948486974166000522343609283189 : Pr1 341948486974166000522343609283189 := (lucas_of lu_341948486974166000522343609283189 all_341948486974166000522343609283189).1
theorem lu_115792089237316195423570985008687907852837564279074904382605163141518161494337 : lucB 115792089237316195423570985008687907852837564279074904382605163141518161494337 7 [2, 2, 2, 2, 2, 2, 3, 149, 631, 107361793816595537, 174723607534414371449, 341948486974166000522343609283189] = true := by decide +kernel
theorem all_115792089237316195423570985008687907852837564279074904382605163141518161494337 : ∀ q ∈ [2, 2, 2, 2, 2, 2, 3, 149, 631, 107361793816595537, 174723607534414371449, 341948486974166000522343609283189], Pr1 q := all_cons pr_2 (all_cons pr_2 (all_cons pr_2 (all_cons pr_2 (all_cons pr_2 (all_cons pr_2 (all_cons pr_3 (all_cons pr_149 (all_cons pr_631 (all_cons pr_107361793816595537 (all_cons pr_174723607534414371449 (all_cons pr_341948486974166000522343609283189 (fun _ h => (List.not_mem_nil h).elim))))))))))))
theorem pr_115792089237316195423570985008687907852837564279074904382605163141518161494337 : Pr1 115792089237316195423570985008687907852837564279074904382605163141518161494337 := (lucas_of lu_115792089237316195423570985008687907852837564279074904382605163141518161494337 all_115792089237316195423570985008687907852837564279074904382605163141518161494337).1
theorem pr_P : Pr1 Pp := pr_115792089237316195423570985008687907853269984665640564039457584007908834671663
theorem fermat_P : ∀ z, z % Pp ≠ 0 → z ^ (Pp - 1) % Pp = 1 := by
  have h := (lucas_of lu_115792089237316195423570985008687907853269984665640564039457584007908834671663 all_115792089237316195423570985008687907853269984665640564039457584007908834671663).2
  unfold Pp
  exact h
theorem pr_N : Pr1 Nn := pr_115792089237316195423570985008687907852837564279074904382605163141518161494337
theorem fermat_N : ∀ z, z % Nn ≠ 0 → z ^ (Nn - 1) % Nn = 1 := by
  have h := (lucas_of lu_115792089237316195423570985008687907852837564279074904382605163141518161494337 all_115792089237316195423570985008687907852837564279074904382605163141518161494337).2
  unfold Nn
  exact h
end Cv

/- The curve over the field of p elements: points, their sums; the program's and the reference's points stand for them. Plain. -/
namespace Cv
open Go Go.SX
set_option maxRecDepth 10000
instance : NeZero Pp := ⟨by decide⟩
abbrev F := Fin Pp
def cF (x : Nat) : F := Fin.ofNat Pp x
theorem Pp_pos : 0 < Pp := by decide
theorem cF_val (x : Nat) : (cF x).val = x % Pp := rfl
theorem cF_of {a : F} : cF a.val = a := Fin.ext (Nat.mod_eq_of_lt a.isLt)
theorem cF_fm (x y : Nat) : cF (fm x y) = cF x * cF y := Fin.ext (by
  rw [Fin.val_mul, cF_val, cF_val, cF_val, fm, Nat.mod_mod, ← Nat.mul_mod])
theorem cF_fa (x y : Nat) : cF (fa x y) = cF x + cF y := Fin.ext (by
  rw [Fin.val_add, cF_val, cF_val, cF_val, fa, Nat.mod_mod, ← Nat.add_mod])
theorem fs_fa {x y : Nat} (hy : y < Pp) : fa (fs x y) y = x % Pp := by
  unfold fa fs
  rw [Nat.add_comm, Nat.add_mod_mod, show y + (x + Pp - y) = x + Pp from by omega, Nat.add_mod_right]
theorem cF_mod (x : Nat) : cF (x % Pp) = cF x := Fin.ext (by rw [cF_val, cF_val, Nat.mod_mod])
theorem cF_fs {x y : Nat} (hy : y < Pp) : cF (fs x y) = cF x - cF y := by
  have h := congrArg cF (fs_fa (x := x) hy)
  rw [cF_fa, cF_mod] at h
  rw [← h]; grind
theorem cF_inj {x y : Nat} (hx : x < Pp) (hy : y < Pp) (h : cF x = cF y) : x = y := by
  have := congrArg Fin.val h
  rw [cF_val, cF_val, Nat.mod_eq_of_lt hx, Nat.mod_eq_of_lt hy] at this; exact this
theorem cF_zero : cF 0 = 0 := rfl
theorem cF_one : cF 1 = 1 := rfl
theorem cF_ne {x : Nat} (hx : x < Pp) (h : x ≠ 0) : cF x ≠ 0 := fun e => h (cF_inj hx Pp_pos e)
theorem cF_eq0 {x : Nat} (hx : x < Pp) (h : cF x = 0) : x = 0 := cF_inj hx Pp_pos h
/-! inverses -/
def inv (a : F) : F := cF (pw Pp a.val (Pp - 2))
theorem inv_mul {a : F} (h : a ≠ 0) : inv a * a = 1 := by
  have hv : a.val % Pp ≠ 0 := by
    rw [Nat.mod_eq_of_lt a.isLt]
    intro h0; exact h (Fin.ext h0)
  refine Fin.ext ?_
  rw [Fin.val_mul, inv, cF_val, pw_eq mo_P (by decide), Nat.mod_mod, Nat.mod_mul_mod, ← Nat.pow_succ]
  rw [show (Pp - 2).succ = Pp - 1 from by decide, fermat_P _ hv]; rfl
theorem mul_0 {a b : F} (h : a * b = 0) : a = 0 ∨ b = 0 := by
  by_cases ha : a = 0
  · exact .inl ha
  · right
    have := inv_mul ha
    grind
theorem mul_ne {a b : F} (ha : a ≠ 0) (hb : b ≠ 0) : a * b ≠ 0 := fun h => (mul_0 h).elim ha hb
theorem cancel {a b c : F} (hc : c ≠ 0) (h : a * c = b * c) : a = b := by
  have := inv_mul hc
  grind
/-- no x with a y that is 0 -/
theorem no_root (x : F) : x * x * x + 7 ≠ 0 := by
  intro h
  have hx : x ≠ 0 := by rintro rfl; revert h; decide
  have hv : x.val % Pp ≠ 0 := by
    rw [Nat.mod_eq_of_lt x.isLt]
    intro h0; exact hx (Fin.ext h0)
  have h3 : x * x * x = cF (Pp - 7) := by
    have : cF (Pp - 7) + 7 = 0 := by decide
    grind
  have h4 := congrArg Fin.val h3
  rw [Fin.val_mul, Fin.val_mul, Nat.mod_mul_mod, cF_val, show (Pp - 7) % Pp = Pp - 7 from by decide] at h4
  have h5 := fermat_P _ hv
  have h6 : (Pp - 7) ^ ((Pp - 1) / 3) % Pp = 1 := by
    rw [← h4, ← Nat.pow_mod, show x.val * x.val * x.val = x.val ^ 3 from by rw [Nat.pow_succ, Nat.pow_succ, Nat.pow_succ, Nat.pow_zero, Nat.one_mul], ← Nat.pow_mul, show 3 * ((Pp - 1) / 3) = Pp - 1 from by decide]
    exact h5
  rw [← pw_eq mo_P (by decide)] at h6
  exact absurd h6 (by decide +kernel)
/-! points -/
inductive Aff where
  | inf
  | pt (x y : F)
def On : Aff → Prop
  | .inf => True
  | .pt x y => y * y = x * x * x + 7
theorem on_y {x y : F} (h : On (.pt x y)) : y ≠ 0 := by
  rintro rfl
  exact no_root x (by simp only [On] at h; grind)
def slope (x1 y1 x2 y2 : F) : F := if x1 = x2 then 3 * x1 * x1 * inv (2 * y1) else (y2 - y1) * inv (x2 - x1)
def chord (l x1 y1 x2 : F) : Aff := .pt (l * l - x1 - x2) (l * (x1 - (l * l - x1 - x2)) - y1)
def aadd : Aff → Aff → Aff
  | .inf, Q => Q
  | P, .inf => P
  | .pt x1 y1, .pt x2 y2 => if x1 = x2 ∧ (y1 ≠ y2 ∨ y1 = 0) then .inf else chord (slope x1 y1 x2 y2) x1 y1 x2
theorem two_ne : (2 : F) ≠ 0 := by decide
theorem slope_dbl {x y : F} (hy : y ≠ 0) : slope x y x y * (2 * y) = 3 * x * x := by
  have := inv_mul (mul_ne two_ne hy)
  unfold slope; rw [if_pos rfl]; grind
theorem slope_ne {x1 y1 x2 y2 : F} (h : x1 ≠ x2) : slope x1 y1 x2 y2 * (x2 - x1) = y2 - y1 := by
  have hd : x2 - x1 ≠ 0 := fun e => h (by grind)
  have := inv_mul hd
  unfold slope; rw [if_neg h]; grind
theorem chord_on {l x1 y1 x2 y2 : F} (h1 : y1 * y1 = x1 * x1 * x1 + 7) (h2 : y2 * y2 = x2 * x2 * x2 + 7) (h : x1 ≠ x2) (hl : l * (x2 - x1) = y2 - y1) : On (chord l x1 y1 x2) := by
  have hd : x2 - x1 ≠ 0 := fun e => h (by grind)
  simp only [On, chord]
  refine cancel hd ?_
  grind
theorem dbl_on {l x y : F} (h1 : y * y = x * x * x + 7) (hy : y ≠ 0) (hl : l * (2 * y) = 3 * x * x) : On (chord l x y x) := by
  simp only [On, chord]
  refine cancel (mul_ne two_ne hy) ?_
  grind
theorem aadd_on {P Q : Aff} (hP : On P) (hQ : On Q) : On (aadd P Q) := by
  cases P with
  | inf => exact hQ
  | pt x1 y1 =>
    cases Q with
    | inf => exact hP
    | pt x2 y2 =>
      simp only [aadd]
      split
      · trivial
      · rename_i h
        by_cases hx : x1 = x2
        · subst hx
          have hy : y1 = y2 := Classical.byContradiction fun hh => h ⟨rfl, .inl hh⟩
          subst hy
          exact dbl_on hP (on_y hP) (slope_dbl (on_y hP))
        · exact chord_on hP hQ hx (slope_ne hx)
end Cv

/- The program's points and the reference's stand for points of the curve. Plain. -/
namespace Cv
open Go Go.SX
set_option maxRecDepth 10000
/-- the program's: x/z^2, y/z^3 -/
def JR (a : J) : Aff → Prop
  | .inf => a.2.2 = 0
  | .pt x y => a.2.2 ≠ 0 ∧ cF a.1 = cF a.2.2 * cF a.2.2 * x ∧ cF a.2.1 = cF a.2.2 * cF a.2.2 * cF a.2.2 * y
/-- the reference's: x/z, y/z -/
def PR (a : J) : Aff → Prop
  | .inf => cF a.1 = 0 ∧ cF a.2.1 ≠ 0 ∧ a.2.2 = 0
  | .pt x y => a.2.2 ≠ 0 ∧ cF a.1 = cF a.2.2 * x ∧ cF a.2.1 = cF a.2.2 * y
theorem jr_dbl {a : J} {P : Aff} (ha : OkJ a) (hP : On P) (h : JR a P) : JR (jdbl a) (aadd P P) := by
  obtain ⟨X, Y, Z⟩ := a
  obtain ⟨hX, hY, hZ⟩ := ha
  simp only at hX hY hZ
  cases P with
  | inf =>
    simp only [JR] at h
    rw [jdbl, if_pos h]; exact h
  | pt x y =>
    obtain ⟨h0, h1, h2⟩ := h
    simp only at h0 h1 h2
    have hy := on_y hP
    have hz := cF_ne hZ h0
    have hl := slope_dbl (x := x) hy
    rw [jdbl, if_neg h0, aadd, if_neg (by rintro ⟨_, h | h⟩; exact h rfl; exact hy h)]
    simp only [JR, chord]
    generalize slope x y x y = l at *
    have ez : cF (fa (fm Y Z) (fm Y Z)) = cF Z * cF Z * cF Z * cF Z * (2 * y) := by
      rw [cF_fa, cF_fm, h2]; grind
    have ne : fa (fm Y Z) (fm Y Z) ≠ 0 := by
      intro e
      have : cF (fa (fm Y Z) (fm Y Z)) = 0 := by rw [e]; rfl
      rw [ez] at this
      exact mul_ne (mul_ne (mul_ne (mul_ne hz hz) hz) hz) (mul_ne two_ne hy) this
    refine ⟨ne, ?_, ?_⟩
    · rw [ez]
      simp only [cF_fs (fa_lt _ _), cF_fm, cF_fa, h1, h2]
      generalize cF Z = z at *
      grind
    · rw [ez]
      simp only [cF_fs (fa_lt _ _), cF_fs (fs_lt _ _), cF_fm, cF_fa, h1, h2]
      generalize cF Z = z at *
      grind
theorem jr_add {a b : J} {P Q : Aff} (ha : OkJ a) (hb : OkJ b) (hP : On P) (hQ : On Q) (h : JR a P) (k : JR b Q) : JR (jadd a b) (aadd P Q) := by
  cases P with
  | inf =>
    simp only [JR] at h
    rw [jadd, if_pos h, aadd]; exact k
  | pt x1 y1 =>
    cases Q with
    | inf =>
      have h0 := h.1
      simp only [JR] at k
      rw [jadd, if_neg h0, if_pos k]; exact h
    | pt x2 y2 =>
      have hd := jr_dbl ha hP h
      obtain ⟨X, Y, Z⟩ := a
      obtain ⟨X', Y', Z'⟩ := b
      obtain ⟨hX, hY, hZ⟩ := ha
      obtain ⟨hX', hY', hZ'⟩ := hb
      obtain ⟨h0, h1, h2⟩ := h
      obtain ⟨k0, k1, k2⟩ := k
      simp only at hX hY hZ hX' hY' hZ' h0 h1 h2 k0 k1 k2
      have hz := cF_ne hZ h0
      have kz := cF_ne hZ' k0
      have eh : cF (fs (fm X' (fm Z Z)) (fm X (fm Z' Z'))) = cF Z * cF Z * (cF Z' * cF Z') * (x2 - x1) := by
        rw [cF_fs (fm_lt _ _)]; simp only [cF_fm, h1, k1]; grind
      have er : cF (fs (fm Y' (fm Z (fm Z Z))) (fm Y (fm Z' (fm Z' Z')))) = cF Z * cF Z * cF Z * (cF Z' * cF Z' * cF Z') * (y2 - y1) := by
        rw [cF_fs (fm_lt _ _)]; simp only [cF_fm, h2, k2]; grind
      have zz := mul_ne (mul_ne hz hz) (mul_ne kz kz)
      have zzz := mul_ne (mul_ne (mul_ne hz hz) hz) (mul_ne (mul_ne kz kz) kz)
      have ih : fs (fm X' (fm Z Z)) (fm X (fm Z' Z')) = 0 ↔ x1 = x2 := by
        constructor
        · intro e
          have : cF (fs (fm X' (fm Z Z)) (fm X (fm Z' Z'))) = 0 := by rw [e]; rfl
          rw [eh] at this
          have := (mul_0 this).resolve_left zz
          grind
        · rintro rfl
          refine cF_eq0 (fs_lt _ _) ?_
          rw [eh]; grind
      have ir : fs (fm Y' (fm Z (fm Z Z))) (fm Y (fm Z' (fm Z' Z'))) = 0 ↔ y1 = y2 := by
        constructor
        · intro e
          have : cF (fs (fm Y' (fm Z (fm Z Z))) (fm Y (fm Z' (fm Z' Z')))) = 0 := by rw [e]; rfl
          rw [er] at this
          have := (mul_0 this).resolve_left zzz
          grind
        · rintro rfl
          refine cF_eq0 (fs_lt _ _) ?_
          rw [er]; grind
      by_cases hx : x1 = x2
      · by_cases hy : y1 = y2
        · subst hx; subst hy
          rw [show jadd (X, Y, Z) (X', Y', Z') = jdbl (X, Y, Z) from (if_neg h0).trans ((if_neg k0).trans ((if_pos (ih.2 rfl)).trans (if_pos (ir.2 rfl))))]
          exact hd
        · rw [show jadd (X, Y, Z) (X', Y', Z') = (0, 0, 0) from (if_neg h0).trans ((if_neg k0).trans ((if_pos (ih.2 hx)).trans (if_neg (fun e => hy (ir.1 e)))))]
          rw [aadd, if_pos ⟨hx, .inl hy⟩]; rfl
      · have hl := slope_ne (y1 := y1) (y2 := y2) hx
        rw [show jadd (X, Y, Z) (X', Y', Z') = _ from (if_neg h0).trans ((if_neg k0).trans (if_neg (fun e => hx (ih.1 e))))]
        rw [aadd, if_neg (fun hh => hx hh.1)]
        simp only [JR, chord]
        generalize slope x1 y1 x2 y2 = l at *
        have hd : x2 - x1 ≠ 0 := fun e => hx (by grind)
        have ez : cF (fm (fs (fm X' (fm Z Z)) (fm X (fm Z' Z'))) (fm Z Z')) = cF Z * cF Z * cF Z * (cF Z' * cF Z' * cF Z') * (x2 - x1) := by
          rw [cF_fm, cF_fm, eh]; grind
        refine ⟨?_, ?_, ?_⟩
        · intro e
          have : cF (fm (fs (fm X' (fm Z Z)) (fm X (fm Z' Z'))) (fm Z Z')) = 0 := by rw [e]; rfl
          rw [ez] at this
          exact mul_ne zzz hd this
        · rw [ez]
          simp only [cF_fs (fa_lt _ _), cF_fs (fm_lt _ _), cF_fm, cF_fa, h1, k1, h2, k2]
          generalize cF Z = z at *
          generalize cF Z' = z' at *
          grind
        · rw [ez]
          simp only [cF_fs (fa_lt _ _), cF_fs (fm_lt _ _), cF_fs (fs_lt _ _), cF_fm, cF_fa, h1, k1, h2, k2]
          generalize cF Z = z at *
          generalize cF Z' = z' at *
          grind
end Cv

/- The reference's points stand for points of the curve. Plain. -/
namespace Cv
open Go Go.SX
set_option maxRecDepth 10000
structure RPl (a b : J) (X Y Z : F) : Prop where
  x : cF (rplus a b).1 = X
  y : cF (rplus a b).2.1 = Y
  z : cF (rplus a b).2.2 = Z
theorem neg_sq (y : F) : -y * -y = y * y := by grind
theorem cF_21 : cF 21 = 21 := rfl
/-- the formula, over the field -/
theorem rplus_F {a b : J} : RPl a b
    ((cF a.1 * cF b.2.1 + cF b.1 * cF a.2.1) * (cF a.2.1 * cF b.2.1 - 21 * (cF a.2.2 * cF b.2.2)) - (cF a.2.1 * cF b.2.2 + cF b.2.1 * cF a.2.2) * (21 * (cF a.1 * cF b.2.2 + cF b.1 * cF a.2.2)))
    ((cF a.2.1 * cF b.2.1 - 21 * (cF a.2.2 * cF b.2.2)) * (cF a.2.1 * cF b.2.1 + 21 * (cF a.2.2 * cF b.2.2)) + 21 * (cF a.1 * cF b.2.2 + cF b.1 * cF a.2.2) * (3 * (cF a.1 * cF b.1)))
    ((cF a.2.1 * cF b.2.1 + 21 * (cF a.2.2 * cF b.2.2)) * (cF a.2.1 * cF b.2.2 + cF b.2.1 * cF a.2.2) + 3 * (cF a.1 * cF b.1) * (cF a.1 * cF b.2.1 + cF b.1 * cF a.2.1)) := by
  refine ⟨?_, ?_, ?_⟩ <;> simp only [rplus, cF_fs (fa_lt _ _), cF_fs (fm_lt _ _), cF_fm, cF_fa, cF_21] <;> grind
theorem key_z {x1 y1 x2 y2 m : F} (h1 : y1 * y1 = x1 * x1 * x1 + 7) (h2 : y2 * y2 = x2 * x2 * x2 + 7) (hm : m * (x2 - x1) = -y2 - y1) :
    (y1 * y2 + 21) * (y1 + y2) + 3 * x1 * x2 * (x1 * y2 + x2 * y1) = (m * (x1 - (m * m - x1 - x2)) - y1) * ((x2 - x1) * (x2 - x1) * (x2 - x1)) := by
  have e : (m * (x1 - (m * m - x1 - x2)) - y1) * ((x2 - x1) * (x2 - x1) * (x2 - x1)) = (m * (x2 - x1)) * (2 * x1 + x2) * ((x2 - x1) * (x2 - x1)) - (m * (x2 - x1)) * (m * (x2 - x1)) * (m * (x2 - x1)) - y1 * ((x2 - x1) * (x2 - x1) * (x2 - x1)) := by grind
  rw [e, hm]
  clear e hm
  grind
theorem pr_add {a b : J} {P Q : Aff} (ha : OkJ a) (hb : OkJ b) (hP : On P) (hQ : On Q) (h : PR a P) (k : PR b Q) : PR (rplus a b) (aadd P Q) := by
  obtain ⟨ex, ey, ez⟩ := @rplus_F a b
  have hok := rplus_ok a b
  generalize rplus a b = c at *
  obtain ⟨X, Y, Z⟩ := a
  obtain ⟨X', Y', Z'⟩ := b
  obtain ⟨hX, hY, hZ⟩ := ha
  obtain ⟨hX', hY', hZ'⟩ := hb
  simp only at hX hY hZ hX' hY' hZ' ex ey ez
  cases P with
  | inf =>
    obtain ⟨h1, h2, h3⟩ := h
    simp only at h1 h2 h3
    subst h3
    rw [h1, cF_zero] at ex ey ez
    cases Q with
    | inf =>
      obtain ⟨k1, k2, k3⟩ := k
      simp only at k1 k2 k3
      subst k3
      rw [k1, cF_zero] at ex ey ez
      refine ⟨?_, ?_, cF_eq0 hok.z ?_⟩
      · rw [ex]; grind
      · rw [ey]
        have := mul_ne (mul_ne h2 k2) (mul_ne h2 k2)
        grind
      · rw [ez]; grind
    | pt x y =>
      obtain ⟨k1, k2, k3⟩ := k
      simp only at k1 k2 k3
      have kz := cF_ne hZ' k1
      have hy := on_y hQ
      have e : cF c.2.2 = cF Y * cF Y * (cF Z' * y) * cF Z' := by rw [ez, k2, k3]; grind
      refine ⟨?_, ?_, ?_⟩
      · intro e0
        have : cF c.2.2 = 0 := by rw [e0]; rfl
        rw [e] at this
        exact mul_ne (mul_ne (mul_ne h2 h2) (mul_ne kz hy)) kz this
      · rw [e, ex, k2, k3]; grind
      · rw [e, ey, k2, k3]; grind
  | pt x1 y1 =>
    obtain ⟨h1, h2, h3⟩ := h
    simp only at h1 h2 h3
    have hz := cF_ne hZ h1
    have hy1 := on_y hP
    cases Q with
    | inf =>
      obtain ⟨k1, k2, k3⟩ := k
      simp only at k1 k2 k3
      subst k3
      rw [k1, cF_zero] at ex ey ez
      have e : cF c.2.2 = cF Y' * cF Y' * (cF Z * y1) * cF Z := by rw [ez, h2, h3]; grind
      refine ⟨?_, ?_, ?_⟩
      · intro e0
        have : cF c.2.2 = 0 := by rw [e0]; rfl
        rw [e] at this
        exact mul_ne (mul_ne (mul_ne k2 k2) (mul_ne hz hy1)) hz this
      · rw [e, ex, h2, h3]; grind
      · rw [e, ey, h2, h3]; grind
    | pt x2 y2 =>
      obtain ⟨k1, k2, k3⟩ := k
      simp only at k1 k2 k3
      have kz := cF_ne hZ' k1
      have hy2 := on_y hQ
      rw [h2, h3, k2, k3] at ex ey ez
      generalize cF Z = z at *
      generalize cF Z' = z' at *
      have zz := mul_ne hz kz
      simp only [On] at hP hQ
      by_cases hx : x1 = x2
      · subst hx
        by_cases hy : y1 = y2
        · subst hy
          have hl := slope_dbl (x := x1) hy1
          rw [aadd, if_neg (by rintro ⟨_, h | h⟩; exact h rfl; exact hy1 h)]
          simp only [PR, chord]
          generalize slope x1 y1 x1 y1 = l at *
          have e : cF c.2.2 = z * z' * (z * z') * (2 * y1 * (2 * y1) * (2 * y1)) := by rw [ez]; grind
          refine ⟨?_, ?_, ?_⟩
          · intro e0
            have : cF c.2.2 = 0 := by rw [e0]; rfl
            rw [e] at this
            exact mul_ne (mul_ne zz zz) (mul_ne (mul_ne (mul_ne two_ne hy1) (mul_ne two_ne hy1)) (mul_ne two_ne hy1)) this
          · rw [e, ex]; grind
          · rw [e, ey]; grind
        · have hneg : y2 = -y1 := by
            have : (y1 - y2) * (y1 + y2) = 0 := by grind
            rcases mul_0 this with h | h
            · exact absurd (by grind) hy
            · grind
          subst hneg
          rw [aadd, if_pos ⟨rfl, .inl hy⟩]
          refine ⟨?_, ?_, cF_eq0 hok.z ?_⟩
          · rw [ex]; grind
          · rw [ey]
            intro e0
            have e1 : z * z' * (z * z') * (y1 * y1 * (y1 * y1) + 126 * (y1 * y1) - 1323) = 0 := by rw [← e0]; grind
            have e2 := (mul_0 e1).resolve_left (mul_ne zz zz)
            -- twice the point has a y of its own
            have hl := slope_dbl (x := x1) hy1
            have hon := dbl_on hP hy1 hl
            refine on_y hon ?_
            generalize slope x1 y1 x1 y1 = l at *
            refine cancel (mul_ne (mul_ne two_ne hy1) (mul_ne (mul_ne two_ne hy1) (mul_ne two_ne hy1))) ?_
            grind
          · rw [ez]; grind
      · have hl := slope_ne (y1 := y1) (y2 := y2) hx
        have hd : x2 - x1 ≠ 0 := fun e => hx (by grind)
        rw [aadd, if_neg (fun hh => hx hh.1)]
        simp only [PR, chord]
        -- the difference of the points has a y of its own
        have hm := slope_ne (y1 := y1) (y2 := -y2) hx
        have hmo := chord_on (y2 := -y2) hP ((neg_sq y2).trans hQ) hx hm
        have hmy := on_y hmo
        have e0 : cF c.2.2 = z * z' * (z * z') * ((y1 * y2 + 21) * (y1 + y2) + 3 * x1 * x2 * (x1 * y2 + x2 * y1)) := by rw [ez]; clear hm hmo hmy hl ex ey ez hP hQ; grind
        have e := e0
        rw [key_z hP hQ hm] at e
        have ne : (slope x1 y1 x2 (-y2) * (x1 - (slope x1 y1 x2 (-y2) * slope x1 y1 x2 (-y2) - x1 - x2)) - y1) * ((x2 - x1) * (x2 - x1) * (x2 - x1)) ≠ 0 := mul_ne hmy (mul_ne (mul_ne hd hd) hd)
        have e' := e0
        refine ⟨?_, ?_, ?_⟩
        · intro e0
          have : cF c.2.2 = 0 := by rw [e0]; rfl
          rw [e] at this
          exact mul_ne (mul_ne zz zz) ne this
        · rw [e', ex]
          refine cancel (mul_ne hd hd) ?_
          clear hm hmo hmy e ne e' e0 ey ez
          generalize slope x1 y1 x2 y2 = l at *
          grind
        · rw [e', ey]
          refine cancel (mul_ne (mul_ne hd hd) hd) ?_
          clear hm hmo hmy e ne e' e0 ex ez
          generalize slope x1 y1 x2 y2 = l at *
          grind
end Cv

/- The program's answers are the reference's. Plain. -/
namespace Cv
open Go Go.SX
set_option maxRecDepth 10000
def atimes (k : Nat) (P : Aff) : Nat → Aff
  | 0 => .inf
  | n + 1 => if k / 2 ^ (255 - n) % 2 = 1 then aadd (aadd (atimes k P n) (atimes k P n)) P else aadd (atimes k P n) (atimes k P n)
theorem atimes_on {k : Nat} {P : Aff} (hP : On P) : ∀ n, On (atimes k P n)
  | 0 => trivial
  | n + 1 => by
    simp only [atimes]; split
    · exact aadd_on (aadd_on (atimes_on hP n) (atimes_on hP n)) hP
    · exact aadd_on (atimes_on hP n) (atimes_on hP n)
theorem jr_times {k : Nat} {a : J} {P : Aff} (ha : OkJ a) (hP : On P) (h : JR a P) : ∀ n, JR (jtimes k a n) (atimes k P n)
  | 0 => rfl
  | n + 1 => by
    have ih := jr_times (k := k) ha hP h n
    have hon := atimes_on (k := k) hP n
    simp only [jtimes, atimes]; split
    · exact jr_add (jdbl_ok (jtimes_ok ha n)) ha (aadd_on hon hon) hP (jr_dbl (jtimes_ok ha n) hon ih) h
    · exact jr_dbl (jtimes_ok ha n) hon ih
theorem pr_times {k : Nat} {a : J} {P : Aff} (ha : OkJ a) (hP : On P) (h : PR a P) : ∀ n, PR (rtimes k a n) (atimes k P n)
  | 0 => ⟨rfl, (by show cF 1 ≠ 0; decide), rfl⟩
  | n + 1 => by
    have ih := pr_times (k := k) ha hP h n
    have hon := atimes_on (k := k) hP n
    simp only [rtimes, atimes]; split
    · exact pr_add (rplus_ok _ _) ha (aadd_on hon hon) hP (pr_add (rtimes_ok n) (rtimes_ok n) hon hon ih ih) h
    · exact pr_add (rtimes_ok n) (rtimes_ok n) hon hon ih ih
theorem cF_jw {a : J} (ha : OkJ a) : cF (jw a) = inv (cF a.2.2) := by
  unfold jw inv
  rw [cF_val, Nat.mod_eq_of_lt ha.z]
theorem jw_0 {a : J} (h : a.2.2 = 0) : jw a = 0 := by
  unfold jw; rw [h, pw_eq mo_P (by decide), Nat.zero_pow (by decide)]; rfl
theorem pair_ext {p q : Nat × Nat} (h : p.1 = q.1) (k : p.2 = q.2) : p = q := Prod.ext h k
theorem jflat_pt {a : J} {x y : F} (ha : OkJ a) (h : JR a (.pt x y)) : jflat a = (x.val, y.val) := by
  obtain ⟨h0, h1, h2⟩ := h
  have hz := inv_mul (cF_ne ha.z h0)
  have e := cF_jw ha
  refine pair_ext (cF_inj (fm_lt _ _) x.isLt ?_) (cF_inj (fm_lt _ _) y.isLt ?_)
  · rw [cF_of]; simp only [jflat, cF_fm, h1, e]
    generalize inv (cF a.2.2) = w at *
    generalize cF a.2.2 = z at *
    clear h1 h2 e
    grind
  · rw [cF_of]; simp only [jflat, cF_fm, h2, e]
    generalize inv (cF a.2.2) = w at *
    generalize cF a.2.2 = z at *
    clear h1 h2 e
    have : z * z * z * y * (w * (w * w)) = y * (w * z) * (w * z) * (w * z) := by grind
    rw [this, hz]; grind
theorem rflat_pt {a : J} {x y : F} (ha : OkJ a) (h : PR a (.pt x y)) : rflat a = (x.val, y.val) := by
  obtain ⟨h0, h1, h2⟩ := h
  have hz := inv_mul (cF_ne ha.z h0)
  have e := cF_jw ha
  refine pair_ext (cF_inj (fm_lt _ _) x.isLt ?_) (cF_inj (fm_lt _ _) y.isLt ?_)
  · rw [cF_of]; simp only [rflat, cF_fm, h1, e]
    generalize inv (cF a.2.2) = w at *
    generalize cF a.2.2 = z at *
    clear h1 h2 e
    grind
  · rw [cF_of]; simp only [rflat, cF_fm, h2, e]
    generalize inv (cF a.2.2) = w at *
    generalize cF a.2.2 = z at *
    clear h1 h2 e
    grind
theorem fm_0 (x : Nat) : fm x 0 = 0 := by unfold fm; rw [Nat.mul_zero, Nat.zero_mod]
theorem flat_eq {a b : J} {P : Aff} (ha : OkJ a) (hb : OkJ b) (h : JR a P) (k : PR b P) : jflat a = rflat b := by
  cases P with
  | inf =>
    have e1 := jw_0 (a := a) h
    have e2 := jw_0 (a := b) k.2.2
    unfold jflat rflat
    rw [e1, e2]; simp only [fm_0]
  | pt x y => rw [jflat_pt ha h, rflat_pt hb k]
theorem pack_eq {a b : J} {P : Aff} (ha : OkJ a) (hb : OkJ b) (h : JR a P) (k : PR b P) : jpack a = rpack b := by
  unfold jpack rpack; rw [flat_eq ha hb h k]
theorem z_eq {a b : J} {P : Aff} (h : JR a P) (k : PR b P) : a.2.2 = 0 ↔ b.2.2 = 0 := by
  cases P with
  | inf => exact ⟨fun _ => k.2.2, fun _ => h⟩
  | pt x y => exact ⟨fun e => absurd e h.1, fun e => absurd e k.1⟩
/-! the points that are begun with -/
def ptOf (x y : Nat) : Aff := .pt (cF x) (cF y)
theorem lift_on {x odd : Nat} (h : (jlift x odd).2 = true) : ∃ y, y < Pp ∧ (jlift x odd).1 = (x, y, 1) ∧ On (ptOf x y) := by
  unfold jlift at *
  split at h
  · rename_i hs
    have e : cF (lroot x) * cF (lroot x) = cF x * cF x * cF x + 7 := by
      have := congrArg cF hs
      rw [cF_fm, lsq, cF_fa, cF_fm, cF_fm] at this
      rw [this]; rfl
    refine ⟨if lroot x % 2 = odd then lroot x else (Pp - lroot x) % Pp, ?_, ?_, ?_⟩
    · split
      · exact pw_lt mo_P _ _
      · exact mod_lt mo_P _
    · rw [if_pos hs]
    · simp only [ptOf, On]
      split
      · exact e
      · have hl : lroot x < Pp := pw_lt mo_P _ _
        have e2 : cF ((Pp - lroot x) % Pp) = - cF (lroot x) := by
          have := cF_fs (x := 0) hl
          rw [fs, Nat.zero_add, cF_zero] at this
          rw [this]; grind
        rw [e2, neg_sq, e]
  · cases h
theorem jr_1 {x y : Nat} : JR (x, y, 1) (ptOf x y) := ⟨by show (1 : Nat) ≠ 0; decide, by simp only [cF_one]; grind, by simp only [cF_one]; grind⟩
theorem pr_1 {x y : Nat} : PR (x, y, 1) (ptOf x y) := ⟨by show (1 : Nat) ≠ 0; decide, by simp only [cF_one]; grind, by simp only [cF_one]; grind⟩
theorem unpack_on {f : Nat → Nat} {st len : Nat} (h : (junpack f st len).2 = true) : ∃ P, On P ∧ JR (junpack f st len).1 P ∧ PR (junpack f st len).1 P := by
  unfold junpack at *
  split at h
  · rename_i hc
    obtain ⟨y, _, h2, h3⟩ := lift_on h
    rw [if_pos hc, h2]
    exact ⟨_, h3, jr_1, pr_1⟩
  · cases h
def aG : Aff := ptOf Gx Gy
theorem aG_on : On aG := by
  have h : (jlift Gx 0).2 = true := by
    unfold jlift; rw [if_pos (show fm (lroot Gx) (lroot Gx) = lsq Gx by decide +kernel)]
  obtain ⟨y, _, h2, h3⟩ := lift_on h
  have h4 := jG_eq
  unfold jG at h4
  rw [h4] at h2
  have : Gy = y := congrArg (fun p => p.2.1) h2
  rw [aG, this]; exact h3
theorem jr_G : JR jG aG := by rw [jG_eq]; exact jr_1
theorem pr_G : PR jG aG := by rw [jG_eq]; exact pr_1
/-! the answers -/
theorem pub_eq (f : Nat → Nat) : rpub f = ((pubOf f).1, decide ((pubOf f).2 = 0)) := by
  by_cases h : keyOK (be f 32) = true
  · rw [rpub_yes h, pubOf_yes h]
    simp only [decide_true]
    rw [pack_eq (jtimes_ok jG_ok _) (rtimes_ok _) (jr_times jG_ok aG_on jr_G 256) (pr_times jG_ok aG_on pr_G 256)]
  · rw [rpub_no h, pubOf_no h]; rfl
theorem addPub_eq (f g : Nat → Nat) : raddPub f g = addPub f g := by
  by_cases h1 : be g 32 < Nn
  · by_cases h2 : (junpack f 0 33).2 = true
    · obtain ⟨P, hP, j1, r1⟩ := unpack_on h2
      have j2 := jr_times (k := be g 32) jG_ok aG_on jr_G 256
      have r2 := pr_times (k := be g 32) jG_ok aG_on pr_G 256
      have hon := atimes_on (k := be g 32) aG_on 256
      have js := jr_add (junpack_ok f 0 33) (jtimes_ok jG_ok 256) hP hon j1 j2
      have rs := pr_add (junpack_ok f 0 33) (rtimes_ok 256) hP hon r1 r2
      have hz := z_eq js rs
      by_cases h3 : (jadd (junpack f 0 33).1 (jtimes (be g 32) jG 256)).2.2 = 0
      · rw [addPub_0 h1 h2 h3, raddPub_0 h1 h2 (hz.1 h3)]
      · rw [addPub_yes h1 h2 h3, raddPub_yes h1 h2 (fun e => h3 (hz.2 e)), pack_eq (jadd_ok (junpack_ok f 0 33) (jtimes_ok jG_ok 256)) (rplus_ok _ _) js rs]
    · rw [addPub_form h1 h2, raddPub_form h1 h2]
  · rw [addPub_no h1, raddPub_no h1]
theorem verPt_eq {p : J} {P : Aff} (hp : OkJ p) (hP : On P) (j : JR p P) (r : PR p P) (e q s : Nat) : rverPt p e q s = verPt p e q s := by
  have js := jr_add (jtimes_ok jG_ok 256) (jtimes_ok hp 256) (atimes_on aG_on 256) (atimes_on hP 256) (jr_times (k := e % Nn * pw Nn s (Nn - 2) % Nn) jG_ok aG_on jr_G 256) (jr_times (k := q * pw Nn s (Nn - 2) % Nn) hp hP j 256)
  have rs := pr_add (rtimes_ok 256) (rtimes_ok 256) (atimes_on aG_on 256) (atimes_on hP 256) (pr_times (k := e % Nn * pw Nn s (Nn - 2) % Nn) jG_ok aG_on pr_G 256) (pr_times (k := q * pw Nn s (Nn - 2) % Nn) hp hP r 256)
  have hz : (sigPt p e q s).2.2 = 0 ↔ (rsigPt p e q s).2.2 = 0 := z_eq js rs
  by_cases h : (sigPt p e q s).2.2 = 0
  · rw [verPt_0 h, rverPt_0 (hz.1 h)]
  · rw [verPt_1 h, rverPt_1 (fun h' => h (hz.2 h'))]
    have hf : jflat (sigPt p e q s) = rflat (rsigPt p e q s) := flat_eq (sigPt_ok hp _ _ _) (rplus_ok _ _) js rs
    rw [hf]
theorem verify_eq (f : Nat → Nat) (st len : Nat) (m g : Nat → Nat) (st' len' : Nat) : rverify f st len m g st' len' = verify f st len m g st' len' := by
  unfold rverify verify
  split
  · rename_i h
    obtain ⟨P, hP, j, r⟩ := unpack_on h.2.1
    exact verPt_eq (junpack_ok _ _ _) hP j r _ _ _
  · rfl
end Cv

/- What is read of a copy is read of the bytes themselves. Plain. -/
namespace Cv
open Go Go.SX
theorem spareF_at {f : Nat → Nat} {st L i : Nat} (h : i < L) : spareF f st L i = f (st + i) := if_pos h
theorem junpack_spare (f : Nat → Nat) (st L : Nat) : junpack (spareF f st L) 0 L = junpack f st L := by
  by_cases h : L = 33
  · subst h
    unfold junpack
    have e : be (fun i => spareF f st 33 (0 + 1 + i)) 32 = be (fun i => f (st + 1 + i)) 32 := be_congr 32 fun i hi => by
      rw [spareF_at (by omega)]; congr 1; omega
    have e0 : spareF f st 33 0 = f st := spareF_at (by decide)
    rw [e, e0]
  · rw [junpack_len h, junpack_len h]
theorem verify_spare (f : Nat → Nat) (st L : Nat) (m g : Nat → Nat) (st' L' : Nat) : verify (spareF f st L) 0 L m (spareF g st' L') 0 L' = verify f st L m g st' L' := by
  by_cases h : L' = 64
  · subst h
    unfold verify
    have e1 : be (fun i => spareF g st' 64 (0 + i)) 32 = be (fun i => g (st' + i)) 32 := be_congr 32 fun i hi => by
      rw [spareF_at (by omega)]; congr 1; omega
    have e2 : be (fun i => spareF g st' 64 (0 + 32 + i)) 32 = be (fun i => g (st' + 32 + i)) 32 := be_congr 32 fun i hi => by
      rw [spareF_at (by omega)]; congr 1; omega
    rw [junpack_spare, e1, e2]
  · rw [verify_no (fun hh => h hh.1), verify_no (fun hh => h hh.1)]
end Cv
