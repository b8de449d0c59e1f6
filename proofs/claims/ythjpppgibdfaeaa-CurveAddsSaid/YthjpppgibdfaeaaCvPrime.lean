import Derived.Test.YthjpppgibdfaeaaCvMod
/- Primes by Lucas: a root whose powers are all. Plain. -/
namespace Cv
def Pr1 (n : Nat) : Prop := 1 < n ∧ ∀ d, d ∣ n → d = 1 ∨ d = n
theorem pr_dvd {r a b : Nat} (hr : Pr1 r) (h : r ∣ a * b) : r ∣ a ∨ r ∣ b := by
  rcases hr.2 (Nat.gcd r a) (Nat.gcd_dvd_left r a) with h1 | h1
  · exact .inr (Nat.Coprime.dvd_of_dvd_mul_left h1 h)
  · exact .inl (h1 ▸ Nat.gcd_dvd_right r a)
def mulL : List Nat → Nat
  | [] => 1
  | a :: l => a * mulL l
theorem pr_mulL {r : Nat} (hr : Pr1 r) : ∀ {l : List Nat}, r ∣ mulL l → (∀ q ∈ l, Pr1 q) → r ∈ l
  | [], h, _ => by
    have := Nat.le_of_dvd (by decide) h
    have := hr.1
    simp only [mulL] at *; omega
  | q :: l, h, hl => by
    rcases pr_dvd hr h with h1 | h1
    · rcases (hl q List.mem_cons_self).2 r h1 with h2 | h2
      · have := hr.1; omega
      · exact h2 ▸ List.mem_cons_self
    · exact List.mem_cons_of_mem _ (pr_mulL hr h1 fun x hx => hl x (List.mem_cons_of_mem _ hx))
/-- a number above 1 has a prime divisor -/
theorem has_pr : ∀ n, 1 < n → ∃ r, Pr1 r ∧ r ∣ n := by
  intro n
  induction n using Nat.strongRecOn with
  | _ n ih =>
    intro hn
    by_cases h : ∀ d, d ∣ n → d = 1 ∨ d = n
    · exact ⟨n, ⟨hn, h⟩, Nat.dvd_refl n⟩
    · obtain ⟨d, hd⟩ := Classical.not_forall.1 h
      have hdn : d ∣ n := Classical.byContradiction fun hh => hd fun hhh => (hh hhh).elim
      have hne : ¬ (d = 1 ∨ d = n) := fun hh => hd fun _ => hh
      have hle := Nat.le_of_dvd (by omega) hdn
      have h0 : d ≠ 0 := by rintro rfl; have := Nat.eq_zero_of_zero_dvd hdn; omega
      obtain ⟨r, hr, hrd⟩ := ih d (by omega) (by omega)
      exact ⟨r, hr, Nat.dvd_trans hrd hdn⟩
/-- as many as there are places: each is met -/
theorem pigeon : ∀ (n : Nat) (f : Nat → Nat), (∀ i, i < n → f i < n) → (∀ i j, i < n → j < n → f i = f j → i = j) → ∀ j, j < n → ∃ i, i < n ∧ f i = j := by
  intro n
  induction n with
  | zero => intro f _ _ j hj; omega
  | succ n ih =>
    intro f hlt hinj
    -- the value of the last one changes places with n
    let g : Nat → Nat := fun i => if f i = n then f n else f i
    have hg : ∀ i, i < n → g i < n := by
      intro i hi
      show (if f i = n then f n else f i) < n
      split
      · rename_i h
        have h1 := hlt n (by omega)
        have : f n ≠ n := fun e => by have := hinj i n (by omega) (by omega) (h.trans e.symm); omega
        omega
      · have := hlt i (by omega); omega
    have hgi : ∀ i j, i < n → j < n → g i = g j → i = j := by
      intro i j hi hj h
      change (if f i = n then f n else f i) = (if f j = n then f n else f j) at h
      split at h <;> split at h
      · rename_i h1 h2; exact hinj i j (by omega) (by omega) (h1.trans h2.symm)
      · have := hinj n j (by omega) (by omega) h; omega
      · have := hinj i n (by omega) (by omega) h; omega
      · exact hinj i j (by omega) (by omega) h
    intro j hj
    by_cases hjn : f n = j
    · exact ⟨n, by omega, hjn⟩
    · by_cases hjn2 : j = n
      · -- n is met: by f of some i
        subst hjn2
        have h1 := hlt j (by omega)
        obtain ⟨i, hi, he⟩ := ih g hg hgi (f j) (by omega)
        change (if f i = j then f j else f i) = f j at he
        split at he
        · rename_i h; exact ⟨i, by omega, h⟩
        · have := hinj i j (by omega) (by omega) he; omega
      · obtain ⟨i, hi, he⟩ := ih g hg hgi j (by omega)
        change (if f i = n then f n else f i) = j at he
        split at he
        · exact absurd he hjn
        · exact ⟨i, by omega, he⟩
theorem pow_gcd {N a : Nat} (hN : 1 < N) {m : Nat} (hu : ∃ b, a * b % N = 1) : ∀ n, a ^ m % N = 1 → a ^ n % N = 1 → a ^ (Nat.gcd m n) % N = 1 := by
  obtain ⟨b, hb⟩ := hu
  have cancel : ∀ i j, a ^ (i + j) % N = 1 → a ^ i % N = 1 → a ^ j % N = 1 := by
    intro i j h1 h2
    rw [Nat.pow_add, Nat.mul_mod, h2, Nat.one_mul, Nat.mod_mod] at h1
    exact h1
  have hmul : ∀ i k, a ^ i % N = 1 → a ^ (i * k) % N = 1 := by
    intro i k h
    rw [Nat.pow_mul, Nat.pow_mod, h, Nat.one_pow, Nat.mod_eq_of_lt hN]
  induction m using Nat.strongRecOn with
  | _ m ih =>
    intro n h1 h2
    rcases Nat.eq_zero_or_pos m with rfl | hm
    · rw [Nat.gcd_zero_left]; exact h2
    · rw [Nat.gcd_rec]
      refine ih (n % m) (Nat.mod_lt _ hm) m ?_ h1
      refine cancel (m * (n / m)) (n % m) ?_ (hmul m _ h1)
      rw [Nat.div_add_mod]; exact h2
/-- Lucas -/
theorem lucas {N a : Nat} (l : List Nat) (hN : 2 < N) (hl : ∀ q ∈ l, Pr1 q) (hM : mulL l = N - 1) (h1 : a ^ (N - 1) % N = 1) (h2 : ∀ q ∈ l, a ^ ((N - 1) / q) % N ≠ 1) :
    Pr1 N ∧ ∀ z, z % N ≠ 0 → z ^ (N - 1) % N = 1 := by
  have hu : ∃ b, a * b % N = 1 := ⟨a ^ (N - 2), by rw [← Nat.pow_succ', show (N - 2).succ = N - 1 from by omega]; exact h1⟩
  have hord : ∀ d, 0 < d → d < N - 1 → a ^ d % N ≠ 1 := by
    intro d hd hlt he
    have hg := pow_gcd (by omega) hu d h1 he
    have hg1 : Nat.gcd (N - 1) d ∣ N - 1 := Nat.gcd_dvd_left _ _
    have hg2 := Nat.le_of_dvd hd (Nat.gcd_dvd_right (N - 1) d)
    obtain ⟨c, hc⟩ := hg1
    have hc1 : 1 < c := by
      rcases Nat.lt_or_ge 1 c with h | h
      · exact h
      · exfalso
        have : Nat.gcd (N - 1) d * c ≤ Nat.gcd (N - 1) d * 1 := Nat.mul_le_mul_left _ h
        omega
    obtain ⟨r, hr, hrc⟩ := has_pr c hc1
    have hrM : r ∣ mulL l := by rw [hM, hc]; exact Nat.dvd_trans hrc (Nat.dvd_mul_left c _)
    have hrl := pr_mulL hr hrM hl
    refine h2 r hrl ?_
    obtain ⟨e, he2⟩ := hrc
    have hge : ∀ g, N - 1 = g * c → (N - 1) / r = g * e := by
      intro g hgc
      rw [hgc, he2, Nat.mul_left_comm, Nat.mul_div_cancel_left _ (by have := hr.1; omega)]
    have := hge _ hc
    rw [this, Nat.pow_mul, Nat.pow_mod, hg, Nat.one_pow, Nat.mod_eq_of_lt (by omega)]
  obtain ⟨b, hb⟩ := hu
  have hunit : ∀ k, a ^ k * b ^ k % N = 1 := by
    intro k
    rw [← Nat.mul_pow, Nat.pow_mod, hb, Nat.one_pow, Nat.mod_eq_of_lt (by omega)]
  have hne : ∀ k, a ^ k % N ≠ 0 := by
    intro k h0
    have := hunit k
    rw [Nat.mul_mod, h0, Nat.zero_mul, Nat.zero_mod] at this
    omega
  have hinj : ∀ i j, i < j → j < N - 1 → a ^ i % N ≠ a ^ j % N := by
    intro i j hij hj he
    refine hord (j - i) (by omega) (by omega) ?_
    have e1 : a ^ j = a ^ i * a ^ (j - i) := by rw [← Nat.pow_add]; congr 1; omega
    have e2 : b ^ i * a ^ j % N = a ^ (j - i) % N := by
      rw [e1, ← Nat.mul_assoc, Nat.mul_mod, Nat.mul_comm (b ^ i), hunit i, Nat.one_mul, Nat.mod_mod]
    rw [← e2, Nat.mul_mod, ← he, ← Nat.mul_mod, Nat.mul_comm, hunit]
  have hall : ∀ z, z % N ≠ 0 → ∃ i, a ^ i % N = z % N := by
    intro z hz
    obtain ⟨i, _, hi⟩ := pigeon (N - 1) (fun i => a ^ i % N - 1) (fun i _ => by
      have := hne i; have := Nat.mod_lt (a ^ i) (show N > 0 by omega); show a ^ i % N - 1 < N - 1; omega) (fun i j hi hj h => by
      have h3 := hne i; have h4 := hne j
      have h5 : a ^ i % N = a ^ j % N := by have h' : a ^ i % N - 1 = a ^ j % N - 1 := h; omega
      rcases Nat.lt_trichotomy i j with h6 | h6 | h6
      · exact (hinj i j h6 hj h5).elim
      · exact h6
      · exact (hinj j i h6 hi h5.symm).elim) (z % N - 1) (by have := Nat.mod_lt z (show N > 0 by omega); omega)
    have := hne i
    exact ⟨i, by have h' : a ^ i % N - 1 = z % N - 1 := hi; omega⟩
  have hfer : ∀ z, z % N ≠ 0 → z ^ (N - 1) % N = 1 := by
    intro z hz
    obtain ⟨i, hi⟩ := hall z hz
    rw [Nat.pow_mod, ← hi, ← Nat.pow_mod, ← Nat.pow_mul, Nat.mul_comm, Nat.pow_mul, Nat.pow_mod, h1, Nat.one_pow, Nat.mod_eq_of_lt (by omega)]
  refine ⟨⟨by omega, fun d hd => ?_⟩, hfer⟩
  have hle := Nat.le_of_dvd (by omega) hd
  by_cases hdN : d = N
  · exact .inr hdN
  · left
    have h0 : d ≠ 0 := by rintro rfl; have := Nat.eq_zero_of_zero_dvd hd; omega
    have hf := hfer d (by rw [Nat.mod_eq_of_lt (by omega)]; exact h0)
    have hd1 : d ∣ d ^ (N - 1) := ⟨d ^ (N - 2), by rw [← Nat.pow_succ', show (N - 2).succ = N - 1 from by omega]⟩
    have e := Nat.div_add_mod (d ^ (N - 1)) N
    rw [hf] at e
    have : d ∣ 1 := (Nat.dvd_add_right (Nat.dvd_trans hd (Nat.dvd_mul_right N _))).1 (e ▸ hd1)
    exact Nat.dvd_one.1 this
/-! powers that the kernel can reckon, of any modulus -/
theorem pwGo_eq1 {m x e : Nat} (h : 1 < m) (he : e < 2 ^ 256) : ∀ j, j ≤ 256 → pwGo m x e j = x ^ (e / 2 ^ (256 - j)) % m
  | 0, _ => by
    show 1 = _
    rw [Nat.sub_zero, Nat.div_eq_of_lt he, Nat.pow_zero, Nat.mod_eq_of_lt h]
  | j + 1, hj => by
    rw [pwGo_step rfl, pwGo_eq1 h he j (by omega), show 256 - (j + 1) = 255 - j from by omega, show 256 - j = 255 - j + 1 from by omega]
    generalize 255 - j = i
    have e2 : e / 2 ^ i = 2 * (e / 2 ^ (i + 1)) + e / 2 ^ i % 2 := by rw [Nat.pow_succ, ← Nat.div_div_eq_div_mul]; omega
    split
    · rename_i hb
      rw [hb] at e2
      rw [← Nat.mul_mod, ← Nat.pow_add, Nat.mod_mul_mod, ← Nat.pow_succ, e2]
      congr 2; omega
    · rename_i hb
      rw [show e / 2 ^ i % 2 = 0 from by omega] at e2
      rw [← Nat.mul_mod, ← Nat.pow_add, e2]
      congr 2; omega
theorem pw_eq1 {m x e : Nat} (h : 1 < m) (he : e < R) : pw m x e = x ^ e % m := by
  have := pwGo_eq1 (x := x) h (show e < 2 ^ 256 from he) 256 (Nat.le_refl _)
  rw [Nat.sub_self, Nat.pow_zero, Nat.div_one] at this
  exact this
/-- what the kernel looks at -/
def lucB (N a : Nat) (l : List Nat) : Bool := Nat.blt 2 N && Nat.blt N R && Nat.beq (mulL l) (N - 1) && Nat.beq (pw N a (N - 1)) 1 && l.all fun q => !(Nat.beq (pw N a ((N - 1) / q)) 1)
theorem lucas_of {N a : Nat} {l : List Nat} (h : lucB N a l = true) (hl : ∀ q ∈ l, Pr1 q) : Pr1 N ∧ ∀ z, z % N ≠ 0 → z ^ (N - 1) % N = 1 := by
  simp only [lucB, Bool.and_eq_true, List.all_eq_true, Nat.blt_eq] at h
  obtain ⟨⟨⟨⟨h1, h2⟩, h3⟩, h4⟩, h5⟩ := h
  have h3 := Nat.eq_of_beq_eq_true h3
  have h4 := Nat.eq_of_beq_eq_true h4
  have hlt : ∀ q, (N - 1) / q < R := fun q => Nat.lt_of_le_of_lt (Nat.div_le_self _ _) (by omega)
  rw [pw_eq1 (by omega) (by omega)] at h4
  refine lucas (a := a) l h1 hl h3 h4 fun q hq he => ?_
  have := h5 q hq
  rw [pw_eq1 (by omega) (hlt q), he] at this
  simp at this
/-- no divisor from 2 on -/
def noDiv (n : Nat) : Nat → Nat → Bool
  | 0, _ => true
  | k + 1, d => !(Nat.beq (n % d) 0) && noDiv n k (d + 1)
theorem noDiv_spec {n : Nat} : ∀ {k d : Nat}, noDiv n k d = true → ∀ e, d ≤ e → e < d + k → n % e ≠ 0
  | 0, d, _, e, h1, h2 => by omega
  | k + 1, d, h, e, h1, h2 => by
    simp only [noDiv, Bool.and_eq_true] at h
    by_cases he : e = d
    · subst he
      intro h0
      rw [h0] at h
      simp at h
    · exact noDiv_spec h.2 e (by omega) (by omega)
def smallB (n k : Nat) : Bool := Nat.blt 1 n && Nat.blt n ((k + 2) * (k + 2)) && noDiv n k 2
theorem small_pr {n k : Nat} (h : smallB n k = true) (hk : k + 2 ≤ n) : Pr1 n := by
  simp only [smallB, Bool.and_eq_true, Nat.blt_eq] at h
  obtain ⟨⟨h1, h2⟩, h3⟩ := h
  refine ⟨h1, fun d hd => ?_⟩
  obtain ⟨c, hc⟩ := hd
  have hno := noDiv_spec h3
  have key : ∀ x y, n = x * y → x < k + 2 → x = 1 := by
    intro x y hxy hx
    rcases Nat.lt_or_ge x 2 with h | h
    · rcases Nat.eq_zero_or_pos x with h0 | h0
      · subst h0; omega
      · omega
    · exact (hno x h (by omega) (by rw [hxy, Nat.mul_mod_right])).elim
  rcases Nat.lt_or_ge d (k + 2) with h | h
  · exact .inl (key d c hc h)
  · right
    have : c < k + 2 := by
      rcases Nat.lt_or_ge c (k + 2) with h4 | h4
      · exact h4
      · have := Nat.mul_le_mul h h4; omega
    have := key c d (by rw [hc, Nat.mul_comm]) this
    subst this; omega
end Cv
