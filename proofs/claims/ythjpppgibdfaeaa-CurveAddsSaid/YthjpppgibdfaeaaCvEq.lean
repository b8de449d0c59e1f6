import Derived.Test.YthjpppgibdfaeaaCvStandR
/- The program's answers are the reference's. Plain. -/
namespace Cv
open Go Go.SX
set_option maxRecDepth 10000
def atimes (k : Nat) (P : Aff) : Nat → Aff
  | 0 => .inf
  | n + 1 => if k / 2 ^ (255 - n) % 2 = 1 then aadd (aadd (atimes k P n) (atimes k P n)) P else aadd (atimes k P n) (atimes k P n)
theorem atimes_on {k : Nat} {P : Aff} (hP : On P) : ∀ n, On (atimes k P n)
  | 0 => trivial
  | n + 1 => by
    simp only [atimes]; split
    · exact aadd_on (aadd_on (atimes_on hP n) (atimes_on hP n)) hP
    · exact aadd_on (atimes_on hP n) (atimes_on hP n)
theorem jr_times {k : Nat} {a : J} {P : Aff} (ha : OkJ a) (hP : On P) (h : JR a P) : ∀ n, JR (jtimes k a n) (atimes k P n)
  | 0 => rfl
  | n + 1 => by
    have ih := jr_times (k := k) ha hP h n
    have hon := atimes_on (k := k) hP n
    simp only [jtimes, atimes]; split
    · exact jr_add (jdbl_ok (jtimes_ok ha n)) ha (aadd_on hon hon) hP (jr_dbl (jtimes_ok ha n) hon ih) h
    · exact jr_dbl (jtimes_ok ha n) hon ih
theorem pr_times {k : Nat} {a : J} {P : Aff} (ha : OkJ a) (hP : On P) (h : PR a P) : ∀ n, PR (rtimes k a n) (atimes k P n)
  | 0 => ⟨rfl, (by show cF 1 ≠ 0; decide), rfl⟩
  | n + 1 => by
    have ih := pr_times (k := k) ha hP h n
    have hon := atimes_on (k := k) hP n
    simp only [rtimes, atimes]; split
    · exact pr_add (rplus_ok _ _) ha (aadd_on hon hon) hP (pr_add (rtimes_ok n) (rtimes_ok n) hon hon ih ih) h
    · exact pr_add (rtimes_ok n) (rtimes_ok n) hon hon ih ih
theorem cF_jw {a : J} (ha : OkJ a) : cF (jw a) = inv (cF a.2.2) := by
  unfold jw inv
  rw [cF_val, Nat.mod_eq_of_lt ha.z]
theorem jw_0 {a : J} (h : a.2.2 = 0) : jw a = 0 := by
  unfold jw; rw [h, pw_eq mo_P (by decide), Nat.zero_pow (by decide)]; rfl
theorem pair_ext {p q : Nat × Nat} (h : p.1 = q.1) (k : p.2 = q.2) : p = q := Prod.ext h k
theorem jflat_pt {a : J} {x y : F} (ha : OkJ a) (h : JR a (.pt x y)) : jflat a = (x.val, y.val) := by
  obtain ⟨h0, h1, h2⟩ := h
  have hz := inv_mul (cF_ne ha.z h0)
  have e := cF_jw ha
  refine pair_ext (cF_inj (fm_lt _ _) x.isLt ?_) (cF_inj (fm_lt _ _) y.isLt ?_)
  · rw [cF_of]; simp only [jflat, cF_fm, h1, e]
    generalize inv (cF a.2.2) = w at *
    generalize cF a.2.2 = z at *
    clear h1 h2 e
    grind
  · rw [cF_of]; simp only [jflat, cF_fm, h2, e]
    generalize inv (cF a.2.2) = w at *
    generalize cF a.2.2 = z at *
    clear h1 h2 e
    have : z * z * z * y * (w * (w * w)) = y * (w * z) * (w * z) * (w * z) := by grind
    rw [this, hz]; grind
theorem rflat_pt {a : J} {x y : F} (ha : OkJ a) (h : PR a (.pt x y)) : rflat a = (x.val, y.val) := by
  obtain ⟨h0, h1, h2⟩ := h
  have hz := inv_mul (cF_ne ha.z h0)
  have e := cF_jw ha
  refine pair_ext (cF_inj (fm_lt _ _) x.isLt ?_) (cF_inj (fm_lt _ _) y.isLt ?_)
  · rw [cF_of]; simp only [rflat, cF_fm, h1, e]
    generalize inv (cF a.2.2) = w at *
    generalize cF a.2.2 = z at *
    clear h1 h2 e
    grind
  · rw [cF_of]; simp only [rflat, cF_fm, h2, e]
    generalize inv (cF a.2.2) = w at *
    generalize cF a.2.2 = z at *
    clear h1 h2 e
    grind
theorem fm_0 (x : Nat) : fm x 0 = 0 := by unfold fm; rw [Nat.mul_zero, Nat.zero_mod]
theorem flat_eq {a b : J} {P : Aff} (ha : OkJ a) (hb : OkJ b) (h : JR a P) (k : PR b P) : jflat a = rflat b := by
  cases P with
  | inf =>
    have e1 := jw_0 (a := a) h
    have e2 := jw_0 (a := b) k.2.2
    unfold jflat rflat
    rw [e1, e2]; simp only [fm_0]
  | pt x y => rw [jflat_pt ha h, rflat_pt hb k]
theorem pack_eq {a b : J} {P : Aff} (ha : OkJ a) (hb : OkJ b) (h : JR a P) (k : PR b P) : jpack a = rpack b := by
  unfold jpack rpack; rw [flat_eq ha hb h k]
theorem z_eq {a b : J} {P : Aff} (h : JR a P) (k : PR b P) : a.2.2 = 0 ↔ b.2.2 = 0 := by
  cases P with
  | inf => exact ⟨fun _ => k.2.2, fun _ => h⟩
  | pt x y => exact ⟨fun e => absurd e h.1, fun e => absurd e k.1⟩
/-! the points that are begun with -/
def ptOf (x y : Nat) : Aff := .pt (cF x) (cF y)
theorem lift_on {x odd : Nat} (h : (jlift x odd).2 = true) : ∃ y, y < Pp ∧ (jlift x odd).1 = (x, y, 1) ∧ On (ptOf x y) := by
  unfold jlift at *
  split at h
  · rename_i hs
    have e : cF (lroot x) * cF (lroot x) = cF x * cF x * cF x + 7 := by
      have := congrArg cF hs
      rw [cF_fm, lsq, cF_fa, cF_fm, cF_fm] at this
      rw [this]; rfl
    refine ⟨if lroot x % 2 = odd then lroot x else (Pp - lroot x) % Pp, ?_, ?_, ?_⟩
    · split
      · exact pw_lt mo_P _ _
      · exact mod_lt mo_P _
    · rw [if_pos hs]
    · simp only [ptOf, On]
      split
      · exact e
      · have hl : lroot x < Pp := pw_lt mo_P _ _
        have e2 : cF ((Pp - lroot x) % Pp) = - cF (lroot x) := by
          have := cF_fs (x := 0) hl
          rw [fs, Nat.zero_add, cF_zero] at this
          rw [this]; grind
        rw [e2, neg_sq, e]
  · cases h
theorem jr_1 {x y : Nat} : JR (x, y, 1) (ptOf x y) := ⟨by show (1 : Nat) ≠ 0; decide, by simp only [cF_one]; grind, by simp only [cF_one]; grind⟩
theorem pr_1 {x y : Nat} : PR (x, y, 1) (ptOf x y) := ⟨by show (1 : Nat) ≠ 0; decide, by simp only [cF_one]; grind, by simp only [cF_one]; grind⟩
theorem unpack_on {f : Nat → Nat} {st len : Nat} (h : (junpack f st len).2 = true) : ∃ P, On P ∧ JR (junpack f st len).1 P ∧ PR (junpack f st len).1 P := by
  unfold junpack at *
  split at h
  · rename_i hc
    obtain ⟨y, _, h2, h3⟩ := lift_on h
    rw [if_pos hc, h2]
    exact ⟨_, h3, jr_1, pr_1⟩
  · cases h
def aG : Aff := ptOf Gx Gy
theorem aG_on : On aG := by
  have h : (jlift Gx 0).2 = true := by
    unfold jlift; rw [if_pos (show fm (lroot Gx) (lroot Gx) = lsq Gx by decide +kernel)]
  obtain ⟨y, _, h2, h3⟩ := lift_on h
  have h4 := jG_eq
  unfold jG at h4
  rw [h4] at h2
  have : Gy = y := congrArg (fun p => p.2.1) h2
  rw [aG, this]; exact h3
theorem jr_G : JR jG aG := by rw [jG_eq]; exact jr_1
theorem pr_G : PR jG aG := by rw [jG_eq]; exact pr_1
/-! the answers -/
theorem pub_eq (f : Nat → Nat) : rpub f = ((pubOf f).1, decide ((pubOf f).2 = 0)) := by
  by_cases h : keyOK (be f 32) = true
  · rw [rpub_yes h, pubOf_yes h]
    simp only [decide_true]
    rw [pack_eq (jtimes_ok jG_ok _) (rtimes_ok _) (jr_times jG_ok aG_on jr_G 256) (pr_times jG_ok aG_on pr_G 256)]
  · rw [rpub_no h, pubOf_no h]; rfl
theorem addPub_eq (f g : Nat → Nat) : raddPub f g = addPub f g := by
  by_cases h1 : be g 32 < Nn
  · by_cases h2 : (junpack f 0 33).2 = true
    · obtain ⟨P, hP, j1, r1⟩ := unpack_on h2
      have j2 := jr_times (k := be g 32) jG_ok aG_on jr_G 256
      have r2 := pr_times (k := be g 32) jG_ok aG_on pr_G 256
      have hon := atimes_on (k := be g 32) aG_on 256
      have js := jr_add (junpack_ok f 0 33) (jtimes_ok jG_ok 256) hP hon j1 j2
      have rs := pr_add (junpack_ok f 0 33) (rtimes_ok 256) hP hon r1 r2
      have hz := z_eq js rs
      by_cases h3 : (jadd (junpack f 0 33).1 (jtimes (be g 32) jG 256)).2.2 = 0
      · rw [addPub_0 h1 h2 h3, raddPub_0 h1 h2 (hz.1 h3)]
      · rw [addPub_yes h1 h2 h3, raddPub_yes h1 h2 (fun e => h3 (hz.2 e)), pack_eq (jadd_ok (junpack_ok f 0 33) (jtimes_ok jG_ok 256)) (rplus_ok _ _) js rs]
    · rw [addPub_form h1 h2, raddPub_form h1 h2]
  · rw [addPub_no h1, raddPub_no h1]
theorem verPt_eq {p : J} {P : Aff} (hp : OkJ p) (hP : On P) (j : JR p P) (r : PR p P) (e q s : Nat) : rverPt p e q s = verPt p e q s := by
  have js := jr_add (jtimes_ok jG_ok 256) (jtimes_ok hp 256) (atimes_on aG_on 256) (atimes_on hP 256) (jr_times (k := e % Nn * pw Nn s (Nn - 2) % Nn) jG_ok aG_on jr_G 256) (jr_times (k := q * pw Nn s (Nn - 2) % Nn) hp hP j 256)
  have rs := pr_add (rtimes_ok 256) (rtimes_ok 256) (atimes_on aG_on 256) (atimes_on hP 256) (pr_times (k := e % Nn * pw Nn s (Nn - 2) % Nn) jG_ok aG_on pr_G 256) (pr_times (k := q * pw Nn s (Nn - 2) % Nn) hp hP r 256)
  have hz : (sigPt p e q s).2.2 = 0 ↔ (rsigPt p e q s).2.2 = 0 := z_eq js rs
  by_cases h : (sigPt p e q s).2.2 = 0
  · rw [verPt_0 h, rverPt_0 (hz.1 h)]
  · rw [verPt_1 h, rverPt_1 (fun h' => h (hz.2 h'))]
    have hf : jflat (sigPt p e q s) = rflat (rsigPt p e q s) := flat_eq (sigPt_ok hp _ _ _) (rplus_ok _ _) js rs
    rw [hf]
theorem verify_eq (f : Nat → Nat) (st len : Nat) (m g : Nat → Nat) (st' len' : Nat) : rverify f st len m g st' len' = verify f st len m g st' len' := by
  unfold rverify verify
  split
  · rename_i h
    obtain ⟨P, hP, j, r⟩ := unpack_on h.2.1
    exact verPt_eq (junpack_ok _ _ _) hP j r _ _ _
  · rfl
end Cv
