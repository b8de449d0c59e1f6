/- YthjpppgibdfaeaaCvMul: a part of the proof: lemmas alone, of no statement. -/
import Derived.Test.YthjpppgibdfaeaaCvField
import Derived.Test.YthjpppgibdfaeaaCvOne
/- The program's products modulo m, and powers. -/
namespace Go.Proofs.Ythjpppgibdfaeaa
open Go Go.SX Cv Go.RowKit Go.Lib
set_option maxRecDepth 100000
theorem mul64_walk (x y : Nat) (hx : x < B64) (hy : y < B64) (w : World) : VC Go.Proofs.Try.prog (fun _ => False) w ((Go.Proofs.Try.f71).body.getD .skip) (mkSt (argSlots 0 [(.v (.int .u64 (x : Nat))), (.v (.int .u64 (y : Nat)))]) [] 0 51) (endS Γ [.tmp 4, .tmp 5] (fun _ r => r = [(.v (.int .u64 ((x * y / B64 : Nat) : Int))), (.v (.int .u64 ((x * y % B64 : Nat) : Int)))])) := by
  unfold Go.Proofs.Try.f71
  dsimp only [Option.getD]
  have q := m64 hx hy
  refine vc_seq ?_
  refine vc_straight tyOK false [0, 1] rfl 0 16 rfl rfl ?_
  iterate 2 refine And.intro trivial ?_
  refine vc_seq ?_
  refine vc_straight tyOK false [0, 1, 2] rfl 16 40 rfl rfl ?_
  refine And.intro trivial ?_
  refine reg_name rfl rfl rfl rfl ?_ (fun v hv => ?_)
  · exact (by exact rfl)
  replace hv := hv.symm.trans (intn (x % 4294967296) (mask32 hx))
  subst hv
  refine And.intro trivial ?_
  refine vc_seq ?_
  refine vc_straight tyOK false [0, 1, 2] rfl 40 64 rfl rfl ?_
  refine And.intro trivial ?_
  refine reg_name rfl rfl rfl rfl ?_ (fun v hv => ?_)
  · exact (by decide)
  replace hv := hv.symm.trans (intn (x / 4294967296) (shr64 x 32 (by omega)))
  subst hv
  refine And.intro trivial ?_
  refine vc_seq ?_
  refine vc_straight tyOK false [0, 1, 2] rfl 64 88 rfl rfl ?_
  refine And.intro trivial ?_
  refine reg_name rfl rfl rfl rfl ?_ (fun v hv => ?_)
  · exact (by exact rfl)
  replace hv := hv.symm.trans (intn (y % 4294967296) (mask32 hy))
  subst hv
  refine And.intro trivial ?_
  refine vc_seq ?_
  refine vc_straight tyOK false [0, 1, 2] rfl 88 112 rfl rfl ?_
  refine And.intro trivial ?_
  refine reg_name rfl rfl rfl rfl ?_ (fun v hv => ?_)
  · exact (by decide)
  replace hv := hv.symm.trans (intn (y / 4294967296) (shr64 y 32 (by omega)))
  subst hv
  refine And.intro trivial ?_
  refine vc_seq ?_
  refine vc_straight tyOK false [0, 1, 2, 3] rfl 112 144 rfl rfl ?_
  iterate 2 refine And.intro trivial ?_
  refine reg_name rfl rfl rfl rfl ?_ (fun v hv => ?_)
  · exact (by exact rfl)
  replace hv := hv.symm.trans (u64i _ (mulN _ _) q.d)
  subst hv
  refine And.intro trivial ?_
  refine vc_seq ?_
  refine vc_straight tyOK false [0, 1, 2, 3, 4, 5, 6] rfl 144 200 rfl rfl ?_
  iterate 2 refine And.intro trivial ?_
  refine reg_name rfl rfl rfl rfl ?_ (fun v hv => ?_)
  · exact (by exact rfl)
  replace hv := hv.symm.trans (u64i _ (mulN _ _) q.b)
  subst hv
  refine And.intro trivial ?_
  refine reg_name rfl rfl rfl rfl ?_ (fun v hv => ?_)
  · exact (by decide)
  replace hv := hv.symm.trans (intn (x % 4294967296 * (y % 4294967296) / 4294967296) (shr64 _ 32 (by omega)))
  subst hv
  refine reg_name rfl rfl rfl rfl ?_ (fun v hv => ?_)
  · exact (by exact rfl)
  replace hv := hv.symm.trans (u64i _ (addN _ _) q.t)
  subst hv
  refine And.intro trivial ?_
  refine vc_seq ?_
  refine vc_straight tyOK false [0, 1, 2] rfl 200 224 rfl rfl ?_
  refine And.intro trivial ?_
  refine reg_name rfl rfl rfl rfl ?_ (fun v hv => ?_)
  · exact (by exact rfl)
  replace hv := hv.symm.trans (intn _ (mask32 q.t))
  subst hv
  refine And.intro trivial ?_
  refine vc_seq ?_
  refine vc_straight tyOK false [0, 1, 2] rfl 224 248 rfl rfl ?_
  refine And.intro trivial ?_
  refine reg_name rfl rfl rfl rfl ?_ (fun v hv => ?_)
  · exact (by decide)
  replace hv := hv.symm.trans (intn ((x / 4294967296 * (y % 4294967296) + x % 4294967296 * (y % 4294967296) / 4294967296) / 4294967296) (shr64 _ 32 (by omega)))
  subst hv
  refine And.intro trivial ?_
  refine vc_seq ?_
  refine vc_straight tyOK false [0, 1, 2, 3, 4, 5] rfl 248 296 rfl rfl ?_
  iterate 3 refine And.intro trivial ?_
  refine reg_name rfl rfl rfl rfl ?_ (fun v hv => ?_)
  · exact (by exact rfl)
  replace hv := hv.symm.trans (u64i _ (mulN _ _) q.c)
  subst hv
  refine reg_name rfl rfl rfl rfl ?_ (fun v hv => ?_)
  · exact (by exact rfl)
  replace hv := hv.symm.trans (u64i _ (addN _ _) q.w)
  subst hv
  refine And.intro trivial ?_
  refine vc_seq ?_
  refine vc_straight tyOK false [0, 1, 2, 3, 4, 5, 6, 7, 8] rfl 296 368 rfl rfl ?_
  iterate 2 refine And.intro trivial ?_
  refine reg_name rfl rfl rfl rfl ?_ (fun v hv => ?_)
  · exact (by exact rfl)
  replace hv := hv.symm.trans (u64i _ (mulN _ _) q.a)
  subst hv
  refine And.intro trivial ?_
  refine reg_name rfl rfl rfl rfl ?_ (fun v hv => ?_)
  · exact (by exact rfl)
  replace hv := hv.symm.trans (u64i _ (addN _ _) q.h1)
  subst hv
  refine And.intro trivial ?_
  refine reg_name rfl rfl rfl rfl ?_ (fun v hv => ?_)
  · exact (by decide)
  replace hv := hv.symm.trans (intn (((x / 4294967296 * (y % 4294967296) + x % 4294967296 * (y % 4294967296) / 4294967296) % 4294967296 + x % 4294967296 * (y / 4294967296)) / 4294967296) (shr64 _ 32 (by omega)))
  subst hv
  refine reg_name rfl rfl rfl rfl ?_ (fun v hv => ?_)
  · exact (by exact rfl)
  replace hv := hv.symm.trans (u64i _ (addN _ _) q.h)
  subst hv
  refine And.intro trivial ?_
  refine vc_seq ?_
  refine vc_straight tyOK false [0, 1, 2, 3] rfl 368 400 rfl rfl ?_
  iterate 2 refine And.intro trivial ?_
  refine reg_name rfl rfl rfl rfl ?_ (fun v hv => ?_)
  · exact (by exact rfl)
  replace hv := hv.symm.trans (u64n _ (mulN _ _))
  subst hv
  refine And.intro trivial ?_
  refine vc_ret ?_
  refine And.intro (by first | exact trivial | exact ⟨trivial, trivial⟩ | exact ⟨trivial, trivial, trivial⟩) ?_
  rw [q.eq]
theorem mul64_vc (x y : Nat)  (hx : x < B64) (hy : y < B64) {eff : Bool} {σ : SSt} {nm : Nat} {K : SSt → SS → Prop}  (hk : K σ (.tup [(.v (.int .u64 ((x * y / B64 : Nat) : Int))), (.v (.int .u64 ((x * y % B64 : Nat) : Int)))])) : CallVC Go.Proofs.Try.prog eff (.fn 71) [(.v (.int .u64 (x : Nat))), (.v (.int .u64 (y : Nat)))] σ nm K := by
  exact call_plain (res := [(.v (.int .u64 ((x * y / B64 : Nat) : Int))), (.v (.int .u64 ((x * y % B64 : Nat) : Int)))]) tyOK Go.Proofs.Try.func71 (c := (Go.Proofs.Try.f71).body.getD .skip) rfl (by kernel_rfl) (rs := [.tmp 4, .tmp 5]) rfl (Nat.le_of_ble_eq_true rfl) (by repeat first | exact plain_nil | exact okC_nil | refine plain_v ?_ | refine plain_g ?_ ?_ | refine okMany ?_ ?_ | refine okOne ?_ ?_ | exact rfl | exact W_cv _ | exact V_cv _ | exact Dd_cv _ | exact cells_cv _ _ _ | exact okPt _) (by repeat first | exact plain_nil | exact okC_nil | refine plain_v ?_ | refine plain_g ?_ ?_ | refine okMany ?_ ?_ | refine okOne ?_ ?_ | exact rfl | exact W_cv _ | exact V_cv _ | exact Dd_cv _ | exact cells_cv _ _ _ | exact okPt _) (fun w => mul64_walk x y hx hy w) hk
/-! f.fold(t) -/
def foldO (m : Nat) (t : Nat → Nat) : SSt := mkSt [(0, .one (.p 0 0)), (3, .one (.p 1 0)), (4, .one (.p 9 0))]
  [(0, ⟨Fl m, false⟩), (1, ⟨[.many 8 (cells .u64 8 t)], true⟩), (9, ⟨[.many 4 (List.replicate 4 (.int .u64 0))], true⟩)] 17 114
def foldI (m : Nat) (t : Nat → Nat) (q : Nat × (Nat → Nat)) : SSt := mkSt [(0, .one (.p 0 0)), (3, .one (.p 1 0)), (4, .one (.p 9 0)), (40, .one (.g [.many 4 (cells .u64 4 (hig t))])), (41, .one (.v (.int .i64 (q.1 : Nat))))]
  [(0, ⟨Fl m, false⟩), (1, ⟨[.many 8 (cells .u64 8 q.2)], true⟩), (9, ⟨[.many 4 (List.replicate 4 (.int .u64 0))], true⟩)] 281 114
def foldK (m : Nat) (t : Nat → Nat) (i : Nat) (q : Nat × (Nat → Nat) × Nat) : SSt := mkSt [(0, .one (.p 0 0)), (3, .one (.p 1 0)), (4, .one (.p 9 0)), (6, .one (.v (.int .i64 (i : Nat)))), (7, .one (.v (.int .u64 (hig t i : Nat)))), (8, .one (.v (.int .u64 (q.2.2 : Nat)))), (40, .one (.g [.many 4 (cells .u64 4 (hig t))])), (41, .one (.v (.int .i64 (i : Nat)))), (48, .one (.g [.many 3 (Dd m)])), (49, .one (.v (.int .i64 (q.1 : Nat))))]
  [(0, ⟨Fl m, false⟩), (1, ⟨[.many 8 (cells .u64 8 q.2.1)], true⟩), (9, ⟨[.many 4 (List.replicate 4 (.int .u64 0))], true⟩)] 369 114
def foldC (m : Nat) (t : Nat → Nat) (i : Nat) (q : Nat × (Nat → Nat) × Nat) : SSt := mkSt [(0, .one (.p 0 0)), (3, .one (.p 1 0)), (4, .one (.p 9 0)), (8, .one (.v (.int .u64 (q.2.2 : Nat)))), (14, .one (.v (.int .i64 (q.1 : Nat)))), (40, .one (.g [.many 4 (cells .u64 4 (hig t))])), (41, .one (.v (.int .i64 (i : Nat))))]
  [(0, ⟨Fl m, false⟩), (1, ⟨[.many 8 (cells .u64 8 q.2.1)], true⟩), (9, ⟨[.many 4 (List.replicate 4 (.int .u64 0))], true⟩)] 777 114
theorem f_fold_walk (m : Nat) (z : Nat → Nat) (hm : Mo m) (hz : ∀ j, z j < B64) (w : World) : VC Go.Proofs.Try.prog (fun _ => False) w ((Go.Proofs.Try.f73).body.getD .skip) (mkSt (argSlots 0 [(.p 0 0), (.g [.many 8 (cells .u64 8 z)])]) [(0, ⟨(Fl m), false⟩)] 1 114) (endS Γ [.cell 4 69] (fun _ r => r = [(.g [.many 4 (W (num B64 z 8 % m))])])) := by
  unfold Go.Proofs.Try.f73
  dsimp only [Option.getD]
  refine vc_seq ?_
  refine vc_straight tyOK false [0, 1] rfl 1 17 rfl rfl ?_
  refine And.intro trivial ?_
  refine And.intro trivial ?_
  refine vc_seq ?_
  refine vc_block ?_
  refine vc_loop (FoldO (num B64 z 8) m) (foldO m) (fun t => num B64 t 8) z ⟨hz, rfl⟩ (ent_mk rfl ⟨rfl, rfl, rfl, trivial⟩ ⟨rfl, rfl, rfl, trivial⟩ rfl) ?_
  intro t h0
  refine vc_seq ?_
  refine vc_seq ?_
  refine vc_straight tyOK false [0, 1, 2, 3, 4, 5, 6, 7, 8, 9, 10, 11] rfl 17 113 rfl rfl ?_
  refine And.intro (by decide) ?_
  refine reg_name rfl rfl rfl rfl ?_ (fun v hv => ?_)
  · exact (by exact trivial)
  replace hv := hv.symm.trans (cells_at (i := 4) (by decide))
  subst hv
  refine And.intro (by decide) ?_
  refine reg_name rfl rfl rfl rfl ?_ (fun v hv => ?_)
  · exact (by exact trivial)
  replace hv := hv.symm.trans (cells_at (i := 5) (by decide))
  subst hv
  refine reg_name rfl rfl rfl rfl ?_ (fun v hv => ?_)
  · exact (by exact rfl)
  replace hv := hv.symm.trans (intn _ (or_u64 (h0.lt 4) (h0.lt 5)))
  subst hv
  refine And.intro (by decide) ?_
  refine reg_name rfl rfl rfl rfl ?_ (fun v hv => ?_)
  · exact (by exact trivial)
  replace hv := hv.symm.trans (cells_at (i := 6) (by decide))
  subst hv
  refine reg_name rfl rfl rfl rfl ?_ (fun v hv => ?_)
  · exact (by exact rfl)
  replace hv := hv.symm.trans (intn _ (or_u64 (Nat.or_lt_two_pow (n := 64) (h0.lt 4) (h0.lt 5)) (h0.lt 6)))
  subst hv
  refine And.intro (by decide) ?_
  refine reg_name rfl rfl rfl rfl ?_ (fun v hv => ?_)
  · exact (by exact trivial)
  replace hv := hv.symm.trans (cells_atl (i := 7) (by decide))
  subst hv
  refine reg_name rfl rfl rfl rfl ?_ (fun v hv => ?_)
  · exact (by exact rfl)
  replace hv := hv.symm.trans (intn _ (or_u64 (Nat.or_lt_two_pow (n := 64) (Nat.or_lt_two_pow (n := 64) (h0.lt 4) (h0.lt 5)) (h0.lt 6)) (h0.lt 7)))
  subst hv
  refine And.intro rfl ?_
  refine vc_if rfl (fun hc1 => ?_) (fun hc1 => ?_)
  · have hnz : num B64 (hig t) 4 ≠ 0 := by
      intro hz0
      obtain ⟨e4, e5, e6, e7⟩ := fold_ne hz0
      rw [e4, e5, e6, e7] at hc1
      exact absurd hc1 (by decide)
    refine vc_skip ?_
    refine vc_block ?_
    refine vc_seq ?_
    refine vc_straight tyOK false [0, 1, 2, 3, 4, 5, 6, 7, 8, 9, 10] rfl 113 201 rfl rfl ?_
    refine And.intro (by decide) ?_
    refine reg_name rfl rfl rfl rfl ?_ (fun v hv => ?_)
    · exact (by exact trivial)
    replace hv := hv.symm.trans (cells_at (i := 4) (by decide))
    subst hv
    refine And.intro (by decide) ?_
    refine reg_name rfl rfl rfl rfl ?_ (fun v hv => ?_)
    · exact (by exact trivial)
    replace hv := hv.symm.trans (cells_at (i := 5) (by decide))
    subst hv
    refine And.intro (by decide) ?_
    refine reg_name rfl rfl rfl rfl ?_ (fun v hv => ?_)
    · exact (by exact trivial)
    replace hv := hv.symm.trans (cells_at (i := 6) (by decide))
    subst hv
    refine And.intro (by decide) ?_
    refine reg_name rfl rfl rfl rfl ?_ (fun v hv => ?_)
    · exact (by exact trivial)
    replace hv := hv.symm.trans (cells_atl (i := 7) (by decide))
    subst hv
    refine And.intro (by ((repeat' first | exact trivial | exact rfl | exact Nat.le_of_ble_eq_true rfl | decide | omega | refine And.intro ?_ ?_); done)) ?_
    refine And.intro trivial ?_
    refine And.intro (by exact ⟨trivial, rfl⟩) ?_
    refine vc_seq ?_
    refine vc_straight tyOK false [0, 1, 2, 3, 4, 5, 6, 7] rfl 201 265 rfl rfl ?_
    iterate 8 refine And.intro (by first | exact ⟨rfl, rfl⟩ | decide) ?_
    refine vc_seq ?_
    refine vc_as 1 _ rfl (loz_blk t true) ?_
    refine vc_straight tyOK false [0, 1] rfl 265 281 rfl rfl ?_
    refine And.intro trivial ?_
    refine And.intro trivial ?_
    refine vc_block ?_
    refine vc_loop (FoldI m t) (foldI m t) (fun q => 4 - q.1) (0, loz t) (foldI_0 m h0.lt) (ent_mk rfl ⟨rfl, rfl, rfl, rfl, rfl, trivial⟩ ⟨rfl, rfl, rfl, trivial⟩ rfl) ?_
    intro ⟨i, u⟩ h1
    have hi := h1.le
    refine vc_seq ?_
    refine vc_straight tyOK false [0] rfl 281 289 rfl rfl ?_
    refine And.intro rfl ?_
    refine vc_seq ?_
    refine vc_if rfl (fun hc2 => ?_) (fun hc2 => ?_)
    · have hi4 : i < 4 := by have := of_decide_eq_true hc2; simp only at this; omega
      refine vc_skip ?_
      refine vc_seq ?_
      refine vc_block ?_
      refine vc_seq ?_
      refine vc_straight tyOK false [0, 1, 2, 3] rfl 289 321 rfl rfl ?_
      refine And.intro trivial ?_
      refine reg_name rfl rfl rfl rfl ?_ (fun v hv => ?_)
      · exact (by omega)
      replace hv := hv.symm.trans (cells_get hi4)
      subst hv
      iterate 2 refine And.intro trivial ?_
      refine vc_seq ?_
      refine vc_straight tyOK false [0] rfl 321 329 rfl rfl ?_
      refine And.intro trivial ?_
      refine vc_seq ?_
      refine vc_seq ?_
      refine vc_straight tyOK false [0, 1, 2, 3, 4] rfl 329 369 rfl rfl ?_
      iterate 2 refine And.intro trivial ?_
      iterate 2 refine And.intro (by first | exact trivial | decide) ?_
      refine And.intro trivial ?_
      refine vc_block ?_
      refine vc_loop (FoldK m t i) (foldK m t i) (fun q => 3 - q.1) (0, u, 0) (foldK_0 h1) (ent_mk rfl ⟨rfl, rfl, rfl, rfl, rfl, rfl, rfl, rfl, rfl, rfl, trivial⟩ ⟨rfl, rfl, rfl, trivial⟩ rfl) ?_
      intro ⟨k, v, c⟩ h2
      have hk := h2.le
      refine vc_seq ?_
      refine vc_straight tyOK false [0] rfl 369 377 rfl rfl ?_
      refine And.intro rfl ?_
      refine vc_seq ?_
      refine vc_if rfl (fun hc3 => ?_) (fun hc3 => ?_)
      · have hk4 : k < 3 := by have := of_decide_eq_true hc3; simp only at this; omega
        have qm := mac (a := hig t i) (b := dig B64 (R - m) k) (t := v (i + k)) (c := c) (h0.lt _) (dig_lt B64_pos _ _) (h2.lt _) h2.c
        refine vc_skip ?_
        refine vc_seq ?_
        refine vc_block ?_
        refine vc_seq ?_
        refine vc_straight tyOK false [0, 1, 2, 3] rfl 377 409 rfl rfl ?_
        refine And.intro trivial ?_
        refine reg_name rfl rfl rfl rfl ?_ (fun v hv => ?_)
        · exact (by omega)
        replace hv := hv.symm.trans (cells_get hk4)
        subst hv
        iterate 2 refine And.intro trivial ?_
        refine vc_seq ?_
        refine vc_straight tyOK false [0, 1, 2, 3, 4, 5, 6, 7] rfl 409 473 rfl rfl ?_
        iterate 2 refine And.intro trivial ?_
        refine mul64_vc (hig t i) (dig B64 (R - m) k) (h0.lt _) (dig_lt B64_pos _ _) ?_
        iterate 5 refine And.intro trivial ?_
        refine vc_seq ?_
        refine vc_straight tyOK false [0] rfl 473 481 rfl rfl ?_
        refine And.intro trivial ?_
        refine vc_seq ?_
        refine vc_straight tyOK false [0, 1, 2, 3, 4, 5, 6, 7] rfl 481 545 rfl rfl ?_
        iterate 2 refine And.intro trivial ?_
        refine add64_vc (x := hig t i * dig B64 (R - m) k % B64) (y := c) (c := 0) (by omega) ?_
        iterate 5 refine And.intro trivial ?_
        refine vc_seq ?_
        refine vc_straight tyOK false [0, 1, 2, 3] rfl 545 577 rfl rfl ?_
        iterate 2 refine And.intro trivial ?_
        refine reg_name rfl rfl rfl rfl ?_ (fun v hv => ?_)
        · exact (by exact rfl)
        replace hv := hv.symm.trans (u64i _ (addN _ _) qm.hi)
        subst hv
        refine And.intro trivial ?_
        refine vc_seq ?_
        refine vc_straight tyOK false [0, 1, 2, 3, 4, 5, 6, 7, 8, 9, 10, 11, 12, 13, 14, 15] rfl 577 705 rfl rfl ?_
        iterate 2 refine And.intro trivial ?_
        refine reg_name rfl rfl rfl rfl ?_ (fun v hv => ?_)
        · exact (by exact rfl)
        replace hv := hv.symm.trans (i64n (i + k) (addN _ _) (by omega))
        subst hv
        iterate 2 refine And.intro trivial ?_
        refine reg_name rfl rfl rfl rfl ?_ (fun v hv => ?_)
        · exact (by exact rfl)
        replace hv := hv.symm.trans (i64n (i + k) (addN _ _) (by omega))
        subst hv
        refine And.intro (by omega) ?_
        refine reg_name rfl rfl rfl rfl ?_ (fun v hv => ?_)
        · exact (by omega)
        replace hv := hv.symm.trans (cells_get (i := i + k) (by omega))
        subst hv
        refine And.intro trivial ?_
        refine add64_vc (x := v (i + k)) (y := (hig t i * dig B64 (R - m) k % B64 + c) % B64) (c := 0) (by omega) ?_
        iterate 3 refine And.intro trivial ?_
        iterate 2 refine And.intro (by first | omega | exact ⟨by omega, rfl, rfl⟩) ?_
        refine And.intro trivial ?_
        refine vc_straight tyOK false [0, 1, 2, 3] rfl 705 737 rfl rfl ?_
        iterate 2 refine And.intro trivial ?_
        refine reg_name rfl rfl rfl rfl ?_ (fun v hv => ?_)
        · exact (by exact rfl)
        replace hv := hv.symm.trans (u64i _ (addN _ _) qm.hj)
        subst hv
        refine And.intro trivial ?_
        refine vc_straight tyOK false [0, 1] rfl 737 753 rfl rfl ?_
        refine And.intro rfl ?_
        refine And.intro trivial ?_
        refine ⟨(k + 1, chg v (i + k) ((v (i + k) + hig t i * dig B64 (R - m) k + c) % B64), (v (i + k) + hig t i * dig B64 (R - m) k + c) / B64), foldK_step hi4 hk4 h0.lt h2, ent_mk rfl ⟨rfl, rfl, rfl, rfl, rfl, slot_int (by rw [← qm.up]; rfl), rfl, rfl, rfl, slot_int (wrap_i64 (by omega) (by omega)), trivial⟩ ⟨rfl, blk_many (mac_set qm rfl), rfl, trivial⟩ rfl, by show 3 - (k + 1) < 3 - k; omega⟩
      · obtain rfl : k = 3 := by have := of_decide_eq_false hc3; simp only at this hk; omega
        refine vc_exit ?_
        refine vc_seq ?_
        refine vc_straight tyOK false [0, 1, 2] rfl 753 777 rfl rfl ?_
        refine And.intro trivial ?_
        refine reg_name rfl rfl rfl rfl ?_ (fun v hv => ?_)
        · exact (by exact rfl)
        replace hv := hv.symm.trans (i64n (i + 3) (addN _ _) (by omega))
        subst hv
        refine And.intro trivial ?_
        refine vc_block ?_
        refine vc_loop (FoldC m t i) (foldC m t i) (fun q => 8 - q.1) (i + 3, v, c) (foldC_0 hm h2) (ent_mk rfl ⟨rfl, rfl, rfl, rfl, rfl, rfl, rfl, trivial⟩ ⟨rfl, rfl, rfl, trivial⟩ rfl) ?_
        intro ⟨k, v, c⟩ h3
        have hk3 := h3.le
        refine vc_seq ?_
        refine vc_seq ?_
        refine vc_straight tyOK false [0, 1] rfl 777 793 rfl rfl ?_
        refine And.intro trivial ?_
        refine And.intro rfl ?_
        refine vc_if rfl (fun hc4 => ?_) (fun hc4 => ?_)
        · have hne : c ≠ 0 := by rintro rfl; simp at hc4
          have hk8 := foldC_lt hm h0.lt hi4 h3 hne
          refine vc_skip ?_
          refine vc_seq ?_
          refine vc_block ?_
          refine vc_straight tyOK false [0, 1, 2, 3, 4, 5, 6, 7, 8, 9, 10, 11] rfl 793 889 rfl rfl ?_
          iterate 2 refine And.intro trivial ?_
          refine And.intro (by omega) ?_
          refine reg_name rfl rfl rfl rfl ?_ (fun v hv => ?_)
          · exact (by omega)
          replace hv := hv.symm.trans (cells_get hk8)
          subst hv
          refine And.intro trivial ?_
          refine add64_vc (x := v k) (y := c) (c := 0) (by omega) ?_
          iterate 3 refine And.intro trivial ?_
          iterate 2 refine And.intro (by first | omega | exact ⟨by omega, rfl, rfl⟩) ?_
          refine And.intro trivial ?_
          refine vc_straight tyOK false [0, 1, 2] rfl 889 913 rfl rfl ?_
          refine And.intro trivial ?_
          refine reg_name rfl rfl rfl rfl ?_ (fun v hv => ?_)
          · exact (by exact rfl)
          replace hv := hv.symm.trans (i64n (k + 1) (addN _ _) (by omega))
          subst hv
          refine And.intro trivial ?_
          refine ⟨(k + 1, chg v k ((v k + c) % B64), (v k + c) / B64), foldC_step hk8 h3, ent_mk rfl ⟨rfl, rfl, rfl, rfl, rfl, rfl, rfl, trivial⟩ ⟨rfl, blk_many chg_set, rfl, trivial⟩ rfl, by show 8 - (k + 1) < 8 - k; omega⟩
        · obtain rfl : c = 0 := by simpa using hc4
          refine vc_exit ?_
          refine vc_straight tyOK false [0, 1] rfl 913 929 rfl rfl ?_
          refine And.intro rfl ?_
          refine And.intro trivial ?_
          refine ⟨(i + 1, v), foldI_step hi4 h3, ent_mk rfl ⟨rfl, rfl, rfl, rfl, slot_int (wrap_i64 (by omega) (by omega)), trivial⟩ ⟨rfl, rfl, rfl, trivial⟩ rfl, by show 4 - (i + 1) < 4 - i; omega⟩
    · obtain rfl : i = 4 := by have := of_decide_eq_false hc2; simp only at this hi; omega
      refine vc_exit ?_
      refine ⟨u, foldO_step hm h0 h1, ent_mk rfl ⟨rfl, rfl, rfl, trivial⟩ ⟨rfl, rfl, rfl, trivial⟩ rfl, fold_down hm h1 hnz⟩
  · have hor : (t 4 ||| t 5) ||| t 6 ||| t 7 = 0 := by
      have := hc1
      simpa using this
    obtain ⟨hor, h7⟩ := Nat.or_eq_zero_iff.1 hor
    obtain ⟨hor, h6⟩ := Nat.or_eq_zero_iff.1 hor
    obtain ⟨h4, h5⟩ := Nat.or_eq_zero_iff.1 hor
    refine vc_exit ?_
    refine vc_seq ?_
    refine vc_straight tyOK false [0, 1, 2, 3, 4, 5, 6, 7, 8, 9, 10, 11] rfl 929 1025 rfl rfl ?_
    refine And.intro trivial ?_
    refine And.intro (by decide) ?_
    refine reg_name rfl rfl rfl rfl ?_ (fun v hv => ?_)
    · exact (by exact trivial)
    replace hv := hv.symm.trans (cells_at0 (by decide))
    subst hv
    refine And.intro (by decide) ?_
    refine reg_name rfl rfl rfl rfl ?_ (fun v hv => ?_)
    · exact (by exact trivial)
    replace hv := hv.symm.trans (cells_at (i := 1) (by decide))
    subst hv
    refine And.intro (by decide) ?_
    refine reg_name rfl rfl rfl rfl ?_ (fun v hv => ?_)
    · exact (by exact trivial)
    replace hv := hv.symm.trans (cells_at (i := 2) (by decide))
    subst hv
    refine And.intro (by decide) ?_
    refine reg_name rfl rfl rfl rfl ?_ (fun v hv => ?_)
    · exact (by exact trivial)
    replace hv := hv.symm.trans (cells_at (i := 3) (by decide))
    subst hv
    refine And.intro (by ((repeat' first | exact trivial | exact rfl | exact Nat.le_of_ble_eq_true rfl | decide | omega | refine And.intro ?_ ?_); done)) ?_
    show CallVC _ _ _ [.p 0 0, .g [.many 4 (cells .u64 4 t)]] _ _ _
    rw [W_of (fun i _ => h0.lt i)]
    refine f_in_vc m (num B64 t 4) hm (R_64 ▸ num_lt B64_pos 4 (fun i _ => h0.lt i)) ⟨_, _, rfl, part_all⟩ ?_
    refine And.intro (by exact ⟨trivial, rfl⟩) ?_
    refine vc_ret ?_
    refine And.intro (by first | exact trivial | exact ⟨trivial, trivial⟩ | exact ⟨trivial, trivial, trivial⟩) ?_
    show [SV.g [CV.many 4 (W (num B64 t 4 % m))]] = _
    rw [fold_end h0 h4 h5 h6 h7]
theorem f_fold_vc (m : Nat) (z : Nat → Nat) {k off : Nat} (hm : Mo m) (hz : ∀ j, z j < B64) {eff : Bool} {σ : SSt} {nm : Nat} {K : SSt → SS → Prop} (hv0 : Has σ (k) (off) (Fl m)) (hk : K σ (.one ((.g [.many 4 (W (num B64 z 8 % m))])))) : CallVC Go.Proofs.Try.prog eff (.fn 73) [(.p k off), (.g [.many 8 (cells .u64 8 z)])] σ nm K := by
  exact call_fn1 (args := [(.p 0 0), (.g [.many 8 (cells .u64 8 z)])]) (res := [(.g [.many 4 (W (num B64 z 8 % m))])]) tyOK Go.Proofs.Try.func73 (c := (Go.Proofs.Try.f73).body.getD .skip) rfl (by kernel_rfl) (rs := [.cell 4 69]) rfl [(k, off, (Fl m))] (Nat.le_of_ble_eq_true rfl) (okAll_mem (by repeat first | exact trivial | exact okC_nil | refine okMany ?_ ?_ | refine okOne ?_ ?_ | exact W_cv _ | exact V_cv _ | exact Dd_cv _ | exact cells_cv _ _ _ | (show (_ : Nat) < _; exact (Nat.le_of_ble_eq_true rfl)) | exact rfl | refine And.intro ?_ ?_)) (by repeat first | exact plain_nil | exact okC_nil | refine plain_v ?_ | refine plain_g ?_ ?_ | refine okMany ?_ ?_ | refine okOne ?_ ?_ | exact rfl | exact W_cv _ | exact V_cv _ | exact Dd_cv _ | exact cells_cv _ _ _ | exact okPt _) (fun w => f_fold_walk m z hm hz w) ⟨hv0, (by repeat first | exact okC_nil | refine okMany ?_ ?_ | refine okOne ?_ ?_ | exact rfl | exact W_cv _ | exact V_cv _ | exact Dd_cv _ | exact cells_cv _ _ _ | exact okPt _), trivial⟩ (fun ρ => by first | rfl | (simp [SV.den, viewRho, Nat.add_assoc]; done) | (simp [SV.den, viewRho, Nat.add_assoc]; rfl)) hk
/-! f.mul(x, y) -/
def mulO (m x y : Nat) (q : Nat × (Nat → Nat)) : SSt := mkSt [(0, .one (.p 0 0)), (5, .one (.p 9 0)), (6, .one (.p 17 0)), (7, .one (.p 25 0)), (16, .one (.g [.many 4 (W x)])), (17, .one (.v (.int .i64 (q.1 : Nat))))]
  [(0, ⟨Fl m, false⟩), (9, ⟨[.many 4 (W y)], true⟩), (17, ⟨[.many 4 (List.replicate 4 (.int .u64 0))], true⟩), (25, ⟨[.many 8 (cells .u64 8 q.2)], true⟩)] 49 67
def mulI (m x y i : Nat) (q : Nat × (Nat → Nat) × Nat) : SSt := mkSt [(0, .one (.p 0 0)), (5, .one (.p 9 0)), (6, .one (.p 17 0)), (7, .one (.p 25 0)), (8, .one (.v (.int .i64 (i : Nat)))), (9, .one (.v (.int .u64 (dig B64 x i : Nat)))), (10, .one (.v (.int .u64 (q.2.2 : Nat)))), (16, .one (.g [.many 4 (W x)])), (17, .one (.v (.int .i64 (i : Nat)))), (21, .one (.g [.many 4 (W y)])), (22, .one (.v (.int .i64 (q.1 : Nat))))]
  [(0, ⟨Fl m, false⟩), (9, ⟨[.many 4 (W y)], true⟩), (17, ⟨[.many 4 (List.replicate 4 (.int .u64 0))], true⟩), (25, ⟨[.many 8 (cells .u64 8 q.2.1)], true⟩)] 113 67
theorem f_mul_walk (m x y : Nat) (hm : Mo m) (hx : x < R) (hy : y < R) (w : World) : VC Go.Proofs.Try.prog (fun _ => False) w ((Go.Proofs.Try.f42).body.getD .skip) (mkSt (argSlots 0 [(.p 0 0), (.g [.many 4 (W (x))]), (.g [.many 4 (W (y))])]) [(0, ⟨(Fl m), false⟩)] 1 67) (endS Γ [.cell 6 69] (fun _ r => r = [(.g [.many 4 (W (x * y % m))])])) := by
  unfold Go.Proofs.Try.f42
  dsimp only [Option.getD]
  refine vc_seq ?_
  refine vc_straight tyOK false [0, 1, 2] rfl 1 25 rfl rfl ?_
  iterate 2 refine And.intro trivial ?_
  refine And.intro trivial ?_
  refine vc_seq ?_
  refine vc_straight tyOK false [0] rfl 25 33 rfl rfl ?_
  refine And.intro trivial ?_
  refine vc_seq ?_
  refine vc_seq ?_
  refine vc_straight tyOK false [0, 1] rfl 33 49 rfl rfl ?_
  refine And.intro trivial ?_
  refine And.intro trivial ?_
  refine vc_block ?_
  refine vc_loop (MulO x y) (mulO m x y) (fun q => 4 - q.1) (0, fun _ => 0) (mulO_0 x y) (ent_mk rfl ⟨rfl, rfl, rfl, rfl, rfl, rfl, trivial⟩ ⟨rfl, rfl, rfl, blk_many (cells_zero _ _), trivial⟩ rfl) ?_
  intro ⟨i, t⟩ h1
  have hi := h1.le
  refine vc_seq ?_
  refine vc_straight tyOK false [0] rfl 49 57 rfl rfl ?_
  refine And.intro rfl ?_
  refine vc_seq ?_
  refine vc_if rfl (fun hc1 => ?_) (fun hc1 => ?_)
  · have hi4 : i < 4 := by have := of_decide_eq_true hc1; simp only at this; omega
    refine vc_skip ?_
    refine vc_seq ?_
    refine vc_block ?_
    refine vc_seq ?_
    refine vc_straight tyOK false [0, 1, 2, 3] rfl 57 89 rfl rfl ?_
    refine And.intro trivial ?_
    refine reg_name rfl rfl rfl rfl ?_ (fun v hv => ?_)
    · exact (by omega)
    replace hv := hv.symm.trans (W_get hi4)
    subst hv
    iterate 2 refine And.intro trivial ?_
    refine vc_seq ?_
    refine vc_straight tyOK false [0] rfl 89 97 rfl rfl ?_
    refine And.intro trivial ?_
    refine vc_seq ?_
    refine vc_seq ?_
    refine vc_straight tyOK false [0, 1] rfl 97 113 rfl rfl ?_
    refine And.intro trivial ?_
    refine And.intro trivial ?_
    refine vc_block ?_
    refine vc_loop (MulI x y i) (mulI m x y i) (fun q => 4 - q.1) (0, t, 0) (mulI_0 h1) (ent_mk rfl ⟨rfl, rfl, rfl, rfl, rfl, rfl, rfl, rfl, rfl, rfl, rfl, trivial⟩ ⟨rfl, rfl, rfl, rfl, trivial⟩ rfl) ?_
    intro ⟨k, u, c⟩ h2
    have hk := h2.le
    refine vc_seq ?_
    refine vc_straight tyOK false [0] rfl 113 121 rfl rfl ?_
    refine And.intro rfl ?_
    refine vc_seq ?_
    refine vc_if rfl (fun hc2 => ?_) (fun hc2 => ?_)
    · have hk4 : k < 4 := by have := of_decide_eq_true hc2; simp only at this; omega
      have qm := (mac (a := dig B64 x i) (b := dig B64 y k) (t := u (i + k)) (c := c) (dig_lt B64_pos _ _) (dig_lt B64_pos _ _) (h2.lt _) h2.c)
      refine vc_skip ?_
      refine vc_seq ?_
      refine vc_block ?_
      refine vc_seq ?_
      refine vc_straight tyOK false [0, 1, 2, 3] rfl 121 153 rfl rfl ?_
      refine And.intro trivial ?_
      refine reg_name rfl rfl rfl rfl ?_ (fun v hv => ?_)
      · exact (by omega)
      replace hv := hv.symm.trans (W_get hk4)
      subst hv
      iterate 2 refine And.intro trivial ?_
      refine vc_seq ?_
      refine vc_straight tyOK false [0, 1, 2, 3, 4, 5, 6, 7] rfl 153 217 rfl rfl ?_
      iterate 2 refine And.intro trivial ?_
      refine mul64_vc (dig B64 x i) (dig B64 y k) (dig_lt B64_pos _ _) (dig_lt B64_pos _ _) ?_
      iterate 5 refine And.intro trivial ?_
      refine vc_seq ?_
      refine vc_straight tyOK false [0] rfl 217 225 rfl rfl ?_
      refine And.intro trivial ?_
      refine vc_seq ?_
      refine vc_straight tyOK false [0, 1, 2, 3, 4, 5, 6, 7] rfl 225 289 rfl rfl ?_
      iterate 2 refine And.intro trivial ?_
      refine add64_vc (x := dig B64 x i * dig B64 y k % B64) (y := c) (c := 0) (by omega) ?_
      iterate 5 refine And.intro trivial ?_
      refine vc_seq ?_
      refine vc_straight tyOK false [0, 1, 2, 3] rfl 289 321 rfl rfl ?_
      iterate 2 refine And.intro trivial ?_
      refine reg_name rfl rfl rfl rfl ?_ (fun v hv => ?_)
      · exact (by exact rfl)
      replace hv := hv.symm.trans (u64i _ (addN _ _) qm.hi)
      subst hv
      refine And.intro trivial ?_
      refine vc_seq ?_
      refine vc_straight tyOK false [0, 1, 2, 3, 4, 5, 6, 7, 8, 9, 10, 11, 12, 13, 14, 15] rfl 321 449 rfl rfl ?_
      iterate 2 refine And.intro trivial ?_
      refine reg_name rfl rfl rfl rfl ?_ (fun v hv => ?_)
      · exact (by exact rfl)
      replace hv := hv.symm.trans (i64n (i + k) (addN _ _) (by omega))
      subst hv
      iterate 2 refine And.intro trivial ?_
      refine reg_name rfl rfl rfl rfl ?_ (fun v hv => ?_)
      · exact (by exact rfl)
      replace hv := hv.symm.trans (i64n (i + k) (addN _ _) (by omega))
      subst hv
      refine And.intro (by omega) ?_
      refine reg_name rfl rfl rfl rfl ?_ (fun v hv => ?_)
      · exact (by omega)
      replace hv := hv.symm.trans (cells_get (i := i + k) (by omega))
      subst hv
      refine And.intro trivial ?_
      refine add64_vc (x := u (i + k)) (y := (dig B64 x i * dig B64 y k % B64 + c) % B64) (c := 0) (by omega) ?_
      iterate 3 refine And.intro trivial ?_
      iterate 2 refine And.intro (by first | omega | exact ⟨by omega, rfl, rfl⟩) ?_
      refine And.intro trivial ?_
      refine vc_straight tyOK false [0, 1, 2, 3] rfl 449 481 rfl rfl ?_
      iterate 2 refine And.intro trivial ?_
      refine reg_name rfl rfl rfl rfl ?_ (fun v hv => ?_)
      · exact (by exact rfl)
      replace hv := hv.symm.trans (u64i _ (addN _ _) qm.hj)
      subst hv
      refine And.intro trivial ?_
      refine vc_straight tyOK false [0, 1] rfl 481 497 rfl rfl ?_
      refine And.intro rfl ?_
      refine And.intro trivial ?_
      refine ⟨(k + 1, chg u (i + k) ((u (i + k) + dig B64 x i * dig B64 y k + c) % B64), (u (i + k) + dig B64 x i * dig B64 y k + c) / B64), mulI_step hi4 hk4 h2, ent_mk rfl ⟨rfl, rfl, rfl, rfl, rfl, rfl, slot_int (by rw [← qm.up]; rfl), rfl, rfl, rfl, slot_int (wrap_i64 (by omega) (by omega)), trivial⟩ ⟨rfl, rfl, rfl, blk_many (mac_set qm rfl), trivial⟩ rfl, by show 4 - (k + 1) < 4 - k; omega⟩
    · obtain rfl : k = 4 := by have := of_decide_eq_false hc2; simp only at this hk; omega
      refine vc_exit ?_
      refine vc_straight tyOK false [0, 1, 2, 3, 4] rfl 497 537 rfl rfl ?_
      refine And.intro trivial ?_
      refine reg_name rfl rfl rfl rfl ?_ (fun v hv => ?_)
      · exact (by exact rfl)
      replace hv := hv.symm.trans (i64n (i + 4) (addN _ _) (by omega))
      subst hv
      refine And.intro trivial ?_
      iterate 2 refine And.intro (by first | omega | exact ⟨by omega, rfl, rfl⟩) ?_
      refine vc_straight tyOK false [0, 1] rfl 537 553 rfl rfl ?_
      refine And.intro rfl ?_
      refine And.intro trivial ?_
      refine ⟨(i + 1, chg u (i + 4) c), mulO_step hi4 hy h2, ent_mk rfl ⟨rfl, rfl, rfl, rfl, rfl, slot_int (wrap_i64 (by omega) (by omega)), trivial⟩ ⟨rfl, rfl, rfl, blk_many chg_set, trivial⟩ rfl, by show 4 - (i + 1) < 4 - i; omega⟩
  · obtain rfl : i = 4 := by have := of_decide_eq_false hc1; simp only at this hi; omega
    refine vc_exit ?_
    refine vc_seq ?_
    refine vc_straight tyOK false [0, 1, 2, 3] rfl 553 585 rfl rfl ?_
    refine And.intro trivial ?_
    refine And.intro trivial ?_
    refine f_fold_vc m t hm h1.lt ⟨_, _, rfl, part_all⟩ ?_
    refine And.intro (by exact ⟨trivial, rfl⟩) ?_
    refine vc_ret ?_
    refine And.intro (by first | exact trivial | exact ⟨trivial, trivial⟩ | exact ⟨trivial, trivial, trivial⟩) ?_
    show [SV.g [CV.many 4 (W (num B64 t 8 % m))]] = _
    rw [mulO_end hx h1]
theorem f_mul_vc (m x y : Nat) {k off : Nat} (hm : Mo m) (hx : x < R) (hy : y < R) {eff : Bool} {σ : SSt} {nm : Nat} {K : SSt → SS → Prop} (hv0 : Has σ (k) (off) (Fl m)) (hk : K σ (.one ((.g [.many 4 (W (x * y % m))])))) : CallVC Go.Proofs.Try.prog eff (.fn 42) [(.p k off), (.g [.many 4 (W (x))]), (.g [.many 4 (W (y))])] σ nm K := by
  exact call_fn1 (args := [(.p 0 0), (.g [.many 4 (W (x))]), (.g [.many 4 (W (y))])]) (res := [(.g [.many 4 (W (x * y % m))])]) tyOK Go.Proofs.Try.func42 (c := (Go.Proofs.Try.f42).body.getD .skip) rfl (by kernel_rfl) (rs := [.cell 6 69]) rfl [(k, off, (Fl m))] (Nat.le_of_ble_eq_true rfl) (okAll_mem (by repeat first | exact trivial | exact okC_nil | refine okMany ?_ ?_ | refine okOne ?_ ?_ | exact W_cv _ | exact V_cv _ | exact Dd_cv _ | exact cells_cv _ _ _ | (show (_ : Nat) < _; exact (Nat.le_of_ble_eq_true rfl)) | exact rfl | refine And.intro ?_ ?_)) (by repeat first | exact plain_nil | exact okC_nil | refine plain_v ?_ | refine plain_g ?_ ?_ | refine okMany ?_ ?_ | refine okOne ?_ ?_ | exact rfl | exact W_cv _ | exact V_cv _ | exact Dd_cv _ | exact cells_cv _ _ _ | exact okPt _) (fun w => f_mul_walk m x y hm hx hy w) ⟨hv0, (by repeat first | exact okC_nil | refine okMany ?_ ?_ | refine okOne ?_ ?_ | exact rfl | exact W_cv _ | exact V_cv _ | exact Dd_cv _ | exact cells_cv _ _ _ | exact okPt _), trivial⟩ (fun ρ => by first | rfl | (simp [SV.den, viewRho, Nat.add_assoc]; done) | (simp [SV.den, viewRho, Nat.add_assoc]; rfl)) hk
/-! f.pow(x, e) -/
def powSt (m x e j : Nat) : SSt := mkSt [(0, .one (.p 0 0)), (4, .one (.p 1 0)), (5, .one (.p 9 0)), (6, .one (.p 17 0)), (7, .one (.p 33 0)), (8, .one (.v (.int .i64 (255 - (j : Int)))))]
  [(0, ⟨Fl m, false⟩), (1, ⟨[.many 4 (W x)], true⟩), (9, ⟨[.many 4 (W e)], true⟩), (17, ⟨[.many 4 (List.replicate 4 (.int .u64 0))], true⟩), (33, ⟨[.many 4 (W (pwGo m x e j))], true⟩)] 57 32
theorem f_pow_walk (m x e : Nat) (hm : Mo m) (hx : x < R) (w : World) : VC Go.Proofs.Try.prog (fun _ => False) w ((Go.Proofs.Try.f69).body.getD .skip) (mkSt (argSlots 0 [(.p 0 0), (.g [.many 4 (W (x))]), (.g [.many 4 (W (e))])]) [(0, ⟨(Fl m), false⟩)] 1 32) (endS Γ [.cell 6 69] (fun _ r => r = [(.g [.many 4 (W (pw m x e))])])) := by
  unfold Go.Proofs.Try.f69
  dsimp only [Option.getD]
  refine vc_seq ?_
  refine vc_straight tyOK false [0, 1, 2] rfl 1 25 rfl rfl ?_
  iterate 2 refine And.intro trivial ?_
  refine And.intro trivial ?_
  refine vc_seq ?_
  refine vc_straight tyOK false [0, 1, 2] rfl 25 49 rfl rfl ?_
  refine And.intro (by decide) ?_
  refine And.intro trivial ?_
  refine And.intro (by exact ⟨trivial, rfl⟩) ?_
  refine vc_seq ?_
  refine vc_seq ?_
  refine vc_straight tyOK false [0] rfl 49 57 rfl rfl ?_
  refine And.intro trivial ?_
  refine vc_block ?_
  refine vc_loop (fun j : Nat => j ≤ 256) (powSt m x e) (fun j => 256 - j) 0 (by omega) (ent_mk rfl ⟨rfl, rfl, rfl, rfl, rfl, slot_int (by omega), trivial⟩ ⟨rfl, rfl, rfl, rfl, blk_many W_1, trivial⟩ rfl) ?_
  intro j hj
  refine vc_seq ?_
  refine vc_seq ?_
  refine vc_straight tyOK false [0, 1] rfl 57 73 rfl rfl ?_
  refine And.intro trivial ?_
  refine And.intro rfl ?_
  refine vc_if rfl (fun hc1 => ?_) (fun hc1 => ?_)
  · obtain ⟨i, hi⟩ : ∃ i : Nat, 255 - (j : Int) = (i : Int) := ⟨255 - j, by have := of_decide_eq_true hc1; omega⟩
    have hji : 255 - j = i := by omega
    have hb := bit_word e i
    have hj' : j < 256 := by omega
    refine vc_skip ?_
    refine vc_seq ?_
    refine vc_block ?_
    refine vc_seq ?_
    refine vc_straight tyOK false [0, 1, 2, 3, 4] rfl 73 113 rfl rfl ?_
    refine And.intro trivial ?_
    iterate 2 refine And.intro trivial ?_
    refine f_mul_vc m (pwGo m x e j) (pwGo m x e j) hm (pwGo_ltR hm _ _ _) (pwGo_ltR hm _ _ _) ⟨_, _, rfl, part_all⟩ ?_
    refine And.intro (by exact ⟨trivial, rfl⟩) ?_
    refine vc_seq ?_
    refine vc_straight tyOK false [0, 1, 2, 3, 4, 5, 6, 7, 8] rfl 113 185 rfl rfl ?_
    refine And.intro trivial ?_
    refine reg_name rfl rfl rfl rfl ?_ (fun v hv => ?_)
    · exact (by decide)
    replace hv := hv.symm.trans (i64n (i / 64) (by rw [hi]; exact tdivn i 64) (by omega))
    subst hv
    refine And.intro (by omega) ?_
    refine reg_name rfl rfl rfl rfl ?_ (fun v hv => ?_)
    · exact (by omega)
    replace hv := hv.symm.trans (W_get (i := i / 64) (by omega))
    subst hv
    refine And.intro trivial ?_
    refine reg_name rfl rfl rfl rfl ?_ (fun v hv => ?_)
    · exact (by decide)
    replace hv := hv.symm.trans (intn (i % 64) (by rw [hi]; exact tmodn i 64))
    subst hv
    refine reg_name rfl rfl rfl rfl ?_ (fun v hv => ?_)
    · exact (by omega)
    replace hv := hv.symm.trans (intn (dig B64 e (i / 64) / 2 ^ (i % 64)) (shr64 _ _ (by omega)))
    subst hv
    refine reg_name rfl rfl rfl rfl ?_ (fun v hv => ?_)
    · exact (by exact rfl)
    replace hv := hv.symm.trans (intn _ (and_1 (Nat.lt_of_le_of_lt (Nat.div_le_self _ _) (dig_lt B64_pos _ _))))
    subst hv
    refine And.intro rfl ?_
    refine vc_if rfl (fun hc2 => ?_) (fun hc2 => ?_)
    · have hbit : e / 2 ^ i % 2 = 1 := hb ▸ beqn 1 hc2
      refine vc_straight tyOK false [0, 1, 2, 3, 4] rfl 185 225 rfl rfl ?_
      refine And.intro trivial ?_
      iterate 2 refine And.intro trivial ?_
      refine f_mul_vc m (pwGo m x e j * pwGo m x e j % m) x hm (mod_ltR hm _) hx ⟨_, _, rfl, part_all⟩ ?_
      refine And.intro (by exact ⟨trivial, rfl⟩) ?_
      refine vc_straight tyOK false [0, 1, 2] rfl 225 249 rfl rfl ?_
      refine And.intro trivial ?_
      refine And.intro rfl ?_
      refine And.intro trivial ?_
      refine ⟨j + 1, by omega, ent_mk rfl ⟨rfl, rfl, rfl, rfl, rfl, slot_int ((wrap_i64 (by omega) (by omega)).trans (by omega)), trivial⟩ ⟨rfl, rfl, rfl, rfl, blk_many (congrArg W (by rw [pwGo_step hji]; first | rw [if_pos hbit] | rw [if_neg hbit])), trivial⟩ rfl, by show 256 - (j + 1) < 256 - j; omega⟩
    · have hbit : ¬ e / 2 ^ i % 2 = 1 := hb ▸ nbeqn 1 hc2
      refine vc_skip ?_
      refine vc_straight tyOK false [0, 1, 2] rfl 225 249 rfl rfl ?_
      refine And.intro trivial ?_
      refine And.intro rfl ?_
      refine And.intro trivial ?_
      refine ⟨j + 1, by omega, ent_mk rfl ⟨rfl, rfl, rfl, rfl, rfl, slot_int ((wrap_i64 (by omega) (by omega)).trans (by omega)), trivial⟩ ⟨rfl, rfl, rfl, rfl, blk_many (congrArg W (by rw [pwGo_step hji]; first | rw [if_pos hbit] | rw [if_neg hbit])), trivial⟩ rfl, by show 256 - (j + 1) < 256 - j; omega⟩
  · obtain rfl : j = 256 := by have := of_decide_eq_false hc1; omega
    refine vc_exit ?_
    refine vc_seq ?_
    refine vc_straight tyOK false [0, 1] rfl 249 265 rfl rfl ?_
    iterate 2 refine And.intro (by first | exact trivial | exact ⟨trivial, rfl⟩) ?_
    refine vc_ret ?_
    refine And.intro (by first | exact trivial | exact ⟨trivial, trivial⟩ | exact ⟨trivial, trivial, trivial⟩) ?_
    rfl
theorem f_pow_vc (m x e : Nat) {k off : Nat} (hm : Mo m) (hx : x < R) {eff : Bool} {σ : SSt} {nm : Nat} {K : SSt → SS → Prop} (hv0 : Has σ (k) (off) (Fl m)) (hk : K σ (.one ((.g [.many 4 (W (pw m x e))])))) : CallVC Go.Proofs.Try.prog eff (.fn 69) [(.p k off), (.g [.many 4 (W (x))]), (.g [.many 4 (W (e))])] σ nm K := by
  exact call_fn1 (args := [(.p 0 0), (.g [.many 4 (W (x))]), (.g [.many 4 (W (e))])]) (res := [(.g [.many 4 (W (pw m x e))])]) tyOK Go.Proofs.Try.func69 (c := (Go.Proofs.Try.f69).body.getD .skip) rfl (by kernel_rfl) (rs := [.cell 6 69]) rfl [(k, off, (Fl m))] (Nat.le_of_ble_eq_true rfl) (okAll_mem (by repeat first | exact trivial | exact okC_nil | refine okMany ?_ ?_ | refine okOne ?_ ?_ | exact W_cv _ | exact V_cv _ | exact Dd_cv _ | exact cells_cv _ _ _ | (show (_ : Nat) < _; exact (Nat.le_of_ble_eq_true rfl)) | exact rfl | refine And.intro ?_ ?_)) (by repeat first | exact plain_nil | exact okC_nil | refine plain_v ?_ | refine plain_g ?_ ?_ | refine okMany ?_ ?_ | refine okOne ?_ ?_ | exact rfl | exact W_cv _ | exact V_cv _ | exact Dd_cv _ | exact cells_cv _ _ _ | exact okPt _) (fun w => f_pow_walk m x e hm hx w) ⟨hv0, (by repeat first | exact okC_nil | refine okMany ?_ ?_ | refine okOne ?_ ?_ | exact rfl | exact W_cv _ | exact V_cv _ | exact Dd_cv _ | exact cells_cv _ _ _ | exact okPt _), trivial⟩ (fun ρ => by first | rfl | (simp [SV.den, viewRho, Nat.add_assoc]; done) | (simp [SV.den, viewRho, Nat.add_assoc]; rfl)) hk
/-! f.inverse(x) -/
theorem f_inv_walk (m x : Nat) (hm : Mo m) (hx : x < R) (w : World) : VC Go.Proofs.Try.prog (fun _ => False) w ((Go.Proofs.Try.f40).body.getD .skip) (mkSt (argSlots 0 [(.p 0 0), (.g [.many 4 (W (x))])]) [(0, ⟨(Fl m), false⟩)] 1 20) (endS Γ [.cell 4 69] (fun _ r => r = [(.g [.many 4 (W (pw m x (m - 2)))])])) := by
  unfold Go.Proofs.Try.f40
  dsimp only [Option.getD]
  refine vc_seq ?_
  refine vc_straight tyOK false [0, 1] rfl 1 17 rfl rfl ?_
  refine And.intro trivial ?_
  refine And.intro trivial ?_
  refine vc_seq ?_
  refine vc_straight tyOK false [0, 1, 2, 3, 4, 5, 6, 7, 8, 9, 10, 11] rfl 17 113 rfl rfl ?_
  iterate 2 refine And.intro trivial ?_
  iterate 3 refine And.intro (by first | exact trivial | decide) ?_
  show CallVC _ _ _ [.g [.many 4 (W m)], .g [.many 4 (W 2)]] _ _ _
  refine num_sub_vc m 2 hm.lt (by decide) ?_
  iterate 4 refine And.intro trivial ?_
  refine And.intro (by exact ⟨trivial, rfl⟩) ?_
  refine And.intro trivial ?_
  refine vc_seq ?_
  refine vc_straight tyOK false [0, 1, 2, 3, 4] rfl 113 153 rfl rfl ?_
  refine And.intro trivial ?_
  iterate 2 refine And.intro trivial ?_
  rw [show (m + R - 2) % R = m - 2 from by have := hm.lt; have := hm.two; unfold R at *; omega]
  refine f_pow_vc m x (m - 2) hm hx ⟨_, _, rfl, part_all⟩ ?_
  refine And.intro (by exact ⟨trivial, rfl⟩) ?_
  refine vc_ret ?_
  refine And.intro (by first | exact trivial | exact ⟨trivial, trivial⟩ | exact ⟨trivial, trivial, trivial⟩) ?_
  rfl
theorem f_inv_vc (m x : Nat) {k off : Nat} (hm : Mo m) (hx : x < R) {eff : Bool} {σ : SSt} {nm : Nat} {K : SSt → SS → Prop} (hv0 : Has σ (k) (off) (Fl m)) (hk : K σ (.one ((.g [.many 4 (W (pw m x (m - 2)))])))) : CallVC Go.Proofs.Try.prog eff (.fn 40) [(.p k off), (.g [.many 4 (W (x))])] σ nm K := by
  exact call_fn1 (args := [(.p 0 0), (.g [.many 4 (W (x))])]) (res := [(.g [.many 4 (W (pw m x (m - 2)))])]) tyOK Go.Proofs.Try.func40 (c := (Go.Proofs.Try.f40).body.getD .skip) rfl (by kernel_rfl) (rs := [.cell 4 69]) rfl [(k, off, (Fl m))] (Nat.le_of_ble_eq_true rfl) (okAll_mem (by repeat first | exact trivial | exact okC_nil | refine okMany ?_ ?_ | refine okOne ?_ ?_ | exact W_cv _ | exact V_cv _ | exact Dd_cv _ | exact cells_cv _ _ _ | (show (_ : Nat) < _; exact (Nat.le_of_ble_eq_true rfl)) | exact rfl | refine And.intro ?_ ?_)) (by repeat first | exact plain_nil | exact okC_nil | refine plain_v ?_ | refine plain_g ?_ ?_ | refine okMany ?_ ?_ | refine okOne ?_ ?_ | exact rfl | exact W_cv _ | exact V_cv _ | exact Dd_cv _ | exact cells_cv _ _ _ | exact okPt _) (fun w => f_inv_walk m x hm hx w) ⟨hv0, (by repeat first | exact okC_nil | refine okMany ?_ ?_ | refine okOne ?_ ?_ | exact rfl | exact W_cv _ | exact V_cv _ | exact Dd_cv _ | exact cells_cv _ _ _ | exact okPt _), trivial⟩ (fun ρ => by first | rfl | (simp [SV.den, viewRho, Nat.add_assoc]; done) | (simp [SV.den, viewRho, Nat.add_assoc]; rfl)) hk
end Go.Proofs.Ythjpppgibdfaeaa
