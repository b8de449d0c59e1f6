/- YthjpppgibdfaeaaCvRMul: a part of the proof: lemmas alone, of no statement. -/
import Derived.Test.YthjpppgibdfaeaaCvRNum
/- The reference's numbers modulo m: what is wide is brought below m; sums, products, powers. -/
namespace Go.Proofs.Ythjpppgibdfaeaa
open Go Go.SX Cv Go.RowKit Go.Lib
set_option maxRecDepth 100000
theorem hiB_f {t : Nat → Nat} {i : Nat} (h : hiB t i = false) : (((t (8 + i) : Nat) : Int) != 0) = hiB t (i + 1) := by
  rw [hiB_step, h, Bool.false_or, Bool.eq_iff_iff]; simp
theorem hiB_t {t : Nat → Nat} {i : Nat} (h : hiB t i = true) : true = hiB t (i + 1) := by rw [hiB_step, h]; rfl
def redO (m : Nat) (q : Nat × (Nat → Nat)) : SSt := mkSt [(2, .one (.p 0 0)), (3, .one (.p 8 0)), (4, .one (.p 16 0)), (5, .one (.p 48 0)), (6, .one (.v (.int .i64 (q.1 : Nat))))]
  [(0, ⟨[.many 17 (cells .u32 17 (q.2))], true⟩), (8, ⟨[.many 8 (V m)], true⟩), (16, ⟨[.many 8 (List.replicate 8 (.int .u32 0))], true⟩), (48, ⟨[.many 8 (V (R - m))], true⟩)] 72 137
def redScan (m k : Nat) (t : Nat → Nat) (i : Nat) : SSt := mkSt [(2, .one (.p 0 0)), (3, .one (.p 8 0)), (4, .one (.p 16 0)), (5, .one (.p 48 0)), (6, .one (.v (.int .i64 (k : Nat)))), (7, .one (.v (.bool (hiB t i)))), (8, .one (.v (.int .i64 ((8 + i : Nat) : Int))))]
  [(0, ⟨[.many 17 (cells .u32 17 (t))], true⟩), (8, ⟨[.many 8 (V m)], true⟩), (16, ⟨[.many 8 (List.replicate 8 (.int .u32 0))], true⟩), (48, ⟨[.many 8 (V (R - m))], true⟩)] 104 137
def redLow (m k : Nat) (t : Nat → Nat) (i : Nat) : SSt := mkSt [(2, .one (.p 0 0)), (3, .one (.p 8 0)), (4, .one (.p 16 0)), (5, .one (.p 48 0)), (6, .one (.v (.int .i64 (k : Nat)))), (9, .one (.p 224 0)), (10, .one (.v (.int .i64 (i : Nat))))]
  [(0, ⟨[.many 17 (cells .u32 17 (t))], true⟩), (8, ⟨[.many 8 (V m)], true⟩), (16, ⟨[.many 8 (List.replicate 8 (.int .u32 0))], true⟩), (48, ⟨[.many 8 (V (R - m))], true⟩), (224, ⟨[.many 17 (cells .u32 17 (fun j => if j < i then t j else 0))], true⟩)] 240 137
def redI (m k : Nat) (t : Nat → Nat) (q : Nat × (Nat → Nat)) : SSt := mkSt [(2, .one (.p 0 0)), (3, .one (.p 8 0)), (4, .one (.p 16 0)), (5, .one (.p 48 0)), (6, .one (.v (.int .i64 (k : Nat)))), (9, .one (.p 224 0)), (11, .one (.v (.int .i64 ((8 + q.1 : Nat) : Int))))]
  [(0, ⟨[.many 17 (cells .u32 17 (t))], true⟩), (8, ⟨[.many 8 (V m)], true⟩), (16, ⟨[.many 8 (List.replicate 8 (.int .u32 0))], true⟩), (48, ⟨[.many 8 (V (R - m))], true⟩), (224, ⟨[.many 17 (cells .u32 17 (q.2))], true⟩)] 336 137
def redK (m k : Nat) (t : Nat → Nat) (i : Nat) (q : Nat × (Nat → Nat) × Nat) : SSt := mkSt [(2, .one (.p 0 0)), (3, .one (.p 8 0)), (4, .one (.p 16 0)), (5, .one (.p 48 0)), (6, .one (.v (.int .i64 (k : Nat)))), (9, .one (.p 224 0)), (11, .one (.v (.int .i64 ((8 + i : Nat) : Int)))), (12, .one (.v (.int .u64 (q.2.2 : Nat)))), (13, .one (.v (.int .i64 (q.1 : Nat))))]
  [(0, ⟨[.many 17 (cells .u32 17 (t))], true⟩), (8, ⟨[.many 8 (V m)], true⟩), (16, ⟨[.many 8 (List.replicate 8 (.int .u32 0))], true⟩), (48, ⟨[.many 8 (V (R - m))], true⟩), (224, ⟨[.many 17 (cells .u32 17 (q.2.1))], true⟩)] 368 137
def redC (m k : Nat) (t : Nat → Nat) (i : Nat) (q : Nat × (Nat → Nat) × Nat) : SSt := mkSt [(2, .one (.p 0 0)), (3, .one (.p 8 0)), (4, .one (.p 16 0)), (5, .one (.p 48 0)), (6, .one (.v (.int .i64 (k : Nat)))), (9, .one (.p 224 0)), (11, .one (.v (.int .i64 ((8 + i : Nat) : Int)))), (12, .one (.v (.int .u64 (q.2.2 : Nat)))), (15, .one (.v (.int .i64 (q.1 : Nat))))]
  [(0, ⟨[.many 17 (cells .u32 17 (t))], true⟩), (8, ⟨[.many 8 (V m)], true⟩), (16, ⟨[.many 8 (List.replicate 8 (.int .u32 0))], true⟩), (48, ⟨[.many 8 (V (R - m))], true⟩), (224, ⟨[.many 17 (cells .u32 17 (q.2.1))], true⟩)] 728 137
def redCopy (m : Nat) (t : Nat → Nat) (i : Nat) : SSt := mkSt [(2, .one (.p 0 0)), (3, .one (.p 8 0)), (4, .one (.p 16 0)), (17, .one (.p 984 0)), (18, .one (.v (.int .i64 (i : Nat))))]
  [(0, ⟨[.many 17 (cells .u32 17 (t))], true⟩), (8, ⟨[.many 8 (V m)], true⟩), (16, ⟨[.many 8 (List.replicate 8 (.int .u32 0))], true⟩), (984, ⟨[.many 8 (cells .u32 8 fun j => if j < i then t j else 0)], true⟩)] 1000 137
def redLess (m : Nat) (q : Nat × Nat) : SSt := mkSt [(3, .one (.p 8 0)), (4, .one (.p 16 0)), (17, .one (.p 984 0)), (19, .one (.v (.int .i64 (q.1 : Nat))))]
  [(8, ⟨[.many 8 (V m)], true⟩), (16, ⟨[.many 8 (List.replicate 8 (.int .u32 0))], true⟩), (984, ⟨[.many 8 (V q.2)], true⟩)] 1096 137
theorem r_reduce_walk (z : Nat → Nat) (m : Nat) (hm : Mo m) (hz : ∀ j, z j < B32) (w : World) : VC Go.Proofs.Try.prog (fun _ => False) w ((Go.Proofs.Try.f74).body.getD .skip) (mkSt (argSlots 0 [(.g [.many 17 (cells .u32 17 (z))]), (.g [.many 8 (V (m))])]) [] 0 137) (endS Γ [.cell 4 37] (fun _ r => r = [(.g [.many 8 (V (num B32 z 17 % m))])])) := by
  unfold Go.Proofs.Try.f74
  dsimp only [Option.getD]
  refine vc_seq ?_
  refine vc_straight tyOK false [0, 1, 2] rfl 0 24 rfl rfl ?_
  iterate 3 refine And.intro trivial ?_
  refine vc_seq ?_
  refine vc_straight tyOK false [0, 1, 2, 3, 4] rfl 24 64 rfl rfl ?_
  iterate 2 refine And.intro trivial ?_
  show CallVC _ _ _ [.g [.many 8 (V 0)], .g [.many 8 (V m)]] _ _ _
  refine r_minus_vc 0 m R_pos hm.lt ?_
  iterate 2 refine And.intro (by first | exact trivial | exact ⟨trivial, rfl⟩) ?_
  refine vc_seq ?_
  refine vc_seq ?_
  refine vc_straight tyOK false [0] rfl 64 72 rfl rfl ?_
  refine And.intro trivial ?_
  refine vc_block ?_
  refine vc_loop (RO (num B32 z 17) m) (redO m) (fun q => 6 - q.1) (0, z) (rO_0 hz) (ent_mk rfl ⟨rfl, rfl, rfl, rfl, rfl, trivial⟩ ⟨rfl, rfl, rfl, blk_many (congrArg V (by rw [Nat.zero_add, Nat.mod_eq_of_lt (Nat.sub_lt R_pos hm.pos)])), trivial⟩ rfl) ?_
  intro ⟨k, t⟩ h0
  have hk := h0.le
  simp only at hk
  refine vc_seq ?_
  refine vc_seq ?_
  refine vc_straight tyOK false [0, 1] rfl 72 88 rfl rfl ?_
  iterate 2 refine And.intro (by first | exact trivial | exact rfl) ?_
  refine vc_if rfl (fun hc1 => ?_) (fun hc1 => ?_)
  · have hk6 : k < 6 := by have := of_decide_eq_true hc1; simp only at this; omega
    refine vc_skip ?_
    refine vc_seq ?_
    refine vc_block ?_
    refine vc_seq ?_
    refine vc_straight tyOK false [0] rfl 88 96 rfl rfl ?_
    refine And.intro trivial ?_
    refine vc_seq ?_
    refine vc_seq ?_
    refine vc_straight tyOK false [0] rfl 96 104 rfl rfl ?_
    refine And.intro trivial ?_
    refine vc_block ?_
    refine vc_loop (fun i : Nat => i ≤ 9) (redScan m k t) (fun i => 9 - i) 0 (by omega) (ent_mk rfl ⟨rfl, rfl, rfl, rfl, rfl, slot_bool rfl, rfl, trivial⟩ ⟨rfl, rfl, rfl, rfl, trivial⟩ rfl) ?_
    intro i hi
    refine vc_seq ?_
    refine vc_seq ?_
    refine vc_straight tyOK false [0, 1] rfl 104 120 rfl rfl ?_
    iterate 2 refine And.intro (by first | exact trivial | exact rfl) ?_
    refine vc_if rfl (fun hc2 => ?_) (fun hc2 => ?_)
    · have hi9 : i < 9 := by have := of_decide_eq_true hc2; omega
      refine vc_skip ?_
      refine vc_seq ?_
      refine vc_block ?_
      refine vc_straight tyOK false [0, 1, 2, 3, 4, 5, 6, 7] rfl 120 184 rfl rfl ?_
      refine And.intro trivial ?_
      refine reg_bool rfl rfl rfl rfl (by exact trivial) (fun b hb1 => ?_)
      cases b with
      | false =>
        iterate 2 refine And.intro (by first | exact trivial | omega) ?_
        refine reg_name rfl rfl rfl rfl ?_ (fun v hv => ?_)
        · exact (by omega)
        replace hv := hv.symm.trans (cells_get (i := 8 + i) (by omega))
        subst hv
        iterate 3 refine And.intro (by first | exact trivial | exact rfl) ?_
        refine vc_straight tyOK false [0, 1, 2] rfl 184 208 rfl rfl ?_
        iterate 3 refine And.intro (by first | exact trivial | exact rfl) ?_
        refine ⟨i + 1, by omega, ent_mk rfl ⟨rfl, rfl, rfl, rfl, rfl, slot_bool (by first | exact hiB_f hb1 | exact hiB_t hb1), slot_int ((wrap_i64 (by omega) (by omega)).trans (by omega)), trivial⟩ ⟨rfl, rfl, rfl, rfl, trivial⟩ rfl, by show 9 - (i + 1) < 9 - i; omega⟩
      | true =>
        iterate 2 refine And.intro trivial ?_
        refine vc_straight tyOK false [0, 1, 2] rfl 184 208 rfl rfl ?_
        iterate 3 refine And.intro (by first | exact trivial | exact rfl) ?_
        refine ⟨i + 1, by omega, ent_mk rfl ⟨rfl, rfl, rfl, rfl, rfl, slot_bool (by first | exact hiB_f hb1 | exact hiB_t hb1), slot_int ((wrap_i64 (by omega) (by omega)).trans (by omega)), trivial⟩ ⟨rfl, rfl, rfl, rfl, trivial⟩ rfl, by show 9 - (i + 1) < 9 - i; omega⟩
    · obtain rfl : i = 9 := by have := of_decide_eq_false hc2; omega
      refine vc_exit ?_
      refine vc_seq ?_
      refine vc_seq ?_
      refine vc_straight tyOK false [0, 1] rfl 208 224 rfl rfl ?_
      iterate 2 refine And.intro trivial ?_
      refine vc_if rfl (fun hc3 => ?_) (fun hc3 => ?_)
      · have hend : num B32 (hi8 t) 9 = 0 ∨ k = 6 := .inl (by simpa [hiB] using hc3)
        refine vc_exit ?_
        refine vc_seq ?_
        refine vc_straight tyOK false [0] rfl 984 992 rfl rfl ?_
        refine And.intro trivial ?_
        refine vc_seq ?_
        refine vc_seq ?_
        refine vc_straight tyOK false [0] rfl 992 1000 rfl rfl ?_
        refine And.intro trivial ?_
        refine vc_block ?_
        refine vc_loop (fun i : Nat => i ≤ 8) (redCopy m t) (fun i => 8 - i) 0 (by omega) (ent_mk rfl ⟨rfl, rfl, rfl, rfl, rfl, trivial⟩ ⟨rfl, rfl, rfl, blk_many (cells_zero _ _), trivial⟩ rfl) ?_
        intro i hi
        refine vc_seq ?_
        refine vc_seq ?_
        refine vc_straight tyOK false [0, 1] rfl 1000 1016 rfl rfl ?_
        iterate 2 refine And.intro (by first | exact trivial | exact rfl) ?_
        refine vc_if rfl (fun hc4 => ?_) (fun hc4 => ?_)
        · have hi8 : i < 8 := by have := of_decide_eq_true hc4; omega
          refine vc_skip ?_
          refine vc_seq ?_
          refine vc_block ?_
          refine vc_straight tyOK false [0, 1, 2, 3, 4, 5] rfl 1016 1064 rfl rfl ?_
          iterate 3 refine And.intro (by first | exact trivial | omega) ?_
          refine reg_name rfl rfl rfl rfl ?_ (fun v hv => ?_)
          · exact (by omega)
          replace hv := hv.symm.trans (cells_get (by omega))
          subst hv
          iterate 2 refine And.intro (by first | omega | exact ⟨by omega, rfl, rfl⟩) ?_
          refine vc_straight tyOK false [0, 1, 2] rfl 1064 1088 rfl rfl ?_
          iterate 3 refine And.intro (by first | exact trivial | exact rfl) ?_
          refine ⟨i + 1, by omega, ent_mk rfl ⟨rfl, rfl, rfl, rfl, slot_int (wrap_i64 (by omega) (by omega)), trivial⟩ ⟨rfl, rfl, rfl, blk_many (step_cells _ rfl), trivial⟩ rfl, by show 8 - (i + 1) < 8 - i; omega⟩
        · obtain rfl : i = 8 := by have := of_decide_eq_false hc4; omega
          refine vc_exit ?_
          refine vc_seq ?_
          refine vc_seq ?_
          refine vc_straight tyOK false [0] rfl 1088 1096 rfl rfl ?_
          refine And.intro trivial ?_
          refine vc_block ?_
          refine vc_loop (RL (num B32 z 17) m) (redLess m) (fun q => 3 - q.1) (0, num B32 t 8) ⟨by omega, rO_ltR h0, rO_low h0 hend, fun h => absurd rfl h⟩ (ent_mk rfl ⟨rfl, rfl, rfl, rfl, trivial⟩ ⟨rfl, rfl, blk_many (cells_all.trans (V_of fun i _ => h0.lt i)), trivial⟩ rfl) ?_
          intro ⟨k, x⟩ h7
          have hk := h7.le
          simp only at hk
          refine vc_seq ?_
          refine vc_seq ?_
          refine vc_straight tyOK false [0, 1, 2, 3, 4, 5, 6, 7] rfl 1096 1160 rfl rfl ?_
          iterate 2 refine And.intro (by first | exact trivial | exact rfl) ?_
          refine reg_bool rfl rfl rfl rfl (by exact trivial) (fun b hb2 => ?_)
          cases b with
          | false =>
            have hk3 : ¬ k < 3 := by have := of_decide_eq_false hb2; simp only at this; omega
            refine And.intro trivial ?_
            refine vc_if rfl (fun hc5 => ?_) (fun hc5 => ?_)
            · cases hc5
            · obtain rfl : k = 3 := by omega
              have hx : x < m ∨ 3 = 3 := .inr rfl
              refine vc_exit ?_
              refine vc_seq ?_
              refine vc_straight tyOK false [0, 1] rfl 1216 1232 rfl rfl ?_
              iterate 2 refine And.intro (by first | exact trivial | exact ⟨trivial, rfl⟩) ?_
              refine vc_ret ?_
              refine And.intro (by first | exact trivial | exact ⟨trivial, trivial⟩ | exact ⟨trivial, trivial, trivial⟩) ?_
              rw [rL_end h7 hx]
          | true =>
            have hk3 : k < 3 := by have := of_decide_eq_true hb2; simp only at this; omega
            iterate 2 refine And.intro trivial ?_
            refine r_less_vc x m h7.lt hm.lt ?_
            iterate 2 refine And.intro trivial ?_
            refine vc_if rfl (fun hc6 => ?_) (fun hc6 => ?_)
            · have hx : ¬ x < m := by simpa using hc6
              refine vc_skip ?_
              refine vc_seq ?_
              refine vc_block ?_
              refine vc_straight tyOK false [0, 1, 2, 3] rfl 1160 1192 rfl rfl ?_
              iterate 2 refine And.intro trivial ?_
              refine r_minus_vc x m h7.lt hm.lt ?_
              refine And.intro (by exact ⟨trivial, rfl⟩) ?_
              refine vc_straight tyOK false [0, 1, 2] rfl 1192 1216 rfl rfl ?_
              iterate 3 refine And.intro (by first | exact trivial | exact rfl) ?_
              refine ⟨(k + 1, (x + R - m) % R), rL_step hm hk3 h7 hx, ent_mk rfl ⟨rfl, rfl, rfl, slot_int (wrap_i64 (by omega) (by omega)), trivial⟩ ⟨rfl, rfl, rfl, trivial⟩ rfl, by show 3 - (k + 1) < 3 - k; omega⟩
            · have hx : x < m ∨ k = 3 := .inl (by simpa using hc6)
              refine vc_exit ?_
              refine vc_seq ?_
              refine vc_straight tyOK false [0, 1] rfl 1216 1232 rfl rfl ?_
              iterate 2 refine And.intro (by first | exact trivial | exact ⟨trivial, rfl⟩) ?_
              refine vc_ret ?_
              refine And.intro (by first | exact trivial | exact ⟨trivial, trivial⟩ | exact ⟨trivial, trivial, trivial⟩) ?_
              rw [rL_end h7 hx]
      · have hne : num B32 (hi8 t) 9 ≠ 0 := by simpa [hiB] using hc3
        refine vc_skip ?_
        refine vc_seq ?_
        refine vc_straight tyOK false [0] rfl 224 232 rfl rfl ?_
        refine And.intro trivial ?_
        refine vc_seq ?_
        refine vc_seq ?_
        refine vc_straight tyOK false [0] rfl 232 240 rfl rfl ?_
        refine And.intro trivial ?_
        refine vc_block ?_
        refine vc_loop (fun i : Nat => i ≤ 8) (redLow m k t) (fun i => 8 - i) 0 (by omega) (ent_mk rfl ⟨rfl, rfl, rfl, rfl, rfl, rfl, rfl, trivial⟩ ⟨rfl, rfl, rfl, rfl, blk_many (cells_zero _ _), trivial⟩ rfl) ?_
        intro i hi
        refine vc_seq ?_
        refine vc_seq ?_
        refine vc_straight tyOK false [0, 1] rfl 240 256 rfl rfl ?_
        iterate 2 refine And.intro (by first | exact trivial | exact rfl) ?_
        refine vc_if rfl (fun hc7 => ?_) (fun hc7 => ?_)
        · have hi8 : i < 8 := by have := of_decide_eq_true hc7; omega
          refine vc_skip ?_
          refine vc_seq ?_
          refine vc_block ?_
          refine vc_straight tyOK false [0, 1, 2, 3, 4, 5] rfl 256 304 rfl rfl ?_
          iterate 3 refine And.intro (by first | exact trivial | omega) ?_
          refine reg_name rfl rfl rfl rfl ?_ (fun v hv => ?_)
          · exact (by omega)
          replace hv := hv.symm.trans (cells_get (by omega))
          subst hv
          iterate 2 refine And.intro (by first | omega | exact ⟨by omega, rfl, rfl⟩) ?_
          refine vc_straight tyOK false [0, 1, 2] rfl 304 328 rfl rfl ?_
          iterate 3 refine And.intro (by first | exact trivial | exact rfl) ?_
          refine ⟨i + 1, by omega, ent_mk rfl ⟨rfl, rfl, rfl, rfl, rfl, rfl, slot_int (wrap_i64 (by omega) (by omega)), trivial⟩ ⟨rfl, rfl, rfl, rfl, blk_many (step_cells _ rfl), trivial⟩ rfl, by show 8 - (i + 1) < 8 - i; omega⟩
        · obtain rfl : i = 8 := by have := of_decide_eq_false hc7; omega
          refine vc_exit ?_
          refine vc_seq ?_
          refine vc_seq ?_
          refine vc_straight tyOK false [0] rfl 328 336 rfl rfl ?_
          refine And.intro trivial ?_
          refine vc_block ?_
          refine vc_loop (RI m t) (redI m k t) (fun q => 9 - q.1) (0, lo8 t) (rI_0 m h0.lt) (ent_mk rfl ⟨rfl, rfl, rfl, rfl, rfl, rfl, rfl, trivial⟩ ⟨rfl, rfl, rfl, rfl, rfl, trivial⟩ rfl) ?_
          intro ⟨i, u⟩ h1
          have hi := h1.le
          simp only at hi
          refine vc_seq ?_
          refine vc_seq ?_
          refine vc_straight tyOK false [0, 1] rfl 336 352 rfl rfl ?_
          iterate 2 refine And.intro (by first | exact trivial | exact rfl) ?_
          refine vc_if rfl (fun hc8 => ?_) (fun hc8 => ?_)
          · have hi9 : i < 9 := by have := of_decide_eq_true hc8; simp only at this; omega
            refine vc_skip ?_
            refine vc_seq ?_
            refine vc_block ?_
            refine vc_seq ?_
            refine vc_straight tyOK false [0] rfl 352 360 rfl rfl ?_
            refine And.intro trivial ?_
            refine vc_seq ?_
            refine vc_seq ?_
            refine vc_straight tyOK false [0] rfl 360 368 rfl rfl ?_
            refine And.intro trivial ?_
            refine vc_block ?_
            refine vc_loop (RK m t i) (redK m k t i) (fun q => 8 - q.1) (0, u, 0) (rK_0 h1) (ent_mk rfl ⟨rfl, rfl, rfl, rfl, rfl, rfl, rfl, rfl, rfl, trivial⟩ ⟨rfl, rfl, rfl, rfl, rfl, trivial⟩ rfl) ?_
            intro ⟨j, g, c⟩ h2
            have hj := h2.le
            simp only at hj
            refine vc_seq ?_
            refine vc_seq ?_
            refine vc_straight tyOK false [0, 1, 2, 3, 4, 5, 6, 7, 8] rfl 368 440 rfl rfl ?_
            iterate 2 refine And.intro (by first | exact trivial | exact rfl) ?_
            refine reg_bool rfl rfl rfl rfl (by exact trivial) (fun b hb2 => ?_)
            cases b with
            | false =>
              obtain rfl : j = 8 := by have := of_decide_eq_false hb2; simp only at this; omega
              refine And.intro trivial ?_
              refine vc_if rfl (fun hc9 => ?_) (fun hc9 => ?_)
              · cases hc9
              · skip
                refine vc_exit ?_
                refine vc_seq ?_
                refine vc_straight tyOK false [0, 1] rfl 712 728 rfl rfl ?_
                iterate 2 refine And.intro trivial ?_
                refine vc_block ?_
                refine vc_loop (RC m t i) (redC m k t i) (fun q => 17 - q.1) (8 + i, g, c) (rC_0 hm hi9 h2) (ent_mk rfl ⟨rfl, rfl, rfl, rfl, rfl, rfl, rfl, rfl, rfl, trivial⟩ ⟨rfl, rfl, rfl, rfl, rfl, trivial⟩ rfl) ?_
                intro ⟨p, g, c⟩ h3
                have hp := h3.le
                simp only at hp
                refine vc_seq ?_
                refine vc_seq ?_
                refine vc_straight tyOK false [0, 1, 2, 3, 4, 5] rfl 728 776 rfl rfl ?_
                iterate 2 refine And.intro (by first | exact trivial | exact rfl) ?_
                refine reg_bool rfl rfl rfl rfl (by exact trivial) (fun b hb2 => ?_)
                cases b with
                | false =>
                  obtain rfl : p = 17 := by have := of_decide_eq_false hb2; simp only at this; omega
                  refine And.intro trivial ?_
                  refine vc_if rfl (fun hc10 => ?_) (fun hc10 => ?_)
                  · cases hc10
                  · skip
                    refine vc_exit ?_
                    refine vc_straight tyOK false [0, 1, 2] rfl 920 944 rfl rfl ?_
                    iterate 3 refine And.intro (by first | exact trivial | exact rfl) ?_
                    refine ⟨(i + 1, g), (by first | exact rI_step' hm h0.lt hi9 h3 | exact rI_step hi9 h3), ent_mk rfl ⟨rfl, rfl, rfl, rfl, rfl, rfl, slot_int ((wrap_i64 (by omega) (by omega)).trans (by omega)), trivial⟩ ⟨rfl, rfl, rfl, rfl, rfl, trivial⟩ rfl, by show 9 - (i + 1) < 9 - i; omega⟩
                | true =>
                  have hp17 : p < 17 := by have := of_decide_eq_true hb2; simp only at this; omega
                  iterate 3 refine And.intro (by first | exact trivial | exact rfl) ?_
                  refine vc_if rfl (fun hc11 => ?_) (fun hc11 => ?_)
                  · have hlt := h3.lt p
                    have hcl := h3.c
                    simp only at hlt hcl
                    refine vc_skip ?_
                    refine vc_seq ?_
                    refine vc_block ?_
                    refine vc_seq ?_
                    refine vc_straight tyOK false [0, 1, 2, 3, 4, 5, 6] rfl 776 832 rfl rfl ?_
                    iterate 2 refine And.intro (by first | exact trivial | omega) ?_
                    refine reg_name rfl rfl rfl rfl ?_ (fun v hv => ?_)
                    · exact (by omega)
                    replace hv := hv.symm.trans (cells_get (by omega))
                    subst hv
                    refine reg_name rfl rfl rfl rfl ?_ (fun v hv => ?_)
                    · exact (by exact trivial)
                    replace hv := hv.symm.trans (u64i (g p) rfl (Nat.lt_trans (hlt) (by decide)))
                    subst hv
                    refine And.intro trivial ?_
                    refine reg_name rfl rfl rfl rfl ?_ (fun v hv => ?_)
                    · exact (by exact rfl)
                    replace hv := hv.symm.trans (u64i (g p + c) (addN _ _) (by unfold B32 at hlt hcl; unfold B64; omega))
                    subst hv
                    refine And.intro trivial ?_
                    refine vc_seq ?_
                    refine vc_straight tyOK false [0, 1, 2, 3, 4] rfl 832 872 rfl rfl ?_
                    iterate 2 refine And.intro trivial ?_
                    refine reg_name rfl rfl rfl rfl ?_ (fun v hv => ?_)
                    · exact (by exact trivial)
                    replace hv := hv.symm.trans (u32n _ rfl)
                    subst hv
                    iterate 2 refine And.intro (by first | omega | exact ⟨by omega, rfl, rfl⟩) ?_
                    refine vc_straight tyOK false [0, 1, 2] rfl 872 896 rfl rfl ?_
                    refine And.intro trivial ?_
                    refine reg_name rfl rfl rfl rfl ?_ (fun v hv => ?_)
                    · exact (by decide)
                    replace hv := hv.symm.trans (intn _ (shr64 _ 32 (by omega)))
                    subst hv
                    refine And.intro trivial ?_
                    refine vc_straight tyOK false [0, 1, 2] rfl 896 920 rfl rfl ?_
                    iterate 3 refine And.intro (by first | exact trivial | exact rfl) ?_
                    refine ⟨(p + 1, chg g p ((g p + c) % B32), (g p + c) / B32), rC_step hp17 h3, ent_mk rfl ⟨rfl, rfl, rfl, rfl, rfl, rfl, rfl, rfl, slot_int (wrap_i64 (by omega) (by omega)), trivial⟩ ⟨rfl, rfl, rfl, rfl, blk_many chg_set, trivial⟩ rfl, by show 17 - (p + 1) < 17 - p; omega⟩
                  · obtain rfl : c = 0 := by have := of_decide_eq_false hc11; simp only at this; omega
                    refine vc_exit ?_
                    refine vc_straight tyOK false [0, 1, 2] rfl 920 944 rfl rfl ?_
                    iterate 3 refine And.intro (by first | exact trivial | exact rfl) ?_
                    refine ⟨(i + 1, g), (by first | exact rI_step' hm h0.lt hi9 h3 | exact rI_step hi9 h3), ent_mk rfl ⟨rfl, rfl, rfl, rfl, rfl, rfl, slot_int ((wrap_i64 (by omega) (by omega)).trans (by omega)), trivial⟩ ⟨rfl, rfl, rfl, rfl, rfl, trivial⟩ rfl, by show 9 - (i + 1) < 9 - i; omega⟩
            | true =>
              have hj8 : j < 8 := by have := of_decide_eq_true hb2; simp only at this; omega
              refine And.intro trivial ?_
              refine reg_name rfl rfl rfl rfl ?_ (fun v hv => ?_)
              · exact (by exact rfl)
              replace hv := hv.symm.trans (i64n i (by omega) (by omega))
              subst hv
              refine And.intro trivial ?_
              refine reg_name rfl rfl rfl rfl ?_ (fun v hv => ?_)
              · exact (by exact rfl)
              replace hv := hv.symm.trans (i64n (i + j) (addN _ _) (by omega))
              subst hv
              iterate 2 refine And.intro (by first | exact trivial | exact rfl) ?_
              refine vc_if rfl (fun hc12 => ?_) (fun hc12 => ?_)
              · have qm := mac32 (a := t (8 + i)) (b := dig B32 (R - m) j) (t := g (i + j)) (c := c) (h0.lt _) (dig_lt B32_pos _ _) (h2.lt _) h2.c
                refine vc_skip ?_
                refine vc_seq ?_
                refine vc_block ?_
                refine vc_seq ?_
                refine vc_drawn tyOK mixed false [0, 1, 2, 3, 4, 5, 6, 7, 8, 9, 10, 11, 12, 13, 14, 15, 16, 17, 18, 19] (by kernel_rfl) 440 600 rfl rfl ?_
                iterate 2 refine And.intro (by first | exact trivial | omega) ?_
                refine reg_name rfl rfl rfl rfl ?_ (fun v hv => ?_)
                · exact (by omega)
                replace hv := hv.symm.trans (cells_get (i := 8 + i) (by omega))
                subst hv
                refine reg_name rfl rfl rfl rfl ?_ (fun v hv => ?_)
                · exact (by exact trivial)
                replace hv := hv.symm.trans (u64i (t (8 + i)) rfl (Nat.lt_trans (h0.lt _) (by decide)))
                subst hv
                iterate 2 refine And.intro (by first | exact trivial | omega) ?_
                refine reg_name rfl rfl rfl rfl ?_ (fun v hv => ?_)
                · exact (by omega)
                replace hv := hv.symm.trans (V_get hj8)
                subst hv
                refine reg_name rfl rfl rfl rfl ?_ (fun v hv => ?_)
                · exact (by exact trivial)
                replace hv := hv.symm.trans (u64i (dig B32 (R - m) j) rfl (Nat.lt_trans (dig_lt B32_pos _ _) (by decide)))
                subst hv
                refine reg_name rfl rfl rfl rfl ?_ (fun v hv => ?_)
                · exact (by exact rfl)
                replace hv := hv.symm.trans (u64i _ (mulN _ _) qm.2.1)
                subst hv
                refine And.intro trivial ?_
                refine reg_name rfl rfl rfl rfl ?_ (fun v hv => ?_)
                · exact (by exact rfl)
                replace hv := hv.symm.trans (i64n i (by omega) (by omega))
                subst hv
                refine And.intro trivial ?_
                refine reg_name rfl rfl rfl rfl ?_ (fun v hv => ?_)
                · exact (by exact rfl)
                replace hv := hv.symm.trans (i64n (i + j) (addN _ _) (by omega))
                subst hv
                refine And.intro (by omega) ?_
                refine reg_name rfl rfl rfl rfl ?_ (fun v hv => ?_)
                · exact (by omega)
                replace hv := hv.symm.trans (cells_get (i := i + j) (by omega))
                subst hv
                refine reg_name rfl rfl rfl rfl ?_ (fun v hv => ?_)
                · exact (by exact trivial)
                replace hv := hv.symm.trans (u64i (g (i + j)) rfl (Nat.lt_trans (h2.lt _) (by decide)))
                subst hv
                refine reg_name rfl rfl rfl rfl ?_ (fun v hv => ?_)
                · exact (by exact rfl)
                replace hv := hv.symm.trans (u64i _ (addN _ _) qm.2.2.1)
                subst hv
                refine And.intro trivial ?_
                refine reg_name rfl rfl rfl rfl ?_ (fun v hv => ?_)
                · exact (by exact rfl)
                replace hv := hv.symm.trans (u64i _ (addN _ _) qm.1)
                subst hv
                refine And.intro trivial ?_
                refine vc_seq ?_
                refine vc_straight tyOK false [0, 1, 2, 3, 4, 5, 6, 7] rfl 600 664 rfl rfl ?_
                refine And.intro trivial ?_
                refine reg_name rfl rfl rfl rfl ?_ (fun v hv => ?_)
                · exact (by exact rfl)
                replace hv := hv.symm.trans (i64n i (by omega) (by omega))
                subst hv
                refine And.intro trivial ?_
                refine reg_name rfl rfl rfl rfl ?_ (fun v hv => ?_)
                · exact (by exact rfl)
                replace hv := hv.symm.trans (i64n (i + j) (addN _ _) (by omega))
                subst hv
                refine And.intro trivial ?_
                refine reg_name rfl rfl rfl rfl ?_ (fun v hv => ?_)
                · exact (by exact trivial)
                replace hv := hv.symm.trans (u32n _ rfl)
                subst hv
                iterate 2 refine And.intro (by first | omega | exact ⟨by omega, rfl, rfl⟩) ?_
                refine vc_straight tyOK false [0, 1, 2] rfl 664 688 rfl rfl ?_
                refine And.intro trivial ?_
                refine reg_name rfl rfl rfl rfl ?_ (fun v hv => ?_)
                · exact (by decide)
                replace hv := hv.symm.trans (intn _ (shr64 _ 32 (by omega)))
                subst hv
                refine And.intro trivial ?_
                refine vc_straight tyOK false [0, 1, 2] rfl 688 712 rfl rfl ?_
                iterate 3 refine And.intro (by first | exact trivial | exact rfl) ?_
                refine ⟨(j + 1, chg g (i + j) ((t (8 + i) * dig B32 (R - m) j + g (i + j) + c) % B32), (t (8 + i) * dig B32 (R - m) j + g (i + j) + c) / B32), rK_step hi9 hj8 h0.lt h2, ent_mk rfl ⟨rfl, rfl, rfl, rfl, rfl, rfl, rfl, rfl, slot_int (wrap_i64 (by omega) (by omega)), trivial⟩ ⟨rfl, rfl, rfl, rfl, blk_many chg_set, trivial⟩ rfl, by show 8 - (j + 1) < 8 - j; omega⟩
              · exact absurd (show ((i + j : Nat) : Int) < 17 by omega) (of_decide_eq_false hc12)
          · obtain rfl : i = 9 := by have := of_decide_eq_false hc8; simp only at this; omega
            refine vc_exit ?_
            refine vc_straight tyOK false [0, 1] rfl 944 960 rfl rfl ?_
            iterate 2 refine And.intro (by first | exact trivial | exact ⟨trivial, rfl⟩) ?_
            refine vc_straight tyOK false [0, 1, 2] rfl 960 984 rfl rfl ?_
            iterate 3 refine And.intro (by first | exact trivial | exact rfl) ?_
            refine ⟨(k + 1, u), rO_step hm hk6 h0 hne h1, ent_mk rfl ⟨rfl, rfl, rfl, rfl, slot_int (wrap_i64 (by omega) (by omega)), trivial⟩ ⟨rfl, rfl, rfl, rfl, trivial⟩ rfl, by show 6 - (k + 1) < 6 - k; omega⟩
  · obtain rfl : k = 6 := by have := of_decide_eq_false hc1; simp only at this; omega
    have hend : num B32 (hi8 t) 9 = 0 ∨ 6 = 6 := .inr rfl
    refine vc_exit ?_
    refine vc_seq ?_
    refine vc_straight tyOK false [0] rfl 984 992 rfl rfl ?_
    refine And.intro trivial ?_
    refine vc_seq ?_
    refine vc_seq ?_
    refine vc_straight tyOK false [0] rfl 992 1000 rfl rfl ?_
    refine And.intro trivial ?_
    refine vc_block ?_
    refine vc_loop (fun i : Nat => i ≤ 8) (redCopy m t) (fun i => 8 - i) 0 (by omega) (ent_mk rfl ⟨rfl, rfl, rfl, rfl, rfl, trivial⟩ ⟨rfl, rfl, rfl, blk_many (cells_zero _ _), trivial⟩ rfl) ?_
    intro i hi
    refine vc_seq ?_
    refine vc_seq ?_
    refine vc_straight tyOK false [0, 1] rfl 1000 1016 rfl rfl ?_
    iterate 2 refine And.intro (by first | exact trivial | exact rfl) ?_
    refine vc_if rfl (fun hc13 => ?_) (fun hc13 => ?_)
    · have hi8 : i < 8 := by have := of_decide_eq_true hc13; omega
      refine vc_skip ?_
      refine vc_seq ?_
      refine vc_block ?_
      refine vc_straight tyOK false [0, 1, 2, 3, 4, 5] rfl 1016 1064 rfl rfl ?_
      iterate 3 refine And.intro (by first | exact trivial | omega) ?_
      refine reg_name rfl rfl rfl rfl ?_ (fun v hv => ?_)
      · exact (by omega)
      replace hv := hv.symm.trans (cells_get (by omega))
      subst hv
      iterate 2 refine And.intro (by first | omega | exact ⟨by omega, rfl, rfl⟩) ?_
      refine vc_straight tyOK false [0, 1, 2] rfl 1064 1088 rfl rfl ?_
      iterate 3 refine And.intro (by first | exact trivial | exact rfl) ?_
      refine ⟨i + 1, by omega, ent_mk rfl ⟨rfl, rfl, rfl, rfl, slot_int (wrap_i64 (by omega) (by omega)), trivial⟩ ⟨rfl, rfl, rfl, blk_many (step_cells _ rfl), trivial⟩ rfl, by show 8 - (i + 1) < 8 - i; omega⟩
    · obtain rfl : i = 8 := by have := of_decide_eq_false hc13; omega
      refine vc_exit ?_
      refine vc_seq ?_
      refine vc_seq ?_
      refine vc_straight tyOK false [0] rfl 1088 1096 rfl rfl ?_
      refine And.intro trivial ?_
      refine vc_block ?_
      refine vc_loop (RL (num B32 z 17) m) (redLess m) (fun q => 3 - q.1) (0, num B32 t 8) ⟨by omega, rO_ltR h0, rO_low h0 hend, fun h => absurd rfl h⟩ (ent_mk rfl ⟨rfl, rfl, rfl, rfl, trivial⟩ ⟨rfl, rfl, blk_many (cells_all.trans (V_of fun i _ => h0.lt i)), trivial⟩ rfl) ?_
      intro ⟨k, x⟩ h7
      have hk := h7.le
      simp only at hk
      refine vc_seq ?_
      refine vc_seq ?_
      refine vc_straight tyOK false [0, 1, 2, 3, 4, 5, 6, 7] rfl 1096 1160 rfl rfl ?_
      iterate 2 refine And.intro (by first | exact trivial | exact rfl) ?_
      refine reg_bool rfl rfl rfl rfl (by exact trivial) (fun b hb2 => ?_)
      cases b with
      | false =>
        have hk3 : ¬ k < 3 := by have := of_decide_eq_false hb2; simp only at this; omega
        refine And.intro trivial ?_
        refine vc_if rfl (fun hc14 => ?_) (fun hc14 => ?_)
        · cases hc14
        · obtain rfl : k = 3 := by omega
          have hx : x < m ∨ 3 = 3 := .inr rfl
          refine vc_exit ?_
          refine vc_seq ?_
          refine vc_straight tyOK false [0, 1] rfl 1216 1232 rfl rfl ?_
          iterate 2 refine And.intro (by first | exact trivial | exact ⟨trivial, rfl⟩) ?_
          refine vc_ret ?_
          refine And.intro (by first | exact trivial | exact ⟨trivial, trivial⟩ | exact ⟨trivial, trivial, trivial⟩) ?_
          rw [rL_end h7 hx]
      | true =>
        have hk3 : k < 3 := by have := of_decide_eq_true hb2; simp only at this; omega
        iterate 2 refine And.intro trivial ?_
        refine r_less_vc x m h7.lt hm.lt ?_
        iterate 2 refine And.intro trivial ?_
        refine vc_if rfl (fun hc15 => ?_) (fun hc15 => ?_)
        · have hx : ¬ x < m := by simpa using hc15
          refine vc_skip ?_
          refine vc_seq ?_
          refine vc_block ?_
          refine vc_straight tyOK false [0, 1, 2, 3] rfl 1160 1192 rfl rfl ?_
          iterate 2 refine And.intro trivial ?_
          refine r_minus_vc x m h7.lt hm.lt ?_
          refine And.intro (by exact ⟨trivial, rfl⟩) ?_
          refine vc_straight tyOK false [0, 1, 2] rfl 1192 1216 rfl rfl ?_
          iterate 3 refine And.intro (by first | exact trivial | exact rfl) ?_
          refine ⟨(k + 1, (x + R - m) % R), rL_step hm hk3 h7 hx, ent_mk rfl ⟨rfl, rfl, rfl, slot_int (wrap_i64 (by omega) (by omega)), trivial⟩ ⟨rfl, rfl, rfl, trivial⟩ rfl, by show 3 - (k + 1) < 3 - k; omega⟩
        · have hx : x < m ∨ k = 3 := .inl (by simpa using hc15)
          refine vc_exit ?_
          refine vc_seq ?_
          refine vc_straight tyOK false [0, 1] rfl 1216 1232 rfl rfl ?_
          iterate 2 refine And.intro (by first | exact trivial | exact ⟨trivial, rfl⟩) ?_
          refine vc_ret ?_
          refine And.intro (by first | exact trivial | exact ⟨trivial, trivial⟩ | exact ⟨trivial, trivial, trivial⟩) ?_
          rw [rL_end h7 hx]
theorem r_reduce_vc (z : Nat → Nat) (m : Nat)  (hm : Mo m) (hz : ∀ j, z j < B32) {eff : Bool} {σ : SSt} {nm : Nat} {K : SSt → SS → Prop}  (hk : K σ (.one ((.g [.many 8 (V (num B32 z 17 % m))])))) : CallVC Go.Proofs.Try.prog eff (.fn 74) [(.g [.many 17 (cells .u32 17 (z))]), (.g [.many 8 (V (m))])] σ nm K := by
  exact call_plain (res := [(.g [.many 8 (V (num B32 z 17 % m))])]) tyOK Go.Proofs.Try.func74 (c := (Go.Proofs.Try.f74).body.getD .skip) rfl (by kernel_rfl) (rs := [.cell 4 37]) rfl (Nat.le_of_ble_eq_true rfl) (by repeat first | exact plain_nil | exact okC_nil | refine plain_v ?_ | refine plain_g ?_ ?_ | refine okMany ?_ ?_ | refine okOne ?_ ?_ | exact rfl | exact W_cv _ | exact V_cv _ | exact Dd_cv _ | exact cells_cv _ _ _ | exact okPt _) (by repeat first | exact plain_nil | exact okC_nil | refine plain_v ?_ | refine plain_g ?_ ?_ | refine okMany ?_ ?_ | refine okOne ?_ ?_ | exact rfl | exact W_cv _ | exact V_cv _ | exact Dd_cv _ | exact cells_cv _ _ _ | exact okPt _) (fun w => r_reduce_walk z m hm hz w) hk
def radd (x y m k : Nat) : SSt := mkSt [(3, .one (.p 0 0)), (4, .one (.p 8 0)), (5, .one (.p 16 0)), (6, .one (.p 24 0)), (7, .one (.p 32 0)), (8, .one (.v (.int .u64 (carry B32 (dig B32 x) (dig B32 y) 0 k : Nat)))), (9, .one (.v (.int .i64 (k : Nat))))]
  [(0, ⟨[.many 8 (V x)], true⟩), (8, ⟨[.many 8 (V y)], true⟩), (16, ⟨[.many 8 (V m)], true⟩), (24, ⟨[.many 8 (List.replicate 8 (.int .u32 0))], true⟩), (32, ⟨[.many 17 (cells .u32 17 (fun i => if i < k then sumd B32 (dig B32 x) (dig B32 y) 0 i else 0))], true⟩)] 56 38
theorem r_add_walk (x y m : Nat) (hm : Mo m) (hx : x < R) (hy : y < R) (w : World) : VC Go.Proofs.Try.prog (fun _ => False) w ((Go.Proofs.Try.f56).body.getD .skip) (mkSt (argSlots 0 [(.g [.many 8 (V (x))]), (.g [.many 8 (V (y))]), (.g [.many 8 (V (m))])]) [] 0 38) (endS Γ [.cell 6 37] (fun _ r => r = [(.g [.many 8 (V ((x + y) % m))])])) := by
  unfold Go.Proofs.Try.f56
  dsimp only [Option.getD]
  refine vc_seq ?_
  refine vc_straight tyOK false [0, 1, 2, 3] rfl 0 32 rfl rfl ?_
  iterate 4 refine And.intro trivial ?_
  refine vc_seq ?_
  refine vc_straight tyOK false [0] rfl 32 40 rfl rfl ?_
  refine And.intro trivial ?_
  refine vc_seq ?_
  refine vc_straight tyOK false [0] rfl 40 48 rfl rfl ?_
  refine And.intro trivial ?_
  refine vc_seq ?_
  refine vc_seq ?_
  refine vc_straight tyOK false [0] rfl 48 56 rfl rfl ?_
  refine And.intro trivial ?_
  refine vc_block ?_
  refine vc_loop (fun k : Nat => k ≤ 8) (radd x y m) (fun k => 8 - k) 0 (by omega) (ent_mk rfl ⟨rfl, rfl, rfl, rfl, rfl, rfl, rfl, trivial⟩ ⟨rfl, rfl, rfl, rfl, blk_many (cells_zero _ _), trivial⟩ rfl) ?_
  intro k hk
  refine vc_seq ?_
  refine vc_seq ?_
  refine vc_straight tyOK false [0, 1] rfl 56 72 rfl rfl ?_
  iterate 2 refine And.intro (by first | exact trivial | exact rfl) ?_
  refine vc_if rfl (fun hc1 => ?_) (fun hc1 => ?_)
  · have hk8 : k < 8 := by have := of_decide_eq_true hc1; omega
    have hck := carry_le B32_pos (x := dig B32 x) (y := dig B32 y) (c := 0) (n := 8) (fun i _ => dig_lt B32_pos _ _) (fun i _ => dig_lt B32_pos _ _) (by omega) k hk
    have hdx : dig B32 x k < 4294967296 := dig_lt B32_pos x k
    have hdy : dig B32 y k < 4294967296 := dig_lt B32_pos y k
    refine vc_skip ?_
    refine vc_seq ?_
    refine vc_block ?_
    refine vc_seq ?_
    refine vc_drawn tyOK mixed false [0, 1, 2, 3, 4, 5, 6, 7, 8, 9, 10, 11] (by kernel_rfl) 72 168 rfl rfl ?_
    iterate 2 refine And.intro (by first | exact trivial | omega) ?_
    refine reg_name rfl rfl rfl rfl ?_ (fun v hv => ?_)
    · exact (by omega)
    replace hv := hv.symm.trans (V_get hk8)
    subst hv
    refine reg_name rfl rfl rfl rfl ?_ (fun v hv => ?_)
    · exact (by exact trivial)
    replace hv := hv.symm.trans (u64i (dig B32 x k) rfl (Nat.lt_trans (dig_lt B32_pos _ _) (by decide)))
    subst hv
    iterate 2 refine And.intro (by first | exact trivial | omega) ?_
    refine reg_name rfl rfl rfl rfl ?_ (fun v hv => ?_)
    · exact (by omega)
    replace hv := hv.symm.trans (V_get hk8)
    subst hv
    refine reg_name rfl rfl rfl rfl ?_ (fun v hv => ?_)
    · exact (by exact trivial)
    replace hv := hv.symm.trans (u64i (dig B32 y k) rfl (Nat.lt_trans (dig_lt B32_pos _ _) (by decide)))
    subst hv
    refine reg_name rfl rfl rfl rfl ?_ (fun v hv => ?_)
    · exact (by exact rfl)
    replace hv := hv.symm.trans (u64i _ (addN _ _) (by unfold B64; omega))
    subst hv
    refine And.intro trivial ?_
    refine reg_name rfl rfl rfl rfl ?_ (fun v hv => ?_)
    · exact (by exact rfl)
    replace hv := hv.symm.trans (u64i _ (addN _ _) (by unfold B64; omega))
    subst hv
    refine And.intro trivial ?_
    refine vc_seq ?_
    refine vc_straight tyOK false [0, 1, 2, 3, 4] rfl 168 208 rfl rfl ?_
    iterate 2 refine And.intro trivial ?_
    refine reg_name rfl rfl rfl rfl ?_ (fun v hv => ?_)
    · exact (by exact trivial)
    replace hv := hv.symm.trans (u32n _ rfl)
    subst hv
    iterate 2 refine And.intro (by first | omega | exact ⟨by omega, rfl, rfl⟩) ?_
    refine vc_straight tyOK false [0, 1, 2] rfl 208 232 rfl rfl ?_
    refine And.intro trivial ?_
    refine reg_name rfl rfl rfl rfl ?_ (fun v hv => ?_)
    · exact (by decide)
    replace hv := hv.symm.trans (intn _ (shr64 _ 32 (by omega)))
    subst hv
    refine And.intro trivial ?_
    refine vc_straight tyOK false [0, 1, 2] rfl 232 256 rfl rfl ?_
    iterate 3 refine And.intro (by first | exact trivial | exact rfl) ?_
    refine ⟨k + 1, by omega, ent_mk rfl ⟨rfl, rfl, rfl, rfl, rfl, rfl, slot_int (wrap_i64 (by omega) (by omega)), trivial⟩ ⟨rfl, rfl, rfl, rfl, blk_many (step_cells _ rfl), trivial⟩ rfl, by show 8 - (k + 1) < 8 - k; omega⟩
  · obtain rfl : k = 8 := by have := of_decide_eq_false hc1; omega
    refine vc_exit ?_
    refine vc_seq ?_
    refine vc_straight tyOK false [0, 1, 2, 3] rfl 256 288 rfl rfl ?_
    refine And.intro trivial ?_
    refine reg_name rfl rfl rfl rfl ?_ (fun v hv => ?_)
    · exact (by exact trivial)
    replace hv := hv.symm.trans (u32i (carry B32 (dig B32 x) (dig B32 y) 0 8) rfl (sum9_lt x y 8))
    subst hv
    iterate 2 refine And.intro (by first | exact ⟨rfl, rfl⟩ | decide) ?_
    refine vc_seq ?_
    refine vc_as 32 _ rfl (sum9_blk x y true) ?_
    refine vc_straight tyOK false [0, 1, 2, 3] rfl 288 320 rfl rfl ?_
    iterate 2 refine And.intro trivial ?_
    refine r_reduce_vc (sum9 x y) m hm (sum9_lt x y) ?_
    refine And.intro (by exact ⟨trivial, rfl⟩) ?_
    refine vc_ret ?_
    refine And.intro (by first | exact trivial | exact ⟨trivial, trivial⟩ | exact ⟨trivial, trivial, trivial⟩) ?_
    show [SV.g [CV.many 8 (V (num B32 (sum9 x y) 17 % m))]] = _
    rw [sum9_num hx hy]
theorem r_add_vc (x y m : Nat)  (hm : Mo m) (hx : x < R) (hy : y < R) {eff : Bool} {σ : SSt} {nm : Nat} {K : SSt → SS → Prop}  (hk : K σ (.one ((.g [.many 8 (V ((x + y) % m))])))) : CallVC Go.Proofs.Try.prog eff (.fn 56) [(.g [.many 8 (V (x))]), (.g [.many 8 (V (y))]), (.g [.many 8 (V (m))])] σ nm K := by
  exact call_plain (res := [(.g [.many 8 (V ((x + y) % m))])]) tyOK Go.Proofs.Try.func56 (c := (Go.Proofs.Try.f56).body.getD .skip) rfl (by kernel_rfl) (rs := [.cell 6 37]) rfl (Nat.le_of_ble_eq_true rfl) (by repeat first | exact plain_nil | exact okC_nil | refine plain_v ?_ | refine plain_g ?_ ?_ | refine okMany ?_ ?_ | refine okOne ?_ ?_ | exact rfl | exact W_cv _ | exact V_cv _ | exact Dd_cv _ | exact cells_cv _ _ _ | exact okPt _) (by repeat first | exact plain_nil | exact okC_nil | refine plain_v ?_ | refine plain_g ?_ ?_ | refine okMany ?_ ?_ | refine okOne ?_ ?_ | exact rfl | exact W_cv _ | exact V_cv _ | exact Dd_cv _ | exact cells_cv _ _ _ | exact okPt _) (fun w => r_add_walk x y m hm hx hy w) hk
def rmulO (x y m : Nat) (q : Nat × (Nat → Nat)) : SSt := mkSt [(3, .one (.p 0 0)), (4, .one (.p 8 0)), (5, .one (.p 16 0)), (6, .one (.p 24 0)), (7, .one (.p 32 0)), (8, .one (.v (.int .i64 (q.1 : Nat))))]
  [(0, ⟨[.many 8 (V x)], true⟩), (8, ⟨[.many 8 (V y)], true⟩), (16, ⟨[.many 8 (V m)], true⟩), (24, ⟨[.many 8 (List.replicate 8 (.int .u32 0))], true⟩), (32, ⟨[.many 17 (cells .u32 17 (q.2))], true⟩)] 48 54
def rmulI (x y m i : Nat) (q : Nat × (Nat → Nat) × Nat) : SSt := mkSt [(3, .one (.p 0 0)), (4, .one (.p 8 0)), (5, .one (.p 16 0)), (6, .one (.p 24 0)), (7, .one (.p 32 0)), (8, .one (.v (.int .i64 (i : Nat)))), (9, .one (.v (.int .u64 (q.2.2 : Nat)))), (10, .one (.v (.int .i64 (q.1 : Nat))))]
  [(0, ⟨[.many 8 (V x)], true⟩), (8, ⟨[.many 8 (V y)], true⟩), (16, ⟨[.many 8 (V m)], true⟩), (24, ⟨[.many 8 (List.replicate 8 (.int .u32 0))], true⟩), (32, ⟨[.many 17 (cells .u32 17 (q.2.1))], true⟩)] 80 54
theorem r_mul_walk (x y m : Nat) (hm : Mo m) (hx : x < R) (hy : y < R) (w : World) : VC Go.Proofs.Try.prog (fun _ => False) w ((Go.Proofs.Try.f49).body.getD .skip) (mkSt (argSlots 0 [(.g [.many 8 (V (x))]), (.g [.many 8 (V (y))]), (.g [.many 8 (V (m))])]) [] 0 54) (endS Γ [.cell 6 37] (fun _ r => r = [(.g [.many 8 (V (x * y % m))])])) := by
  unfold Go.Proofs.Try.f49
  dsimp only [Option.getD]
  refine vc_seq ?_
  refine vc_straight tyOK false [0, 1, 2, 3] rfl 0 32 rfl rfl ?_
  iterate 4 refine And.intro trivial ?_
  refine vc_seq ?_
  refine vc_straight tyOK false [0] rfl 32 40 rfl rfl ?_
  refine And.intro trivial ?_
  refine vc_seq ?_
  refine vc_seq ?_
  refine vc_straight tyOK false [0] rfl 40 48 rfl rfl ?_
  refine And.intro trivial ?_
  refine vc_block ?_
  refine vc_loop (RMulO x y) (rmulO x y m) (fun q => 8 - q.1) (0, fun _ => 0) (rmulO_0 x y) (ent_mk rfl ⟨rfl, rfl, rfl, rfl, rfl, rfl, trivial⟩ ⟨rfl, rfl, rfl, rfl, blk_many (cells_zero _ _), trivial⟩ rfl) ?_
  intro ⟨i, t⟩ h1
  have hi := h1.le
  simp only at hi
  refine vc_seq ?_
  refine vc_seq ?_
  refine vc_straight tyOK false [0, 1] rfl 48 64 rfl rfl ?_
  iterate 2 refine And.intro (by first | exact trivial | exact rfl) ?_
  refine vc_if rfl (fun hc1 => ?_) (fun hc1 => ?_)
  · have hi8 : i < 8 := by have := of_decide_eq_true hc1; simp only at this; omega
    refine vc_skip ?_
    refine vc_seq ?_
    refine vc_block ?_
    refine vc_seq ?_
    refine vc_straight tyOK false [0] rfl 64 72 rfl rfl ?_
    refine And.intro trivial ?_
    refine vc_seq ?_
    refine vc_seq ?_
    refine vc_straight tyOK false [0] rfl 72 80 rfl rfl ?_
    refine And.intro trivial ?_
    refine vc_block ?_
    refine vc_loop (RMulI x y i) (rmulI x y m i) (fun q => 8 - q.1) (0, t, 0) (rmulI_0 h1) (ent_mk rfl ⟨rfl, rfl, rfl, rfl, rfl, rfl, rfl, rfl, trivial⟩ ⟨rfl, rfl, rfl, rfl, rfl, trivial⟩ rfl) ?_
    intro ⟨k, u, c⟩ h2
    have hk := h2.le
    simp only at hk
    refine vc_seq ?_
    refine vc_seq ?_
    refine vc_straight tyOK false [0, 1] rfl 80 96 rfl rfl ?_
    iterate 2 refine And.intro (by first | exact trivial | exact rfl) ?_
    refine vc_if rfl (fun hc2 => ?_) (fun hc2 => ?_)
    · have hk8 : k < 8 := by have := of_decide_eq_true hc2; simp only at this; omega
      have qm := mac32 (a := dig B32 x i) (b := dig B32 y k) (t := u (i + k)) (c := c) (dig_lt B32_pos _ _) (dig_lt B32_pos _ _) (h2.lt _) h2.c
      refine vc_skip ?_
      refine vc_seq ?_
      refine vc_block ?_
      refine vc_seq ?_
      refine vc_drawn tyOK mixed false [0, 1, 2, 3, 4, 5, 6, 7, 8, 9, 10, 11, 12, 13, 14, 15, 16, 17, 18] (by kernel_rfl) 96 248 rfl rfl ?_
      iterate 2 refine And.intro (by first | exact trivial | omega) ?_
      refine reg_name rfl rfl rfl rfl ?_ (fun v hv => ?_)
      · exact (by omega)
      replace hv := hv.symm.trans (V_get hi8)
      subst hv
      refine reg_name rfl rfl rfl rfl ?_ (fun v hv => ?_)
      · exact (by exact trivial)
      replace hv := hv.symm.trans (u64i (dig B32 x i) rfl (Nat.lt_trans (dig_lt B32_pos _ _) (by decide)))
      subst hv
      iterate 2 refine And.intro (by first | exact trivial | omega) ?_
      refine reg_name rfl rfl rfl rfl ?_ (fun v hv => ?_)
      · exact (by omega)
      replace hv := hv.symm.trans (V_get hk8)
      subst hv
      refine reg_name rfl rfl rfl rfl ?_ (fun v hv => ?_)
      · exact (by exact trivial)
      replace hv := hv.symm.trans (u64i (dig B32 y k) rfl (Nat.lt_trans (dig_lt B32_pos _ _) (by decide)))
      subst hv
      refine reg_name rfl rfl rfl rfl ?_ (fun v hv => ?_)
      · exact (by exact rfl)
      replace hv := hv.symm.trans (u64i _ (mulN _ _) qm.2.1)
      subst hv
      iterate 2 refine And.intro trivial ?_
      refine reg_name rfl rfl rfl rfl ?_ (fun v hv => ?_)
      · exact (by exact rfl)
      replace hv := hv.symm.trans (i64n (i + k) (addN _ _) (by omega))
      subst hv
      refine And.intro (by omega) ?_
      refine reg_name rfl rfl rfl rfl ?_ (fun v hv => ?_)
      · exact (by omega)
      replace hv := hv.symm.trans (cells_get (i := i + k) (by omega))
      subst hv
      refine reg_name rfl rfl rfl rfl ?_ (fun v hv => ?_)
      · exact (by exact trivial)
      replace hv := hv.symm.trans (u64i (u (i + k)) rfl (Nat.lt_trans (h2.lt _) (by decide)))
      subst hv
      refine reg_name rfl rfl rfl rfl ?_ (fun v hv => ?_)
      · exact (by exact rfl)
      replace hv := hv.symm.trans (u64i _ (addN _ _) qm.2.2.1)
      subst hv
      refine And.intro trivial ?_
      refine reg_name rfl rfl rfl rfl ?_ (fun v hv => ?_)
      · exact (by exact rfl)
      replace hv := hv.symm.trans (u64i _ (addN _ _) qm.1)
      subst hv
      refine And.intro trivial ?_
      refine vc_seq ?_
      refine vc_straight tyOK false [0, 1, 2, 3, 4, 5, 6] rfl 248 304 rfl rfl ?_
      iterate 2 refine And.intro trivial ?_
      refine reg_name rfl rfl rfl rfl ?_ (fun v hv => ?_)
      · exact (by exact rfl)
      replace hv := hv.symm.trans (i64n (i + k) (addN _ _) (by omega))
      subst hv
      refine And.intro trivial ?_
      refine reg_name rfl rfl rfl rfl ?_ (fun v hv => ?_)
      · exact (by exact trivial)
      replace hv := hv.symm.trans (u32n _ rfl)
      subst hv
      iterate 2 refine And.intro (by first | omega | exact ⟨by omega, rfl, rfl⟩) ?_
      refine vc_straight tyOK false [0, 1, 2] rfl 304 328 rfl rfl ?_
      refine And.intro trivial ?_
      refine reg_name rfl rfl rfl rfl ?_ (fun v hv => ?_)
      · exact (by decide)
      replace hv := hv.symm.trans (intn _ (shr64 _ 32 (by omega)))
      subst hv
      refine And.intro trivial ?_
      refine vc_straight tyOK false [0, 1, 2] rfl 328 352 rfl rfl ?_
      iterate 3 refine And.intro (by first | exact trivial | exact rfl) ?_
      refine ⟨(k + 1, chg u (i + k) ((dig B32 x i * dig B32 y k + u (i + k) + c) % B32), (dig B32 x i * dig B32 y k + u (i + k) + c) / B32), rmulI_step hi8 hk8 h2, ent_mk rfl ⟨rfl, rfl, rfl, rfl, rfl, rfl, rfl, slot_int (wrap_i64 (by omega) (by omega)), trivial⟩ ⟨rfl, rfl, rfl, rfl, blk_many chg_set, trivial⟩ rfl, by show 8 - (k + 1) < 8 - k; omega⟩
    · obtain rfl : k = 8 := by have := of_decide_eq_false hc2; simp only at this; omega
      refine vc_exit ?_
      refine vc_straight tyOK false [0, 1, 2, 3, 4, 5] rfl 352 400 rfl rfl ?_
      refine And.intro trivial ?_
      refine reg_name rfl rfl rfl rfl ?_ (fun v hv => ?_)
      · exact (by exact rfl)
      replace hv := hv.symm.trans (i64n (i + 8) (addN _ _) (by omega))
      subst hv
      refine And.intro trivial ?_
      refine reg_name rfl rfl rfl rfl ?_ (fun v hv => ?_)
      · exact (by exact trivial)
      replace hv := hv.symm.trans (u32i c rfl h2.c)
      subst hv
      iterate 2 refine And.intro (by first | omega | exact ⟨by omega, rfl, rfl⟩) ?_
      refine vc_straight tyOK false [0, 1, 2] rfl 400 424 rfl rfl ?_
      iterate 3 refine And.intro (by first | exact trivial | exact rfl) ?_
      refine ⟨(i + 1, chg u (i + 8) c), rmulO_step hi8 hy h2, ent_mk rfl ⟨rfl, rfl, rfl, rfl, rfl, slot_int (wrap_i64 (by omega) (by omega)), trivial⟩ ⟨rfl, rfl, rfl, rfl, blk_many chg_set, trivial⟩ rfl, by show 8 - (i + 1) < 8 - i; omega⟩
  · obtain rfl : i = 8 := by have := of_decide_eq_false hc1; simp only at this; omega
    refine vc_exit ?_
    refine vc_seq ?_
    refine vc_straight tyOK false [0, 1, 2, 3] rfl 424 456 rfl rfl ?_
    iterate 2 refine And.intro trivial ?_
    refine r_reduce_vc t m hm h1.lt ?_
    refine And.intro (by exact ⟨trivial, rfl⟩) ?_
    refine vc_ret ?_
    refine And.intro (by first | exact trivial | exact ⟨trivial, trivial⟩ | exact ⟨trivial, trivial, trivial⟩) ?_
    show [SV.g [CV.many 8 (V (num B32 t 17 % m))]] = _
    rw [rmulO_end hx h1]
theorem r_mul_vc (x y m : Nat)  (hm : Mo m) (hx : x < R) (hy : y < R) {eff : Bool} {σ : SSt} {nm : Nat} {K : SSt → SS → Prop}  (hk : K σ (.one ((.g [.many 8 (V (x * y % m))])))) : CallVC Go.Proofs.Try.prog eff (.fn 49) [(.g [.many 8 (V (x))]), (.g [.many 8 (V (y))]), (.g [.many 8 (V (m))])] σ nm K := by
  exact call_plain (res := [(.g [.many 8 (V (x * y % m))])]) tyOK Go.Proofs.Try.func49 (c := (Go.Proofs.Try.f49).body.getD .skip) rfl (by kernel_rfl) (rs := [.cell 6 37]) rfl (Nat.le_of_ble_eq_true rfl) (by repeat first | exact plain_nil | exact okC_nil | refine plain_v ?_ | refine plain_g ?_ ?_ | refine okMany ?_ ?_ | refine okOne ?_ ?_ | exact rfl | exact W_cv _ | exact V_cv _ | exact Dd_cv _ | exact cells_cv _ _ _ | exact okPt _) (by repeat first | exact plain_nil | exact okC_nil | refine plain_v ?_ | refine plain_g ?_ ?_ | refine okMany ?_ ?_ | refine okOne ?_ ?_ | exact rfl | exact W_cv _ | exact V_cv _ | exact Dd_cv _ | exact cells_cv _ _ _ | exact okPt _) (fun w => r_mul_walk x y m hm hx hy w) hk
theorem bit_word32 (e i : Nat) : dig B32 e (i / 32) / 2 ^ (i % 32) % 2 = e / 2 ^ i % 2 := by
  have hi := Nat.div_add_mod i 32
  simp only [dig]
  rw [show B32 = 2 ^ 32 from rfl, ← Nat.pow_mul]
  have e2 : (2 : Nat) ^ 32 = 2 ^ (i % 32) * (2 * 2 ^ (31 - i % 32)) := by
    rw [← Nat.pow_succ', ← Nat.pow_add]; congr 1; omega
  rw [e2, Nat.mod_mul_right_div_self, Nat.mod_mul_right_mod, Nat.div_div_eq_div_mul, ← Nat.pow_add, hi]
theorem bit_eq {a b : Nat} (h : a = b) : (((a : Nat) : Int) == 1) = decide (b = 1) := by
  subst h
  rw [Bool.eq_iff_iff]; simp only [beq_iff_eq, decide_eq_true_eq]; omega
theorem r_bit_walk (x i : Nat) (hi : i < 256) (w : World) : VC Go.Proofs.Try.prog (fun _ => False) w ((Go.Proofs.Try.f66).body.getD .skip) (mkSt (argSlots 0 [(.g [.many 8 (V (x))]), (.v (.int .i64 (i : Nat)))]) [] 0 15) (endS Γ [.tmp 4] (fun _ r => r = [(.v (.bool (decide (x / 2 ^ i % 2 = 1))))])) := by
  unfold Go.Proofs.Try.f66
  dsimp only [Option.getD]
  refine vc_seq ?_
  refine vc_straight tyOK false [0, 1] rfl 0 16 rfl rfl ?_
  iterate 2 refine And.intro trivial ?_
  refine vc_seq ?_
  refine vc_straight tyOK false [0, 1, 2, 3, 4, 5, 6, 7, 8, 9, 10] rfl 16 104 rfl rfl ?_
  refine And.intro trivial ?_
  refine reg_name rfl rfl rfl rfl ?_ (fun v hv => ?_)
  · exact (by decide)
  replace hv := hv.symm.trans (i64n (i / 32) (tdivn i 32) (by omega))
  subst hv
  refine And.intro (by omega) ?_
  refine reg_name rfl rfl rfl rfl ?_ (fun v hv => ?_)
  · exact (by omega)
  replace hv := hv.symm.trans (V_get (i := i / 32) (by omega))
  subst hv
  refine And.intro trivial ?_
  refine reg_name rfl rfl rfl rfl ?_ (fun v hv => ?_)
  · exact (by decide)
  replace hv := hv.symm.trans (intn (i % 32) (tmodn i 32))
  subst hv
  refine reg_name rfl rfl rfl rfl ?_ (fun v hv => ?_)
  · exact (by exact trivial)
  replace hv := hv.symm.trans (u64i (i % 32) rfl (by unfold B64; omega))
  subst hv
  refine reg_name rfl rfl rfl rfl ?_ (fun v hv => ?_)
  · exact (by omega)
  replace hv := hv.symm.trans (intn (dig B32 x (i / 32) / 2 ^ (i % 32)) (shr32 _ _ (by omega)))
  subst hv
  refine reg_name rfl rfl rfl rfl ?_ (fun v hv => ?_)
  · exact (by decide)
  replace hv := hv.symm.trans (intn _ (tmodn _ 2))
  subst hv
  iterate 2 refine And.intro (by first | exact trivial | exact rfl) ?_
  refine vc_ret ?_
  refine And.intro (by first | exact trivial | exact ⟨trivial, trivial⟩ | exact ⟨trivial, trivial, trivial⟩) ?_
  rw [← bit_eq (bit_word32 x i)]
theorem r_bit_vc (x i : Nat)  (hi : i < 256) {eff : Bool} {σ : SSt} {nm : Nat} {K : SSt → SS → Prop}  (hk : K σ (.one ((.v (.bool (decide (x / 2 ^ i % 2 = 1))))))) : CallVC Go.Proofs.Try.prog eff (.fn 66) [(.g [.many 8 (V (x))]), (.v (.int .i64 (i : Nat)))] σ nm K := by
  exact call_plain (res := [(.v (.bool (decide (x / 2 ^ i % 2 = 1))))]) tyOK Go.Proofs.Try.func66 (c := (Go.Proofs.Try.f66).body.getD .skip) rfl (by kernel_rfl) (rs := [.tmp 4]) rfl (Nat.le_of_ble_eq_true rfl) (by repeat first | exact plain_nil | exact okC_nil | refine plain_v ?_ | refine plain_g ?_ ?_ | refine okMany ?_ ?_ | refine okOne ?_ ?_ | exact rfl | exact W_cv _ | exact V_cv _ | exact Dd_cv _ | exact cells_cv _ _ _ | exact okPt _) (by repeat first | exact plain_nil | exact okC_nil | refine plain_v ?_ | refine plain_g ?_ ?_ | refine okMany ?_ ?_ | refine okOne ?_ ?_ | exact rfl | exact W_cv _ | exact V_cv _ | exact Dd_cv _ | exact cells_cv _ _ _ | exact okPt _) (fun w => r_bit_walk x i hi w) hk
def rpow (m x e j : Nat) : SSt := mkSt [(3, .one (.p 0 0)), (4, .one (.p 8 0)), (5, .one (.p 16 0)), (6, .one (.p 24 0)), (7, .one (.p 40 0)), (8, .one (.v (.int .i64 (255 - (j : Int)))))]
  [(0, ⟨[.many 8 (V x)], true⟩), (8, ⟨[.many 8 (V e)], true⟩), (16, ⟨[.many 8 (V m)], true⟩), (24, ⟨[.many 8 (List.replicate 8 (.int .u32 0))], true⟩), (40, ⟨[.many 8 (V (pwGo m x e j))], true⟩)] 64 26
theorem r_pow_walk (x e m : Nat) (hm : Mo m) (hx : x < R) (w : World) : VC Go.Proofs.Try.prog (fun _ => False) w ((Go.Proofs.Try.f67).body.getD .skip) (mkSt (argSlots 0 [(.g [.many 8 (V (x))]), (.g [.many 8 (V (e))]), (.g [.many 8 (V (m))])]) [] 0 26) (endS Γ [.cell 6 37] (fun _ r => r = [(.g [.many 8 (V (pw m x e))])])) := by
  unfold Go.Proofs.Try.f67
  dsimp only [Option.getD]
  refine vc_seq ?_
  refine vc_straight tyOK false [0, 1, 2, 3] rfl 0 32 rfl rfl ?_
  iterate 4 refine And.intro trivial ?_
  refine vc_seq ?_
  refine vc_straight tyOK false [0, 1, 2] rfl 32 56 rfl rfl ?_
  iterate 3 refine And.intro (by first | exact trivial | exact ⟨trivial, rfl⟩ | decide) ?_
  refine vc_seq ?_
  refine vc_seq ?_
  refine vc_straight tyOK false [0] rfl 56 64 rfl rfl ?_
  refine And.intro trivial ?_
  refine vc_block ?_
  refine vc_loop (fun j : Nat => j ≤ 256) (rpow m x e) (fun j => 256 - j) 0 (by omega) (ent_mk rfl ⟨rfl, rfl, rfl, rfl, rfl, slot_int (by omega), trivial⟩ ⟨rfl, rfl, rfl, rfl, blk_many V_1, trivial⟩ rfl) ?_
  intro j hj
  refine vc_seq ?_
  refine vc_seq ?_
  refine vc_straight tyOK false [0, 1] rfl 64 80 rfl rfl ?_
  iterate 2 refine And.intro (by first | exact trivial | exact rfl) ?_
  refine vc_if rfl (fun hc1 => ?_) (fun hc1 => ?_)
  · obtain ⟨i, hi⟩ : ∃ i : Nat, 255 - (j : Int) = (i : Int) := ⟨255 - j, by have := of_decide_eq_true hc1; omega⟩
    have hji : 255 - j = i := by omega
    have hj' : j < 256 := by omega
    refine vc_skip ?_
    refine vc_seq ?_
    refine vc_block ?_
    refine vc_seq ?_
    refine vc_straight tyOK false [0, 1, 2, 3, 4] rfl 80 120 rfl rfl ?_
    iterate 3 refine And.intro trivial ?_
    refine r_mul_vc (pwGo m x e j) (pwGo m x e j) m hm (pwGo_ltR hm _ _ _) (pwGo_ltR hm _ _ _) ?_
    refine And.intro (by exact ⟨trivial, rfl⟩) ?_
    refine vc_seq ?_
    refine vc_straight tyOK false [0, 1, 2] rfl 120 144 rfl rfl ?_
    refine And.intro trivial ?_
    refine reg_name rfl rfl rfl rfl ?_ (fun v hv => ?_)
    · exact (by exact trivial)
    replace hv := hv.symm.trans (intn i hi)
    subst hv
    refine r_bit_vc e i (by omega) ?_
    refine vc_if rfl (fun hc2 => ?_) (fun hc2 => ?_)
    · have hbit : e / 2 ^ i % 2 = 1 := of_decide_eq_true hc2
      refine vc_straight tyOK false [0, 1, 2, 3, 4] rfl 144 184 rfl rfl ?_
      iterate 3 refine And.intro trivial ?_
      refine r_mul_vc (pwGo m x e j * pwGo m x e j % m) x m hm (mod_ltR hm _) hx ?_
      refine And.intro (by exact ⟨trivial, rfl⟩) ?_
      refine vc_straight tyOK false [0, 1, 2] rfl 184 208 rfl rfl ?_
      iterate 3 refine And.intro (by first | exact trivial | exact rfl) ?_
      refine ⟨j + 1, by omega, ent_mk rfl ⟨rfl, rfl, rfl, rfl, rfl, slot_int ((wrap_i64 (by omega) (by omega)).trans (by omega)), trivial⟩ ⟨rfl, rfl, rfl, rfl, blk_many (congrArg V (by rw [pwGo_step hji]; first | rw [if_pos hbit] | rw [if_neg hbit])), trivial⟩ rfl, by show 256 - (j + 1) < 256 - j; omega⟩
    · have hbit : ¬ e / 2 ^ i % 2 = 1 := of_decide_eq_false hc2
      refine vc_skip ?_
      refine vc_straight tyOK false [0, 1, 2] rfl 184 208 rfl rfl ?_
      iterate 3 refine And.intro (by first | exact trivial | exact rfl) ?_
      refine ⟨j + 1, by omega, ent_mk rfl ⟨rfl, rfl, rfl, rfl, rfl, slot_int ((wrap_i64 (by omega) (by omega)).trans (by omega)), trivial⟩ ⟨rfl, rfl, rfl, rfl, blk_many (congrArg V (by rw [pwGo_step hji]; first | rw [if_pos hbit] | rw [if_neg hbit])), trivial⟩ rfl, by show 256 - (j + 1) < 256 - j; omega⟩
  · obtain rfl : j = 256 := by have := of_decide_eq_false hc1; omega
    refine vc_exit ?_
    refine vc_seq ?_
    refine vc_straight tyOK false [0, 1] rfl 208 224 rfl rfl ?_
    iterate 2 refine And.intro (by first | exact trivial | exact ⟨trivial, rfl⟩) ?_
    refine vc_ret ?_
    refine And.intro (by first | exact trivial | exact ⟨trivial, trivial⟩ | exact ⟨trivial, trivial, trivial⟩) ?_
    rfl
theorem r_pow_vc (x e m : Nat)  (hm : Mo m) (hx : x < R) {eff : Bool} {σ : SSt} {nm : Nat} {K : SSt → SS → Prop}  (hk : K σ (.one ((.g [.many 8 (V (pw m x e))])))) : CallVC Go.Proofs.Try.prog eff (.fn 67) [(.g [.many 8 (V (x))]), (.g [.many 8 (V (e))]), (.g [.many 8 (V (m))])] σ nm K := by
  exact call_plain (res := [(.g [.many 8 (V (pw m x e))])]) tyOK Go.Proofs.Try.func67 (c := (Go.Proofs.Try.f67).body.getD .skip) rfl (by kernel_rfl) (rs := [.cell 6 37]) rfl (Nat.le_of_ble_eq_true rfl) (by repeat first | exact plain_nil | exact okC_nil | refine plain_v ?_ | refine plain_g ?_ ?_ | refine okMany ?_ ?_ | refine okOne ?_ ?_ | exact rfl | exact W_cv _ | exact V_cv _ | exact Dd_cv _ | exact cells_cv _ _ _ | exact okPt _) (by repeat first | exact plain_nil | exact okC_nil | refine plain_v ?_ | refine plain_g ?_ ?_ | refine okMany ?_ ?_ | refine okOne ?_ ?_ | exact rfl | exact W_cv _ | exact V_cv _ | exact Dd_cv _ | exact cells_cv _ _ _ | exact okPt _) (fun w => r_pow_walk x e m hm hx w) hk
theorem r_inv_walk (x m : Nat) (hm : Mo m) (hx : x < R) (w : World) : VC Go.Proofs.Try.prog (fun _ => False) w ((Go.Proofs.Try.f47).body.getD .skip) (mkSt (argSlots 0 [(.g [.many 8 (V (x))]), (.g [.many 8 (V (m))])]) [] 0 11) (endS Γ [.cell 4 37] (fun _ r => r = [(.g [.many 8 (V (pw m x (m - 2)))])])) := by
  unfold Go.Proofs.Try.f47
  dsimp only [Option.getD]
  refine vc_seq ?_
  refine vc_straight tyOK false [0, 1, 2] rfl 0 24 rfl rfl ?_
  iterate 3 refine And.intro trivial ?_
  refine vc_seq ?_
  refine vc_drawn tyOK mixed false [0, 1, 2, 4, 3, 5, 6] (by kernel_rfl) 24 80 rfl rfl ?_
  iterate 4 refine And.intro (by first | exact trivial | decide) ?_
  show CallVC _ _ _ [.g [.many 8 (V m)], .g [.many 8 (V 2)]] _ _ _
  refine r_minus_vc m 2 hm.lt (by decide) ?_
  rw [show (m + R - 2) % R = m - 2 from by have := hm.lt; have := hm.two; unfold R at *; omega]
  refine r_pow_vc x (m - 2) m hm hx ?_
  refine And.intro (by exact ⟨trivial, rfl⟩) ?_
  refine vc_ret ?_
  refine And.intro (by first | exact trivial | exact ⟨trivial, trivial⟩ | exact ⟨trivial, trivial, trivial⟩) ?_
  rfl
theorem r_inv_vc (x m : Nat)  (hm : Mo m) (hx : x < R) {eff : Bool} {σ : SSt} {nm : Nat} {K : SSt → SS → Prop}  (hk : K σ (.one ((.g [.many 8 (V (pw m x (m - 2)))])))) : CallVC Go.Proofs.Try.prog eff (.fn 47) [(.g [.many 8 (V (x))]), (.g [.many 8 (V (m))])] σ nm K := by
  exact call_plain (res := [(.g [.many 8 (V (pw m x (m - 2)))])]) tyOK Go.Proofs.Try.func47 (c := (Go.Proofs.Try.f47).body.getD .skip) rfl (by kernel_rfl) (rs := [.cell 4 37]) rfl (Nat.le_of_ble_eq_true rfl) (by repeat first | exact plain_nil | exact okC_nil | refine plain_v ?_ | refine plain_g ?_ ?_ | refine okMany ?_ ?_ | refine okOne ?_ ?_ | exact rfl | exact W_cv _ | exact V_cv _ | exact Dd_cv _ | exact cells_cv _ _ _ | exact okPt _) (by repeat first | exact plain_nil | exact okC_nil | refine plain_v ?_ | refine plain_g ?_ ?_ | refine okMany ?_ ?_ | refine okOne ?_ ?_ | exact rfl | exact W_cv _ | exact V_cv _ | exact Dd_cv _ | exact cells_cv _ _ _ | exact okPt _) (fun w => r_inv_walk x m hm hx w) hk
end Go.Proofs.Ythjpppgibdfaeaa
