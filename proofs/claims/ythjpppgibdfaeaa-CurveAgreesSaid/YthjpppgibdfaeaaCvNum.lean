/- YthjpppgibdfaeaaCvNum: a part of the proof: lemmas alone, of no statement. -/
import Derived.Test.YthjpppgibdfaeaaTy
import Derived.Test.YthjpppgibdfaeaaCvOne
/- The program's numbers of four words: differences, sums, and whether they are 0. -/
namespace Go.Proofs.Ythjpppgibdfaeaa
open Go Go.SX Cv Go.RowKit Go.Lib
set_option maxRecDepth 100000
theorem sub64 (x y b : Nat) (hb : b ≤ 1) (w : World) : Invokes Go.Proofs.Try.prog 81 #[.int .u64 x, .int .u64 y, .int .u64 b] w (fun v w' => v = .tuple #[.int .u64 (((x + B64 - y - b) % B64 : Nat) : Int), .int .u64 ((if x < y + b then 1 else 0 : Nat) : Int)] ∧ w' = w) := by
  refine invokes_val ?_
  rw [run_callFunc_extern Go.Proofs.Try.func81 (by kernel_rfl) (by kernel_rfl) (by kernel_rfl) (e := sub64Entry) (by kernel_rfl), run_sub64 x y b hb]
  rfl
theorem add64 (x y c : Nat) (hc : c ≤ 1) (w : World) : Invokes Go.Proofs.Try.prog 72 #[.int .u64 x, .int .u64 y, .int .u64 c] w (fun v w' => v = .tuple #[.int .u64 (((x + y + c) % B64 : Nat) : Int), .int .u64 (((x + y + c) / B64 : Nat) : Int)] ∧ w' = w) := by
  refine invokes_val ?_
  rw [run_callFunc_extern Go.Proofs.Try.func72 (by kernel_rfl) (by kernel_rfl) (by kernel_rfl) (e := add64Entry) (by kernel_rfl), run_add64 x y c (by omega) (by omega) (by omega) (by omega)]
  simp only [Result.andThen, B64]
  congr 5 <;> omega
theorem sub64_vc {eff : Bool} {x y b : Nat} (hb : b ≤ 1) {σ : SSt} {nm : Nat} {K : SSt → SS → Prop} (hk : K σ (.tup [.v (.int .u64 (((x + B64 - y - b) % B64 : Nat) : Int)), .v (.int .u64 ((if x < y + b then 1 else 0 : Nat) : Int))])) :
    CallVC Go.Proofs.Try.prog eff (.fn 81) [.v (.int .u64 x), .v (.int .u64 y), .v (.int .u64 b)] σ nm K :=
  plain_call _ _ (fun _ => rfl) (fun _ => rfl) ok_tup2 (fun w => same_frame (sub64 x y b hb w)) hk
theorem add64_vc {eff : Bool} {x y c : Nat} (hc : c ≤ 1) {σ : SSt} {nm : Nat} {K : SSt → SS → Prop} (hk : K σ (.tup [.v (.int .u64 (((x + y + c) % B64 : Nat) : Int)), .v (.int .u64 (((x + y + c) / B64 : Nat) : Int))])) :
    CallVC Go.Proofs.Try.prog eff (.fn 72) [.v (.int .u64 x), .v (.int .u64 y), .v (.int .u64 c)] σ nm K :=
  plain_call _ _ (fun _ => rfl) (fun _ => rfl) ok_tup2 (fun w => same_frame (add64 x y c hc w)) hk

/-! x.sub(y) -/
def subSt (x y k : Nat) : SSt := mkSt [(2, .one (.p 0 0)), (3, .one (.p 8 0)), (4, .one (.p 16 0)), (5, .one (.v (.bool false))), (6, .one (.p 32 0)), (7, .one (.v (.int .u64 (borrow (dig B64 x) (dig B64 y) k : Nat)))), (9, .one (.v (.int .i64 k)))]
  [(0, ⟨[.many 4 (W x)], true⟩), (8, ⟨[.many 4 (W y)], true⟩), (16, ⟨[.many 4 (List.replicate 4 (.int .u64 0))], true⟩), (32, ⟨[.many 4 (cells .u64 4 fun i => if i < k then difd B64 (dig B64 x) (dig B64 y) i else 0)], true⟩)] 56 29
theorem num_sub_walk (x y : Nat) (hx : x < R) (hy : y < R) (w : World) : VC Go.Proofs.Try.prog (fun _ => False) w ((Go.Proofs.Try.f68).body.getD .skip) (mkSt (argSlots 0 [(.g [.many 4 (W (x))]), (.g [.many 4 (W (y))])]) [] 0 29) (endS Γ [.cell 4 69, .tmp 5] (fun _ r => r = [(.g [.many 4 (W ((x + R - y) % R))]), (.v (.bool (decide (x < y))))])) := by
  unfold Go.Proofs.Try.f68
  dsimp only [Option.getD]
  refine vc_seq ?_
  refine vc_straight tyOK false [0, 1, 2, 3] rfl 0 32 rfl rfl ?_
  iterate 2 refine And.intro trivial ?_
  iterate 2 refine And.intro trivial ?_
  refine vc_seq ?_
  refine vc_straight tyOK false [0] rfl 32 40 rfl rfl ?_
  refine And.intro trivial ?_
  refine vc_seq ?_
  refine vc_straight tyOK false [0] rfl 40 48 rfl rfl ?_
  refine And.intro trivial ?_
  refine vc_seq ?_
  refine vc_seq ?_
  refine vc_straight tyOK false [0] rfl 48 56 rfl rfl ?_
  refine And.intro trivial ?_
  refine vc_block ?_
  refine vc_loop (fun k : Nat => k ≤ 4) (subSt x y) (fun k => 4 - k) 0 (by omega) (ent_mk rfl ⟨rfl, rfl, rfl, rfl, rfl, rfl, rfl, trivial⟩ ⟨rfl, rfl, rfl, blk_many (cells_zero _ _), trivial⟩ rfl) ?_
  intro k hk
  refine vc_seq ?_
  refine vc_straight tyOK false [0] rfl 56 64 rfl rfl ?_
  refine And.intro rfl ?_
  refine vc_seq ?_
  refine vc_if rfl (fun hc1 => ?_) (fun hc1 => ?_)
  · have hk4 : k < 4 := by have := of_decide_eq_true hc1; omega
    refine vc_skip ?_
    refine vc_seq ?_
    refine vc_block ?_
    refine vc_seq ?_
    refine vc_straight tyOK false [0, 1] rfl 64 80 rfl rfl ?_
    iterate 2 refine And.intro trivial ?_
    refine vc_drawn tyOK mixed false [0, 1, 2, 3, 4, 5, 6, 7, 8, 9, 10, 11, 12, 13, 14] (by kernel_rfl) 80 200 rfl rfl ?_
    iterate 2 refine And.intro trivial ?_
    iterate 2 refine And.intro (by omega) ?_
    refine And.intro trivial ?_
    iterate 2 refine And.intro (by omega) ?_
    refine And.intro trivial ?_
    show CallVC _ _ _ [.v ((W x).getD k undef), .v ((W y).getD k undef), .v (.int .u64 (borrow (dig B64 x) (dig B64 y) k : Nat))] _ _ _
    rw [W_get hk4, W_get hk4]
    refine sub64_vc (borrow_le _ _ _) ?_
    iterate 3 refine And.intro trivial ?_
    iterate 2 refine And.intro (by first | omega | exact ⟨by omega, rfl, rfl⟩) ?_
    refine And.intro trivial ?_
    refine vc_straight tyOK false [0, 1] rfl 200 216 rfl rfl ?_
    refine And.intro rfl ?_
    refine And.intro trivial ?_
    refine ⟨k + 1, by omega, ent_mk rfl ⟨rfl, rfl, rfl, rfl, rfl, rfl, slot_int (wrap_i64 (by omega) (by omega)), trivial⟩ ⟨rfl, rfl, rfl, blk_many (step_cells _ rfl), trivial⟩ rfl, by show 4 - (k + 1) < 4 - k; omega⟩
  · obtain rfl : k = 4 := by have := of_decide_eq_false hc1; omega
    refine vc_exit ?_
    refine vc_seq ?_
    refine vc_straight tyOK false [0, 1, 2, 3, 4] rfl 216 256 rfl rfl ?_
    refine And.intro trivial ?_
    refine And.intro trivial ?_
    iterate 2 refine And.intro (by first | exact rfl | exact ⟨trivial, rfl⟩) ?_
    refine And.intro trivial ?_
    refine vc_ret ?_
    refine And.intro (by first | exact trivial | exact ⟨trivial, trivial⟩ | exact ⟨trivial, trivial, trivial⟩) ?_
    show [SV.g [CV.many 4 _], SV.v (.bool _)] = _
    rw [cells_all, W_of (fun i _ => difd_lt B64_pos _ _ _)]
    exact sub_out hx hy
theorem num_sub_vc (x y : Nat)  (hx : x < R) (hy : y < R) {eff : Bool} {σ : SSt} {nm : Nat} {K : SSt → SS → Prop}  (hk : K σ (.tup [(.g [.many 4 (W ((x + R - y) % R))]), (.v (.bool (decide (x < y))))])) : CallVC Go.Proofs.Try.prog eff (.fn 68) [(.g [.many 4 (W (x))]), (.g [.many 4 (W (y))])] σ nm K := by
  exact call_plain (res := [(.g [.many 4 (W ((x + R - y) % R))]), (.v (.bool (decide (x < y))))]) tyOK Go.Proofs.Try.func68 (c := (Go.Proofs.Try.f68).body.getD .skip) rfl (by kernel_rfl) (rs := [.cell 4 69, .tmp 5]) rfl (Nat.le_of_ble_eq_true rfl) (by repeat first | exact plain_nil | exact okC_nil | refine plain_v ?_ | refine plain_g ?_ ?_ | refine okMany ?_ ?_ | refine okOne ?_ ?_ | exact rfl | exact W_cv _ | exact V_cv _ | exact Dd_cv _ | exact cells_cv _ _ _ | exact okPt _) (by repeat first | exact plain_nil | exact okC_nil | refine plain_v ?_ | refine plain_g ?_ ?_ | refine okMany ?_ ?_ | refine okOne ?_ ?_ | exact rfl | exact W_cv _ | exact V_cv _ | exact Dd_cv _ | exact cells_cv _ _ _ | exact okPt _) (fun w => num_sub_walk x y hx hy w) hk
/-! x.plus(y) -/
def plusSt (x y k : Nat) : SSt := mkSt [(2, .one (.p 0 0)), (3, .one (.p 8 0)), (4, .one (.p 16 0)), (5, .one (.v (.int .u64 0))), (6, .one (.p 32 0)), (7, .one (.v (.int .u64 (carry B64 (dig B64 x) (dig B64 y) 0 k : Nat)))), (9, .one (.v (.int .i64 k)))]
  [(0, ⟨[.many 4 (W x)], true⟩), (8, ⟨[.many 4 (W y)], true⟩), (16, ⟨[.many 4 (List.replicate 4 (.int .u64 0))], true⟩), (32, ⟨[.many 4 (cells .u64 4 fun i => if i < k then sumd B64 (dig B64 x) (dig B64 y) 0 i else 0)], true⟩)] 56 28
theorem num_plus_walk (x y : Nat) (hx : x < R) (hy : y < R) (w : World) : VC Go.Proofs.Try.prog (fun _ => False) w ((Go.Proofs.Try.f75).body.getD .skip) (mkSt (argSlots 0 [(.g [.many 4 (W (x))]), (.g [.many 4 (W (y))])]) [] 0 28) (endS Γ [.cell 4 69, .tmp 5] (fun _ r => r = [(.g [.many 4 (W ((x + y) % R))]), (.v (.int .u64 (((x + y) / R : Nat) : Int)))])) := by
  unfold Go.Proofs.Try.f75
  dsimp only [Option.getD]
  refine vc_seq ?_
  refine vc_straight tyOK false [0, 1, 2, 3] rfl 0 32 rfl rfl ?_
  iterate 2 refine And.intro trivial ?_
  iterate 2 refine And.intro trivial ?_
  refine vc_seq ?_
  refine vc_straight tyOK false [0] rfl 32 40 rfl rfl ?_
  refine And.intro trivial ?_
  refine vc_seq ?_
  refine vc_straight tyOK false [0] rfl 40 48 rfl rfl ?_
  refine And.intro trivial ?_
  refine vc_seq ?_
  refine vc_seq ?_
  refine vc_straight tyOK false [0] rfl 48 56 rfl rfl ?_
  refine And.intro trivial ?_
  refine vc_block ?_
  refine vc_loop (fun k : Nat => k ≤ 4) (plusSt x y) (fun k => 4 - k) 0 (by omega) (ent_mk rfl ⟨rfl, rfl, rfl, rfl, rfl, rfl, rfl, trivial⟩ ⟨rfl, rfl, rfl, blk_many (cells_zero _ _), trivial⟩ rfl) ?_
  intro k hk
  refine vc_seq ?_
  refine vc_straight tyOK false [0] rfl 56 64 rfl rfl ?_
  refine And.intro rfl ?_
  refine vc_seq ?_
  refine vc_if rfl (fun hc1 => ?_) (fun hc1 => ?_)
  · have hk4 : k < 4 := by have := of_decide_eq_true hc1; omega
    refine vc_skip ?_
    refine vc_seq ?_
    refine vc_block ?_
    refine vc_seq ?_
    refine vc_straight tyOK false [0, 1] rfl 64 80 rfl rfl ?_
    iterate 2 refine And.intro trivial ?_
    refine vc_drawn tyOK mixed false [0, 1, 2, 3, 4, 5, 6, 7, 8, 9, 10, 11, 12, 13, 14] (by kernel_rfl) 80 200 rfl rfl ?_
    iterate 2 refine And.intro trivial ?_
    iterate 2 refine And.intro (by omega) ?_
    refine And.intro trivial ?_
    iterate 2 refine And.intro (by omega) ?_
    refine And.intro trivial ?_
    show CallVC _ _ _ [.v ((W x).getD k undef), .v ((W y).getD k undef), .v (.int .u64 (carry B64 (dig B64 x) (dig B64 y) 0 k : Nat))] _ _ _
    rw [W_get hk4, W_get hk4]
    refine add64_vc (carry_le B64_pos (n := 4) (fun i _ => dig_lt B64_pos _ _) (fun i _ => dig_lt B64_pos _ _) (by omega) k hk) ?_
    iterate 3 refine And.intro trivial ?_
    iterate 2 refine And.intro (by first | omega | exact ⟨by omega, rfl, rfl⟩) ?_
    refine And.intro trivial ?_
    refine vc_straight tyOK false [0, 1] rfl 200 216 rfl rfl ?_
    refine And.intro rfl ?_
    refine And.intro trivial ?_
    refine ⟨k + 1, by omega, ent_mk rfl ⟨rfl, rfl, rfl, rfl, rfl, rfl, slot_int (wrap_i64 (by omega) (by omega)), trivial⟩ ⟨rfl, rfl, rfl, blk_many (step_cells _ rfl), trivial⟩ rfl, by show 4 - (k + 1) < 4 - k; omega⟩
  · obtain rfl : k = 4 := by have := of_decide_eq_false hc1; omega
    refine vc_exit ?_
    refine vc_seq ?_
    refine vc_straight tyOK false [0, 1, 2, 3] rfl 216 248 rfl rfl ?_
    refine And.intro trivial ?_
    refine And.intro trivial ?_
    refine And.intro (by exact ⟨trivial, rfl⟩) ?_
    refine And.intro trivial ?_
    refine vc_ret ?_
    refine And.intro (by first | exact trivial | exact ⟨trivial, trivial⟩ | exact ⟨trivial, trivial, trivial⟩) ?_
    show [SV.g [CV.many 4 _], SV.v (.int .u64 _)] = _
    rw [cells_all, W_of (fun i _ => sumd_lt B64_pos _ _ _ _)]
    exact plus_out hx hy
theorem num_plus_vc (x y : Nat)  (hx : x < R) (hy : y < R) {eff : Bool} {σ : SSt} {nm : Nat} {K : SSt → SS → Prop}  (hk : K σ (.tup [(.g [.many 4 (W ((x + y) % R))]), (.v (.int .u64 (((x + y) / R : Nat) : Int)))])) : CallVC Go.Proofs.Try.prog eff (.fn 75) [(.g [.many 4 (W (x))]), (.g [.many 4 (W (y))])] σ nm K := by
  exact call_plain (res := [(.g [.many 4 (W ((x + y) % R))]), (.v (.int .u64 (((x + y) / R : Nat) : Int)))]) tyOK Go.Proofs.Try.func75 (c := (Go.Proofs.Try.f75).body.getD .skip) rfl (by kernel_rfl) (rs := [.cell 4 69, .tmp 5]) rfl (Nat.le_of_ble_eq_true rfl) (by repeat first | exact plain_nil | exact okC_nil | refine plain_v ?_ | refine plain_g ?_ ?_ | refine okMany ?_ ?_ | refine okOne ?_ ?_ | exact rfl | exact W_cv _ | exact V_cv _ | exact Dd_cv _ | exact cells_cv _ _ _ | exact okPt _) (by repeat first | exact plain_nil | exact okC_nil | refine plain_v ?_ | refine plain_g ?_ ?_ | refine okMany ?_ ?_ | refine okOne ?_ ?_ | exact rfl | exact W_cv _ | exact V_cv _ | exact Dd_cv _ | exact cells_cv _ _ _ | exact okPt _) (fun w => num_plus_walk x y hx hy w) hk
/-! x.zero() -/
theorem num_zero_walk (x : Nat) (hx : x < R) (w : World) : VC Go.Proofs.Try.prog (fun _ => False) w ((Go.Proofs.Try.f54).body.getD .skip) (mkSt (argSlots 0 [(.g [.many 4 (W (x))])]) [] 0 6) (endS Γ [.tmp 2] (fun _ r => r = [(.v (.bool (decide (x = 0))))])) := by
  unfold Go.Proofs.Try.f54
  dsimp only [Option.getD]
  refine vc_seq ?_
  refine vc_straight tyOK false [0, 1] rfl 0 16 rfl rfl ?_
  refine And.intro trivial ?_
  refine And.intro trivial ?_
  refine vc_seq ?_
  refine vc_straight tyOK false [0, 1, 2, 3] rfl 16 48 rfl rfl ?_
  iterate 3 refine And.intro (by first | exact trivial | (refine Cv.eq_side ?_ ?_ <;> first | exact Cv.isC_cells _ _ _ | exact Cv.isC_rep _ _ _)) ?_
  refine And.intro trivial ?_
  refine vc_ret ?_
  refine And.intro (by first | exact trivial | exact ⟨trivial, trivial⟩ | exact ⟨trivial, trivial, trivial⟩) ?_
  show [SV.v (.bool (decide ((W x ++ []).map toI = (List.replicate 4 (Value.int .u64 0) ++ []).map toI)))] = _
  simp only [List.append_nil, W_0, W_eq hx R_pos]
theorem num_zero_vc (x : Nat)  (hx : x < R) {eff : Bool} {σ : SSt} {nm : Nat} {K : SSt → SS → Prop}  (hk : K σ (.one ((.v (.bool (decide (x = 0))))))) : CallVC Go.Proofs.Try.prog eff (.fn 54) [(.g [.many 4 (W (x))])] σ nm K := by
  exact call_plain (res := [(.v (.bool (decide (x = 0))))]) tyOK Go.Proofs.Try.func54 (c := (Go.Proofs.Try.f54).body.getD .skip) rfl (by kernel_rfl) (rs := [.tmp 2]) rfl (Nat.le_of_ble_eq_true rfl) (by repeat first | exact plain_nil | exact okC_nil | refine plain_v ?_ | refine plain_g ?_ ?_ | refine okMany ?_ ?_ | refine okOne ?_ ?_ | exact rfl | exact W_cv _ | exact V_cv _ | exact Dd_cv _ | exact cells_cv _ _ _ | exact okPt _) (by repeat first | exact plain_nil | exact okC_nil | refine plain_v ?_ | refine plain_g ?_ ?_ | refine okMany ?_ ?_ | refine okOne ?_ ?_ | exact rfl | exact W_cv _ | exact V_cv _ | exact Dd_cv _ | exact cells_cv _ _ _ | exact okPt _) (fun w => num_zero_walk x hx w) hk
/-! lessOrEqual(x, y) -/
theorem num_le_walk (x y : Nat) (hx : x < R) (hy : y < R) (w : World) : VC Go.Proofs.Try.prog (fun _ => False) w ((Go.Proofs.Try.f79).body.getD .skip) (mkSt (argSlots 0 [(.g [.many 4 (W (x))]), (.g [.many 4 (W (y))])]) [] 0 15) (endS Γ [.tmp 4] (fun _ r => r = [(.v (.bool (!(decide (y < x)))))])) := by
  unfold Go.Proofs.Try.f79
  dsimp only [Option.getD]
  refine vc_seq ?_
  refine vc_straight tyOK false [0, 1, 2] rfl 0 24 rfl rfl ?_
  iterate 2 refine And.intro trivial ?_
  refine And.intro trivial ?_
  refine vc_seq ?_
  refine vc_straight tyOK false [0, 1, 2, 3, 4, 5, 6, 7, 8] rfl 24 96 rfl rfl ?_
  iterate 2 refine And.intro trivial ?_
  refine num_sub_vc y x hy hx ?_
  iterate 4 refine And.intro trivial ?_
  refine And.intro (by exact ⟨trivial, rfl⟩) ?_
  refine And.intro trivial ?_
  refine vc_seq ?_
  refine vc_straight tyOK false [0, 1, 2] rfl 96 120 rfl rfl ?_
  iterate 3 refine And.intro trivial ?_
  refine vc_ret ?_
  refine And.intro (by first | exact trivial | exact ⟨trivial, trivial⟩ | exact ⟨trivial, trivial, trivial⟩) ?_
  rfl
theorem num_le_vc (x y : Nat)  (hx : x < R) (hy : y < R) {eff : Bool} {σ : SSt} {nm : Nat} {K : SSt → SS → Prop}  (hk : K σ (.one ((.v (.bool (!(decide (y < x)))))))) : CallVC Go.Proofs.Try.prog eff (.fn 79) [(.g [.many 4 (W (x))]), (.g [.many 4 (W (y))])] σ nm K := by
  exact call_plain (res := [(.v (.bool (!(decide (y < x)))))]) tyOK Go.Proofs.Try.func79 (c := (Go.Proofs.Try.f79).body.getD .skip) rfl (by kernel_rfl) (rs := [.tmp 4]) rfl (Nat.le_of_ble_eq_true rfl) (by repeat first | exact plain_nil | exact okC_nil | refine plain_v ?_ | refine plain_g ?_ ?_ | refine okMany ?_ ?_ | refine okOne ?_ ?_ | exact rfl | exact W_cv _ | exact V_cv _ | exact Dd_cv _ | exact cells_cv _ _ _ | exact okPt _) (by repeat first | exact plain_nil | exact okC_nil | refine plain_v ?_ | refine plain_g ?_ ?_ | refine okMany ?_ ?_ | refine okOne ?_ ?_ | exact rfl | exact W_cv _ | exact V_cv _ | exact Dd_cv _ | exact cells_cv _ _ _ | exact okPt _) (fun w => num_le_walk x y hx hy w) hk
/-! x.half(top) -/
def halfZ (x top k i : Nat) : Nat := if i < k then halfW x top i else dig B64 x i
theorem halfZ_step {x top k : Nat} {v : Value} (hv : v = .int .u64 (halfW x top k : Nat)) : (cells .u64 4 (halfZ x top k)).set k v = cells .u64 4 (halfZ x top (k + 1)) := by
  rw [hv, cells_set]
  refine cells_congr fun i _ => ?_
  by_cases h : i = k
  · subst h; simp [halfZ]
  · simp only [h, if_false, halfZ]
    by_cases h2 : i < k
    · simp [h2, show i < k + 1 from by omega]
    · simp [h2, show ¬ i < k + 1 from by omega]
theorem halfZ_get {x top k i : Nat} (h : i < 4) (hk : k ≤ i) : (cells .u64 4 (halfZ x top k)).getD i undef = .int .u64 (dig B64 x i : Nat) := by
  rw [cells_get h, halfZ, if_neg (by omega)]
def halfSt (x top k : Nat) : SSt := mkSt [(1, .one (.v (.int .u64 (top : Nat)))), (2, .one (.p 0 0)), (4, .one (.p 8 0)), (7, .one (.v (.int .i64 k)))]
  [(0, ⟨[.many 4 (cells .u64 4 (halfZ x top k))], true⟩), (8, ⟨[.many 4 (List.replicate 4 (.int .u64 0))], true⟩)] 24 28
theorem num_half_walk (x top : Nat) (hx : x < R) (ht : top < B64) (w : World) : VC Go.Proofs.Try.prog (fun _ => False) w ((Go.Proofs.Try.f80).body.getD .skip) (mkSt (argSlots 0 [(.g [.many 4 (W (x))]), (.v (.int .u64 (top : Nat)))]) [] 0 28) (endS Γ [.cell 4 69] (fun _ r => r = [(.g [.many 4 (W (x / 2 + top % 2 * 57896044618658097711785492504343953926634992332820282019728792003956564819968))])])) := by
  unfold Go.Proofs.Try.f80
  dsimp only [Option.getD]
  refine vc_seq ?_
  refine vc_straight tyOK false [0, 1] rfl 0 16 rfl rfl ?_
  refine And.intro trivial ?_
  refine And.intro trivial ?_
  refine vc_seq ?_
  refine vc_seq ?_
  refine vc_straight tyOK false [0] rfl 16 24 rfl rfl ?_
  refine And.intro trivial ?_
  refine vc_block ?_
  refine vc_loop (fun k : Nat => k ≤ 4) (halfSt x top) (fun k => 4 - k) 0 (by omega) (ent_mk rfl ⟨rfl, rfl, rfl, rfl, trivial⟩ ⟨blk_many (cells_congr fun i _ => by simp [halfZ]), rfl, trivial⟩ rfl) ?_
  intro k hk
  refine vc_seq ?_
  refine vc_straight tyOK false [0] rfl 24 32 rfl rfl ?_
  refine And.intro rfl ?_
  refine vc_seq ?_
  refine vc_if rfl (fun hc1 => ?_) (fun hc1 => ?_)
  · have hk4 : k < 4 := by have := of_decide_eq_true hc1; omega
    refine vc_skip ?_
    refine vc_seq ?_
    refine vc_block ?_
    refine vc_seq ?_
    refine vc_straight tyOK false [0, 1] rfl 32 48 rfl rfl ?_
    iterate 2 refine And.intro trivial ?_
    refine vc_seq ?_
    refine vc_straight tyOK false [0, 1] rfl 48 64 rfl rfl ?_
    iterate 2 refine And.intro trivial ?_
    refine vc_seq ?_
    refine vc_seq ?_
    refine vc_straight tyOK false [0, 1] rfl 64 80 rfl rfl ?_
    refine And.intro trivial ?_
    refine And.intro rfl ?_
    refine vc_if rfl (fun hc2 => ?_) (fun hc2 => ?_)
    · have hk3 : k < 3 := by have := of_decide_eq_true hc2; omega
      refine vc_straight tyOK false [0, 1, 2, 3, 4] rfl 80 120 rfl rfl ?_
      refine And.intro trivial ?_
      refine reg_name rfl rfl rfl rfl ?_ (fun v hv => ?_)
      · exact (by exact rfl)
      replace hv := hv.symm.trans (i64n (k + 1) (by omega) (by omega))
      subst hv
      refine And.intro (by omega) ?_
      refine reg_name rfl rfl rfl rfl ?_ (fun v hv => ?_)
      · exact (by omega)
      replace hv := hv.symm.trans (halfZ_get (by omega) (by omega))
      subst hv
      refine And.intro trivial ?_
      refine vc_straight tyOK false [0, 1, 2, 3, 4, 5, 6, 7, 8, 9] rfl 120 200 rfl rfl ?_
      iterate 2 refine And.intro trivial ?_
      refine And.intro (by omega) ?_
      refine reg_name rfl rfl rfl rfl ?_ (fun v hv => ?_)
      · exact (by omega)
      replace hv := hv.symm.trans (halfZ_get hk4 (Nat.le_refl _))
      subst hv
      refine And.intro (by decide) ?_
      refine And.intro trivial ?_
      iterate 4 refine And.intro (by first | exact rfl | decide | omega | exact ⟨by omega, rfl, rfl⟩) ?_
      refine vc_straight tyOK false [0, 1] rfl 200 216 rfl rfl ?_
      refine And.intro rfl ?_
      refine And.intro trivial ?_
      refine ⟨k + 1, by omega, ent_mk rfl ⟨rfl, rfl, rfl, slot_int (wrap_i64 (by omega) (by omega)), trivial⟩ ⟨blk_many (halfZ_step (by rw [half_word (dig_lt B64_pos _ _) (by first | exact dig_lt B64_pos _ _ | exact ht)]; simp only [halfW, hk3, if_true, if_false]; rfl)), rfl, trivial⟩ rfl, by show 4 - (k + 1) < 4 - k; omega⟩
    · have hk3 : ¬ k < 3 := by have := of_decide_eq_false hc2; omega
      refine vc_skip ?_
      refine vc_straight tyOK false [0, 1, 2, 3, 4, 5, 6, 7, 8, 9] rfl 120 200 rfl rfl ?_
      iterate 2 refine And.intro trivial ?_
      refine And.intro (by omega) ?_
      refine reg_name rfl rfl rfl rfl ?_ (fun v hv => ?_)
      · exact (by omega)
      replace hv := hv.symm.trans (halfZ_get hk4 (Nat.le_refl _))
      subst hv
      refine And.intro (by decide) ?_
      refine And.intro trivial ?_
      iterate 4 refine And.intro (by first | exact rfl | decide | omega | exact ⟨by omega, rfl, rfl⟩) ?_
      refine vc_straight tyOK false [0, 1] rfl 200 216 rfl rfl ?_
      refine And.intro rfl ?_
      refine And.intro trivial ?_
      refine ⟨k + 1, by omega, ent_mk rfl ⟨rfl, rfl, rfl, slot_int (wrap_i64 (by omega) (by omega)), trivial⟩ ⟨blk_many (halfZ_step (by rw [half_word (dig_lt B64_pos _ _) (by first | exact dig_lt B64_pos _ _ | exact ht)]; simp only [halfW, hk3, if_true, if_false]; rfl)), rfl, trivial⟩ rfl, by show 4 - (k + 1) < 4 - k; omega⟩
  · obtain rfl : k = 4 := by have := of_decide_eq_false hc1; omega
    refine vc_exit ?_
    refine vc_seq ?_
    refine vc_straight tyOK false [0, 1] rfl 216 232 rfl rfl ?_
    iterate 2 refine And.intro (by first | exact trivial | exact ⟨trivial, rfl⟩) ?_
    refine vc_ret ?_
    refine And.intro (by first | exact trivial | exact ⟨trivial, trivial⟩ | exact ⟨trivial, trivial, trivial⟩) ?_
    show [SV.g [CV.many 4 _]] = _
    rw [show cells .u64 4 (halfZ x top 4) = cells .u64 4 (halfW x top) from cells_congr fun i hi => by simp only [halfZ, hi, if_true], W_of (fun i _ => halfW_lt _ _ _), half_out hx]
theorem num_half_vc (x top : Nat)  (hx : x < R) (ht : top < B64) {eff : Bool} {σ : SSt} {nm : Nat} {K : SSt → SS → Prop}  (hk : K σ (.one ((.g [.many 4 (W (x / 2 + top % 2 * 57896044618658097711785492504343953926634992332820282019728792003956564819968))])))) : CallVC Go.Proofs.Try.prog eff (.fn 80) [(.g [.many 4 (W (x))]), (.v (.int .u64 (top : Nat)))] σ nm K := by
  exact call_plain (res := [(.g [.many 4 (W (x / 2 + top % 2 * 57896044618658097711785492504343953926634992332820282019728792003956564819968))])]) tyOK Go.Proofs.Try.func80 (c := (Go.Proofs.Try.f80).body.getD .skip) rfl (by kernel_rfl) (rs := [.cell 4 69]) rfl (Nat.le_of_ble_eq_true rfl) (by repeat first | exact plain_nil | exact okC_nil | refine plain_v ?_ | refine plain_g ?_ ?_ | refine okMany ?_ ?_ | refine okOne ?_ ?_ | exact rfl | exact W_cv _ | exact V_cv _ | exact Dd_cv _ | exact cells_cv _ _ _ | exact okPt _) (by repeat first | exact plain_nil | exact okC_nil | refine plain_v ?_ | refine plain_g ?_ ?_ | refine okMany ?_ ?_ | refine okOne ?_ ?_ | exact rfl | exact W_cv _ | exact V_cv _ | exact Dd_cv _ | exact cells_cv _ _ _ | exact okPt _) (fun w => num_half_walk x top hx ht w) hk
/-! x.bytes() -/
def bytesSt (x k : Nat) : SSt := mkSt [(1, .one (.p 0 0)), (2, .one (.p 8 0)), (3, .one (.p 16 0)), (5, .one (.v (.int .i64 k)))]
  [(0, ⟨[.many 4 (W x)], true⟩), (8, ⟨[.many 32 (List.replicate 32 (.int .u8 0))], true⟩), (16, ⟨[.many 32 (cells .u8 32 fun i => if i < k then dig 256 x (31 - i) else 0)], true⟩)] 32 23
theorem num_bytes_walk (x : Nat) (hx : x < R) (w : World) : VC Go.Proofs.Try.prog (fun _ => False) w ((Go.Proofs.Try.f55).body.getD .skip) (mkSt (argSlots 0 [(.g [.many 4 (W (x))])]) [] 0 23) (endS Γ [.cell 2 22] (fun _ r => r = [(.g [.many 32 (Y x)])])) := by
  unfold Go.Proofs.Try.f55
  dsimp only [Option.getD]
  refine vc_seq ?_
  refine vc_straight tyOK false [0, 1] rfl 0 16 rfl rfl ?_
  refine And.intro trivial ?_
  refine And.intro trivial ?_
  refine vc_seq ?_
  refine vc_straight tyOK false [0] rfl 16 24 rfl rfl ?_
  refine And.intro trivial ?_
  refine vc_seq ?_
  refine vc_seq ?_
  refine vc_straight tyOK false [0] rfl 24 32 rfl rfl ?_
  refine And.intro trivial ?_
  refine vc_block ?_
  refine vc_loop (fun k : Nat => k ≤ 32) (bytesSt x) (fun k => 32 - k) 0 (by omega) (ent_mk rfl ⟨rfl, rfl, rfl, rfl, trivial⟩ ⟨rfl, rfl, blk_many (cells_zero _ _), trivial⟩ rfl) ?_
  intro k hk
  refine vc_seq ?_
  refine vc_straight tyOK false [0] rfl 32 40 rfl rfl ?_
  refine And.intro rfl ?_
  refine vc_seq ?_
  refine vc_if rfl (fun hc1 => ?_) (fun hc1 => ?_)
  · have hk4 : k < 32 := by have := of_decide_eq_true hc1; omega
    refine vc_skip ?_
    refine vc_seq ?_
    refine vc_block ?_
    refine vc_seq ?_
    refine vc_straight tyOK false [0, 1] rfl 40 56 rfl rfl ?_
    iterate 2 refine And.intro trivial ?_
    refine vc_straight tyOK false [0, 1, 2, 3, 4, 5, 6, 7, 8, 9, 10, 11, 12, 13] rfl 56 168 rfl rfl ?_
    iterate 2 refine And.intro trivial ?_
    refine reg_name rfl rfl rfl rfl ?_ (fun v hv => ?_)
    · exact (by decide)
    replace hv := hv.symm.trans (i64n (k / 8) (tdivn k 8) (by omega))
    subst hv
    refine reg_name rfl rfl rfl rfl ?_ (fun v hv => ?_)
    · exact (by exact rfl)
    replace hv := hv.symm.trans (i64n (3 - k / 8) (by omega) (by omega))
    subst hv
    refine And.intro (by omega) ?_
    refine reg_name rfl rfl rfl rfl ?_ (fun v hv => ?_)
    · exact (by omega)
    replace hv := hv.symm.trans (W_get (by omega))
    subst hv
    refine And.intro trivial ?_
    refine reg_name rfl rfl rfl rfl ?_ (fun v hv => ?_)
    · exact (by decide)
    replace hv := hv.symm.trans (intn (k % 8) (tmodn k 8))
    subst hv
    refine reg_name rfl rfl rfl rfl ?_ (fun v hv => ?_)
    · exact (by exact rfl)
    replace hv := hv.symm.trans (i64n (8 * (k % 8)) (by omega) (by omega))
    subst hv
    refine reg_name rfl rfl rfl rfl ?_ (fun v hv => ?_)
    · exact (by exact rfl)
    replace hv := hv.symm.trans (i64n (56 - 8 * (k % 8)) (by omega) (by omega))
    subst hv
    refine reg_name rfl rfl rfl rfl ?_ (fun v hv => ?_)
    · exact (by omega)
    replace hv := hv.symm.trans (intn _ (shr64 _ _ (by omega)))
    subst hv
    refine reg_name rfl rfl rfl rfl ?_ (fun v hv => ?_)
    · exact (by exact trivial)
    replace hv := hv.symm.trans (u8n _ rfl)
    subst hv
    iterate 2 refine And.intro (by first | omega | exact ⟨by omega, rfl, rfl⟩) ?_
    refine vc_straight tyOK false [0, 1] rfl 168 184 rfl rfl ?_
    refine And.intro rfl ?_
    refine And.intro trivial ?_
    refine ⟨k + 1, by omega, ent_mk rfl ⟨rfl, rfl, rfl, slot_int (wrap_i64 (by omega) (by omega)), trivial⟩ ⟨rfl, rfl, blk_many (step_cells _ (byte_word hk4)), trivial⟩ rfl, by show 32 - (k + 1) < 32 - k; omega⟩
  · obtain rfl : k = 32 := by have := of_decide_eq_false hc1; omega
    refine vc_exit ?_
    refine vc_seq ?_
    refine vc_straight tyOK false [0, 1] rfl 184 200 rfl rfl ?_
    iterate 2 refine And.intro (by first | exact trivial | exact ⟨trivial, rfl⟩) ?_
    refine vc_ret ?_
    refine And.intro (by first | exact trivial | exact ⟨trivial, trivial⟩ | exact ⟨trivial, trivial, trivial⟩) ?_
    show [SV.g [CV.many 32 _]] = _
    rw [cells_all]
    rfl
theorem num_bytes_vc (x : Nat)  (hx : x < R) {eff : Bool} {σ : SSt} {nm : Nat} {K : SSt → SS → Prop}  (hk : K σ (.one ((.g [.many 32 (Y x)])))) : CallVC Go.Proofs.Try.prog eff (.fn 55) [(.g [.many 4 (W (x))])] σ nm K := by
  exact call_plain (res := [(.g [.many 32 (Y x)])]) tyOK Go.Proofs.Try.func55 (c := (Go.Proofs.Try.f55).body.getD .skip) rfl (by kernel_rfl) (rs := [.cell 2 22]) rfl (Nat.le_of_ble_eq_true rfl) (by repeat first | exact plain_nil | exact okC_nil | refine plain_v ?_ | refine plain_g ?_ ?_ | refine okMany ?_ ?_ | refine okOne ?_ ?_ | exact rfl | exact W_cv _ | exact V_cv _ | exact Dd_cv _ | exact cells_cv _ _ _ | exact okPt _) (by repeat first | exact plain_nil | exact okC_nil | refine plain_v ?_ | refine plain_g ?_ ?_ | refine okMany ?_ ?_ | refine okOne ?_ ?_ | exact rfl | exact W_cv _ | exact V_cv _ | exact Dd_cv _ | exact cells_cv _ _ _ | exact okPt _) (fun w => num_bytes_walk x hx w) hk
/-! number(b) -/
def numSt (n st cap : Nat) (f : Nat → Nat) (k : Nat) : SSt := mkSt [(2, .one (.p 1 0)), (3, .one (.p 9 0)), (7, .one (.s 0 0 st 32 cap)), (8, .one (.v (.int .i64 32))), (9, .one (.v (.int .i64 k)))]
  [(0, ⟨[.many n (cells .u8 n f)], false⟩), (1, ⟨[.many 4 (List.replicate 4 (.int .u64 0))], true⟩), (9, ⟨[.many 4 (cells .u64 4 (numZ f st k))], true⟩)] 41 28
theorem number_walk (n st cap : Nat) (f : Nat → Nat) (hn : st + 32 ≤ n) (hf : ∀ i, f i < 256) (w : World) : VC Go.Proofs.Try.prog (fun _ => False) w ((Go.Proofs.Try.f44).body.getD .skip) (mkSt (argSlots 0 [(.s 0 0 st 32 cap)]) [(0, ⟨[.many n (cells .u8 n f)], false⟩)] 1 28) (endS Γ [.cell 2 69] (fun _ r => r = [(.g [.many 4 (W (be (fun i => f (st + i)) 32))])])) := by
  unfold Go.Proofs.Try.f44
  dsimp only [Option.getD]
  refine vc_seq ?_
  refine vc_straight tyOK false [0] rfl 1 9 rfl rfl ?_
  refine And.intro trivial ?_
  refine vc_seq ?_
  refine vc_straight tyOK false [0] rfl 9 17 rfl rfl ?_
  refine And.intro trivial ?_
  refine vc_seq ?_
  refine vc_seq ?_
  refine vc_straight tyOK false [0, 1, 2] rfl 17 41 rfl rfl ?_
  iterate 3 refine And.intro trivial ?_
  refine vc_block ?_
  refine vc_loop (fun k : Nat => k ≤ 32) (numSt n st cap f) (fun k => 32 - k) 0 (by omega) (ent_mk rfl ⟨rfl, rfl, rfl, rfl, rfl, trivial⟩ ⟨rfl, rfl, blk_many (numZ_0 f st), trivial⟩ rfl) ?_
  intro k hk
  refine vc_seq ?_
  refine vc_straight tyOK false [0] rfl 41 49 rfl rfl ?_
  refine And.intro rfl ?_
  refine vc_seq ?_
  refine vc_if rfl (fun hc1 => ?_) (fun hc1 => ?_)
  · have hk4 : k < 32 := by have := of_decide_eq_true hc1; omega
    refine vc_skip ?_
    refine vc_seq ?_
    refine vc_block ?_
    refine vc_seq ?_
    refine vc_straight tyOK false [0, 1, 2, 3, 4] rfl 49 89 rfl rfl ?_
    refine And.intro trivial ?_
    refine And.intro (by omega) ?_
    refine reg_name rfl rfl rfl rfl ?_ (fun v hv => ?_)
    · exact (by omega)
    replace hv := hv.symm.trans (cells_get (by omega))
    subst hv
    iterate 2 refine And.intro trivial ?_
    refine vc_seq ?_
    refine vc_straight tyOK false [0, 1, 2, 3] rfl 89 121 rfl rfl ?_
    refine And.intro trivial ?_
    refine reg_name rfl rfl rfl rfl ?_ (fun v hv => ?_)
    · exact (by decide)
    replace hv := hv.symm.trans (i64n (k / 8) (tdivn k 8) (by omega))
    subst hv
    refine reg_name rfl rfl rfl rfl ?_ (fun v hv => ?_)
    · exact (by exact rfl)
    replace hv := hv.symm.trans (i64n (3 - k / 8) (by omega) (by omega))
    subst hv
    refine And.intro trivial ?_
    refine vc_straight tyOK false [0, 1, 2, 3, 4, 5, 6, 7, 8, 9] rfl 121 201 rfl rfl ?_
    iterate 2 refine And.intro trivial ?_
    refine And.intro (by omega) ?_
    refine reg_name rfl rfl rfl rfl ?_ (fun v hv => ?_)
    · exact (by omega)
    replace hv := hv.symm.trans (cells_get (i := 3 - k / 8) (by omega))
    subst hv
    refine reg_name rfl rfl rfl rfl ?_ (fun v hv => ?_)
    · exact (by decide)
    replace hv := hv.symm.trans (u64n (numZ f st k (3 - k / 8) * 256) (by show (_ : Int) * 256 = _; omega))
    subst hv
    refine And.intro trivial ?_
    refine reg_name rfl rfl rfl rfl ?_ (fun v hv => ?_)
    · exact (by exact trivial)
    replace hv := hv.symm.trans (u64i (f (st + k)) rfl (by have := hf (st + k); unfold B64; omega))
    subst hv
    iterate 3 refine And.intro (by first | exact rfl | omega | exact ⟨by omega, rfl, rfl⟩) ?_
    refine vc_straight tyOK false [0, 1] rfl 201 217 rfl rfl ?_
    refine And.intro rfl ?_
    refine And.intro trivial ?_
    refine ⟨k + 1, by omega, ent_mk rfl ⟨rfl, rfl, rfl, rfl, slot_int (wrap_i64 (by omega) (by omega)), trivial⟩ ⟨rfl, rfl, blk_many (numZ_step hf hk4 rfl), trivial⟩ rfl, by show 32 - (k + 1) < 32 - k; omega⟩
  · obtain rfl : k = 32 := by have := of_decide_eq_false hc1; omega
    refine vc_exit ?_
    refine vc_seq ?_
    refine vc_straight tyOK false [0, 1] rfl 217 233 rfl rfl ?_
    iterate 2 refine And.intro (by first | exact trivial | exact ⟨trivial, rfl⟩) ?_
    refine vc_ret ?_
    refine And.intro (by first | exact trivial | exact ⟨trivial, trivial⟩ | exact ⟨trivial, trivial, trivial⟩) ?_
    show [SV.g [CV.many 4 _]] = _
    rw [numZ_end hf]
theorem number_vc (n st cap : Nat) (f : Nat → Nat) {k base : Nat} (hn : st + 32 ≤ n) (hf : ∀ i, f i < 256) {eff : Bool} {σ : SSt} {nm : Nat} {K : SSt → SS → Prop} (hv0 : Has σ (k) (base) [.many n (cells .u8 n f)]) (hk : K σ (.one ((.g [.many 4 (W (be (fun i => f (st + i)) 32))])))) : CallVC Go.Proofs.Try.prog eff (.fn 44) [(.s k base st 32 cap)] σ nm K := by
  exact call_fn1 (args := [(.s 0 0 st 32 cap)]) (res := [(.g [.many 4 (W (be (fun i => f (st + i)) 32))])]) tyOK Go.Proofs.Try.func44 (c := (Go.Proofs.Try.f44).body.getD .skip) rfl (by kernel_rfl) (rs := [.cell 2 69]) rfl [(k, base, [.many n (cells .u8 n f)])] (Nat.le_of_ble_eq_true rfl) (okAll_mem (by repeat first | exact trivial | exact okC_nil | refine okMany ?_ ?_ | refine okOne ?_ ?_ | exact W_cv _ | exact V_cv _ | exact Dd_cv _ | exact cells_cv _ _ _ | (show (_ : Nat) < _; exact (Nat.le_of_ble_eq_true rfl)) | exact rfl | refine And.intro ?_ ?_)) (by repeat first | exact plain_nil | exact okC_nil | refine plain_v ?_ | refine plain_g ?_ ?_ | refine okMany ?_ ?_ | refine okOne ?_ ?_ | exact rfl | exact W_cv _ | exact V_cv _ | exact Dd_cv _ | exact cells_cv _ _ _ | exact okPt _) (fun w => number_walk n st cap f hn hf w) ⟨hv0, (by repeat first | exact okC_nil | refine okMany ?_ ?_ | refine okOne ?_ ?_ | exact rfl | exact W_cv _ | exact V_cv _ | exact Dd_cv _ | exact cells_cv _ _ _ | exact okPt _), trivial⟩ (fun ρ => by first | rfl | (simp [SV.den, viewRho, Nat.add_assoc]; done) | (simp [SV.den, viewRho, Nat.add_assoc]; rfl)) hk
end Go.Proofs.Ythjpppgibdfaeaa
