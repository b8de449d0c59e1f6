/- YthjpppgibdfaeaaCvRNum: a part of the proof: lemmas alone, of no statement. -/
import Derived.Test.YthjpppgibdfaeaaTy
import Derived.Test.YthjpppgibdfaeaaCvTwo
/- The reference's numbers of eight words. -/
namespace Go.Proofs.Ythjpppgibdfaeaa
open Go Go.SX Cv Go.RowKit Go.Lib
set_option maxRecDepth 100000
def ofSt (n st len cap : Nat) (f : Nat → Nat) (k : Nat) : SSt := mkSt [(0, .one (.s 0 0 st len cap)), (2, .one (.p 1 0)), (3, .one (.p 9 0)), (4, .one (.v (.int .i64 k)))]
  [(0, ⟨[.many n (cells .u8 n f)], false⟩), (1, ⟨[.many 8 (List.replicate 8 (.int .u32 0))], true⟩), (9, ⟨[.many 8 (cells .u32 8 (numV f st k))], true⟩)] 25 26
theorem r_of_walk (n st len cap : Nat) (f : Nat → Nat) (hn : st + len ≤ n) (hl : 32 ≤ len) (hf : ∀ i, f i < 256) (w : World) : VC Go.Proofs.Try.prog (fun _ => False) w ((Go.Proofs.Try.f24).body.getD .skip) (mkSt (argSlots 0 [(.s 0 0 st len cap)]) [(0, ⟨[.many n (cells .u8 n f)], false⟩)] 1 26) (endS Γ [.cell 2 37] (fun _ r => r = [(.g [.many 8 (V (be (fun i => f (st + i)) 32))])])) := by
  unfold Go.Proofs.Try.f24
  dsimp only [Option.getD]
  refine vc_seq ?_
  refine vc_straight tyOK false [0] rfl 1 9 rfl rfl ?_
  refine And.intro trivial ?_
  refine vc_seq ?_
  refine vc_straight tyOK false [0] rfl 9 17 rfl rfl ?_
  refine And.intro trivial ?_
  refine vc_seq ?_
  refine vc_seq ?_
  refine vc_straight tyOK false [0] rfl 17 25 rfl rfl ?_
  refine And.intro trivial ?_
  refine vc_block ?_
  refine vc_loop (fun k : Nat => k ≤ 32) (ofSt n st len cap f) (fun k => 32 - k) 0 (by omega) (ent_mk rfl ⟨rfl, rfl, rfl, rfl, trivial⟩ ⟨rfl, rfl, blk_many (numV_0 f st), trivial⟩ rfl) ?_
  intro k hk
  refine vc_seq ?_
  refine vc_seq ?_
  refine vc_straight tyOK false [0, 1] rfl 25 41 rfl rfl ?_
  iterate 2 refine And.intro (by first | exact trivial | exact rfl) ?_
  refine vc_if rfl (fun hc1 => ?_) (fun hc1 => ?_)
  · have hk8 : k < 32 := by have := of_decide_eq_true hc1; omega
    have hb : numV f st k (7 - k / 4) < 16777216 := (numV_lt hf).resolve_right (by omega)
    have hfk := hf (st + k)
    refine vc_skip ?_
    refine vc_seq ?_
    refine vc_block ?_
    refine vc_drawn tyOK mixed false [0, 1, 2, 3, 4, 5, 6, 7, 8, 9, 10, 11, 12, 13, 14, 15, 16] (by kernel_rfl) 41 177 rfl rfl ?_
    refine And.intro trivial ?_
    refine reg_name rfl rfl rfl rfl ?_ (fun v hv => ?_)
    · exact (by decide)
    replace hv := hv.symm.trans (i64n (k / 4) (tdivn k 4) (by omega))
    subst hv
    refine reg_name rfl rfl rfl rfl ?_ (fun v hv => ?_)
    · exact (by exact rfl)
    replace hv := hv.symm.trans (i64n (7 - k / 4) (by omega) (by omega))
    subst hv
    refine And.intro trivial ?_
    refine reg_name rfl rfl rfl rfl ?_ (fun v hv => ?_)
    · exact (by decide)
    replace hv := hv.symm.trans (i64n (k / 4) (tdivn k 4) (by omega))
    subst hv
    refine reg_name rfl rfl rfl rfl ?_ (fun v hv => ?_)
    · exact (by exact rfl)
    replace hv := hv.symm.trans (i64n (7 - k / 4) (by omega) (by omega))
    subst hv
    refine And.intro (by omega) ?_
    refine reg_name rfl rfl rfl rfl ?_ (fun v hv => ?_)
    · exact (by omega)
    replace hv := hv.symm.trans (cells_get (i := 7 - k / 4) (by omega))
    subst hv
    refine reg_name rfl rfl rfl rfl ?_ (fun v hv => ?_)
    · exact (by exact rfl)
    replace hv := hv.symm.trans (u32i (numV f st k (7 - k / 4) * 256) (by show (_ : Int) * 256 = _; omega) (by unfold B32; omega))
    subst hv
    iterate 3 refine And.intro (by first | exact trivial | omega) ?_
    refine reg_name rfl rfl rfl rfl ?_ (fun v hv => ?_)
    · exact (by omega)
    replace hv := hv.symm.trans (cells_get (by omega))
    subst hv
    refine reg_name rfl rfl rfl rfl ?_ (fun v hv => ?_)
    · exact (by exact trivial)
    replace hv := hv.symm.trans (u32i (f (st + k)) rfl (by unfold B32; omega))
    subst hv
    refine reg_name rfl rfl rfl rfl ?_ (fun v hv => ?_)
    · exact (by exact rfl)
    replace hv := hv.symm.trans (u32i _ (addN _ _) (by unfold B32; omega))
    subst hv
    iterate 2 refine And.intro (by first | omega | exact ⟨by omega, rfl, rfl⟩) ?_
    refine vc_straight tyOK false [0, 1, 2] rfl 177 201 rfl rfl ?_
    iterate 3 refine And.intro (by first | exact trivial | exact rfl) ?_
    refine ⟨k + 1, by omega, ent_mk rfl ⟨rfl, rfl, rfl, slot_int (wrap_i64 (by omega) (by omega)), trivial⟩ ⟨rfl, rfl, blk_many (numV_step hk8), trivial⟩ rfl, by show 32 - (k + 1) < 32 - k; omega⟩
  · obtain rfl : k = 32 := by have := of_decide_eq_false hc1; omega
    refine vc_exit ?_
    refine vc_seq ?_
    refine vc_straight tyOK false [0, 1] rfl 201 217 rfl rfl ?_
    iterate 2 refine And.intro (by first | exact trivial | exact ⟨trivial, rfl⟩) ?_
    refine vc_ret ?_
    refine And.intro (by first | exact trivial | exact ⟨trivial, trivial⟩ | exact ⟨trivial, trivial, trivial⟩) ?_
    show [SV.g [CV.many 8 _]] = _
    rw [numV_end hf]
theorem r_of_vc (n st len cap : Nat) (f : Nat → Nat) {k base : Nat} (hn : st + len ≤ n) (hl : 32 ≤ len) (hf : ∀ i, f i < 256) {eff : Bool} {σ : SSt} {nm : Nat} {K : SSt → SS → Prop} (hv0 : Has σ (k) (base) [.many n (cells .u8 n f)]) (hk : K σ (.one ((.g [.many 8 (V (be (fun i => f (st + i)) 32))])))) : CallVC Go.Proofs.Try.prog eff (.fn 24) [(.s k base st len cap)] σ nm K := by
  exact call_fn1 (args := [(.s 0 0 st len cap)]) (res := [(.g [.many 8 (V (be (fun i => f (st + i)) 32))])]) tyOK Go.Proofs.Try.func24 (c := (Go.Proofs.Try.f24).body.getD .skip) rfl (by kernel_rfl) (rs := [.cell 2 37]) rfl [(k, base, [.many n (cells .u8 n f)])] (Nat.le_of_ble_eq_true rfl) (okAll_mem (by repeat first | exact trivial | exact okC_nil | refine okMany ?_ ?_ | refine okOne ?_ ?_ | exact W_cv _ | exact V_cv _ | exact Dd_cv _ | exact cells_cv _ _ _ | (show (_ : Nat) < _; exact (Nat.le_of_ble_eq_true rfl)) | exact rfl | refine And.intro ?_ ?_)) (by repeat first | exact plain_nil | exact okC_nil | refine plain_v ?_ | refine plain_g ?_ ?_ | refine okMany ?_ ?_ | refine okOne ?_ ?_ | exact rfl | exact W_cv _ | exact V_cv _ | exact Dd_cv _ | exact cells_cv _ _ _ | exact okPt _) (fun w => r_of_walk n st len cap f hn hl hf w) ⟨hv0, (by repeat first | exact okC_nil | refine okMany ?_ ?_ | refine okOne ?_ ?_ | exact rfl | exact W_cv _ | exact V_cv _ | exact Dd_cv _ | exact cells_cv _ _ _ | exact okPt _), trivial⟩ (fun ρ => by first | rfl | (simp [SV.den, viewRho, Nat.add_assoc]; done) | (simp [SV.den, viewRho, Nat.add_assoc]; rfl)) hk
def rbytesSt (x k : Nat) : SSt := mkSt [(1, .one (.p 0 0)), (2, .one (.p 8 0)), (3, .one (.p 16 0)), (4, .one (.v (.int .i64 k)))]
  [(0, ⟨[.many 8 (V x)], true⟩), (8, ⟨[.many 32 (List.replicate 32 (.int .u8 0))], true⟩), (16, ⟨[.many 32 (cells .u8 32 fun i => if i < k then dig 256 x (31 - i) else 0)], true⟩)] 32 24
theorem r_bytes_walk (x : Nat)  (w : World) : VC Go.Proofs.Try.prog (fun _ => False) w ((Go.Proofs.Try.f57).body.getD .skip) (mkSt (argSlots 0 [(.g [.many 8 (V (x))])]) [] 0 24) (endS Γ [.cell 2 22] (fun _ r => r = [(.g [.many 32 (Y x)])])) := by
  unfold Go.Proofs.Try.f57
  dsimp only [Option.getD]
  refine vc_seq ?_
  refine vc_straight tyOK false [0, 1] rfl 0 16 rfl rfl ?_
  iterate 2 refine And.intro trivial ?_
  refine vc_seq ?_
  refine vc_straight tyOK false [0] rfl 16 24 rfl rfl ?_
  refine And.intro trivial ?_
  refine vc_seq ?_
  refine vc_seq ?_
  refine vc_straight tyOK false [0] rfl 24 32 rfl rfl ?_
  refine And.intro trivial ?_
  refine vc_block ?_
  refine vc_loop (fun k : Nat => k ≤ 32) (rbytesSt x) (fun k => 32 - k) 0 (by omega) (ent_mk rfl ⟨rfl, rfl, rfl, rfl, trivial⟩ ⟨rfl, rfl, blk_many (cells_zero _ _), trivial⟩ rfl) ?_
  intro k hk
  refine vc_seq ?_
  refine vc_seq ?_
  refine vc_straight tyOK false [0, 1] rfl 32 48 rfl rfl ?_
  iterate 2 refine And.intro (by first | exact trivial | exact rfl) ?_
  refine vc_if rfl (fun hc1 => ?_) (fun hc1 => ?_)
  · have hk8 : k < 32 := by have := of_decide_eq_true hc1; omega
    refine vc_skip ?_
    refine vc_seq ?_
    refine vc_block ?_
    refine vc_straight tyOK false [0, 1, 2, 3, 4, 5, 6, 7, 8, 9, 10, 11, 12, 13, 14] rfl 48 168 rfl rfl ?_
    iterate 2 refine And.intro trivial ?_
    refine reg_name rfl rfl rfl rfl ?_ (fun v hv => ?_)
    · exact (by decide)
    replace hv := hv.symm.trans (i64n (k / 4) (tdivn k 4) (by omega))
    subst hv
    refine reg_name rfl rfl rfl rfl ?_ (fun v hv => ?_)
    · exact (by exact rfl)
    replace hv := hv.symm.trans (i64n (7 - k / 4) (by omega) (by omega))
    subst hv
    refine And.intro (by omega) ?_
    refine reg_name rfl rfl rfl rfl ?_ (fun v hv => ?_)
    · exact (by omega)
    replace hv := hv.symm.trans (V_get (by omega))
    subst hv
    refine And.intro trivial ?_
    refine reg_name rfl rfl rfl rfl ?_ (fun v hv => ?_)
    · exact (by decide)
    replace hv := hv.symm.trans (intn (k % 4) (tmodn k 4))
    subst hv
    refine reg_name rfl rfl rfl rfl ?_ (fun v hv => ?_)
    · exact (by exact rfl)
    replace hv := hv.symm.trans (i64n (8 * (k % 4)) (by omega) (by omega))
    subst hv
    refine reg_name rfl rfl rfl rfl ?_ (fun v hv => ?_)
    · exact (by exact rfl)
    replace hv := hv.symm.trans (i64n (24 - 8 * (k % 4)) (by omega) (by omega))
    subst hv
    refine reg_name rfl rfl rfl rfl ?_ (fun v hv => ?_)
    · exact (by exact trivial)
    replace hv := hv.symm.trans (u64i (24 - 8 * (k % 4)) rfl (by unfold B64; omega))
    subst hv
    refine reg_name rfl rfl rfl rfl ?_ (fun v hv => ?_)
    · exact (by omega)
    replace hv := hv.symm.trans (intn _ (shr32 _ _ (by omega)))
    subst hv
    refine reg_name rfl rfl rfl rfl ?_ (fun v hv => ?_)
    · exact (by exact trivial)
    replace hv := hv.symm.trans (u8n _ rfl)
    subst hv
    iterate 2 refine And.intro (by first | omega | exact ⟨by omega, rfl, rfl⟩) ?_
    refine vc_straight tyOK false [0, 1, 2] rfl 168 192 rfl rfl ?_
    iterate 3 refine And.intro (by first | exact trivial | exact rfl) ?_
    refine ⟨k + 1, by omega, ent_mk rfl ⟨rfl, rfl, rfl, slot_int (wrap_i64 (by omega) (by omega)), trivial⟩ ⟨rfl, rfl, blk_many (step_cells _ (byte_word32 hk8)), trivial⟩ rfl, by show 32 - (k + 1) < 32 - k; omega⟩
  · obtain rfl : k = 32 := by have := of_decide_eq_false hc1; omega
    refine vc_exit ?_
    refine vc_seq ?_
    refine vc_straight tyOK false [0, 1] rfl 192 208 rfl rfl ?_
    iterate 2 refine And.intro (by first | exact trivial | exact ⟨trivial, rfl⟩) ?_
    refine vc_ret ?_
    refine And.intro (by first | exact trivial | exact ⟨trivial, trivial⟩ | exact ⟨trivial, trivial, trivial⟩) ?_
    show [SV.g [CV.many 32 _]] = _
    rw [cells_all]
    rfl
theorem r_bytes_vc (x : Nat)   {eff : Bool} {σ : SSt} {nm : Nat} {K : SSt → SS → Prop}  (hk : K σ (.one ((.g [.many 32 (Y x)])))) : CallVC Go.Proofs.Try.prog eff (.fn 57) [(.g [.many 8 (V (x))])] σ nm K := by
  exact call_plain (res := [(.g [.many 32 (Y x)])]) tyOK Go.Proofs.Try.func57 (c := (Go.Proofs.Try.f57).body.getD .skip) rfl (by kernel_rfl) (rs := [.cell 2 22]) rfl (Nat.le_of_ble_eq_true rfl) (by repeat first | exact plain_nil | exact okC_nil | refine plain_v ?_ | refine plain_g ?_ ?_ | refine okMany ?_ ?_ | refine okOne ?_ ?_ | exact rfl | exact W_cv _ | exact V_cv _ | exact Dd_cv _ | exact cells_cv _ _ _ | exact okPt _) (by repeat first | exact plain_nil | exact okC_nil | refine plain_v ?_ | refine plain_g ?_ ?_ | refine okMany ?_ ?_ | refine okOne ?_ ?_ | exact rfl | exact W_cv _ | exact V_cv _ | exact Dd_cv _ | exact cells_cv _ _ _ | exact okPt _) (fun w => r_bytes_walk x w) hk
def lessSt (x y j : Nat) : SSt := mkSt [(2, .one (.p 0 0)), (3, .one (.p 8 0)), (5, .one (.v (.int .i64 (7 - (j : Int)))))]
  [(0, ⟨[.many 8 (V x)], true⟩), (8, ⟨[.many 8 (V y)], true⟩)] 32 24
theorem r_less_walk (x y : Nat) (hx : x < R) (hy : y < R) (w : World) : VC Go.Proofs.Try.prog (fun _ => False) w ((Go.Proofs.Try.f25).body.getD .skip) (mkSt (argSlots 0 [(.g [.many 8 (V (x))]), (.g [.many 8 (V (y))])]) [] 0 24) (endS Γ [.tmp 4] (fun _ r => r = [(.v (.bool (decide (x < y))))])) := by
  unfold Go.Proofs.Try.f25
  dsimp only [Option.getD]
  refine vc_seq ?_
  refine vc_straight tyOK false [0, 1, 2] rfl 0 24 rfl rfl ?_
  iterate 3 refine And.intro trivial ?_
  refine vc_seq ?_
  refine vc_seq ?_
  refine vc_straight tyOK false [0] rfl 24 32 rfl rfl ?_
  refine And.intro trivial ?_
  refine vc_block ?_
  refine vc_loop (fun j : Nat => j ≤ 8 ∧ ∀ l, 8 - j ≤ l → l < 8 → dig B32 x l = dig B32 y l) (lessSt x y) (fun j => 8 - j) 0 ⟨by omega, fun l h1 h2 => by omega⟩ (ent_mk rfl ⟨rfl, rfl, slot_int (by omega), trivial⟩ ⟨rfl, rfl, trivial⟩ rfl) ?_
  intro j ⟨hj, he⟩
  refine vc_seq ?_
  refine vc_seq ?_
  refine vc_straight tyOK false [0, 1] rfl 32 48 rfl rfl ?_
  iterate 2 refine And.intro (by first | exact trivial | exact rfl) ?_
  refine vc_if rfl (fun hc1 => ?_) (fun hc1 => ?_)
  · obtain ⟨i, hi⟩ : ∃ i : Nat, 7 - (j : Int) = (i : Int) := ⟨7 - j, by have := of_decide_eq_true hc1; omega⟩
    have hji : 7 - j = i := by omega
    have hj' : j < 8 := by omega
    refine vc_skip ?_
    refine vc_seq ?_
    refine vc_block ?_
    refine vc_seq ?_
    refine vc_drawn tyOK mixed false [0, 1, 2, 3, 4, 5, 6] (by kernel_rfl) 48 104 rfl rfl ?_
    refine reg_name rfl rfl rfl rfl ?_ (fun v hv => ?_)
    · exact (by exact trivial)
    replace hv := hv.symm.trans (intn i hi)
    subst hv
    refine And.intro (by omega) ?_
    refine reg_name rfl rfl rfl rfl ?_ (fun v hv => ?_)
    · exact (by omega)
    replace hv := hv.symm.trans (V_get (i := i) (by omega))
    subst hv
    refine reg_name rfl rfl rfl rfl ?_ (fun v hv => ?_)
    · exact (by exact trivial)
    replace hv := hv.symm.trans (intn i hi)
    subst hv
    refine And.intro (by omega) ?_
    refine reg_name rfl rfl rfl rfl ?_ (fun v hv => ?_)
    · exact (by omega)
    replace hv := hv.symm.trans (V_get (i := i) (by omega))
    subst hv
    refine And.intro rfl ?_
    refine vc_if rfl (fun hc2 => ?_) (fun hc2 => ?_)
    · have hne := bnen hc2
      refine vc_seq ?_
      refine vc_drawn tyOK mixed false [0, 1, 2, 3, 4, 5, 6, 7] (by kernel_rfl) 104 168 rfl rfl ?_
      refine reg_name rfl rfl rfl rfl ?_ (fun v hv => ?_)
      · exact (by exact trivial)
      replace hv := hv.symm.trans (intn i hi)
      subst hv
      refine And.intro (by omega) ?_
      refine reg_name rfl rfl rfl rfl ?_ (fun v hv => ?_)
      · exact (by omega)
      replace hv := hv.symm.trans (V_get (i := i) (by omega))
      subst hv
      refine reg_name rfl rfl rfl rfl ?_ (fun v hv => ?_)
      · exact (by exact trivial)
      replace hv := hv.symm.trans (intn i hi)
      subst hv
      refine And.intro (by omega) ?_
      refine reg_name rfl rfl rfl rfl ?_ (fun v hv => ?_)
      · exact (by omega)
      replace hv := hv.symm.trans (V_get (i := i) (by omega))
      subst hv
      iterate 2 refine And.intro (by first | exact trivial | exact rfl) ?_
      refine vc_ret ?_
      refine And.intro (by first | exact trivial | exact ⟨trivial, trivial⟩ | exact ⟨trivial, trivial, trivial⟩) ?_
      first
      | (rw [← less_at hx hy (fun l h1 h2 => he l (by omega) h2) hne]; done)
      | (rw [← less_not hx hy (fun l h2 => he l (by omega) h2)]; done)
    · have heq := nbnen hc2
      refine vc_skip ?_
      refine vc_straight tyOK false [0, 1, 2] rfl 168 192 rfl rfl ?_
      iterate 3 refine And.intro (by first | exact trivial | exact rfl) ?_
      refine ⟨j + 1, ⟨by omega, fun l h1 h2 => by
        rcases Nat.lt_or_ge l (8 - j) with h3 | h3
        · obtain rfl : l = i := by omega
          exact heq
        · exact he l h3 h2⟩, ent_mk rfl ⟨rfl, rfl, slot_int ((wrap_i64 (by omega) (by omega)).trans (by omega)), trivial⟩ ⟨rfl, rfl, trivial⟩ rfl, by show 8 - (j + 1) < 8 - j; omega⟩
  · obtain rfl : j = 8 := by have := of_decide_eq_false hc1; omega
    refine vc_exit ?_
    refine vc_seq ?_
    refine vc_straight tyOK false [0] rfl 192 200 rfl rfl ?_
    refine And.intro trivial ?_
    refine vc_ret ?_
    refine And.intro (by first | exact trivial | exact ⟨trivial, trivial⟩ | exact ⟨trivial, trivial, trivial⟩) ?_
    first
    | (rw [← less_at hx hy (fun l h1 h2 => he l (by omega) h2) hne]; done)
    | (rw [← less_not hx hy (fun l h2 => he l (by omega) h2)]; done)
theorem r_less_vc (x y : Nat)  (hx : x < R) (hy : y < R) {eff : Bool} {σ : SSt} {nm : Nat} {K : SSt → SS → Prop}  (hk : K σ (.one ((.v (.bool (decide (x < y))))))) : CallVC Go.Proofs.Try.prog eff (.fn 25) [(.g [.many 8 (V (x))]), (.g [.many 8 (V (y))])] σ nm K := by
  exact call_plain (res := [(.v (.bool (decide (x < y))))]) tyOK Go.Proofs.Try.func25 (c := (Go.Proofs.Try.f25).body.getD .skip) rfl (by kernel_rfl) (rs := [.tmp 4]) rfl (Nat.le_of_ble_eq_true rfl) (by repeat first | exact plain_nil | exact okC_nil | refine plain_v ?_ | refine plain_g ?_ ?_ | refine okMany ?_ ?_ | refine okOne ?_ ?_ | exact rfl | exact W_cv _ | exact V_cv _ | exact Dd_cv _ | exact cells_cv _ _ _ | exact okPt _) (by repeat first | exact plain_nil | exact okC_nil | refine plain_v ?_ | refine plain_g ?_ ?_ | refine okMany ?_ ?_ | refine okOne ?_ ?_ | exact rfl | exact W_cv _ | exact V_cv _ | exact Dd_cv _ | exact cells_cv _ _ _ | exact okPt _) (fun w => r_less_walk x y hx hy w) hk
def minusSt (x y k : Nat) : SSt := mkSt [(2, .one (.p 0 0)), (3, .one (.p 8 0)), (4, .one (.p 16 0)), (5, .one (.p 24 0)), (6, .one (.v (.int .i64 (borrow (dig B32 x) (dig B32 y) k : Nat)))), (7, .one (.v (.int .i64 k)))]
  [(0, ⟨[.many 8 (V x)], true⟩), (8, ⟨[.many 8 (V y)], true⟩), (16, ⟨[.many 8 (List.replicate 8 (.int .u32 0))], true⟩), (24, ⟨[.many 8 (cells .u32 8 fun i => if i < k then difd B32 (dig B32 x) (dig B32 y) i else 0)], true⟩)] 48 33
theorem r_minus_walk (x y : Nat) (hx : x < R) (hy : y < R) (w : World) : VC Go.Proofs.Try.prog (fun _ => False) w ((Go.Proofs.Try.f60).body.getD .skip) (mkSt (argSlots 0 [(.g [.many 8 (V (x))]), (.g [.many 8 (V (y))])]) [] 0 33) (endS Γ [.cell 4 37] (fun _ r => r = [(.g [.many 8 (V ((x + R - y) % R))])])) := by
  unfold Go.Proofs.Try.f60
  dsimp only [Option.getD]
  refine vc_seq ?_
  refine vc_straight tyOK false [0, 1, 2] rfl 0 24 rfl rfl ?_
  iterate 3 refine And.intro trivial ?_
  refine vc_seq ?_
  refine vc_straight tyOK false [0] rfl 24 32 rfl rfl ?_
  refine And.intro trivial ?_
  refine vc_seq ?_
  refine vc_straight tyOK false [0] rfl 32 40 rfl rfl ?_
  refine And.intro trivial ?_
  refine vc_seq ?_
  refine vc_seq ?_
  refine vc_straight tyOK false [0] rfl 40 48 rfl rfl ?_
  refine And.intro trivial ?_
  refine vc_block ?_
  refine vc_loop (fun k : Nat => k ≤ 8) (minusSt x y) (fun k => 8 - k) 0 (by omega) (ent_mk rfl ⟨rfl, rfl, rfl, rfl, rfl, rfl, trivial⟩ ⟨rfl, rfl, rfl, blk_many (cells_zero _ _), trivial⟩ rfl) ?_
  intro k hk
  refine vc_seq ?_
  refine vc_seq ?_
  refine vc_straight tyOK false [0, 1] rfl 48 64 rfl rfl ?_
  iterate 2 refine And.intro (by first | exact trivial | exact rfl) ?_
  refine vc_if rfl (fun hc1 => ?_) (fun hc1 => ?_)
  · have hk8 : k < 8 := by have := of_decide_eq_true hc1; omega
    have hbk := borrow_le (dig B32 x) (dig B32 y) k
    have hdx := dig_lt B32_pos x k
    have hdy := dig_lt B32_pos y k
    have hdx' : dig B32 x k < 4294967296 := hdx
    have hdy' : dig B32 y k < 4294967296 := hdy
    refine vc_skip ?_
    refine vc_seq ?_
    refine vc_block ?_
    refine vc_seq ?_
    refine vc_drawn tyOK mixed false [0, 1, 2, 3, 4, 5, 6, 7, 8, 9, 10, 11] (by kernel_rfl) 64 160 rfl rfl ?_
    iterate 2 refine And.intro (by first | exact trivial | omega) ?_
    refine reg_name rfl rfl rfl rfl ?_ (fun v hv => ?_)
    · exact (by omega)
    replace hv := hv.symm.trans (V_get hk8)
    subst hv
    refine reg_name rfl rfl rfl rfl ?_ (fun v hv => ?_)
    · exact (by exact trivial)
    replace hv := hv.symm.trans (i64n (dig B32 x k) rfl (by omega))
    subst hv
    iterate 2 refine And.intro (by first | exact trivial | omega) ?_
    refine reg_name rfl rfl rfl rfl ?_ (fun v hv => ?_)
    · exact (by omega)
    replace hv := hv.symm.trans (V_get hk8)
    subst hv
    refine reg_name rfl rfl rfl rfl ?_ (fun v hv => ?_)
    · exact (by exact trivial)
    replace hv := hv.symm.trans (i64n (dig B32 y k) rfl (by omega))
    subst hv
    refine reg_name rfl rfl rfl rfl ?_ (fun v hv => ?_)
    · exact (by exact rfl)
    replace hv := hv.symm.trans (congrArg (Value.int .i64) (wrap_i64 (by omega) (by omega)))
    subst hv
    refine And.intro trivial ?_
    refine reg_name rfl rfl rfl rfl ?_ (fun v hv => ?_)
    · exact (by exact rfl)
    replace hv := hv.symm.trans (congrArg (Value.int .i64) (wrap_i64 (by omega) (by omega)))
    subst hv
    refine And.intro trivial ?_
    refine vc_seq ?_
    refine vc_straight tyOK false [0] rfl 160 168 rfl rfl ?_
    refine And.intro trivial ?_
    refine vc_seq ?_
    refine vc_seq ?_
    refine vc_straight tyOK false [0, 1] rfl 168 184 rfl rfl ?_
    iterate 2 refine And.intro (by first | exact trivial | exact rfl) ?_
    refine vc_if rfl (fun hc2 => ?_) (fun hc2 => ?_)
    · have hd := dif_word hdx hdy hbk (of_decide_eq_true hc2)
      refine vc_seq ?_
      refine vc_straight tyOK false [0, 1, 2] rfl 184 208 rfl rfl ?_
      refine And.intro trivial ?_
      refine reg_name rfl rfl rfl rfl ?_ (fun v hv => ?_)
      · exact (by exact rfl)
      replace hv := hv.symm.trans (i64n _ hd.1 (Nat.lt_trans (Nat.mod_lt _ B32_pos) (by decide)))
      subst hv
      refine And.intro trivial ?_
      refine vc_straight tyOK false [0] rfl 208 216 rfl rfl ?_
      refine And.intro trivial ?_
      refine vc_straight tyOK false [0, 1, 2, 3, 4] rfl 216 256 rfl rfl ?_
      iterate 2 refine And.intro trivial ?_
      refine reg_name rfl rfl rfl rfl ?_ (fun v hv => ?_)
      · exact (by exact trivial)
      replace hv := hv.symm.trans ((by first | exact u32i _ rfl (Nat.mod_lt _ B32_pos) | exact u32i _ hd.1 (Nat.mod_lt _ B32_pos)))
      subst hv
      iterate 2 refine And.intro (by first | omega | exact ⟨by omega, rfl, rfl⟩) ?_
      refine vc_straight tyOK false [0, 1, 2] rfl 256 280 rfl rfl ?_
      iterate 3 refine And.intro (by first | exact trivial | exact rfl) ?_
      refine ⟨k + 1, by omega, ent_mk rfl ⟨rfl, rfl, rfl, rfl, slot_int (by rw [borrow, hd.2]; rfl), slot_int (wrap_i64 (by omega) (by omega)), trivial⟩ ⟨rfl, rfl, rfl, blk_many (step_cells _ rfl), trivial⟩ rfl, by show 8 - (k + 1) < 8 - k; omega⟩
    · have hd := dif_word' hdx hdy hbk (of_decide_eq_false hc2)
      refine vc_skip ?_
      refine vc_straight tyOK false [0, 1, 2, 3, 4] rfl 216 256 rfl rfl ?_
      iterate 2 refine And.intro trivial ?_
      refine reg_name rfl rfl rfl rfl ?_ (fun v hv => ?_)
      · exact (by exact trivial)
      replace hv := hv.symm.trans ((by first | exact u32i _ rfl (Nat.mod_lt _ B32_pos) | exact u32i _ hd.1 (Nat.mod_lt _ B32_pos)))
      subst hv
      iterate 2 refine And.intro (by first | omega | exact ⟨by omega, rfl, rfl⟩) ?_
      refine vc_straight tyOK false [0, 1, 2] rfl 256 280 rfl rfl ?_
      iterate 3 refine And.intro (by first | exact trivial | exact rfl) ?_
      refine ⟨k + 1, by omega, ent_mk rfl ⟨rfl, rfl, rfl, rfl, slot_int (by rw [borrow, hd.2]; rfl), slot_int (wrap_i64 (by omega) (by omega)), trivial⟩ ⟨rfl, rfl, rfl, blk_many (step_cells _ rfl), trivial⟩ rfl, by show 8 - (k + 1) < 8 - k; omega⟩
  · obtain rfl : k = 8 := by have := of_decide_eq_false hc1; omega
    refine vc_exit ?_
    refine vc_seq ?_
    refine vc_straight tyOK false [0, 1] rfl 280 296 rfl rfl ?_
    iterate 2 refine And.intro (by first | exact trivial | exact ⟨trivial, rfl⟩) ?_
    refine vc_ret ?_
    refine And.intro (by first | exact trivial | exact ⟨trivial, trivial⟩ | exact ⟨trivial, trivial, trivial⟩) ?_
    show [SV.g [CV.many 8 _]] = _
    rw [cells_all, V_of (fun i _ => difd_lt B32_pos _ _ _), minus_out hx hy]
theorem r_minus_vc (x y : Nat)  (hx : x < R) (hy : y < R) {eff : Bool} {σ : SSt} {nm : Nat} {K : SSt → SS → Prop}  (hk : K σ (.one ((.g [.many 8 (V ((x + R - y) % R))])))) : CallVC Go.Proofs.Try.prog eff (.fn 60) [(.g [.many 8 (V (x))]), (.g [.many 8 (V (y))])] σ nm K := by
  exact call_plain (res := [(.g [.many 8 (V ((x + R - y) % R))])]) tyOK Go.Proofs.Try.func60 (c := (Go.Proofs.Try.f60).body.getD .skip) rfl (by kernel_rfl) (rs := [.cell 4 37]) rfl (Nat.le_of_ble_eq_true rfl) (by repeat first | exact plain_nil | exact okC_nil | refine plain_v ?_ | refine plain_g ?_ ?_ | refine okMany ?_ ?_ | refine okOne ?_ ?_ | exact rfl | exact W_cv _ | exact V_cv _ | exact Dd_cv _ | exact cells_cv _ _ _ | exact okPt _) (by repeat first | exact plain_nil | exact okC_nil | refine plain_v ?_ | refine plain_g ?_ ?_ | refine okMany ?_ ?_ | refine okOne ?_ ?_ | exact rfl | exact W_cv _ | exact V_cv _ | exact Dd_cv _ | exact cells_cv _ _ _ | exact okPt _) (fun w => r_minus_walk x y hx hy w) hk
theorem r_mod_walk (x m : Nat) (hm : Mo m) (hx : x < R) (w : World) : VC Go.Proofs.Try.prog (fun _ => False) w ((Go.Proofs.Try.f50).body.getD .skip) (mkSt (argSlots 0 [(.g [.many 8 (V (x))]), (.g [.many 8 (V (m))])]) [] 0 12) (endS Γ [.cell 4 37] (fun _ r => r = [(.g [.many 8 (V (x % m))])])) := by
  unfold Go.Proofs.Try.f50
  dsimp only [Option.getD]
  refine vc_seq ?_
  refine vc_straight tyOK false [0, 1, 2] rfl 0 24 rfl rfl ?_
  iterate 3 refine And.intro trivial ?_
  refine vc_seq ?_
  refine vc_seq ?_
  refine vc_straight tyOK false [0, 1, 2] rfl 24 48 rfl rfl ?_
  iterate 2 refine And.intro trivial ?_
  refine r_less_vc x m hx hm.lt ?_
  refine vc_if rfl (fun hc1 => ?_) (fun hc1 => ?_)
  · have hlt := of_decide_eq_true hc1
    refine vc_seq ?_
    refine vc_straight tyOK false [0, 1] rfl 48 64 rfl rfl ?_
    iterate 2 refine And.intro (by first | exact trivial | exact ⟨trivial, rfl⟩) ?_
    refine vc_ret ?_
    refine And.intro (by first | exact trivial | exact ⟨trivial, trivial⟩ | exact ⟨trivial, trivial, trivial⟩) ?_
    first
    | (show [SV.g [CV.many 8 (V ((x + R - m) % R))]] = _; rw [in_ge hm hx hlt])
    | (show [SV.g [CV.many 8 (V x)]] = _; rw [Nat.mod_eq_of_lt hlt])
  · have hlt := of_decide_eq_false hc1
    refine vc_skip ?_
    refine vc_seq ?_
    refine vc_straight tyOK false [0, 1, 2, 3] rfl 64 96 rfl rfl ?_
    iterate 2 refine And.intro trivial ?_
    refine r_minus_vc x m hx hm.lt ?_
    refine And.intro (by exact ⟨trivial, rfl⟩) ?_
    refine vc_ret ?_
    refine And.intro (by first | exact trivial | exact ⟨trivial, trivial⟩ | exact ⟨trivial, trivial, trivial⟩) ?_
    first
    | (show [SV.g [CV.many 8 (V ((x + R - m) % R))]] = _; rw [in_ge hm hx hlt])
    | (show [SV.g [CV.many 8 (V x)]] = _; rw [Nat.mod_eq_of_lt hlt])
theorem r_mod_vc (x m : Nat)  (hm : Mo m) (hx : x < R) {eff : Bool} {σ : SSt} {nm : Nat} {K : SSt → SS → Prop}  (hk : K σ (.one ((.g [.many 8 (V (x % m))])))) : CallVC Go.Proofs.Try.prog eff (.fn 50) [(.g [.many 8 (V (x))]), (.g [.many 8 (V (m))])] σ nm K := by
  exact call_plain (res := [(.g [.many 8 (V (x % m))])]) tyOK Go.Proofs.Try.func50 (c := (Go.Proofs.Try.f50).body.getD .skip) rfl (by kernel_rfl) (rs := [.cell 4 37]) rfl (Nat.le_of_ble_eq_true rfl) (by repeat first | exact plain_nil | exact okC_nil | refine plain_v ?_ | refine plain_g ?_ ?_ | refine okMany ?_ ?_ | refine okOne ?_ ?_ | exact rfl | exact W_cv _ | exact V_cv _ | exact Dd_cv _ | exact cells_cv _ _ _ | exact okPt _) (by repeat first | exact plain_nil | exact okC_nil | refine plain_v ?_ | refine plain_g ?_ ?_ | refine okMany ?_ ?_ | refine okOne ?_ ?_ | exact rfl | exact W_cv _ | exact V_cv _ | exact Dd_cv _ | exact cells_cv _ _ _ | exact okPt _) (fun w => r_mod_walk x m hm hx w) hk
theorem sub_case {x y m : Nat} (hm : Mo m) (hx : x < m) (hy : y < m) (h : x < y) : (m + R - (y + R - x) % R) % R = (x + m - y) % m := by
  have := hm.lt
  rw [show y + R - x = (y - x) + R from by omega, Nat.add_mod_right, Nat.mod_eq_of_lt (a := y - x) (by omega), show m + R - (y - x) = (x + m - y) + R from by omega, Nat.add_mod_right, Nat.mod_eq_of_lt (by omega), Nat.mod_eq_of_lt (by omega)]
theorem sub_case' {x y m : Nat} (hm : Mo m) (hx : x < m) (hy : y < m) (h : ¬ x < y) : (x + R - y) % R = (x + m - y) % m := by
  have := hm.lt
  rw [show x + R - y = (x - y) + R from by omega, Nat.add_mod_right, Nat.mod_eq_of_lt (by omega), show x + m - y = (x - y) + m from by omega, Nat.add_mod_right, Nat.mod_eq_of_lt (by omega)]
theorem r_sub_walk (x y m : Nat) (hm : Mo m) (hx : x < m) (hy : y < m) (w : World) : VC Go.Proofs.Try.prog (fun _ => False) w ((Go.Proofs.Try.f26).body.getD .skip) (mkSt (argSlots 0 [(.g [.many 8 (V (x))]), (.g [.many 8 (V (y))]), (.g [.many 8 (V (m))])]) [] 0 18) (endS Γ [.cell 6 37] (fun _ r => r = [(.g [.many 8 (V ((x + m - y) % m))])])) := by
  unfold Go.Proofs.Try.f26
  dsimp only [Option.getD]
  have hxR := Nat.lt_trans hx hm.lt
  have hyR := Nat.lt_trans hy hm.lt
  refine vc_seq ?_
  refine vc_straight tyOK false [0, 1, 2, 3] rfl 0 32 rfl rfl ?_
  iterate 4 refine And.intro trivial ?_
  refine vc_seq ?_
  refine vc_seq ?_
  refine vc_straight tyOK false [0, 1, 2] rfl 32 56 rfl rfl ?_
  iterate 2 refine And.intro trivial ?_
  refine r_less_vc x y hxR hyR ?_
  refine vc_if rfl (fun hc1 => ?_) (fun hc1 => ?_)
  · have hlt := of_decide_eq_true hc1
    refine vc_seq ?_
    refine vc_drawn tyOK mixed false [0, 1, 2, 3, 4, 5] (by kernel_rfl) 56 104 rfl rfl ?_
    iterate 3 refine And.intro trivial ?_
    refine r_minus_vc y x hyR hxR ?_
    refine r_minus_vc m _ hm.lt (Nat.mod_lt _ R_pos) ?_
    refine And.intro (by exact ⟨trivial, rfl⟩) ?_
    refine vc_ret ?_
    refine And.intro (by first | exact trivial | exact ⟨trivial, trivial⟩ | exact ⟨trivial, trivial, trivial⟩) ?_
    first
    | (show [SV.g [CV.many 8 (V ((m + R - (y + R - x) % R) % R))]] = _; rw [sub_case hm hx hy hlt])
    | (show [SV.g [CV.many 8 (V ((x + R - y) % R))]] = _; rw [sub_case' hm hx hy hlt])
  · have hlt := of_decide_eq_false hc1
    refine vc_skip ?_
    refine vc_seq ?_
    refine vc_straight tyOK false [0, 1, 2, 3] rfl 104 136 rfl rfl ?_
    iterate 2 refine And.intro trivial ?_
    refine r_minus_vc x y hxR hyR ?_
    refine And.intro (by exact ⟨trivial, rfl⟩) ?_
    refine vc_ret ?_
    refine And.intro (by first | exact trivial | exact ⟨trivial, trivial⟩ | exact ⟨trivial, trivial, trivial⟩) ?_
    first
    | (show [SV.g [CV.many 8 (V ((m + R - (y + R - x) % R) % R))]] = _; rw [sub_case hm hx hy hlt])
    | (show [SV.g [CV.many 8 (V ((x + R - y) % R))]] = _; rw [sub_case' hm hx hy hlt])
theorem r_sub_vc (x y m : Nat)  (hm : Mo m) (hx : x < m) (hy : y < m) {eff : Bool} {σ : SSt} {nm : Nat} {K : SSt → SS → Prop}  (hk : K σ (.one ((.g [.many 8 (V ((x + m - y) % m))])))) : CallVC Go.Proofs.Try.prog eff (.fn 26) [(.g [.many 8 (V (x))]), (.g [.many 8 (V (y))]), (.g [.many 8 (V (m))])] σ nm K := by
  exact call_plain (res := [(.g [.many 8 (V ((x + m - y) % m))])]) tyOK Go.Proofs.Try.func26 (c := (Go.Proofs.Try.f26).body.getD .skip) rfl (by kernel_rfl) (rs := [.cell 6 37]) rfl (Nat.le_of_ble_eq_true rfl) (by repeat first | exact plain_nil | exact okC_nil | refine plain_v ?_ | refine plain_g ?_ ?_ | refine okMany ?_ ?_ | refine okOne ?_ ?_ | exact rfl | exact W_cv _ | exact V_cv _ | exact Dd_cv _ | exact cells_cv _ _ _ | exact okPt _) (by repeat first | exact plain_nil | exact okC_nil | refine plain_v ?_ | refine plain_g ?_ ?_ | refine okMany ?_ ?_ | refine okOne ?_ ?_ | exact rfl | exact W_cv _ | exact V_cv _ | exact Dd_cv _ | exact cells_cv _ _ _ | exact okPt _) (fun w => r_sub_walk x y m hm hx hy w) hk
end Go.Proofs.Ythjpppgibdfaeaa
