/- YthjpppgibdfaeaaCvField: a part of the proof: lemmas alone, of no statement. -/
import Derived.Test.YthjpppgibdfaeaaCvNum
import Derived.Test.YthjpppgibdfaeaaCvOne
/- The program's numbers modulo m. -/
namespace Go.Proofs.Ythjpppgibdfaeaa
open Go Go.SX Cv Go.RowKit Go.Lib
set_option maxRecDepth 100000
theorem f_in_walk (m x : Nat) (hm : Mo m) (hx : x < R) (w : World) : VC Go.Proofs.Try.prog (fun _ => False) w ((Go.Proofs.Try.f43).body.getD .skip) (mkSt (argSlots 0 [(.p 0 0), (.g [.many 4 (W (x))])]) [(0, ⟨(Fl m), false⟩)] 1 20) (endS Γ [.cell 4 69] (fun _ r => r = [(.g [.many 4 (W (x % m))])])) := by
  unfold Go.Proofs.Try.f43
  dsimp only [Option.getD]
  refine vc_seq ?_
  refine vc_straight tyOK false [0, 1] rfl 1 17 rfl rfl ?_
  refine And.intro trivial ?_
  refine And.intro trivial ?_
  refine vc_seq ?_
  refine vc_seq ?_
  refine vc_drawn tyOK mixed false [0, 1, 2, 3, 4, 5, 6, 7, 8, 9, 10, 11] (by kernel_rfl) 17 113 rfl rfl ?_
  refine And.intro trivial ?_
  iterate 2 refine And.intro trivial ?_
  iterate 2 refine And.intro (by first | exact trivial | decide) ?_
  refine num_sub_vc x m hx hm.lt ?_
  iterate 4 refine And.intro trivial ?_
  refine And.intro (by exact ⟨trivial, rfl⟩) ?_
  refine And.intro trivial ?_
  refine vc_seq ?_
  refine vc_straight tyOK false [0, 1] rfl 113 129 rfl rfl ?_
  iterate 2 refine And.intro trivial ?_
  refine vc_if rfl (fun hc1 => ?_) (fun hc1 => ?_)
  · have hlt : ¬ x < m := by simpa using hc1
    refine vc_seq ?_
    refine vc_straight tyOK false [0, 1] rfl 129 145 rfl rfl ?_
    iterate 2 refine And.intro (by first | exact trivial | exact ⟨trivial, rfl⟩) ?_
    refine vc_ret ?_
    refine And.intro (by first | exact trivial | exact ⟨trivial, trivial⟩ | exact ⟨trivial, trivial, trivial⟩) ?_
    first
    | (show [SV.g [CV.many 4 (W ((x + R - m) % R))]] = _; rw [in_ge hm hx hlt])
    | (show [SV.g [CV.many 4 (W x)]] = _; rw [Nat.mod_eq_of_lt hlt])
  · have hlt : x < m := by simpa using hc1
    refine vc_skip ?_
    refine vc_seq ?_
    refine vc_straight tyOK false [0, 1] rfl 145 161 rfl rfl ?_
    iterate 2 refine And.intro (by first | exact trivial | exact ⟨trivial, rfl⟩) ?_
    refine vc_ret ?_
    refine And.intro (by first | exact trivial | exact ⟨trivial, trivial⟩ | exact ⟨trivial, trivial, trivial⟩) ?_
    first
    | (show [SV.g [CV.many 4 (W ((x + R - m) % R))]] = _; rw [in_ge hm hx hlt])
    | (show [SV.g [CV.many 4 (W x)]] = _; rw [Nat.mod_eq_of_lt hlt])
theorem f_in_vc (m x : Nat) {k off : Nat} (hm : Mo m) (hx : x < R) {eff : Bool} {σ : SSt} {nm : Nat} {K : SSt → SS → Prop} (hv0 : Has σ (k) (off) (Fl m)) (hk : K σ (.one ((.g [.many 4 (W (x % m))])))) : CallVC Go.Proofs.Try.prog eff (.fn 43) [(.p k off), (.g [.many 4 (W (x))])] σ nm K := by
  exact call_fn1 (args := [(.p 0 0), (.g [.many 4 (W (x))])]) (res := [(.g [.many 4 (W (x % m))])]) tyOK Go.Proofs.Try.func43 (c := (Go.Proofs.Try.f43).body.getD .skip) rfl (by kernel_rfl) (rs := [.cell 4 69]) rfl [(k, off, (Fl m))] (Nat.le_of_ble_eq_true rfl) (okAll_mem (by repeat first | exact trivial | exact okC_nil | refine okMany ?_ ?_ | refine okOne ?_ ?_ | exact W_cv _ | exact V_cv _ | exact Dd_cv _ | exact cells_cv _ _ _ | (show (_ : Nat) < _; exact (Nat.le_of_ble_eq_true rfl)) | exact rfl | refine And.intro ?_ ?_)) (by repeat first | exact plain_nil | exact okC_nil | refine plain_v ?_ | refine plain_g ?_ ?_ | refine okMany ?_ ?_ | refine okOne ?_ ?_ | exact rfl | exact W_cv _ | exact V_cv _ | exact Dd_cv _ | exact cells_cv _ _ _ | exact okPt _) (fun w => f_in_walk m x hm hx w) ⟨hv0, (by repeat first | exact okC_nil | refine okMany ?_ ?_ | refine okOne ?_ ?_ | exact rfl | exact W_cv _ | exact V_cv _ | exact Dd_cv _ | exact cells_cv _ _ _ | exact okPt _), trivial⟩ (fun ρ => by first | rfl | (simp [SV.den, viewRho, Nat.add_assoc]; done) | (simp [SV.den, viewRho, Nat.add_assoc]; rfl)) hk
theorem f_below_walk (m x : Nat) (hm : Mo m) (hx : x < R) (w : World) : VC Go.Proofs.Try.prog (fun _ => False) w ((Go.Proofs.Try.f52).body.getD .skip) (mkSt (argSlots 0 [(.p 0 0), (.g [.many 4 (W (x))])]) [(0, ⟨(Fl m), false⟩)] 1 17) (endS Γ [.tmp 4] (fun _ r => r = [(.v (.bool (decide (x < m))))])) := by
  unfold Go.Proofs.Try.f52
  dsimp only [Option.getD]
  refine vc_seq ?_
  refine vc_straight tyOK false [0, 1] rfl 1 17 rfl rfl ?_
  refine And.intro trivial ?_
  refine And.intro trivial ?_
  refine vc_seq ?_
  refine vc_drawn tyOK mixed false [0, 1, 2, 3, 4, 5, 6, 7, 8, 9, 10, 11] (by kernel_rfl) 17 113 rfl rfl ?_
  refine And.intro trivial ?_
  iterate 2 refine And.intro trivial ?_
  iterate 2 refine And.intro (by first | exact trivial | decide) ?_
  refine num_sub_vc x m hx hm.lt ?_
  iterate 4 refine And.intro trivial ?_
  refine And.intro (by exact ⟨trivial, rfl⟩) ?_
  refine And.intro trivial ?_
  refine vc_seq ?_
  refine vc_straight tyOK false [0, 1] rfl 113 129 rfl rfl ?_
  iterate 2 refine And.intro trivial ?_
  refine vc_ret ?_
  refine And.intro (by first | exact trivial | exact ⟨trivial, trivial⟩ | exact ⟨trivial, trivial, trivial⟩) ?_
  rfl
theorem f_below_vc (m x : Nat) {k off : Nat} (hm : Mo m) (hx : x < R) {eff : Bool} {σ : SSt} {nm : Nat} {K : SSt → SS → Prop} (hv0 : Has σ (k) (off) (Fl m)) (hk : K σ (.one ((.v (.bool (decide (x < m))))))) : CallVC Go.Proofs.Try.prog eff (.fn 52) [(.p k off), (.g [.many 4 (W (x))])] σ nm K := by
  exact call_fn1 (args := [(.p 0 0), (.g [.many 4 (W (x))])]) (res := [(.v (.bool (decide (x < m))))]) tyOK Go.Proofs.Try.func52 (c := (Go.Proofs.Try.f52).body.getD .skip) rfl (by kernel_rfl) (rs := [.tmp 4]) rfl [(k, off, (Fl m))] (Nat.le_of_ble_eq_true rfl) (okAll_mem (by repeat first | exact trivial | exact okC_nil | refine okMany ?_ ?_ | refine okOne ?_ ?_ | exact W_cv _ | exact V_cv _ | exact Dd_cv _ | exact cells_cv _ _ _ | (show (_ : Nat) < _; exact (Nat.le_of_ble_eq_true rfl)) | exact rfl | refine And.intro ?_ ?_)) (by repeat first | exact plain_nil | exact okC_nil | refine plain_v ?_ | refine plain_g ?_ ?_ | refine okMany ?_ ?_ | refine okOne ?_ ?_ | exact rfl | exact W_cv _ | exact V_cv _ | exact Dd_cv _ | exact cells_cv _ _ _ | exact okPt _) (fun w => f_below_walk m x hm hx w) ⟨hv0, (by repeat first | exact okC_nil | refine okMany ?_ ?_ | refine okOne ?_ ?_ | exact rfl | exact W_cv _ | exact V_cv _ | exact Dd_cv _ | exact cells_cv _ _ _ | exact okPt _), trivial⟩ (fun ρ => by first | rfl | (simp [SV.den, viewRho, Nat.add_assoc]; done) | (simp [SV.den, viewRho, Nat.add_assoc]; rfl)) hk
theorem f_add_walk (m x y : Nat) (hm : Mo m) (hx : x < m) (hy : y < m) (w : World) : VC Go.Proofs.Try.prog (fun _ => False) w ((Go.Proofs.Try.f53).body.getD .skip) (mkSt (argSlots 0 [(.p 0 0), (.g [.many 4 (W (x))]), (.g [.many 4 (W (y))])]) [(0, ⟨(Fl m), false⟩)] 1 30) (endS Γ [.cell 6 69] (fun _ r => r = [(.g [.many 4 (W ((x + y) % m))])])) := by
  unfold Go.Proofs.Try.f53
  dsimp only [Option.getD]
  refine vc_seq ?_
  refine vc_straight tyOK false [0, 1, 2] rfl 1 25 rfl rfl ?_
  iterate 2 refine And.intro trivial ?_
  refine And.intro trivial ?_
  refine vc_seq ?_
  refine vc_straight tyOK false [0, 1, 2, 3, 4, 5, 6, 7, 8] rfl 25 97 rfl rfl ?_
  iterate 2 refine And.intro trivial ?_
  refine num_plus_vc x y (Nat.lt_trans hx hm.lt) (Nat.lt_trans hy hm.lt) ?_
  iterate 4 refine And.intro trivial ?_
  refine And.intro (by exact ⟨trivial, rfl⟩) ?_
  refine And.intro trivial ?_
  refine vc_seq ?_
  refine vc_seq ?_
  refine vc_straight tyOK false [0, 1] rfl 97 113 rfl rfl ?_
  refine And.intro trivial ?_
  refine And.intro rfl ?_
  refine vc_if rfl (fun hc1 => ?_) (fun hc1 => ?_)
  · have hc : (x + y) / R = 1 := by have := of_decide_eq_true hc1; omega
    refine vc_seq ?_
    refine vc_drawn tyOK mixed false [0, 1, 2, 3, 4, 5, 6, 7, 8, 9] (by kernel_rfl) 113 193 rfl rfl ?_
    refine And.intro trivial ?_
    iterate 2 refine And.intro trivial ?_
    iterate 2 refine And.intro (by first | exact trivial | decide) ?_
    refine num_sub_vc ((x + y) % R) m (Nat.mod_lt _ R_pos) hm.lt ?_
    iterate 3 refine And.intro trivial ?_
    refine And.intro (by exact ⟨trivial, rfl⟩) ?_
    refine vc_seq ?_
    refine vc_straight tyOK false [0, 1] rfl 193 209 rfl rfl ?_
    iterate 2 refine And.intro (by first | exact trivial | exact ⟨trivial, rfl⟩) ?_
    refine vc_ret ?_
    refine And.intro (by first | exact trivial | exact ⟨trivial, trivial⟩ | exact ⟨trivial, trivial, trivial⟩) ?_
    first
    | (show [SV.g [CV.many 4 (W (((x + y) % R + R - m) % R))]] = _; rw [add_ge hm hx hy hc])
    | (show [SV.g [CV.many 4 (W ((x + y) % R % m))]] = _; rw [add_lt hm hx hy hc])
  · have hc : ¬ (x + y) / R = 1 := by have := of_decide_eq_false hc1; omega
    refine vc_skip ?_
    refine vc_seq ?_
    refine vc_straight tyOK false [0, 1, 2, 3] rfl 209 241 rfl rfl ?_
    refine And.intro trivial ?_
    refine And.intro trivial ?_
    refine f_in_vc m ((x + y) % R) hm (Nat.mod_lt _ R_pos) ⟨_, _, rfl, part_all⟩ ?_
    refine And.intro (by exact ⟨trivial, rfl⟩) ?_
    refine vc_ret ?_
    refine And.intro (by first | exact trivial | exact ⟨trivial, trivial⟩ | exact ⟨trivial, trivial, trivial⟩) ?_
    first
    | (show [SV.g [CV.many 4 (W (((x + y) % R + R - m) % R))]] = _; rw [add_ge hm hx hy hc])
    | (show [SV.g [CV.many 4 (W ((x + y) % R % m))]] = _; rw [add_lt hm hx hy hc])
theorem f_add_vc (m x y : Nat) {k off : Nat} (hm : Mo m) (hx : x < m) (hy : y < m) {eff : Bool} {σ : SSt} {nm : Nat} {K : SSt → SS → Prop} (hv0 : Has σ (k) (off) (Fl m)) (hk : K σ (.one ((.g [.many 4 (W ((x + y) % m))])))) : CallVC Go.Proofs.Try.prog eff (.fn 53) [(.p k off), (.g [.many 4 (W (x))]), (.g [.many 4 (W (y))])] σ nm K := by
  exact call_fn1 (args := [(.p 0 0), (.g [.many 4 (W (x))]), (.g [.many 4 (W (y))])]) (res := [(.g [.many 4 (W ((x + y) % m))])]) tyOK Go.Proofs.Try.func53 (c := (Go.Proofs.Try.f53).body.getD .skip) rfl (by kernel_rfl) (rs := [.cell 6 69]) rfl [(k, off, (Fl m))] (Nat.le_of_ble_eq_true rfl) (okAll_mem (by repeat first | exact trivial | exact okC_nil | refine okMany ?_ ?_ | refine okOne ?_ ?_ | exact W_cv _ | exact V_cv _ | exact Dd_cv _ | exact cells_cv _ _ _ | (show (_ : Nat) < _; exact (Nat.le_of_ble_eq_true rfl)) | exact rfl | refine And.intro ?_ ?_)) (by repeat first | exact plain_nil | exact okC_nil | refine plain_v ?_ | refine plain_g ?_ ?_ | refine okMany ?_ ?_ | refine okOne ?_ ?_ | exact rfl | exact W_cv _ | exact V_cv _ | exact Dd_cv _ | exact cells_cv _ _ _ | exact okPt _) (fun w => f_add_walk m x y hm hx hy w) ⟨hv0, (by repeat first | exact okC_nil | refine okMany ?_ ?_ | refine okOne ?_ ?_ | exact rfl | exact W_cv _ | exact V_cv _ | exact Dd_cv _ | exact cells_cv _ _ _ | exact okPt _), trivial⟩ (fun ρ => by first | rfl | (simp [SV.den, viewRho, Nat.add_assoc]; done) | (simp [SV.den, viewRho, Nat.add_assoc]; rfl)) hk
theorem f_neg_walk (m x : Nat) (hm : Mo m) (hx : x < m) (w : World) : VC Go.Proofs.Try.prog (fun _ => False) w ((Go.Proofs.Try.f78).body.getD .skip) (mkSt (argSlots 0 [(.p 0 0), (.g [.many 4 (W (x))])]) [(0, ⟨(Fl m), false⟩)] 1 20) (endS Γ [.cell 4 69] (fun _ r => r = [(.g [.many 4 (W ((m - x) % m))])])) := by
  unfold Go.Proofs.Try.f78
  dsimp only [Option.getD]
  refine vc_seq ?_
  refine vc_straight tyOK false [0, 1] rfl 1 17 rfl rfl ?_
  refine And.intro trivial ?_
  refine And.intro trivial ?_
  refine vc_seq ?_
  refine vc_seq ?_
  refine vc_straight tyOK false [0, 1] rfl 17 33 rfl rfl ?_
  refine And.intro trivial ?_
  refine num_zero_vc x (Nat.lt_trans hx hm.lt) ?_
  refine vc_if rfl (fun hc1 => ?_) (fun hc1 => ?_)
  · have h0 : x = 0 := of_decide_eq_true hc1
    refine vc_seq ?_
    refine vc_straight tyOK false [0, 1] rfl 33 49 rfl rfl ?_
    iterate 2 refine And.intro (by first | exact trivial | exact ⟨trivial, rfl⟩) ?_
    refine vc_ret ?_
    refine And.intro (by first | exact trivial | exact ⟨trivial, trivial⟩ | exact ⟨trivial, trivial, trivial⟩) ?_
    first
    | (show [SV.g [CV.many 4 (W ((m + R - x) % R))]] = _; rw [neg_ne hm hx h0])
    | (show [SV.g [CV.many 4 (W x)]] = _; subst h0; rw [Nat.sub_zero, Nat.mod_self])
  · have h0 : x ≠ 0 := of_decide_eq_false hc1
    refine vc_skip ?_
    refine vc_seq ?_
    refine vc_drawn tyOK mixed false [0, 1, 2, 3, 4, 5, 6, 7, 8, 9, 10, 11] (by kernel_rfl) 49 145 rfl rfl ?_
    iterate 2 refine And.intro trivial ?_
    iterate 3 refine And.intro (by first | exact trivial | decide) ?_
    refine num_sub_vc m x hm.lt (Nat.lt_trans hx hm.lt) ?_
    iterate 4 refine And.intro trivial ?_
    refine And.intro (by exact ⟨trivial, rfl⟩) ?_
    refine And.intro trivial ?_
    refine vc_seq ?_
    refine vc_straight tyOK false [0, 1] rfl 145 161 rfl rfl ?_
    iterate 2 refine And.intro (by first | exact trivial | exact ⟨trivial, rfl⟩) ?_
    refine vc_ret ?_
    refine And.intro (by first | exact trivial | exact ⟨trivial, trivial⟩ | exact ⟨trivial, trivial, trivial⟩) ?_
    first
    | (show [SV.g [CV.many 4 (W ((m + R - x) % R))]] = _; rw [neg_ne hm hx h0])
    | (show [SV.g [CV.many 4 (W x)]] = _; subst h0; rw [Nat.sub_zero, Nat.mod_self])
theorem f_neg_vc (m x : Nat) {k off : Nat} (hm : Mo m) (hx : x < m) {eff : Bool} {σ : SSt} {nm : Nat} {K : SSt → SS → Prop} (hv0 : Has σ (k) (off) (Fl m)) (hk : K σ (.one ((.g [.many 4 (W ((m - x) % m))])))) : CallVC Go.Proofs.Try.prog eff (.fn 78) [(.p k off), (.g [.many 4 (W (x))])] σ nm K := by
  exact call_fn1 (args := [(.p 0 0), (.g [.many 4 (W (x))])]) (res := [(.g [.many 4 (W ((m - x) % m))])]) tyOK Go.Proofs.Try.func78 (c := (Go.Proofs.Try.f78).body.getD .skip) rfl (by kernel_rfl) (rs := [.cell 4 69]) rfl [(k, off, (Fl m))] (Nat.le_of_ble_eq_true rfl) (okAll_mem (by repeat first | exact trivial | exact okC_nil | refine okMany ?_ ?_ | refine okOne ?_ ?_ | exact W_cv _ | exact V_cv _ | exact Dd_cv _ | exact cells_cv _ _ _ | (show (_ : Nat) < _; exact (Nat.le_of_ble_eq_true rfl)) | exact rfl | refine And.intro ?_ ?_)) (by repeat first | exact plain_nil | exact okC_nil | refine plain_v ?_ | refine plain_g ?_ ?_ | refine okMany ?_ ?_ | refine okOne ?_ ?_ | exact rfl | exact W_cv _ | exact V_cv _ | exact Dd_cv _ | exact cells_cv _ _ _ | exact okPt _) (fun w => f_neg_walk m x hm hx w) ⟨hv0, (by repeat first | exact okC_nil | refine okMany ?_ ?_ | refine okOne ?_ ?_ | exact rfl | exact W_cv _ | exact V_cv _ | exact Dd_cv _ | exact cells_cv _ _ _ | exact okPt _), trivial⟩ (fun ρ => by first | rfl | (simp [SV.den, viewRho, Nat.add_assoc]; done) | (simp [SV.den, viewRho, Nat.add_assoc]; rfl)) hk
theorem f_sub_walk (m x y : Nat) (hm : Mo m) (hx : x < m) (hy : y < m) (w : World) : VC Go.Proofs.Try.prog (fun _ => False) w ((Go.Proofs.Try.f70).body.getD .skip) (mkSt (argSlots 0 [(.p 0 0), (.g [.many 4 (W (x))]), (.g [.many 4 (W (y))])]) [(0, ⟨(Fl m), false⟩)] 1 13) (endS Γ [.cell 6 69] (fun _ r => r = [(.g [.many 4 (W ((x + m - y) % m))])])) := by
  unfold Go.Proofs.Try.f70
  dsimp only [Option.getD]
  refine vc_seq ?_
  refine vc_straight tyOK false [0, 1, 2] rfl 1 25 rfl rfl ?_
  iterate 2 refine And.intro trivial ?_
  refine And.intro trivial ?_
  refine vc_seq ?_
  refine vc_drawn tyOK mixed false [0, 1, 2, 3, 4, 5, 6] (by kernel_rfl) 25 81 rfl rfl ?_
  refine And.intro trivial ?_
  refine And.intro trivial ?_
  refine And.intro trivial ?_
  refine And.intro trivial ?_
  refine f_neg_vc m y hm hy ⟨_, _, rfl, part_all⟩ ?_
  refine f_add_vc m x ((m - y) % m) hm hx (mod_lt hm _) ⟨_, _, rfl, part_all⟩ ?_
  refine And.intro (by exact ⟨trivial, rfl⟩) ?_
  refine vc_ret ?_
  refine And.intro (by first | exact trivial | exact ⟨trivial, trivial⟩ | exact ⟨trivial, trivial, trivial⟩) ?_
  show [SV.g [CV.many 4 (W ((x + (m - y) % m) % m))]] = _
  rw [sub_mod hy]
theorem f_sub_vc (m x y : Nat) {k off : Nat} (hm : Mo m) (hx : x < m) (hy : y < m) {eff : Bool} {σ : SSt} {nm : Nat} {K : SSt → SS → Prop} (hv0 : Has σ (k) (off) (Fl m)) (hk : K σ (.one ((.g [.many 4 (W ((x + m - y) % m))])))) : CallVC Go.Proofs.Try.prog eff (.fn 70) [(.p k off), (.g [.many 4 (W (x))]), (.g [.many 4 (W (y))])] σ nm K := by
  exact call_fn1 (args := [(.p 0 0), (.g [.many 4 (W (x))]), (.g [.many 4 (W (y))])]) (res := [(.g [.many 4 (W ((x + m - y) % m))])]) tyOK Go.Proofs.Try.func70 (c := (Go.Proofs.Try.f70).body.getD .skip) rfl (by kernel_rfl) (rs := [.cell 6 69]) rfl [(k, off, (Fl m))] (Nat.le_of_ble_eq_true rfl) (okAll_mem (by repeat first | exact trivial | exact okC_nil | refine okMany ?_ ?_ | refine okOne ?_ ?_ | exact W_cv _ | exact V_cv _ | exact Dd_cv _ | exact cells_cv _ _ _ | (show (_ : Nat) < _; exact (Nat.le_of_ble_eq_true rfl)) | exact rfl | refine And.intro ?_ ?_)) (by repeat first | exact plain_nil | exact okC_nil | refine plain_v ?_ | refine plain_g ?_ ?_ | refine okMany ?_ ?_ | refine okOne ?_ ?_ | exact rfl | exact W_cv _ | exact V_cv _ | exact Dd_cv _ | exact cells_cv _ _ _ | exact okPt _) (fun w => f_sub_walk m x y hm hx hy w) ⟨hv0, (by repeat first | exact okC_nil | refine okMany ?_ ?_ | refine okOne ?_ ?_ | exact rfl | exact W_cv _ | exact V_cv _ | exact Dd_cv _ | exact cells_cv _ _ _ | exact okPt _), trivial⟩ (fun ρ => by first | rfl | (simp [SV.den, viewRho, Nat.add_assoc]; done) | (simp [SV.den, viewRho, Nat.add_assoc]; rfl)) hk
end Go.Proofs.Ythjpppgibdfaeaa
