/- YthjpppgibdfaeaaCvGrp: a part of the proof: lemmas alone, of no statement. -/
import Derived.Test.YthjpppgibdfaeaaCvPt
/- The program's group: its fields, the base, points as x and y. -/
namespace Go.Proofs.Ythjpppgibdfaeaa
open Go Go.SX Cv Go.RowKit Go.Lib
set_option maxRecDepth 100000
theorem g_coords_walk   (w : World) : VC Go.Proofs.Try.prog (fun _ => False) w ((Go.Proofs.Try.f61).body.getD .skip) (mkSt (argSlots 0 []) [] 0 4) (endS Γ [.cell 0 87] (fun _ r => r = [(.g (Fl Pp))])) := by
  unfold Go.Proofs.Try.f61
  dsimp only [Option.getD]
  refine vc_seq ?_
  refine vc_straight tyOK false [0] rfl 0 8 rfl rfl ?_
  refine And.intro trivial ?_
  refine vc_seq ?_
  refine vc_straight tyOK false [0, 1, 2, 3] rfl 8 40 rfl rfl ?_
  iterate 4 refine And.intro (by first | exact ⟨trivial, rfl⟩ | decide | ((repeat' first | exact trivial | exact rfl | exact Nat.le_of_ble_eq_true rfl | decide | omega | refine And.intro ?_ ?_); done)) ?_
  refine vc_ret ?_
  refine And.intro (by first | exact trivial | exact ⟨trivial, trivial⟩ | exact ⟨trivial, trivial, trivial⟩) ?_
  rfl
theorem g_coords_vc    {eff : Bool} {σ : SSt} {nm : Nat} {K : SSt → SS → Prop}  (hk : K σ (.one ((.g (Fl Pp))))) : CallVC Go.Proofs.Try.prog eff (.fn 61) [] σ nm K := by
  exact call_plain (res := [(.g (Fl Pp))]) tyOK Go.Proofs.Try.func61 (c := (Go.Proofs.Try.f61).body.getD .skip) rfl (by kernel_rfl) (rs := [.cell 0 87]) rfl (Nat.le_of_ble_eq_true rfl) (by repeat first | exact plain_nil | exact okC_nil | refine plain_v ?_ | refine plain_g ?_ ?_ | refine okMany ?_ ?_ | refine okOne ?_ ?_ | exact rfl | exact W_cv _ | exact V_cv _ | exact Dd_cv _ | exact cells_cv _ _ _ | exact okPt _) (by repeat first | exact plain_nil | exact okC_nil | refine plain_v ?_ | refine plain_g ?_ ?_ | refine okMany ?_ ?_ | refine okOne ?_ ?_ | exact rfl | exact W_cv _ | exact V_cv _ | exact Dd_cv _ | exact cells_cv _ _ _ | exact okPt _) (fun w => g_coords_walk  w) hk
theorem g_orders_walk   (w : World) : VC Go.Proofs.Try.prog (fun _ => False) w ((Go.Proofs.Try.f62).body.getD .skip) (mkSt (argSlots 0 []) [] 0 4) (endS Γ [.cell 0 87] (fun _ r => r = [(.g (Fl Nn))])) := by
  unfold Go.Proofs.Try.f62
  dsimp only [Option.getD]
  refine vc_seq ?_
  refine vc_straight tyOK false [0] rfl 0 8 rfl rfl ?_
  refine And.intro trivial ?_
  refine vc_seq ?_
  refine vc_straight tyOK false [0, 1, 2, 3] rfl 8 40 rfl rfl ?_
  iterate 4 refine And.intro (by first | exact ⟨trivial, rfl⟩ | decide | ((repeat' first | exact trivial | exact rfl | exact Nat.le_of_ble_eq_true rfl | decide | omega | refine And.intro ?_ ?_); done)) ?_
  refine vc_ret ?_
  refine And.intro (by first | exact trivial | exact ⟨trivial, trivial⟩ | exact ⟨trivial, trivial, trivial⟩) ?_
  rfl
theorem g_orders_vc    {eff : Bool} {σ : SSt} {nm : Nat} {K : SSt → SS → Prop}  (hk : K σ (.one ((.g (Fl Nn))))) : CallVC Go.Proofs.Try.prog eff (.fn 62) [] σ nm K := by
  exact call_plain (res := [(.g (Fl Nn))]) tyOK Go.Proofs.Try.func62 (c := (Go.Proofs.Try.f62).body.getD .skip) rfl (by kernel_rfl) (rs := [.cell 0 87]) rfl (Nat.le_of_ble_eq_true rfl) (by repeat first | exact plain_nil | exact okC_nil | refine plain_v ?_ | refine plain_g ?_ ?_ | refine okMany ?_ ?_ | refine okOne ?_ ?_ | exact rfl | exact W_cv _ | exact V_cv _ | exact Dd_cv _ | exact cells_cv _ _ _ | exact okPt _) (by repeat first | exact plain_nil | exact okC_nil | refine plain_v ?_ | refine plain_g ?_ ?_ | refine okMany ?_ ?_ | refine okOne ?_ ?_ | exact rfl | exact W_cv _ | exact V_cv _ | exact Dd_cv _ | exact cells_cv _ _ _ | exact okPt _) (fun w => g_orders_walk  w) hk
theorem curve_vc {eff : Bool} {σ : SSt} {nm : Nat} {K : SSt → SS → Prop} (hk : K (σ.bind nm ⟨Gl, true⟩) (.one (.p nm 0))) : CallVC Go.Proofs.Try.prog eff (.fn 28) [] σ nm K := by
  refine call_new1 tyOK Go.Proofs.Try.func28 (c := (Go.Proofs.Try.f28).body.getD .skip) rfl (by kernel_rfl) (rs := [.tmp 0]) rfl (Nat.le_of_ble_eq_true rfl) plain_nil (okMany (W_cv _) (okMany (Dd_cv _) (okMany (W_cv _) (okMany (Dd_cv _) okC_nil)))) (fun w => ?_) hk
  unfold Go.Proofs.Try.f28
  dsimp only [Option.getD]
  refine vc_seq ?_
  refine vc_straight tyOK false [0] rfl 0 8 rfl rfl ?_
  refine And.intro trivial ?_
  refine vc_seq ?_
  refine vc_straight tyOK false [0, 1, 2, 3, 4] rfl 8 48 rfl rfl ?_
  refine g_coords_vc ?_
  refine g_orders_vc ?_
  iterate 3 refine And.intro (by first | exact trivial | ((repeat' first | exact trivial | exact rfl | exact Nat.le_of_ble_eq_true rfl | decide | omega | refine And.intro ?_ ?_); done)) ?_
  refine vc_ret ?_
  refine And.intro (by first | exact trivial | exact ⟨trivial, trivial⟩ | exact ⟨trivial, trivial, trivial⟩) ?_
  exact ⟨_, rfl, rfl⟩
theorem g_base_walk   (w : World) : VC Go.Proofs.Try.prog (fun _ => False) w ((Go.Proofs.Try.f32).body.getD .skip) (mkSt (argSlots 0 [(.p 0 0)]) [(0, ⟨Gl, false⟩)] 1 12) (endS Γ [.cell 2 74] (fun _ r => r = [(.g (Pt (jG)))])) := by
  unfold Go.Proofs.Try.f32
  dsimp only [Option.getD]
  refine vc_seq ?_
  refine vc_straight tyOK false [0] rfl 1 9 rfl rfl ?_
  refine And.intro trivial ?_
  refine vc_seq ?_
  refine vc_straight tyOK false [0, 1, 2, 3, 4, 5, 6, 7, 8] rfl 9 81 rfl rfl ?_
  iterate 2 refine And.intro (by first | exact trivial | decide) ?_
  show CallVC _ _ _ [.p 0 0, .g [.many 4 (W Gx)], .v (.int .u64 ((0 : Nat) : Int))] _ _ _
  refine g_lift_vc Gx 0 (by decide) (by decide) ⟨_, _, rfl, part_all⟩ ?_
  iterate 6 refine And.intro (by first | exact trivial | exact ⟨trivial, rfl⟩) ?_
  refine vc_seq ?_
  refine vc_straight tyOK false [0, 1] rfl 81 97 rfl rfl ?_
  iterate 2 refine And.intro (by first | exact trivial | exact ⟨trivial, rfl⟩) ?_
  refine vc_ret ?_
  refine And.intro (by first | exact trivial | exact ⟨trivial, trivial⟩ | exact ⟨trivial, trivial, trivial⟩) ?_
  rfl
theorem g_base_vc  {k off : Nat}  {eff : Bool} {σ : SSt} {nm : Nat} {K : SSt → SS → Prop} (hv0 : Has σ (k) (off) Gl) (hk : K σ (.one ((.g (Pt (jG)))))) : CallVC Go.Proofs.Try.prog eff (.fn 32) [(.p k off)] σ nm K := by
  exact call_fn1 (args := [(.p 0 0)]) (res := [(.g (Pt (jG)))]) tyOK Go.Proofs.Try.func32 (c := (Go.Proofs.Try.f32).body.getD .skip) rfl (by kernel_rfl) (rs := [.cell 2 74]) rfl [(k, off, Gl)] (Nat.le_of_ble_eq_true rfl) (okAll_mem (by repeat first | exact trivial | exact okC_nil | refine okMany ?_ ?_ | refine okOne ?_ ?_ | exact W_cv _ | exact V_cv _ | exact Dd_cv _ | exact cells_cv _ _ _ | (show (_ : Nat) < _; exact (Nat.le_of_ble_eq_true rfl)) | exact rfl | refine And.intro ?_ ?_)) (by repeat first | exact plain_nil | exact okC_nil | refine plain_v ?_ | refine plain_g ?_ ?_ | refine okMany ?_ ?_ | refine okOne ?_ ?_ | exact rfl | exact W_cv _ | exact V_cv _ | exact Dd_cv _ | exact cells_cv _ _ _ | exact okPt _) (fun w => g_base_walk  w) ⟨hv0, (by repeat first | exact okC_nil | refine okMany ?_ ?_ | refine okOne ?_ ?_ | exact rfl | exact W_cv _ | exact V_cv _ | exact Dd_cv _ | exact cells_cv _ _ _ | exact okPt _), trivial⟩ (fun ρ => by first | rfl | (simp [SV.den, viewRho, Nat.add_assoc]; done) | (simp [SV.den, viewRho, Nat.add_assoc]; rfl)) hk
theorem g_flat_walk (a : J) (ha : OkJ a) (w : World) : VC Go.Proofs.Try.prog (fun _ => False) w ((Go.Proofs.Try.f46).body.getD .skip) (mkSt (argSlots 0 [(.p 0 0), (.g (Pt (a)))]) [(0, ⟨Gl, false⟩)] 1 33) (endS Γ [.cell 4 69, .cell 5 69] (fun _ r => r = [(.g [.many 4 (W ((jflat a).1))]), (.g [.many 4 (W ((jflat a).2))])])) := by
  unfold Go.Proofs.Try.f46
  dsimp only [Option.getD]
  obtain ⟨x, y, z⟩ := a
  obtain ⟨hx, hy, hz⟩ := ha
  simp only at hx hy hz
  refine vc_seq ?_
  refine vc_straight tyOK false [0, 1, 2] rfl 1 25 rfl rfl ?_
  iterate 3 refine And.intro trivial ?_
  refine vc_seq ?_
  refine vc_straight tyOK false [0, 1, 2, 3] rfl 25 57 rfl rfl ?_
  iterate 4 refine And.intro (by first | exact trivial | decide) ?_
  refine vc_seq ?_
  refine vc_straight tyOK false [0, 1, 2, 3, 4, 5] rfl 57 105 rfl rfl ?_
  iterate 3 refine And.intro (by first | exact trivial | decide) ?_
  refine f_inv_vc Pp _ mo_P (by first | assumption | exact mod_ltR mo_P _ | exact pw_ltR mo_P _ _ | exact Nat.lt_trans (by assumption) mo_P.lt) ⟨_, _, rfl, part_of (n := 7) rfl⟩ ?_
  iterate 2 refine And.intro (by first | exact trivial | exact ⟨trivial, rfl⟩) ?_
  refine vc_seq ?_
  refine vc_straight tyOK false [0, 1, 2, 3, 4, 5] rfl 105 153 rfl rfl ?_
  iterate 3 refine And.intro trivial ?_
  refine f_mul_vc Pp _ _ mo_P (by first | assumption | exact mod_ltR mo_P _ | exact pw_ltR mo_P _ _ | exact Nat.lt_trans (by assumption) mo_P.lt) (by first | assumption | exact mod_ltR mo_P _ | exact pw_ltR mo_P _ _ | exact Nat.lt_trans (by assumption) mo_P.lt) ⟨_, _, rfl, part_of (n := 7) rfl⟩ ?_
  iterate 2 refine And.intro (by first | exact trivial | exact ⟨trivial, rfl⟩) ?_
  refine vc_seq ?_
  refine vc_drawn tyOK mixed false [0, 1, 2, 3, 5, 6, 7, 8, 9, 10, 4, 11, 12, 13, 14] (by kernel_rfl) 153 273 rfl rfl ?_
  iterate 10 refine And.intro (by first | exact trivial | decide) ?_
  refine f_mul_vc Pp _ _ mo_P (by first | assumption | exact mod_ltR mo_P _ | exact pw_ltR mo_P _ _ | exact Nat.lt_trans (by assumption) mo_P.lt) (by first | assumption | exact mod_ltR mo_P _ | exact pw_ltR mo_P _ _ | exact Nat.lt_trans (by assumption) mo_P.lt) ⟨_, _, rfl, part_of (n := 7) rfl⟩ ?_
  refine f_mul_vc Pp _ _ mo_P (by first | assumption | exact mod_ltR mo_P _ | exact pw_ltR mo_P _ _ | exact Nat.lt_trans (by assumption) mo_P.lt) (by first | assumption | exact mod_ltR mo_P _ | exact pw_ltR mo_P _ _ | exact Nat.lt_trans (by assumption) mo_P.lt) ⟨_, _, rfl, part_of (n := 7) rfl⟩ ?_
  refine f_mul_vc Pp _ _ mo_P (by first | assumption | exact mod_ltR mo_P _ | exact pw_ltR mo_P _ _ | exact Nat.lt_trans (by assumption) mo_P.lt) (by first | assumption | exact mod_ltR mo_P _ | exact pw_ltR mo_P _ _ | exact Nat.lt_trans (by assumption) mo_P.lt) ⟨_, _, rfl, part_of (n := 7) rfl⟩ ?_
  iterate 2 refine And.intro (by exact ⟨trivial, rfl⟩) ?_
  refine vc_ret ?_
  refine And.intro (by first | exact trivial | exact ⟨trivial, trivial⟩ | exact ⟨trivial, trivial, trivial⟩) ?_
  rfl
theorem g_flat_vc (a : J) {k off : Nat} (ha : OkJ a) {eff : Bool} {σ : SSt} {nm : Nat} {K : SSt → SS → Prop} (hv0 : Has σ (k) (off) Gl) (hk : K σ (.tup [(.g [.many 4 (W ((jflat a).1))]), (.g [.many 4 (W ((jflat a).2))])])) : CallVC Go.Proofs.Try.prog eff (.fn 46) [(.p k off), (.g (Pt (a)))] σ nm K := by
  exact call_fn1 (args := [(.p 0 0), (.g (Pt (a)))]) (res := [(.g [.many 4 (W ((jflat a).1))]), (.g [.many 4 (W ((jflat a).2))])]) tyOK Go.Proofs.Try.func46 (c := (Go.Proofs.Try.f46).body.getD .skip) rfl (by kernel_rfl) (rs := [.cell 4 69, .cell 5 69]) rfl [(k, off, Gl)] (Nat.le_of_ble_eq_true rfl) (okAll_mem (by repeat first | exact trivial | exact okC_nil | refine okMany ?_ ?_ | refine okOne ?_ ?_ | exact W_cv _ | exact V_cv _ | exact Dd_cv _ | exact cells_cv _ _ _ | (show (_ : Nat) < _; exact (Nat.le_of_ble_eq_true rfl)) | exact rfl | refine And.intro ?_ ?_)) (by repeat first | exact plain_nil | exact okC_nil | refine plain_v ?_ | refine plain_g ?_ ?_ | refine okMany ?_ ?_ | refine okOne ?_ ?_ | exact rfl | exact W_cv _ | exact V_cv _ | exact Dd_cv _ | exact cells_cv _ _ _ | exact okPt _) (fun w => g_flat_walk a ha w) ⟨hv0, (by repeat first | exact okC_nil | refine okMany ?_ ?_ | refine okOne ?_ ?_ | exact rfl | exact W_cv _ | exact V_cv _ | exact Dd_cv _ | exact cells_cv _ _ _ | exact okPt _), trivial⟩ (fun ρ => by first | rfl | (simp [SV.den, viewRho, Nat.add_assoc]; done) | (simp [SV.den, viewRho, Nat.add_assoc]; rfl)) hk
theorem number0_vc (n cap : Nat) (f : Nat → Nat) {k base : Nat} (hn : 32 ≤ n) (hf : ∀ i, f i < 256) {eff : Bool} {σ : SSt} {nm : Nat} {K : SSt → SS → Prop} (hv0 : Has σ k base [.many n (cells .u8 n f)]) (hk : K σ (.one (.g [.many 4 (W (be f 32))]))) :
    CallVC Go.Proofs.Try.prog eff (.fn 44) [.s k base 0 32 cap] σ nm K := by
  refine number_vc n 0 cap f (by omega) hf hv0 ?_
  rw [show (fun i => f (0 + i)) = f from funext fun i => by rw [Nat.zero_add]]
  exact hk
theorem g_key_walk (f : Nat → Nat) (hf : ∀ i, f i < 256) (w : World) : VC Go.Proofs.Try.prog (fun _ => False) w ((Go.Proofs.Try.f29).body.getD .skip) (mkSt (argSlots 0 [(.p 0 0), (.g [.many 32 (cells .u8 32 f)])]) [(0, ⟨Gl, false⟩)] 1 20) (endS Γ [.cell 4 69, .tmp 5] (fun _ r => r = [(.g [.many 4 (W (be f 32))]), (.v (.bool (keyOK (be f 32))))])) := by
  unfold Go.Proofs.Try.f29
  dsimp only [Option.getD]
  have hR := be_lt_R (f := f) (fun i _ => hf i)
  refine vc_seq ?_
  refine vc_straight tyOK false [0, 1, 2] rfl 1 25 rfl rfl ?_
  iterate 3 refine And.intro trivial ?_
  refine vc_seq ?_
  refine vc_straight tyOK false [0, 1, 2, 3] rfl 25 57 rfl rfl ?_
  refine And.intro (by ((repeat' first | exact trivial | exact rfl | exact Nat.le_of_ble_eq_true rfl | decide | omega | refine And.intro ?_ ?_); done)) ?_
  refine number0_vc 32 32 f (by omega) hf ⟨_, _, rfl, part_all⟩ ?_
  iterate 2 refine And.intro (by first | exact trivial | exact ⟨trivial, rfl⟩) ?_
  refine vc_seq ?_
  refine vc_drawn tyOK mixed false [0, 1, 2, 3, 4, 5, 6, 7, 8, 9, 10, 11, 12] (by kernel_rfl) 57 161 rfl rfl ?_
  iterate 2 refine And.intro trivial ?_
  refine num_zero_vc _ hR ?_
  refine And.intro trivial ?_
  refine reg_bool rfl rfl rfl rfl (by exact trivial) (fun b hb4 => ?_)
  cases b with
  | false =>
    iterate 3 refine And.intro (by first | exact trivial | exact ⟨trivial, rfl⟩) ?_
    refine vc_ret ?_
    refine And.intro (by first | exact trivial | exact ⟨trivial, trivial⟩ | exact ⟨trivial, trivial, trivial⟩) ?_
    first
    | (rw [← key_yes hb4]; done)
    | (rw [← key_no hb4]; done)
    | (rw [← key_yes hb4]; rfl)
    | (rw [← key_no hb4]; rfl)
  | true =>
    iterate 4 refine And.intro (by first | exact trivial | decide) ?_
    refine f_below_vc Nn _ mo_N hR ⟨_, _, rfl, part_of (n := 7) rfl⟩ ?_
    iterate 3 refine And.intro (by first | exact trivial | exact ⟨trivial, rfl⟩) ?_
    refine vc_ret ?_
    refine And.intro (by first | exact trivial | exact ⟨trivial, trivial⟩ | exact ⟨trivial, trivial, trivial⟩) ?_
    first
    | (rw [← key_yes hb4]; done)
    | (rw [← key_no hb4]; done)
    | (rw [← key_yes hb4]; rfl)
    | (rw [← key_no hb4]; rfl)
theorem g_key_vc (f : Nat → Nat) {k off : Nat} (hf : ∀ i, f i < 256) {eff : Bool} {σ : SSt} {nm : Nat} {K : SSt → SS → Prop} (hv0 : Has σ (k) (off) Gl) (hk : K σ (.tup [(.g [.many 4 (W (be f 32))]), (.v (.bool (keyOK (be f 32))))])) : CallVC Go.Proofs.Try.prog eff (.fn 29) [(.p k off), (.g [.many 32 (cells .u8 32 f)])] σ nm K := by
  exact call_fn1 (args := [(.p 0 0), (.g [.many 32 (cells .u8 32 f)])]) (res := [(.g [.many 4 (W (be f 32))]), (.v (.bool (keyOK (be f 32))))]) tyOK Go.Proofs.Try.func29 (c := (Go.Proofs.Try.f29).body.getD .skip) rfl (by kernel_rfl) (rs := [.cell 4 69, .tmp 5]) rfl [(k, off, Gl)] (Nat.le_of_ble_eq_true rfl) (okAll_mem (by repeat first | exact trivial | exact okC_nil | refine okMany ?_ ?_ | refine okOne ?_ ?_ | exact W_cv _ | exact V_cv _ | exact Dd_cv _ | exact cells_cv _ _ _ | (show (_ : Nat) < _; exact (Nat.le_of_ble_eq_true rfl)) | exact rfl | refine And.intro ?_ ?_)) (by repeat first | exact plain_nil | exact okC_nil | refine plain_v ?_ | refine plain_g ?_ ?_ | refine okMany ?_ ?_ | refine okOne ?_ ?_ | exact rfl | exact W_cv _ | exact V_cv _ | exact Dd_cv _ | exact cells_cv _ _ _ | exact okPt _) (fun w => g_key_walk f hf w) ⟨hv0, (by repeat first | exact okC_nil | refine okMany ?_ ?_ | refine okOne ?_ ?_ | exact rfl | exact W_cv _ | exact V_cv _ | exact Dd_cv _ | exact cells_cv _ _ _ | exact okPt _), trivial⟩ (fun ρ => by first | rfl | (simp [SV.den, viewRho, Nat.add_assoc]; done) | (simp [SV.den, viewRho, Nat.add_assoc]; rfl)) hk
theorem g_unpack_walk (n st len cap : Nat) (f : Nat → Nat) (hn : st + len ≤ n) (hc : len ≤ cap) (hf : ∀ i, f i < 256) (w : World) : VC Go.Proofs.Try.prog (fun _ => False) w ((Go.Proofs.Try.f37).body.getD .skip) (mkSt (argSlots 0 [(.p 0 0), (.s 1 0 st len cap)]) [(0, ⟨Gl, false⟩), (1, ⟨[.many n (cells .u8 n f)], false⟩)] 2 38) (endS Γ [.cell 4 74, .tmp 5] (fun _ r => r = [(.g (Pt ((junpack f st len).1))), (.v (.bool (junpack f st len).2))])) := by
  unfold Go.Proofs.Try.f37
  dsimp only [Option.getD]
  refine vc_seq ?_
  refine vc_straight tyOK false [0, 1] rfl 2 18 rfl rfl ?_
  iterate 2 refine And.intro trivial ?_
  refine vc_seq ?_
  refine vc_seq ?_
  refine vc_straight tyOK false [0, 1, 2, 3, 4, 5, 6, 7, 8, 9] rfl 18 98 rfl rfl ?_
  iterate 3 refine And.intro (by first | exact trivial | exact rfl) ?_
  refine reg_bool rfl rfl rfl rfl (by exact trivial) (fun b hb3 => ?_)
  cases b with
  | false =>
    have h33 : len = 33 := nbnen hb3
    subst h33
    iterate 2 refine And.intro (by first | exact trivial | decide) ?_
    refine reg_name rfl rfl rfl rfl ?_ (fun v hv => ?_)
    · exact (by omega)
    replace hv := hv.symm.trans (cells_get (i := st + 0) (by omega))
    subst hv
    refine reg_name rfl rfl rfl rfl ?_ (fun v hv => ?_)
    · exact (by exact rfl)
    replace hv := hv.symm.trans (intn _ (andNot1 (hf _)))
    subst hv
    iterate 2 refine And.intro (by first | exact trivial | exact rfl) ?_
    refine vc_if rfl (fun hc1 => ?_) (fun hc1 => ?_)
    · have h2 : f st / 2 * 2 ≠ 2 := bnen hc1
      refine vc_seq ?_
      refine vc_straight tyOK false [0, 1, 2] rfl 98 122 rfl rfl ?_
      iterate 3 refine And.intro (by first | exact trivial | exact ⟨trivial, rfl⟩) ?_
      refine vc_ret ?_
      refine And.intro (by first | exact trivial | exact ⟨trivial, trivial⟩ | exact ⟨trivial, trivial, trivial⟩) ?_
      first
      | (rw [junpack_yes h2 h3]; done)
      | (rw [junpack_len h33]; rfl)
      | (rw [junpack_big h3]; rfl)
      | (rw [junpack_head h2]; rfl)
    · have h2 : f st / 2 * 2 = 2 := nbnen hc1
      refine vc_skip ?_
      refine vc_seq ?_
      refine vc_straight tyOK false [0, 1, 2, 3, 4] rfl 122 162 rfl rfl ?_
      refine And.intro trivial ?_
      refine reg_sv rfl rfl rfl rfl ?_ (fun v hv => ?_)
      · exact (by ((repeat' first | exact trivial | exact rfl | exact Nat.le_of_ble_eq_true rfl | decide | omega | refine And.intro ?_ ?_); done))
      replace hv := hv.symm.trans (show SV.s 1 0 (if cap = 1 then st else st + 1) 32 (cap - 1) = SV.s 1 0 (st + 1) 32 (cap - 1) from by rw [if_neg (by omega)])
      subst hv
      refine number_vc n (st + 1) (cap - 1) f (by omega) hf ⟨_, _, rfl, part_all⟩ ?_
      iterate 2 refine And.intro (by first | exact trivial | exact ⟨trivial, rfl⟩) ?_
      refine vc_seq ?_
      refine vc_seq ?_
      refine vc_drawn tyOK mixed false [0, 1, 2, 3, 4, 5] (by kernel_rfl) 162 210 rfl rfl ?_
      iterate 4 refine And.intro (by first | exact trivial | decide) ?_
      refine f_below_vc Pp _ mo_P (be_lt_R fun i _ => hf _) ⟨_, _, rfl, part_of (n := 7) rfl⟩ ?_
      refine And.intro trivial ?_
      refine vc_if rfl (fun hc2 => ?_) (fun hc2 => ?_)
      · have h3 : ¬ be (fun i => f (st + 1 + i)) 32 < Pp := by simpa using hc2
        refine vc_seq ?_
        refine vc_straight tyOK false [0, 1, 2] rfl 210 234 rfl rfl ?_
        iterate 3 refine And.intro (by first | exact trivial | exact ⟨trivial, rfl⟩) ?_
        refine vc_ret ?_
        refine And.intro (by first | exact trivial | exact ⟨trivial, trivial⟩ | exact ⟨trivial, trivial, trivial⟩) ?_
        first
        | (rw [junpack_yes h2 h3]; done)
        | (rw [junpack_len h33]; rfl)
        | (rw [junpack_big h3]; rfl)
        | (rw [junpack_head h2]; rfl)
      · have h3 : be (fun i => f (st + 1 + i)) 32 < Pp := by simpa using hc2
        refine vc_skip ?_
        refine vc_seq ?_
        refine vc_drawn tyOK mixed false [0, 1, 2, 3, 4, 5, 6, 7, 8, 9, 10, 11] (by kernel_rfl) 234 330 rfl rfl ?_
        iterate 4 refine And.intro (by first | exact trivial | decide) ?_
        refine reg_name rfl rfl rfl rfl ?_ (fun v hv => ?_)
        · exact (by omega)
        replace hv := hv.symm.trans (cells_get (i := st + 0) (by omega))
        subst hv
        refine reg_name rfl rfl rfl rfl ?_ (fun v hv => ?_)
        · exact (by exact rfl)
        replace hv := hv.symm.trans (intn _ (and1_u8 (hf _)))
        subst hv
        refine reg_name rfl rfl rfl rfl ?_ (fun v hv => ?_)
        · exact (by exact trivial)
        replace hv := hv.symm.trans (u64i _ rfl (by unfold B64; omega))
        subst hv
        refine g_lift_vc _ (f st % 2) h3 (Nat.mod_lt _ (by decide)) ⟨_, _, rfl, part_all⟩ ?_
        iterate 4 refine And.intro (by first | exact trivial | exact ⟨trivial, rfl⟩) ?_
        refine vc_ret ?_
        refine And.intro (by first | exact trivial | exact ⟨trivial, trivial⟩ | exact ⟨trivial, trivial, trivial⟩) ?_
        first
        | (rw [junpack_yes h2 h3]; done)
        | (rw [junpack_len h33]; rfl)
        | (rw [junpack_big h3]; rfl)
        | (rw [junpack_head h2]; rfl)
  | true =>
    have h33 : len ≠ 33 := bnen hb3
    refine And.intro trivial ?_
    refine vc_if rfl (fun hc3 => ?_) (fun hc3 => ?_)
    · skip
      refine vc_seq ?_
      refine vc_straight tyOK false [0, 1, 2] rfl 98 122 rfl rfl ?_
      iterate 3 refine And.intro (by first | exact trivial | exact ⟨trivial, rfl⟩) ?_
      refine vc_ret ?_
      refine And.intro (by first | exact trivial | exact ⟨trivial, trivial⟩ | exact ⟨trivial, trivial, trivial⟩) ?_
      first
      | (rw [junpack_yes h2 h3]; done)
      | (rw [junpack_len h33]; rfl)
      | (rw [junpack_big h3]; rfl)
      | (rw [junpack_head h2]; rfl)
    · cases hc3
theorem g_unpack_vc (n st len cap : Nat) (f : Nat → Nat) {k off kb base : Nat} (hn : st + len ≤ n) (hc : len ≤ cap) (hf : ∀ i, f i < 256) {eff : Bool} {σ : SSt} {nm : Nat} {K : SSt → SS → Prop} (hv0 : Has σ (k) (off) Gl) (hv1 : Has σ (kb) (base) [.many n (cells .u8 n f)]) (hk : K σ (.tup [(.g (Pt ((junpack f st len).1))), (.v (.bool (junpack f st len).2))])) : CallVC Go.Proofs.Try.prog eff (.fn 37) [(.p k off), (.s kb base st len cap)] σ nm K := by
  exact call_fn1 (args := [(.p 0 0), (.s 1 0 st len cap)]) (res := [(.g (Pt ((junpack f st len).1))), (.v (.bool (junpack f st len).2))]) tyOK Go.Proofs.Try.func37 (c := (Go.Proofs.Try.f37).body.getD .skip) rfl (by kernel_rfl) (rs := [.cell 4 74, .tmp 5]) rfl [(k, off, Gl), (kb, base, [.many n (cells .u8 n f)])] (Nat.le_of_ble_eq_true rfl) (okAll_mem (by repeat first | exact trivial | exact okC_nil | refine okMany ?_ ?_ | refine okOne ?_ ?_ | exact W_cv _ | exact V_cv _ | exact Dd_cv _ | exact cells_cv _ _ _ | (show (_ : Nat) < _; exact (Nat.le_of_ble_eq_true rfl)) | exact rfl | refine And.intro ?_ ?_)) (by repeat first | exact plain_nil | exact okC_nil | refine plain_v ?_ | refine plain_g ?_ ?_ | refine okMany ?_ ?_ | refine okOne ?_ ?_ | exact rfl | exact W_cv _ | exact V_cv _ | exact Dd_cv _ | exact cells_cv _ _ _ | exact okPt _) (fun w => g_unpack_walk n st len cap f hn hc hf w) ⟨hv0, (by repeat first | exact okC_nil | refine okMany ?_ ?_ | refine okOne ?_ ?_ | exact rfl | exact W_cv _ | exact V_cv _ | exact Dd_cv _ | exact cells_cv _ _ _ | exact okPt _), hv1, (by repeat first | exact okC_nil | refine okMany ?_ ?_ | refine okOne ?_ ?_ | exact rfl | exact W_cv _ | exact V_cv _ | exact Dd_cv _ | exact cells_cv _ _ _ | exact okPt _), trivial⟩ (fun ρ => by first | rfl | (simp [SV.den, viewRho, Nat.add_assoc]; done) | (simp [SV.den, viewRho, Nat.add_assoc]; rfl)) hk
end Go.Proofs.Ythjpppgibdfaeaa
