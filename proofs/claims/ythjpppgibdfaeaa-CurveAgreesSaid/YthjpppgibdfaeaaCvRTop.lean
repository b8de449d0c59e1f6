/- YthjpppgibdfaeaaCvRTop: a part of the proof: lemmas alone, of no statement. -/
import Derived.Test.YthjpppgibdfaeaaCvRPt
/- The reference: points as bytes; keys, public keys and signatures. -/
namespace Go.Proofs.Ythjpppgibdfaeaa
open Go Go.SX Cv Go.RowKit Go.Lib
set_option maxRecDepth 100000
theorem r_G_walk   (w : World) : VC Go.Proofs.Try.prog (fun _ => False) w ((Go.Proofs.Try.f36).body.getD .skip) (mkSt (argSlots 0 []) [] 0 9) (endS Γ [.cell 0 39] (fun _ r => r = [(.g (Pr (jG)))])) := by
  unfold Go.Proofs.Try.f36
  dsimp only [Option.getD]
  refine vc_seq ?_
  refine vc_straight tyOK false [0] rfl 0 8 rfl rfl ?_
  refine And.intro trivial ?_
  refine vc_seq ?_
  refine vc_straight tyOK false [0, 1, 2, 3, 4, 5, 6, 7] rfl 8 72 rfl rfl ?_
  refine And.intro (by decide) ?_
  show CallVC _ _ _ [.g [.many 8 (V Gx)], .v (.bool false)] _ _ _
  refine r_lift_vc Gx false Gx_lt ?_
  iterate 6 refine And.intro (by first | exact trivial | exact ⟨trivial, rfl⟩) ?_
  refine vc_seq ?_
  refine vc_straight tyOK false [0, 1] rfl 72 88 rfl rfl ?_
  iterate 2 refine And.intro (by first | exact trivial | exact ⟨trivial, rfl⟩) ?_
  refine vc_ret ?_
  refine And.intro (by first | exact trivial | exact ⟨trivial, trivial⟩ | exact ⟨trivial, trivial, trivial⟩) ?_
  rfl
theorem r_G_vc    {eff : Bool} {σ : SSt} {nm : Nat} {K : SSt → SS → Prop}  (hk : K σ (.one ((.g (Pr (jG)))))) : CallVC Go.Proofs.Try.prog eff (.fn 36) [] σ nm K := by
  exact call_plain (res := [(.g (Pr (jG)))]) tyOK Go.Proofs.Try.func36 (c := (Go.Proofs.Try.f36).body.getD .skip) rfl (by kernel_rfl) (rs := [.cell 0 39]) rfl (Nat.le_of_ble_eq_true rfl) (by repeat first | exact plain_nil | exact okC_nil | refine plain_v ?_ | refine plain_g ?_ ?_ | refine okMany ?_ ?_ | refine okOne ?_ ?_ | exact rfl | exact W_cv _ | exact V_cv _ | exact Dd_cv _ | exact cells_cv _ _ _ | exact okPt _) (by repeat first | exact plain_nil | exact okC_nil | refine plain_v ?_ | refine plain_g ?_ ?_ | refine okMany ?_ ?_ | refine okOne ?_ ?_ | exact rfl | exact W_cv _ | exact V_cv _ | exact Dd_cv _ | exact cells_cv _ _ _ | exact okPt _) (fun w => r_G_walk  w) hk
theorem r_flat_walk (a : J) (ha : OkJ a) (w : World) : VC Go.Proofs.Try.prog (fun _ => False) w ((Go.Proofs.Try.f51).body.getD .skip) (mkSt (argSlots 0 [(.g (Pr (a)))]) [] 0 19) (endS Γ [.cell 2 37, .cell 3 37] (fun _ r => r = [(.g [.many 8 (V ((rflat a).1))]), (.g [.many 8 (V ((rflat a).2))])])) := by
  unfold Go.Proofs.Try.f51
  dsimp only [Option.getD]
  obtain ⟨x, y, z⟩ := a
  obtain ⟨hx, hy, hz⟩ := ha
  simp only at hx hy hz
  refine vc_seq ?_
  refine vc_straight tyOK false [0, 1, 2] rfl 0 24 rfl rfl ?_
  iterate 3 refine And.intro trivial ?_
  refine vc_seq ?_
  refine vc_drawn tyOK mixed false [0, 1, 2, 3, 4, 5] (by kernel_rfl) 24 72 rfl rfl ?_
  iterate 2 refine And.intro (by first | exact trivial | decide) ?_
  refine r_P_vc ?_
  refine r_inv_vc _ Pp mo_P (by first | assumption | exact mod_ltR mo_P _ | exact pw_ltR mo_P _ _ | exact Nat.lt_trans (by assumption) mo_P.lt | decide) ?_
  iterate 2 refine And.intro (by first | exact trivial | exact ⟨trivial, rfl⟩) ?_
  refine vc_seq ?_
  refine vc_drawn tyOK mixed false [0, 1, 2, 5, 6, 7, 3, 4, 8, 9, 10, 11] (by kernel_rfl) 72 168 rfl rfl ?_
  iterate 6 refine And.intro (by first | exact trivial | decide) ?_
  refine r_P_vc ?_
  refine r_mul_vc _ _ Pp mo_P (by first | assumption | exact mod_ltR mo_P _ | exact pw_ltR mo_P _ _ | exact Nat.lt_trans (by assumption) mo_P.lt | decide) (by first | assumption | exact mod_ltR mo_P _ | exact pw_ltR mo_P _ _ | exact Nat.lt_trans (by assumption) mo_P.lt | decide) ?_
  refine r_P_vc ?_
  refine r_mul_vc _ _ Pp mo_P (by first | assumption | exact mod_ltR mo_P _ | exact pw_ltR mo_P _ _ | exact Nat.lt_trans (by assumption) mo_P.lt | decide) (by first | assumption | exact mod_ltR mo_P _ | exact pw_ltR mo_P _ _ | exact Nat.lt_trans (by assumption) mo_P.lt | decide) ?_
  iterate 2 refine And.intro (by exact ⟨trivial, rfl⟩) ?_
  refine vc_ret ?_
  refine And.intro (by first | exact trivial | exact ⟨trivial, trivial⟩ | exact ⟨trivial, trivial, trivial⟩) ?_
  rfl
theorem r_flat_vc (a : J)  (ha : OkJ a) {eff : Bool} {σ : SSt} {nm : Nat} {K : SSt → SS → Prop}  (hk : K σ (.tup [(.g [.many 8 (V ((rflat a).1))]), (.g [.many 8 (V ((rflat a).2))])])) : CallVC Go.Proofs.Try.prog eff (.fn 51) [(.g (Pr (a)))] σ nm K := by
  exact call_plain (res := [(.g [.many 8 (V ((rflat a).1))]), (.g [.many 8 (V ((rflat a).2))])]) tyOK Go.Proofs.Try.func51 (c := (Go.Proofs.Try.f51).body.getD .skip) rfl (by kernel_rfl) (rs := [.cell 2 37, .cell 3 37]) rfl (Nat.le_of_ble_eq_true rfl) (by repeat first | exact plain_nil | exact okC_nil | refine plain_v ?_ | refine plain_g ?_ ?_ | refine okMany ?_ ?_ | refine okOne ?_ ?_ | exact rfl | exact W_cv _ | exact V_cv _ | exact Dd_cv _ | exact cells_cv _ _ _ | exact okPt _) (by repeat first | exact plain_nil | exact okC_nil | refine plain_v ?_ | refine plain_g ?_ ?_ | refine okMany ?_ ?_ | refine okOne ?_ ?_ | exact rfl | exact W_cv _ | exact V_cv _ | exact Dd_cv _ | exact cells_cv _ _ _ | exact okPt _) (fun w => r_flat_walk a ha w) hk
def rpackSt (a : J) (k : Nat) : SSt := mkSt [(2, .one (.p 8 0)), (5, .one (.p 104 0)), (6, .one (.p 120 0)), (7, .one (.v (.int .i64 (k : Nat))))]
  [(8, ⟨[.many 33 (List.replicate 33 (.int .u8 0))], true⟩), (104, ⟨[.many 32 (Y (rflat a).1)], true⟩), (120, ⟨[.many 33 (cells .u8 33 fun i => if i < k + 1 then rpack a i else 0)], true⟩)] 192 32
theorem r_pack_walk (a : J) (ha : OkJ a) (w : World) : VC Go.Proofs.Try.prog (fun _ => False) w ((Go.Proofs.Try.f34).body.getD .skip) (mkSt (argSlots 0 [(.g (Pr (a)))]) [] 0 32) (endS Γ [.cell 2 25] (fun _ r => r = [(.g [.many 33 (cells .u8 33 (rpack a))])])) := by
  unfold Go.Proofs.Try.f34
  dsimp only [Option.getD]
  refine vc_seq ?_
  refine vc_straight tyOK false [0, 1] rfl 0 16 rfl rfl ?_
  iterate 2 refine And.intro trivial ?_
  refine vc_seq ?_
  refine vc_straight tyOK false [0, 1, 2, 3, 4, 5, 6, 7, 8] rfl 16 88 rfl rfl ?_
  refine And.intro trivial ?_
  refine r_flat_vc a ha ?_
  iterate 7 refine And.intro (by first | exact trivial | exact ⟨trivial, rfl⟩) ?_
  refine vc_seq ?_
  refine vc_straight tyOK false [0, 1, 2, 3] rfl 88 120 rfl rfl ?_
  refine And.intro trivial ?_
  refine r_bytes_vc (rflat a).1 ?_
  iterate 2 refine And.intro (by first | exact trivial | exact ⟨trivial, rfl⟩) ?_
  refine vc_seq ?_
  refine vc_straight tyOK false [0] rfl 120 128 rfl rfl ?_
  refine And.intro trivial ?_
  refine vc_seq ?_
  refine vc_straight tyOK false [0, 1, 2, 3, 4, 5, 6] rfl 128 184 rfl rfl ?_
  refine And.intro (by decide) ?_
  refine reg_name rfl rfl rfl rfl ?_ (fun v hv => ?_)
  · exact (by exact trivial)
  replace hv := hv.symm.trans (cells_at0 (by decide))
  subst hv
  refine reg_name rfl rfl rfl rfl ?_ (fun v hv => ?_)
  · exact (by decide)
  replace hv := hv.symm.trans (intn ((rflat a).2 % 2) (by rw [← dig_0']; exact tmodn _ 2))
  subst hv
  refine reg_name rfl rfl rfl rfl ?_ (fun v hv => ?_)
  · exact (by exact rfl)
  replace hv := hv.symm.trans (u32i (2 + (rflat a).2 % 2) (addN 2 _) (by unfold B32; omega))
  subst hv
  refine reg_name rfl rfl rfl rfl ?_ (fun v hv => ?_)
  · exact (by exact trivial)
  replace hv := hv.symm.trans (u8i (2 + (rflat a).2 % 2) rfl (by omega))
  subst hv
  iterate 2 refine And.intro (by first | exact ⟨rfl, rfl⟩ | decide) ?_
  refine vc_seq ?_
  refine vc_seq ?_
  refine vc_as 120 _ rfl (pk_blk (rflat a).1 (rflat a).2 true) ?_
  refine vc_straight tyOK false [0] rfl 184 192 rfl rfl ?_
  refine And.intro trivial ?_
  refine vc_block ?_
  refine vc_loop (fun k : Nat => k ≤ 32) (rpackSt a) (fun k => 32 - k) 0 (by omega) (ent_mk rfl ⟨rfl, rfl, rfl, rfl, trivial⟩ ⟨rfl, rfl, rfl, trivial⟩ rfl) ?_
  intro k hk
  refine vc_seq ?_
  refine vc_seq ?_
  refine vc_straight tyOK false [0, 1] rfl 192 208 rfl rfl ?_
  iterate 2 refine And.intro (by first | exact trivial | exact rfl) ?_
  refine vc_if rfl (fun hc1 => ?_) (fun hc1 => ?_)
  · have hk2 : k < 32 := by have := of_decide_eq_true hc1; omega
    refine vc_skip ?_
    refine vc_seq ?_
    refine vc_block ?_
    refine vc_straight tyOK false [0, 1, 2, 3, 4, 5, 6] rfl 208 264 rfl rfl ?_
    refine And.intro trivial ?_
    refine reg_name rfl rfl rfl rfl ?_ (fun v hv => ?_)
    · exact (by exact rfl)
    replace hv := hv.symm.trans (i64n (k + 1) (by omega) (by omega))
    subst hv
    iterate 2 refine And.intro (by first | exact trivial | omega) ?_
    refine reg_name rfl rfl rfl rfl ?_ (fun v hv => ?_)
    · exact (by omega)
    replace hv := hv.symm.trans (cells_get (by omega))
    subst hv
    iterate 2 refine And.intro (by first | omega | exact ⟨by omega, rfl, rfl⟩) ?_
    refine vc_straight tyOK false [0, 1, 2] rfl 264 288 rfl rfl ?_
    iterate 3 refine And.intro (by first | exact trivial | exact rfl) ?_
    refine ⟨k + 1, by omega, ent_mk rfl ⟨rfl, rfl, rfl, slot_int (wrap_i64 (by omega) (by omega)), trivial⟩ ⟨rfl, rfl, blk_many (step_cells _ (pk33_succ _ _ _ hk2)), trivial⟩ rfl, by show 32 - (k + 1) < 32 - k; omega⟩
  · obtain rfl : k = 32 := by have := of_decide_eq_false hc1; omega
    refine vc_exit ?_
    refine vc_seq ?_
    refine vc_straight tyOK false [0, 1] rfl 288 304 rfl rfl ?_
    iterate 2 refine And.intro (by first | exact trivial | exact ⟨trivial, rfl⟩) ?_
    refine vc_ret ?_
    refine And.intro (by first | exact trivial | exact ⟨trivial, trivial⟩ | exact ⟨trivial, trivial, trivial⟩) ?_
    show [SV.g [CV.many 33 _]] = _
    rw [cells_all]
theorem r_pack_vc (a : J)  (ha : OkJ a) {eff : Bool} {σ : SSt} {nm : Nat} {K : SSt → SS → Prop}  (hk : K σ (.one ((.g [.many 33 (cells .u8 33 (rpack a))])))) : CallVC Go.Proofs.Try.prog eff (.fn 34) [(.g (Pr (a)))] σ nm K := by
  exact call_plain (res := [(.g [.many 33 (cells .u8 33 (rpack a))])]) tyOK Go.Proofs.Try.func34 (c := (Go.Proofs.Try.f34).body.getD .skip) rfl (by kernel_rfl) (rs := [.cell 2 25]) rfl (Nat.le_of_ble_eq_true rfl) (by repeat first | exact plain_nil | exact okC_nil | refine plain_v ?_ | refine plain_g ?_ ?_ | refine okMany ?_ ?_ | refine okOne ?_ ?_ | exact rfl | exact W_cv _ | exact V_cv _ | exact Dd_cv _ | exact cells_cv _ _ _ | exact okPt _) (by repeat first | exact plain_nil | exact okC_nil | refine plain_v ?_ | refine plain_g ?_ ?_ | refine okMany ?_ ?_ | refine okOne ?_ ?_ | exact rfl | exact W_cv _ | exact V_cv _ | exact Dd_cv _ | exact cells_cv _ _ _ | exact okPt _) (fun w => r_pack_walk a ha w) hk
theorem r_of0_vc (n len cap : Nat) (f : Nat → Nat) {k base : Nat} (hn : len ≤ n) (hl : 32 ≤ len) (hf : ∀ i, f i < 256) {eff : Bool} {σ : SSt} {nm : Nat} {K : SSt → SS → Prop} (hv0 : Has σ k base [.many n (cells .u8 n f)]) (hk : K σ (.one (.g [.many 8 (V (be f 32))]))) :
    CallVC Go.Proofs.Try.prog eff (.fn 24) [.s k base 0 len cap] σ nm K := by
  refine r_of_vc n 0 len cap f (by omega) hl hf hv0 ?_
  rw [show (fun i => f (0 + i)) = f from funext fun i => by rw [Nat.zero_add]]
  exact hk
theorem r_key_walk (k : Nat) (hk0 : k < R) (w : World) : VC Go.Proofs.Try.prog (fun _ => False) w ((Go.Proofs.Try.f33).body.getD .skip) (mkSt (argSlots 0 [(.g [.many 8 (V (k))])]) [] 0 11) (endS Γ [.tmp 2] (fun _ r => r = [(.v (.bool (keyOK k)))])) := by
  unfold Go.Proofs.Try.f33
  dsimp only [Option.getD]
  refine vc_seq ?_
  refine vc_straight tyOK false [0, 1] rfl 0 16 rfl rfl ?_
  iterate 2 refine And.intro trivial ?_
  refine vc_seq ?_
  refine vc_drawn tyOK mixed false [0, 1, 2, 3, 4, 5, 6, 7, 8] (by kernel_rfl) 16 88 rfl rfl ?_
  iterate 3 refine And.intro (by first | exact trivial | (refine Cv.eq_side ?_ ?_ <;> first | exact Cv.isC_cells _ _ _ | exact Cv.isC_rep _ _ _)) ?_
  refine reg_bool rfl rfl rfl rfl (by exact trivial) (fun b hb3 => ?_)
  cases b with
  | false =>
    iterate 2 refine And.intro trivial ?_
    refine vc_ret ?_
    refine And.intro (by first | exact trivial | exact ⟨trivial, trivial⟩ | exact ⟨trivial, trivial, trivial⟩) ?_
    first
    | (rw [← rkey_no hk0 hb3] <;> rfl)
    | (rw [← rkey_yes hk0 hb3] <;> rfl)
  | true =>
    refine And.intro trivial ?_
    refine r_N_vc ?_
    refine r_less_vc k Nn hk0 (by decide) ?_
    iterate 2 refine And.intro trivial ?_
    refine vc_ret ?_
    refine And.intro (by first | exact trivial | exact ⟨trivial, trivial⟩ | exact ⟨trivial, trivial, trivial⟩) ?_
    first
    | (rw [← rkey_no hk0 hb3] <;> rfl)
    | (rw [← rkey_yes hk0 hb3] <;> rfl)
theorem r_key_vc (k : Nat)  (hk0 : k < R) {eff : Bool} {σ : SSt} {nm : Nat} {K : SSt → SS → Prop}  (hk : K σ (.one ((.v (.bool (keyOK k)))))) : CallVC Go.Proofs.Try.prog eff (.fn 33) [(.g [.many 8 (V (k))])] σ nm K := by
  exact call_plain (res := [(.v (.bool (keyOK k)))]) tyOK Go.Proofs.Try.func33 (c := (Go.Proofs.Try.f33).body.getD .skip) rfl (by kernel_rfl) (rs := [.tmp 2]) rfl (Nat.le_of_ble_eq_true rfl) (by repeat first | exact plain_nil | exact okC_nil | refine plain_v ?_ | refine plain_g ?_ ?_ | refine okMany ?_ ?_ | refine okOne ?_ ?_ | exact rfl | exact W_cv _ | exact V_cv _ | exact Dd_cv _ | exact cells_cv _ _ _ | exact okPt _) (by repeat first | exact plain_nil | exact okC_nil | refine plain_v ?_ | refine plain_g ?_ ?_ | refine okMany ?_ ?_ | refine okOne ?_ ?_ | exact rfl | exact W_cv _ | exact V_cv _ | exact Dd_cv _ | exact cells_cv _ _ _ | exact okPt _) (fun w => r_key_walk k hk0 w) hk
theorem r_unpack_walk (n st len cap : Nat) (f : Nat → Nat) (hn : st + len ≤ n) (hc : len ≤ cap) (hf : ∀ i, f i < 256) (w : World) : VC Go.Proofs.Try.prog (fun _ => False) w ((Go.Proofs.Try.f15).body.getD .skip) (mkSt (argSlots 0 [(.s 0 0 st len cap)]) [(0, ⟨[.many n (cells .u8 n f)], false⟩)] 1 38) (endS Γ [.cell 2 39, .tmp 3] (fun _ r => r = [(.g (Pr ((junpack f st len).1))), (.v (.bool (junpack f st len).2))])) := by
  unfold Go.Proofs.Try.f15
  dsimp only [Option.getD]
  refine vc_seq ?_
  refine vc_straight tyOK false [0, 1] rfl 1 17 rfl rfl ?_
  iterate 2 refine And.intro trivial ?_
  refine vc_seq ?_
  refine vc_seq ?_
  refine vc_straight tyOK false [0, 1, 2, 3, 4, 5, 6, 7, 8, 9, 10, 11, 12, 13, 14, 15, 16, 17, 18, 19, 20, 21, 22] rfl 17 201 rfl rfl ?_
  iterate 3 refine And.intro (by first | exact trivial | exact rfl) ?_
  refine reg_bool rfl rfl rfl rfl (by exact trivial) (fun b hb3 => ?_)
  cases b with
  | false =>
    have h33 : len = 33 := nbnen hb3
    subst h33
    iterate 2 refine And.intro (by first | exact trivial | decide) ?_
    refine reg_name rfl rfl rfl rfl ?_ (fun v hv => ?_)
    · exact (by omega)
    replace hv := hv.symm.trans (show _ = Value.int .u8 ((f st : Nat) : Int) from cells_get (i := st + 0) (by omega))
    subst hv
    refine And.intro rfl ?_
    refine reg_bool rfl rfl rfl rfl (by exact trivial) (fun b hb8 => ?_)
    cases b with
    | false =>
      have hh : f st = 2 := nbnen hb8
      iterate 2 refine And.intro trivial ?_
      refine reg_bool rfl rfl rfl rfl (by exact trivial) (fun b hb15 => ?_)
      cases b with
      | false =>
        have hh3 : f st = 2 ∨ f st = 3 := .inl hh
        refine And.intro trivial ?_
        refine reg_sv rfl rfl rfl rfl ?_ (fun v hv => ?_)
        · exact (by ((repeat' first | exact trivial | exact rfl | exact Nat.le_of_ble_eq_true rfl | decide | omega | refine And.intro ?_ ?_); done))
        replace hv := hv.symm.trans (show SV.s 0 0 (if cap = 1 then st else st + 1) 32 (cap - 1) = SV.s 0 0 (st + 1) 32 (cap - 1) from by rw [if_neg (by omega)])
        subst hv
        refine r_of_vc n (st + 1) 32 (cap - 1) f (by omega) (by omega) hf ⟨_, _, rfl, part_all⟩ ?_
        refine r_P_vc ?_
        refine r_less_vc _ Pp (be_lt_R fun i _ => hf _) (by decide) ?_
        iterate 2 refine And.intro trivial ?_
        refine vc_if rfl (fun hc1 => ?_) (fun hc1 => ?_)
        · have h3' : ¬ be (fun i => f (st + 1 + i)) 32 < Pp := by simpa using hc1
          refine vc_seq ?_
          refine vc_straight tyOK false [0, 1, 2] rfl 201 225 rfl rfl ?_
          iterate 3 refine And.intro (by first | exact trivial | exact ⟨trivial, rfl⟩) ?_
          refine vc_ret ?_
          refine And.intro (by first | exact trivial | exact ⟨trivial, trivial⟩ | exact ⟨trivial, trivial, trivial⟩) ?_
          first
          | (rw [junpack_yes (show f st / 2 * 2 = 2 by omega) h3, ← odd3 hh3] <;> rfl)
          | (rw [junpack_len h33] <;> rfl)
          | (rw [junpack_big h3'] <;> rfl)
          | (rw [junpack_head (show f st / 2 * 2 ≠ 2 by omega)] <;> rfl)
        · have h3 : be (fun i => f (st + 1 + i)) 32 < Pp := by simpa using hc1
          refine vc_skip ?_
          refine vc_seq ?_
          refine vc_drawn tyOK mixed false [0, 1, 3, 4, 5, 6, 2, 7, 8, 9, 10, 11] (by kernel_rfl) 225 321 rfl rfl ?_
          refine And.intro trivial ?_
          refine reg_sv rfl rfl rfl rfl ?_ (fun v hv => ?_)
          · exact (by ((repeat' first | exact trivial | exact rfl | exact Nat.le_of_ble_eq_true rfl | decide | omega | refine And.intro ?_ ?_); done))
          replace hv := hv.symm.trans (show SV.s 0 0 (if cap = 1 then st else st + 1) 32 (cap - 1) = SV.s 0 0 (st + 1) 32 (cap - 1) from by rw [if_neg (by omega)])
          subst hv
          iterate 2 refine And.intro (by first | exact trivial | decide) ?_
          refine reg_name rfl rfl rfl rfl ?_ (fun v hv => ?_)
          · exact (by omega)
          replace hv := hv.symm.trans (show _ = Value.int .u8 ((f st : Nat) : Int) from cells_get (i := st + 0) (by omega))
          subst hv
          refine And.intro rfl ?_
          refine r_of_vc n (st + 1) 32 (cap - 1) f (by omega) (by omega) hf ⟨_, _, rfl, part_all⟩ ?_
          refine r_lift_vc _ _ h3 ?_
          iterate 4 refine And.intro (by first | exact trivial | exact ⟨trivial, rfl⟩) ?_
          refine vc_ret ?_
          refine And.intro (by first | exact trivial | exact ⟨trivial, trivial⟩ | exact ⟨trivial, trivial, trivial⟩) ?_
          first
          | (rw [junpack_yes (show f st / 2 * 2 = 2 by omega) h3, ← odd3 hh3] <;> rfl)
          | (rw [junpack_len h33] <;> rfl)
          | (rw [junpack_big h3'] <;> rfl)
          | (rw [junpack_head (show f st / 2 * 2 ≠ 2 by omega)] <;> rfl)
      | true =>
        cases hb15
    | true =>
      have hh : f st ≠ 2 := bnen hb8
      iterate 2 refine And.intro (by first | exact trivial | decide) ?_
      refine reg_name rfl rfl rfl rfl ?_ (fun v hv => ?_)
      · exact (by omega)
      replace hv := hv.symm.trans (show _ = Value.int .u8 ((f st : Nat) : Int) from cells_get (i := st + 0) (by omega))
      subst hv
      iterate 3 refine And.intro (by first | exact trivial | exact rfl) ?_
      refine reg_bool rfl rfl rfl rfl (by exact trivial) (fun b hb15 => ?_)
      cases b with
      | false =>
        have hh3 : f st = 2 ∨ f st = 3 := .inr (nbnen hb15)
        refine And.intro trivial ?_
        refine reg_sv rfl rfl rfl rfl ?_ (fun v hv => ?_)
        · exact (by ((repeat' first | exact trivial | exact rfl | exact Nat.le_of_ble_eq_true rfl | decide | omega | refine And.intro ?_ ?_); done))
        replace hv := hv.symm.trans (show SV.s 0 0 (if cap = 1 then st else st + 1) 32 (cap - 1) = SV.s 0 0 (st + 1) 32 (cap - 1) from by rw [if_neg (by omega)])
        subst hv
        refine r_of_vc n (st + 1) 32 (cap - 1) f (by omega) (by omega) hf ⟨_, _, rfl, part_all⟩ ?_
        refine r_P_vc ?_
        refine r_less_vc _ Pp (be_lt_R fun i _ => hf _) (by decide) ?_
        iterate 2 refine And.intro trivial ?_
        refine vc_if rfl (fun hc2 => ?_) (fun hc2 => ?_)
        · have h3' : ¬ be (fun i => f (st + 1 + i)) 32 < Pp := by simpa using hc2
          refine vc_seq ?_
          refine vc_straight tyOK false [0, 1, 2] rfl 201 225 rfl rfl ?_
          iterate 3 refine And.intro (by first | exact trivial | exact ⟨trivial, rfl⟩) ?_
          refine vc_ret ?_
          refine And.intro (by first | exact trivial | exact ⟨trivial, trivial⟩ | exact ⟨trivial, trivial, trivial⟩) ?_
          first
          | (rw [junpack_yes (show f st / 2 * 2 = 2 by omega) h3, ← odd3 hh3] <;> rfl)
          | (rw [junpack_len h33] <;> rfl)
          | (rw [junpack_big h3'] <;> rfl)
          | (rw [junpack_head (show f st / 2 * 2 ≠ 2 by omega)] <;> rfl)
        · have h3 : be (fun i => f (st + 1 + i)) 32 < Pp := by simpa using hc2
          refine vc_skip ?_
          refine vc_seq ?_
          refine vc_drawn tyOK mixed false [0, 1, 3, 4, 5, 6, 2, 7, 8, 9, 10, 11] (by kernel_rfl) 225 321 rfl rfl ?_
          refine And.intro trivial ?_
          refine reg_sv rfl rfl rfl rfl ?_ (fun v hv => ?_)
          · exact (by ((repeat' first | exact trivial | exact rfl | exact Nat.le_of_ble_eq_true rfl | decide | omega | refine And.intro ?_ ?_); done))
          replace hv := hv.symm.trans (show SV.s 0 0 (if cap = 1 then st else st + 1) 32 (cap - 1) = SV.s 0 0 (st + 1) 32 (cap - 1) from by rw [if_neg (by omega)])
          subst hv
          iterate 2 refine And.intro (by first | exact trivial | decide) ?_
          refine reg_name rfl rfl rfl rfl ?_ (fun v hv => ?_)
          · exact (by omega)
          replace hv := hv.symm.trans (show _ = Value.int .u8 ((f st : Nat) : Int) from cells_get (i := st + 0) (by omega))
          subst hv
          refine And.intro rfl ?_
          refine r_of_vc n (st + 1) 32 (cap - 1) f (by omega) (by omega) hf ⟨_, _, rfl, part_all⟩ ?_
          refine r_lift_vc _ _ h3 ?_
          iterate 4 refine And.intro (by first | exact trivial | exact ⟨trivial, rfl⟩) ?_
          refine vc_ret ?_
          refine And.intro (by first | exact trivial | exact ⟨trivial, trivial⟩ | exact ⟨trivial, trivial, trivial⟩) ?_
          first
          | (rw [junpack_yes (show f st / 2 * 2 = 2 by omega) h3, ← odd3 hh3] <;> rfl)
          | (rw [junpack_len h33] <;> rfl)
          | (rw [junpack_big h3'] <;> rfl)
          | (rw [junpack_head (show f st / 2 * 2 ≠ 2 by omega)] <;> rfl)
      | true =>
        have hh4 : f st ≠ 3 := bnen hb15
        refine And.intro trivial ?_
        refine vc_if rfl (fun hc3 => ?_) (fun hc3 => ?_)
        · skip
          refine vc_seq ?_
          refine vc_straight tyOK false [0, 1, 2] rfl 201 225 rfl rfl ?_
          iterate 3 refine And.intro (by first | exact trivial | exact ⟨trivial, rfl⟩) ?_
          refine vc_ret ?_
          refine And.intro (by first | exact trivial | exact ⟨trivial, trivial⟩ | exact ⟨trivial, trivial, trivial⟩) ?_
          first
          | (rw [junpack_yes (show f st / 2 * 2 = 2 by omega) h3, ← odd3 hh3] <;> rfl)
          | (rw [junpack_len h33] <;> rfl)
          | (rw [junpack_big h3'] <;> rfl)
          | (rw [junpack_head (show f st / 2 * 2 ≠ 2 by omega)] <;> rfl)
        · cases hc3
  | true =>
    have h33 : len ≠ 33 := bnen hb3
    refine And.intro trivial ?_
    refine reg_bool rfl rfl rfl rfl (by exact trivial) (fun b hb15 => ?_)
    cases b with
    | false =>
      cases hb15
    | true =>
      skip
      refine And.intro trivial ?_
      refine vc_if rfl (fun hc4 => ?_) (fun hc4 => ?_)
      · skip
        refine vc_seq ?_
        refine vc_straight tyOK false [0, 1, 2] rfl 201 225 rfl rfl ?_
        iterate 3 refine And.intro (by first | exact trivial | exact ⟨trivial, rfl⟩) ?_
        refine vc_ret ?_
        refine And.intro (by first | exact trivial | exact ⟨trivial, trivial⟩ | exact ⟨trivial, trivial, trivial⟩) ?_
        first
        | (rw [junpack_yes (show f st / 2 * 2 = 2 by omega) h3, ← odd3 hh3] <;> rfl)
        | (rw [junpack_len h33] <;> rfl)
        | (rw [junpack_big h3'] <;> rfl)
        | (rw [junpack_head (show f st / 2 * 2 ≠ 2 by omega)] <;> rfl)
      · cases hc4
theorem r_unpack_vc (n st len cap : Nat) (f : Nat → Nat) {kb base : Nat} (hn : st + len ≤ n) (hc : len ≤ cap) (hf : ∀ i, f i < 256) {eff : Bool} {σ : SSt} {nm : Nat} {K : SSt → SS → Prop} (hv0 : Has σ (kb) (base) [.many n (cells .u8 n f)]) (hk : K σ (.tup [(.g (Pr ((junpack f st len).1))), (.v (.bool (junpack f st len).2))])) : CallVC Go.Proofs.Try.prog eff (.fn 15) [(.s kb base st len cap)] σ nm K := by
  exact call_fn1 (args := [(.s 0 0 st len cap)]) (res := [(.g (Pr ((junpack f st len).1))), (.v (.bool (junpack f st len).2))]) tyOK Go.Proofs.Try.func15 (c := (Go.Proofs.Try.f15).body.getD .skip) rfl (by kernel_rfl) (rs := [.cell 2 39, .tmp 3]) rfl [(kb, base, [.many n (cells .u8 n f)])] (Nat.le_of_ble_eq_true rfl) (okAll_mem (by repeat first | exact trivial | exact okC_nil | refine okMany ?_ ?_ | refine okOne ?_ ?_ | exact W_cv _ | exact V_cv _ | exact Dd_cv _ | exact cells_cv _ _ _ | (show (_ : Nat) < _; exact (Nat.le_of_ble_eq_true rfl)) | exact rfl | refine And.intro ?_ ?_)) (by repeat first | exact plain_nil | exact okC_nil | refine plain_v ?_ | refine plain_g ?_ ?_ | refine okMany ?_ ?_ | refine okOne ?_ ?_ | exact rfl | exact W_cv _ | exact V_cv _ | exact Dd_cv _ | exact cells_cv _ _ _ | exact okPt _) (fun w => r_unpack_walk n st len cap f hn hc hf w) ⟨hv0, (by repeat first | exact okC_nil | refine okMany ?_ ?_ | refine okOne ?_ ?_ | exact rfl | exact W_cv _ | exact V_cv _ | exact Dd_cv _ | exact cells_cv _ _ _ | exact okPt _), trivial⟩ (fun ρ => by first | rfl | (simp [SV.den, viewRho, Nat.add_assoc]; done) | (simp [SV.den, viewRho, Nat.add_assoc]; rfl)) hk
theorem r_public_walk (f : Nat → Nat) (hf : ∀ i, f i < 256) (w : World) : VC Go.Proofs.Try.prog (fun _ => False) w ((Go.Proofs.Try.f11).body.getD .skip) (mkSt (argSlots 0 [(.g [.many 32 (cells .u8 32 (f))])]) [] 0 15) (endS Γ [.cell 2 25, .tmp 3] (fun _ r => r = [(.g [.many 33 (cells .u8 33 ((rpub f).1))]), (.v (.bool (rpub f).2))])) := by
  unfold Go.Proofs.Try.f11
  dsimp only [Option.getD]
  have hF := be_lt_R (f := f) (fun i _ => hf i)
  refine vc_seq ?_
  refine vc_straight tyOK false [0, 1, 2] rfl 0 24 rfl rfl ?_
  iterate 3 refine And.intro trivial ?_
  refine vc_seq ?_
  refine vc_straight tyOK false [0, 1, 2, 3] rfl 24 56 rfl rfl ?_
  refine And.intro (by ((repeat' first | exact trivial | exact rfl | exact Nat.le_of_ble_eq_true rfl | decide | omega | refine And.intro ?_ ?_); done)) ?_
  refine r_of0_vc 32 32 32 f (by omega) (by omega) hf ⟨_, _, rfl, part_all⟩ ?_
  iterate 2 refine And.intro (by first | exact trivial | exact ⟨trivial, rfl⟩) ?_
  refine vc_seq ?_
  refine vc_seq ?_
  refine vc_straight tyOK false [0, 1, 2] rfl 56 80 rfl rfl ?_
  refine And.intro trivial ?_
  refine r_key_vc (be f 32) hF ?_
  refine And.intro trivial ?_
  refine vc_if rfl (fun hc1 => ?_) (fun hc1 => ?_)
  · have h0 : ¬ keyOK (be f 32) = true := by simpa using hc1
    refine vc_seq ?_
    refine vc_straight tyOK false [0, 1, 2] rfl 80 104 rfl rfl ?_
    iterate 3 refine And.intro (by first | exact trivial | exact ⟨trivial, rfl⟩) ?_
    refine vc_ret ?_
    refine And.intro (by first | exact trivial | exact ⟨trivial, trivial⟩ | exact ⟨trivial, trivial, trivial⟩) ?_
    first
    | (rw [rpub_yes h1] <;> rfl)
    | (rw [rpub_no h0, ← zero_bytes] <;> rfl)
  · have h1 : keyOK (be f 32) = true := by simpa using hc1
    refine vc_skip ?_
    refine vc_seq ?_
    refine vc_drawn tyOK mixed false [0, 1, 2, 3, 4, 5] (by kernel_rfl) 104 152 rfl rfl ?_
    refine And.intro trivial ?_
    refine r_G_vc ?_
    refine r_times_vc (be f 32) jG jG_ok ?_
    refine r_pack_vc _ (rtimes_ok _) ?_
    iterate 2 refine And.intro (by first | exact trivial | exact ⟨trivial, rfl⟩) ?_
    refine vc_ret ?_
    refine And.intro (by first | exact trivial | exact ⟨trivial, trivial⟩ | exact ⟨trivial, trivial, trivial⟩) ?_
    first
    | (rw [rpub_yes h1] <;> rfl)
    | (rw [rpub_no h0, ← zero_bytes] <;> rfl)
theorem r_public_vc (f : Nat → Nat)  (hf : ∀ i, f i < 256) {eff : Bool} {σ : SSt} {nm : Nat} {K : SSt → SS → Prop}  (hk : K σ (.tup [(.g [.many 33 (cells .u8 33 ((rpub f).1))]), (.v (.bool (rpub f).2))])) : CallVC Go.Proofs.Try.prog eff (.fn 11) [(.g [.many 32 (cells .u8 32 (f))])] σ nm K := by
  exact call_plain (res := [(.g [.many 33 (cells .u8 33 ((rpub f).1))]), (.v (.bool (rpub f).2))]) tyOK Go.Proofs.Try.func11 (c := (Go.Proofs.Try.f11).body.getD .skip) rfl (by kernel_rfl) (rs := [.cell 2 25, .tmp 3]) rfl (Nat.le_of_ble_eq_true rfl) (by repeat first | exact plain_nil | exact okC_nil | refine plain_v ?_ | refine plain_g ?_ ?_ | refine okMany ?_ ?_ | refine okOne ?_ ?_ | exact rfl | exact W_cv _ | exact V_cv _ | exact Dd_cv _ | exact cells_cv _ _ _ | exact okPt _) (by repeat first | exact plain_nil | exact okC_nil | refine plain_v ?_ | refine plain_g ?_ ?_ | refine okMany ?_ ?_ | refine okOne ?_ ?_ | exact rfl | exact W_cv _ | exact V_cv _ | exact Dd_cv _ | exact cells_cv _ _ _ | exact okPt _) (fun w => r_public_walk f hf w) hk
theorem r_addKey_walk (f g : Nat → Nat) (hf : ∀ i, f i < 256) (hg : ∀ i, g i < 256) (w : World) : VC Go.Proofs.Try.prog (fun _ => False) w ((Go.Proofs.Try.f20).body.getD .skip) (mkSt (argSlots 0 [(.g [.many 32 (cells .u8 32 (f))]), (.g [.many 32 (cells .u8 32 (g))])]) [] 0 33) (endS Γ [.cell 4 22, .tmp 5] (fun _ r => r = [(.g [.many 32 (cells .u8 32 ((addKey f g).1))]), (.v (.int .i64 ((addKey f g).2 : Nat)))])) := by
  unfold Go.Proofs.Try.f20
  dsimp only [Option.getD]
  have hF := be_lt_R (f := f) (fun i _ => hf i)
  have hG := be_lt_R (f := g) (fun i _ => hg i)
  refine vc_seq ?_
  refine vc_straight tyOK false [0, 1, 2, 3] rfl 0 32 rfl rfl ?_
  iterate 4 refine And.intro trivial ?_
  refine vc_seq ?_
  refine vc_straight tyOK false [0, 1, 2, 3] rfl 32 64 rfl rfl ?_
  refine And.intro (by ((repeat' first | exact trivial | exact rfl | exact Nat.le_of_ble_eq_true rfl | decide | omega | refine And.intro ?_ ?_); done)) ?_
  refine r_of0_vc 32 32 32 f (by omega) (by omega) hf ⟨_, _, rfl, part_all⟩ ?_
  iterate 2 refine And.intro (by first | exact trivial | exact ⟨trivial, rfl⟩) ?_
  refine vc_seq ?_
  refine vc_straight tyOK false [0, 1, 2, 3] rfl 64 96 rfl rfl ?_
  refine And.intro (by ((repeat' first | exact trivial | exact rfl | exact Nat.le_of_ble_eq_true rfl | decide | omega | refine And.intro ?_ ?_); done)) ?_
  refine r_of0_vc 32 32 32 g (by omega) (by omega) hg ⟨_, _, rfl, part_all⟩ ?_
  iterate 2 refine And.intro (by first | exact trivial | exact ⟨trivial, rfl⟩) ?_
  refine vc_seq ?_
  refine vc_seq ?_
  refine vc_drawn tyOK mixed false [0, 1, 2, 3, 4, 5, 6, 7, 8] (by kernel_rfl) 96 168 rfl rfl ?_
  refine And.intro trivial ?_
  refine r_key_vc (be f 32) hF ?_
  refine And.intro trivial ?_
  refine reg_bool rfl rfl rfl rfl (by exact trivial) (fun b hb3 => ?_)
  cases b with
  | false =>
    have h1 : keyOK (be f 32) = true := by simpa using hb3
    refine And.intro trivial ?_
    refine r_N_vc ?_
    refine r_less_vc _ Nn hG (by decide) ?_
    iterate 2 refine And.intro trivial ?_
    refine vc_if rfl (fun hc1 => ?_) (fun hc1 => ?_)
    · have h8 : ¬ be g 32 < Nn := by simpa using hc1
      refine vc_seq ?_
      refine vc_straight tyOK false [0, 1, 2] rfl 168 192 rfl rfl ?_
      iterate 3 refine And.intro (by first | exact trivial | exact ⟨trivial, rfl⟩) ?_
      refine vc_ret ?_
      refine And.intro (by first | exact trivial | exact ⟨trivial, trivial⟩ | exact ⟨trivial, trivial, trivial⟩) ?_
      first
      | (rw [addKey_no (fun h => h8 h.2), ← zero_bytes] <;> rfl)
      | (rw [addKey_no (fun h => h9 h.1), ← zero_bytes] <;> rfl)
      | (rw [addKey_0 h1 h2 h3, ← zero_bytes] <;> rfl)
      | (rw [addKey_yes h1 h2 h4] <;> rfl)
    · have h2 : be g 32 < Nn := by simpa using hc1
      refine vc_skip ?_
      refine vc_seq ?_
      refine vc_drawn tyOK mixed false [0, 1, 2, 3, 4, 5] (by kernel_rfl) 192 240 rfl rfl ?_
      iterate 2 refine And.intro trivial ?_
      refine r_N_vc ?_
      refine r_add_vc _ _ Nn mo_N hF hG ?_
      iterate 2 refine And.intro (by first | exact trivial | exact ⟨trivial, rfl⟩) ?_
      refine vc_seq ?_
      refine vc_seq ?_
      refine vc_straight tyOK false [0, 1, 2] rfl 240 264 rfl rfl ?_
      iterate 3 refine And.intro (by first | exact trivial | (refine Cv.eq_side ?_ ?_ <;> first | exact Cv.isC_cells _ _ _ | exact Cv.isC_rep _ _ _)) ?_
      refine vc_if rfl (fun hc2 => ?_) (fun hc2 => ?_)
      · have h3 : (be f 32 + be g 32) % Nn = 0 := V_is0 (mod_ltR mo_N _) hc2
        refine vc_seq ?_
        refine vc_straight tyOK false [0, 1, 2] rfl 264 288 rfl rfl ?_
        iterate 3 refine And.intro (by first | exact trivial | exact ⟨trivial, rfl⟩) ?_
        refine vc_ret ?_
        refine And.intro (by first | exact trivial | exact ⟨trivial, trivial⟩ | exact ⟨trivial, trivial, trivial⟩) ?_
        first
        | (rw [addKey_no (fun h => h8 h.2), ← zero_bytes] <;> rfl)
        | (rw [addKey_no (fun h => h9 h.1), ← zero_bytes] <;> rfl)
        | (rw [addKey_0 h1 h2 h3, ← zero_bytes] <;> rfl)
        | (rw [addKey_yes h1 h2 h4] <;> rfl)
      · have h4 : ¬ (be f 32 + be g 32) % Nn = 0 := V_isn0 (mod_ltR mo_N _) hc2
        refine vc_skip ?_
        refine vc_seq ?_
        refine vc_straight tyOK false [0, 1, 2, 3] rfl 288 320 rfl rfl ?_
        refine And.intro trivial ?_
        refine r_bytes_vc _ ?_
        iterate 2 refine And.intro (by first | exact trivial | exact ⟨trivial, rfl⟩) ?_
        refine vc_ret ?_
        refine And.intro (by first | exact trivial | exact ⟨trivial, trivial⟩ | exact ⟨trivial, trivial, trivial⟩) ?_
        first
        | (rw [addKey_no (fun h => h8 h.2), ← zero_bytes] <;> rfl)
        | (rw [addKey_no (fun h => h9 h.1), ← zero_bytes] <;> rfl)
        | (rw [addKey_0 h1 h2 h3, ← zero_bytes] <;> rfl)
        | (rw [addKey_yes h1 h2 h4] <;> rfl)
  | true =>
    have h9 : ¬ keyOK (be f 32) = true := by simpa using hb3
    refine And.intro trivial ?_
    refine vc_if rfl (fun hc3 => ?_) (fun hc3 => ?_)
    · skip
      refine vc_seq ?_
      refine vc_straight tyOK false [0, 1, 2] rfl 168 192 rfl rfl ?_
      iterate 3 refine And.intro (by first | exact trivial | exact ⟨trivial, rfl⟩) ?_
      refine vc_ret ?_
      refine And.intro (by first | exact trivial | exact ⟨trivial, trivial⟩ | exact ⟨trivial, trivial, trivial⟩) ?_
      first
      | (rw [addKey_no (fun h => h8 h.2), ← zero_bytes] <;> rfl)
      | (rw [addKey_no (fun h => h9 h.1), ← zero_bytes] <;> rfl)
      | (rw [addKey_0 h1 h2 h3, ← zero_bytes] <;> rfl)
      | (rw [addKey_yes h1 h2 h4] <;> rfl)
    · cases hc3
theorem r_addKey_vc (f g : Nat → Nat)  (hf : ∀ i, f i < 256) (hg : ∀ i, g i < 256) {eff : Bool} {σ : SSt} {nm : Nat} {K : SSt → SS → Prop}  (hk : K σ (.tup [(.g [.many 32 (cells .u8 32 ((addKey f g).1))]), (.v (.int .i64 ((addKey f g).2 : Nat)))])) : CallVC Go.Proofs.Try.prog eff (.fn 20) [(.g [.many 32 (cells .u8 32 (f))]), (.g [.many 32 (cells .u8 32 (g))])] σ nm K := by
  exact call_plain (res := [(.g [.many 32 (cells .u8 32 ((addKey f g).1))]), (.v (.int .i64 ((addKey f g).2 : Nat)))]) tyOK Go.Proofs.Try.func20 (c := (Go.Proofs.Try.f20).body.getD .skip) rfl (by kernel_rfl) (rs := [.cell 4 22, .tmp 5]) rfl (Nat.le_of_ble_eq_true rfl) (by repeat first | exact plain_nil | exact okC_nil | refine plain_v ?_ | refine plain_g ?_ ?_ | refine okMany ?_ ?_ | refine okOne ?_ ?_ | exact rfl | exact W_cv _ | exact V_cv _ | exact Dd_cv _ | exact cells_cv _ _ _ | exact okPt _) (by repeat first | exact plain_nil | exact okC_nil | refine plain_v ?_ | refine plain_g ?_ ?_ | refine okMany ?_ ?_ | refine okOne ?_ ?_ | exact rfl | exact W_cv _ | exact V_cv _ | exact Dd_cv _ | exact cells_cv _ _ _ | exact okPt _) (fun w => r_addKey_walk f g hf hg w) hk
end Go.Proofs.Ythjpppgibdfaeaa
