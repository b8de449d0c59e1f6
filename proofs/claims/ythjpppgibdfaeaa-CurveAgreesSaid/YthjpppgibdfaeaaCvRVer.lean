/- YthjpppgibdfaeaaCvRVer: a part of the proof: lemmas alone, of no statement. -/
import Derived.Test.YthjpppgibdfaeaaCvRTop
/- The reference: sums of public keys; signatures. -/
namespace Go.Proofs.Ythjpppgibdfaeaa
open Go Go.SX Cv Go.RowKit Go.Lib
set_option maxRecDepth 100000
theorem r_addPub_walk (f g : Nat → Nat) (hf : ∀ i, f i < 256) (hg : ∀ i, g i < 256) (w : World) : VC Go.Proofs.Try.prog (fun _ => False) w ((Go.Proofs.Try.f22).body.getD .skip) (mkSt (argSlots 0 [(.g [.many 33 (cells .u8 33 (f))]), (.g [.many 32 (cells .u8 32 (g))])]) [] 0 37) (endS Γ [.cell 4 25, .tmp 5] (fun _ r => r = [(.g [.many 33 (cells .u8 33 ((raddPub f g).1))]), (.v (.int .i64 ((raddPub f g).2 : Nat)))])) := by
  unfold Go.Proofs.Try.f22
  dsimp only [Option.getD]
  have hG := be_lt_R (f := g) (fun i _ => hg i)
  refine vc_seq ?_
  refine vc_straight tyOK false [0, 1, 2, 3] rfl 0 32 rfl rfl ?_
  iterate 4 refine And.intro trivial ?_
  refine vc_seq ?_
  refine vc_straight tyOK false [0, 1, 2, 3] rfl 32 64 rfl rfl ?_
  refine And.intro (by ((repeat' first | exact trivial | exact rfl | exact Nat.le_of_ble_eq_true rfl | decide | omega | refine And.intro ?_ ?_); done)) ?_
  refine r_of0_vc 32 32 32 g (by omega) (by omega) hg ⟨_, _, rfl, part_all⟩ ?_
  iterate 2 refine And.intro (by first | exact trivial | exact ⟨trivial, rfl⟩) ?_
  refine vc_seq ?_
  refine vc_seq ?_
  refine vc_drawn tyOK mixed false [0, 1, 2, 3] (by kernel_rfl) 64 96 rfl rfl ?_
  refine And.intro trivial ?_
  refine r_N_vc ?_
  refine r_less_vc _ Nn hG (by decide) ?_
  refine And.intro trivial ?_
  refine vc_if rfl (fun hc1 => ?_) (fun hc1 => ?_)
  · have h8 : ¬ be g 32 < Nn := by simpa using hc1
    refine vc_seq ?_
    refine vc_straight tyOK false [0, 1, 2] rfl 96 120 rfl rfl ?_
    iterate 3 refine And.intro (by first | exact trivial | exact ⟨trivial, rfl⟩) ?_
    refine vc_ret ?_
    refine And.intro (by first | exact trivial | exact ⟨trivial, trivial⟩ | exact ⟨trivial, trivial, trivial⟩) ?_
    first
    | (rw [raddPub_no h8, ← zero_bytes] <;> rfl)
    | (rw [raddPub_form h2 h7, ← zero_bytes] <;> rfl)
    | (rw [raddPub_0 h2 h3 (by rw [hs]; exact h4), ← zero_bytes] <;> rfl)
    | (rw [raddPub_yes h2 h3 (by rw [hs]; exact h5), hs] <;> rfl)
  · have h2 : be g 32 < Nn := by simpa using hc1
    refine vc_skip ?_
    refine vc_seq ?_
    refine vc_straight tyOK false [0, 1, 2, 3, 4, 5, 6, 7] rfl 120 184 rfl rfl ?_
    refine And.intro (by ((repeat' first | exact trivial | exact rfl | exact Nat.le_of_ble_eq_true rfl | decide | omega | refine And.intro ?_ ?_); done)) ?_
    refine r_unpack_vc 33 0 33 33 f (by omega) (by omega) hf ⟨_, _, rfl, part_all⟩ ?_
    iterate 6 refine And.intro (by first | exact trivial | exact ⟨trivial, rfl⟩) ?_
    refine vc_seq ?_
    refine vc_seq ?_
    refine vc_straight tyOK false [0, 1] rfl 184 200 rfl rfl ?_
    iterate 2 refine And.intro trivial ?_
    refine vc_if rfl (fun hc2 => ?_) (fun hc2 => ?_)
    · have h7 : ¬ (junpack f 0 33).2 = true := by simpa using hc2
      refine vc_seq ?_
      refine vc_straight tyOK false [0, 1, 2] rfl 200 224 rfl rfl ?_
      iterate 3 refine And.intro (by first | exact trivial | exact ⟨trivial, rfl⟩) ?_
      refine vc_ret ?_
      refine And.intro (by first | exact trivial | exact ⟨trivial, trivial⟩ | exact ⟨trivial, trivial, trivial⟩) ?_
      first
      | (rw [raddPub_no h8, ← zero_bytes] <;> rfl)
      | (rw [raddPub_form h2 h7, ← zero_bytes] <;> rfl)
      | (rw [raddPub_0 h2 h3 (by rw [hs]; exact h4), ← zero_bytes] <;> rfl)
      | (rw [raddPub_yes h2 h3 (by rw [hs]; exact h5), hs] <;> rfl)
    · have h3 : (junpack f 0 33).2 = true := by simpa using hc2
      refine vc_skip ?_
      refine vc_seq ?_
      refine vc_drawn tyOK mixed false [0, 1, 2, 3, 4, 5, 6] (by kernel_rfl) 224 280 rfl rfl ?_
      iterate 2 refine And.intro trivial ?_
      refine r_G_vc ?_
      refine r_times_vc (be g 32) jG jG_ok ?_
      refine r_plus_vc _ _ (junpack_ok _ _ _) (rtimes_ok _) ?_
      generalize hs : rplus (junpack f 0 33).1 (rtimes (be g 32) jG 256) = s
      have hsok : OkJ s := hs ▸ rplus_ok _ _
      iterate 2 refine And.intro (by first | exact trivial | exact ⟨trivial, rfl⟩) ?_
      refine vc_seq ?_
      refine vc_seq ?_
      refine vc_straight tyOK false [0, 1, 2, 3] rfl 280 312 rfl rfl ?_
      iterate 4 refine And.intro (by first | exact trivial | decide | (refine Cv.eq_side ?_ ?_ <;> first | exact Cv.isC_cells _ _ _ | exact Cv.isC_rep _ _ _)) ?_
      refine vc_if rfl (fun hc3 => ?_) (fun hc3 => ?_)
      · simp only [Bool.false_eq_true, if_false] at hc3
        have h4 := V_is0 (Nat.lt_trans hsok.z mo_P.lt) hc3
        refine vc_seq ?_
        refine vc_straight tyOK false [0, 1, 2] rfl 312 336 rfl rfl ?_
        iterate 3 refine And.intro (by first | exact trivial | exact ⟨trivial, rfl⟩) ?_
        refine vc_ret ?_
        refine And.intro (by first | exact trivial | exact ⟨trivial, trivial⟩ | exact ⟨trivial, trivial, trivial⟩) ?_
        first
        | (rw [raddPub_no h8, ← zero_bytes] <;> rfl)
        | (rw [raddPub_form h2 h7, ← zero_bytes] <;> rfl)
        | (rw [raddPub_0 h2 h3 (by rw [hs]; exact h4), ← zero_bytes] <;> rfl)
        | (rw [raddPub_yes h2 h3 (by rw [hs]; exact h5), hs] <;> rfl)
      · simp only [Bool.false_eq_true, if_false] at hc3
        have h5 := V_isn0 (Nat.lt_trans hsok.z mo_P.lt) hc3
        refine vc_skip ?_
        refine vc_seq ?_
        refine vc_straight tyOK false [0, 1, 2, 3] rfl 336 368 rfl rfl ?_
        refine And.intro trivial ?_
        refine r_pack_vc s hsok ?_
        iterate 2 refine And.intro (by first | exact trivial | exact ⟨trivial, rfl⟩) ?_
        refine vc_ret ?_
        refine And.intro (by first | exact trivial | exact ⟨trivial, trivial⟩ | exact ⟨trivial, trivial, trivial⟩) ?_
        first
        | (rw [raddPub_no h8, ← zero_bytes] <;> rfl)
        | (rw [raddPub_form h2 h7, ← zero_bytes] <;> rfl)
        | (rw [raddPub_0 h2 h3 (by rw [hs]; exact h4), ← zero_bytes] <;> rfl)
        | (rw [raddPub_yes h2 h3 (by rw [hs]; exact h5), hs] <;> rfl)
theorem r_addPub_vc (f g : Nat → Nat)  (hf : ∀ i, f i < 256) (hg : ∀ i, g i < 256) {eff : Bool} {σ : SSt} {nm : Nat} {K : SSt → SS → Prop}  (hk : K σ (.tup [(.g [.many 33 (cells .u8 33 ((raddPub f g).1))]), (.v (.int .i64 ((raddPub f g).2 : Nat)))])) : CallVC Go.Proofs.Try.prog eff (.fn 22) [(.g [.many 33 (cells .u8 33 (f))]), (.g [.many 32 (cells .u8 32 (g))])] σ nm K := by
  exact call_plain (res := [(.g [.many 33 (cells .u8 33 ((raddPub f g).1))]), (.v (.int .i64 ((raddPub f g).2 : Nat)))]) tyOK Go.Proofs.Try.func22 (c := (Go.Proofs.Try.f22).body.getD .skip) rfl (by kernel_rfl) (rs := [.cell 4 25, .tmp 5]) rfl (Nat.le_of_ble_eq_true rfl) (by repeat first | exact plain_nil | exact okC_nil | refine plain_v ?_ | refine plain_g ?_ ?_ | refine okMany ?_ ?_ | refine okOne ?_ ?_ | exact rfl | exact W_cv _ | exact V_cv _ | exact Dd_cv _ | exact cells_cv _ _ _ | exact okPt _) (by repeat first | exact plain_nil | exact okC_nil | refine plain_v ?_ | refine plain_g ?_ ?_ | refine okMany ?_ ?_ | refine okOne ?_ ?_ | exact rfl | exact W_cv _ | exact V_cv _ | exact Dd_cv _ | exact cells_cv _ _ _ | exact okPt _) (fun w => r_addPub_walk f g hf hg w) hk
theorem r_verify_walk (n st len cap : Nat) (f m : Nat → Nat) (n' st' len' cap' : Nat) (g : Nat → Nat) (hn : st + len ≤ n) (hc : len ≤ cap) (hf : ∀ i, f i < 256) (hm : ∀ i, m i < 256) (hn' : st' + len' ≤ n') (hc' : len' ≤ cap') (hg : ∀ i, g i < 256) (w : World) : VC Go.Proofs.Try.prog (fun _ => False) w ((Go.Proofs.Try.f18).body.getD .skip) (mkSt (argSlots 0 [(.s 0 0 st len cap), (.g [.many 32 (cells .u8 32 (m))]), (.s 1 0 st' len' cap')]) [(0, ⟨[.many n (cells .u8 n f)], false⟩), (1, ⟨[.many n' (cells .u8 n' g)], false⟩)] 2 74) (endS Γ [.tmp 6] (fun _ r => r = [(.v (.bool (rverify f st len m g st' len')))])) := by
  unfold Go.Proofs.Try.f18
  dsimp only [Option.getD]
  have hM := be_lt_R (f := m) (fun i _ => hm i)
  refine vc_seq ?_
  refine vc_straight tyOK false [0, 1] rfl 2 18 rfl rfl ?_
  iterate 2 refine And.intro trivial ?_
  refine vc_seq ?_
  refine vc_straight tyOK false [0, 1, 2, 3, 4, 5, 6, 7] rfl 18 82 rfl rfl ?_
  refine And.intro trivial ?_
  refine r_unpack_vc n st len cap f hn hc hf ⟨_, _, rfl, part_all⟩ ?_
  iterate 6 refine And.intro (by first | exact trivial | exact ⟨trivial, rfl⟩) ?_
  refine vc_seq ?_
  refine vc_seq ?_
  refine vc_straight tyOK false [0, 1, 2, 3, 4, 5, 6] rfl 82 138 rfl rfl ?_
  iterate 2 refine And.intro trivial ?_
  refine reg_bool rfl rfl rfl rfl (by exact trivial) (fun b hb2 => ?_)
  cases b with
  | false =>
    have h2 : (junpack f st len).2 = true := by simpa using hb2
    iterate 4 refine And.intro (by first | exact trivial | exact rfl) ?_
    refine vc_if rfl (fun hc1 => ?_) (fun hc1 => ?_)
    · have h64 : len' ≠ 64 := bnen hc1
      refine vc_seq ?_
      refine vc_straight tyOK false [0] rfl 138 146 rfl rfl ?_
      refine And.intro trivial ?_
      refine vc_ret ?_
      refine And.intro (by first | exact trivial | exact ⟨trivial, trivial⟩ | exact ⟨trivial, trivial, trivial⟩) ?_
      first
      | (rw [rverify_yes h2 h3 h4, rverPt_0 (by rw [hs2]; exact h5)] <;> done)
      | (rw [rverify_yes h2 h3 h4, rverPt_1 (by rw [hs2]; exact h6), hs2]; simp only [Bool.false_eq_true, if_false]; exact verEq' (Nat.lt_trans (Nat.mod_lt _ (by decide)) mo_N.lt) (Nat.lt_trans (keyOK_lt h3) mo_N.lt))
      | (rw [rverify_no (fun h => h64 h.1)])
      | (rw [rverify_no (fun h => h9 h.2.1)])
      | (rw [rverify_no (fun h => h8 h.2.2.1)])
      | (rw [rverify_no (fun h => h7 h.2.2.2)])
    · have h64 : len' = 64 := nbnen hc1
      subst h64
      refine vc_skip ?_
      refine vc_seq ?_
      refine vc_straight tyOK false [0, 1, 2, 3, 4] rfl 146 186 rfl rfl ?_
      refine And.intro trivial ?_
      refine reg_sv rfl rfl rfl rfl ?_ (fun v hv => ?_)
      · exact (by ((repeat' first | exact trivial | exact rfl | exact Nat.le_of_ble_eq_true rfl | decide | omega | refine And.intro ?_ ?_); done))
      replace hv := hv.symm.trans (show SV.s 1 0 (if cap' = 0 then st' else st' + 0) 32 (cap' - 0) = SV.s 1 0 st' 32 cap' from by rw [if_neg (by omega)]; rfl)
      subst hv
      refine r_of_vc n' st' 32 cap' g (by omega) (by omega) hg ⟨_, _, rfl, part_all⟩ ?_
      iterate 2 refine And.intro (by first | exact trivial | exact ⟨trivial, rfl⟩) ?_
      refine vc_seq ?_
      refine vc_straight tyOK false [0, 1, 2, 3, 4] rfl 186 226 rfl rfl ?_
      refine And.intro trivial ?_
      refine reg_sv rfl rfl rfl rfl ?_ (fun v hv => ?_)
      · exact (by ((repeat' first | exact trivial | exact rfl | exact Nat.le_of_ble_eq_true rfl | decide | omega | refine And.intro ?_ ?_); done))
      replace hv := hv.symm.trans (show SV.s 1 0 (if cap' = 32 then st' else st' + 32) 32 (cap' - 32) = SV.s 1 0 (st' + 32) 32 (cap' - 32) from by rw [if_neg (by omega)])
      subst hv
      refine r_of_vc n' (st' + 32) 32 (cap' - 32) g (by omega) (by omega) hg ⟨_, _, rfl, part_all⟩ ?_
      iterate 2 refine And.intro (by first | exact trivial | exact ⟨trivial, rfl⟩) ?_
      refine vc_seq ?_
      refine vc_seq ?_
      refine vc_straight tyOK false [0, 1, 2, 3, 4, 5, 6, 7] rfl 226 290 rfl rfl ?_
      refine And.intro trivial ?_
      refine r_key_vc _ (be_lt_R fun i _ => hg _) ?_
      refine And.intro trivial ?_
      refine reg_bool rfl rfl rfl rfl (by exact trivial) (fun b hb3 => ?_)
      cases b with
      | false =>
        have h3 : keyOK (be (fun i => g (st' + i)) 32) = true := by simpa using hb3
        refine And.intro trivial ?_
        refine r_key_vc _ (be_lt_R fun i _ => hg _) ?_
        iterate 2 refine And.intro trivial ?_
        refine vc_if rfl (fun hc2 => ?_) (fun hc2 => ?_)
        · have h7 : ¬ keyOK (be (fun i => g (st' + 32 + i)) 32) = true := by simpa using hc2
          refine vc_seq ?_
          refine vc_straight tyOK false [0] rfl 290 298 rfl rfl ?_
          refine And.intro trivial ?_
          refine vc_ret ?_
          refine And.intro (by first | exact trivial | exact ⟨trivial, trivial⟩ | exact ⟨trivial, trivial, trivial⟩) ?_
          first
          | (rw [rverify_yes h2 h3 h4, rverPt_0 (by rw [hs2]; exact h5)] <;> done)
          | (rw [rverify_yes h2 h3 h4, rverPt_1 (by rw [hs2]; exact h6), hs2]; simp only [Bool.false_eq_true, if_false]; exact verEq' (Nat.lt_trans (Nat.mod_lt _ (by decide)) mo_N.lt) (Nat.lt_trans (keyOK_lt h3) mo_N.lt))
          | (rw [rverify_no (fun h => h64 h.1)])
          | (rw [rverify_no (fun h => h9 h.2.1)])
          | (rw [rverify_no (fun h => h8 h.2.2.1)])
          | (rw [rverify_no (fun h => h7 h.2.2.2)])
        · have h4 : keyOK (be (fun i => g (st' + 32 + i)) 32) = true := by simpa using hc2
          refine vc_skip ?_
          refine vc_seq ?_
          refine vc_drawn tyOK mixed false [0, 1, 2, 3, 4] (by kernel_rfl) 298 338 rfl rfl ?_
          refine And.intro trivial ?_
          refine r_N_vc ?_
          refine r_inv_vc _ Nn mo_N (be_lt_R fun i _ => hg _) ?_
          iterate 2 refine And.intro (by first | exact trivial | exact ⟨trivial, rfl⟩) ?_
          refine vc_seq ?_
          refine vc_drawn tyOK mixed false [0, 4, 9, 10, 13, 1, 2, 3, 5, 6, 7, 8, 11, 12, 14, 15, 16, 17] (by kernel_rfl) 338 482 rfl rfl ?_
          iterate 5 refine And.intro (by first | exact trivial | ((repeat' first | exact trivial | exact rfl | exact Nat.le_of_ble_eq_true rfl | decide | omega | refine And.intro ?_ ?_); done)) ?_
          refine r_of0_vc 32 32 32 m (by omega) (by omega) hm ⟨_, _, rfl, part_all⟩ ?_
          refine r_N_vc ?_
          refine r_mod_vc _ Nn mo_N hM ?_
          refine r_N_vc ?_
          refine r_mul_vc _ _ Nn mo_N (mod_ltR mo_N _) (pw_ltR mo_N _ _) ?_
          refine r_G_vc ?_
          refine r_times_vc _ jG jG_ok ?_
          refine r_N_vc ?_
          refine r_mul_vc _ _ Nn mo_N (be_lt_R fun i _ => hg _) (pw_ltR mo_N _ _) ?_
          refine r_times_vc _ _ (junpack_ok _ _ _) ?_
          refine r_plus_vc _ _ (rtimes_ok _) (rtimes_ok _) ?_
          generalize hs : rplus (rtimes (be m 32 % Nn * pw Nn (be (fun i => g (st' + 32 + i)) 32) (Nn - 2) % Nn) jG 256) (rtimes (be (fun i => g (st' + i)) 32 * pw Nn (be (fun i => g (st' + 32 + i)) 32) (Nn - 2) % Nn) (junpack f st len).1 256) = s
          have hsok : OkJ s := hs ▸ rplus_ok _ _
          have hs2 : rsigPt (junpack f st len).1 (be m 32) (be (fun i => g (st' + i)) 32) (be (fun i => g (st' + 32 + i)) 32) = s := hs
          iterate 2 refine And.intro (by first | exact trivial | exact ⟨trivial, rfl⟩) ?_
          refine vc_seq ?_
          refine vc_seq ?_
          refine vc_straight tyOK false [0, 1, 2, 3] rfl 482 514 rfl rfl ?_
          iterate 4 refine And.intro (by first | exact trivial | decide | (refine Cv.eq_side ?_ ?_ <;> first | exact Cv.isC_cells _ _ _ | exact Cv.isC_rep _ _ _)) ?_
          refine vc_if rfl (fun hc3 => ?_) (fun hc3 => ?_)
          · simp only [Bool.false_eq_true, if_false] at hc3
            have h5 := V_is0 (Nat.lt_trans hsok.z mo_P.lt) hc3
            refine vc_seq ?_
            refine vc_straight tyOK false [0] rfl 514 522 rfl rfl ?_
            refine And.intro trivial ?_
            refine vc_ret ?_
            refine And.intro (by first | exact trivial | exact ⟨trivial, trivial⟩ | exact ⟨trivial, trivial, trivial⟩) ?_
            first
            | (rw [rverify_yes h2 h3 h4, rverPt_0 (by rw [hs2]; exact h5)] <;> done)
            | (rw [rverify_yes h2 h3 h4, rverPt_1 (by rw [hs2]; exact h6), hs2]; simp only [Bool.false_eq_true, if_false]; exact verEq' (Nat.lt_trans (Nat.mod_lt _ (by decide)) mo_N.lt) (Nat.lt_trans (keyOK_lt h3) mo_N.lt))
            | (rw [rverify_no (fun h => h64 h.1)])
            | (rw [rverify_no (fun h => h9 h.2.1)])
            | (rw [rverify_no (fun h => h8 h.2.2.1)])
            | (rw [rverify_no (fun h => h7 h.2.2.2)])
          · simp only [Bool.false_eq_true, if_false] at hc3
            have h6 := V_isn0 (Nat.lt_trans hsok.z mo_P.lt) hc3
            refine vc_skip ?_
            refine vc_seq ?_
            refine vc_straight tyOK false [0, 1, 2, 3, 4, 5, 6, 7, 8] rfl 522 594 rfl rfl ?_
            refine And.intro trivial ?_
            refine r_flat_vc s hsok ?_
            iterate 7 refine And.intro (by first | exact trivial | exact ⟨trivial, rfl⟩) ?_
            refine vc_seq ?_
            refine vc_drawn tyOK mixed false [0, 3, 1, 2, 4, 5] (by kernel_rfl) 594 642 rfl rfl ?_
            iterate 2 refine And.intro trivial ?_
            refine r_N_vc ?_
            refine r_mod_vc _ Nn mo_N (Nat.lt_trans (fm_lt _ _) mo_P.lt) ?_
            iterate 2 refine And.intro (by first | exact trivial | (refine Cv.eq_side ?_ ?_ <;> first | exact Cv.isC_cells _ _ _ | exact Cv.isC_rep _ _ _)) ?_
            refine vc_ret ?_
            refine And.intro (by first | exact trivial | exact ⟨trivial, trivial⟩ | exact ⟨trivial, trivial, trivial⟩) ?_
            first
            | (rw [rverify_yes h2 h3 h4, rverPt_0 (by rw [hs2]; exact h5)] <;> done)
            | (rw [rverify_yes h2 h3 h4, rverPt_1 (by rw [hs2]; exact h6), hs2]; simp only [Bool.false_eq_true, if_false]; exact verEq' (Nat.lt_trans (Nat.mod_lt _ (by decide)) mo_N.lt) (Nat.lt_trans (keyOK_lt h3) mo_N.lt))
            | (rw [rverify_no (fun h => h64 h.1)])
            | (rw [rverify_no (fun h => h9 h.2.1)])
            | (rw [rverify_no (fun h => h8 h.2.2.1)])
            | (rw [rverify_no (fun h => h7 h.2.2.2)])
      | true =>
        have h8 : ¬ keyOK (be (fun i => g (st' + i)) 32) = true := by simpa using hb3
        refine And.intro trivial ?_
        refine vc_if rfl (fun hc4 => ?_) (fun hc4 => ?_)
        · skip
          refine vc_seq ?_
          refine vc_straight tyOK false [0] rfl 290 298 rfl rfl ?_
          refine And.intro trivial ?_
          refine vc_ret ?_
          refine And.intro (by first | exact trivial | exact ⟨trivial, trivial⟩ | exact ⟨trivial, trivial, trivial⟩) ?_
          first
          | (rw [rverify_yes h2 h3 h4, rverPt_0 (by rw [hs2]; exact h5)] <;> done)
          | (rw [rverify_yes h2 h3 h4, rverPt_1 (by rw [hs2]; exact h6), hs2]; simp only [Bool.false_eq_true, if_false]; exact verEq' (Nat.lt_trans (Nat.mod_lt _ (by decide)) mo_N.lt) (Nat.lt_trans (keyOK_lt h3) mo_N.lt))
          | (rw [rverify_no (fun h => h64 h.1)])
          | (rw [rverify_no (fun h => h9 h.2.1)])
          | (rw [rverify_no (fun h => h8 h.2.2.1)])
          | (rw [rverify_no (fun h => h7 h.2.2.2)])
        · cases hc4
  | true =>
    have h9 : ¬ (junpack f st len).2 = true := by simpa using hb2
    refine And.intro trivial ?_
    refine vc_if rfl (fun hc5 => ?_) (fun hc5 => ?_)
    · skip
      refine vc_seq ?_
      refine vc_straight tyOK false [0] rfl 138 146 rfl rfl ?_
      refine And.intro trivial ?_
      refine vc_ret ?_
      refine And.intro (by first | exact trivial | exact ⟨trivial, trivial⟩ | exact ⟨trivial, trivial, trivial⟩) ?_
      first
      | (rw [rverify_yes h2 h3 h4, rverPt_0 (by rw [hs2]; exact h5)] <;> done)
      | (rw [rverify_yes h2 h3 h4, rverPt_1 (by rw [hs2]; exact h6), hs2]; simp only [Bool.false_eq_true, if_false]; exact verEq' (Nat.lt_trans (Nat.mod_lt _ (by decide)) mo_N.lt) (Nat.lt_trans (keyOK_lt h3) mo_N.lt))
      | (rw [rverify_no (fun h => h64 h.1)])
      | (rw [rverify_no (fun h => h9 h.2.1)])
      | (rw [rverify_no (fun h => h8 h.2.2.1)])
      | (rw [rverify_no (fun h => h7 h.2.2.2)])
    · cases hc5
theorem r_verify_vc (n st len cap : Nat) (f m : Nat → Nat) (n' st' len' cap' : Nat) (g : Nat → Nat) {k base k' base' : Nat} (hn : st + len ≤ n) (hc : len ≤ cap) (hf : ∀ i, f i < 256) (hm : ∀ i, m i < 256) (hn' : st' + len' ≤ n') (hc' : len' ≤ cap') (hg : ∀ i, g i < 256) {eff : Bool} {σ : SSt} {nm : Nat} {K : SSt → SS → Prop} (hv0 : Has σ (k) (base) [.many n (cells .u8 n f)]) (hv1 : Has σ (k') (base') [.many n' (cells .u8 n' g)]) (hk : K σ (.one ((.v (.bool (rverify f st len m g st' len')))))) : CallVC Go.Proofs.Try.prog eff (.fn 18) [(.s k base st len cap), (.g [.many 32 (cells .u8 32 (m))]), (.s k' base' st' len' cap')] σ nm K := by
  exact call_fn1 (args := [(.s 0 0 st len cap), (.g [.many 32 (cells .u8 32 (m))]), (.s 1 0 st' len' cap')]) (res := [(.v (.bool (rverify f st len m g st' len')))]) tyOK Go.Proofs.Try.func18 (c := (Go.Proofs.Try.f18).body.getD .skip) rfl (by kernel_rfl) (rs := [.tmp 6]) rfl [(k, base, [.many n (cells .u8 n f)]), (k', base', [.many n' (cells .u8 n' g)])] (Nat.le_of_ble_eq_true rfl) (okAll_mem (by repeat first | exact trivial | exact okC_nil | refine okMany ?_ ?_ | refine okOne ?_ ?_ | exact W_cv _ | exact V_cv _ | exact Dd_cv _ | exact cells_cv _ _ _ | (show (_ : Nat) < _; exact (Nat.le_of_ble_eq_true rfl)) | exact rfl | refine And.intro ?_ ?_)) (by repeat first | exact plain_nil | exact okC_nil | refine plain_v ?_ | refine plain_g ?_ ?_ | refine okMany ?_ ?_ | refine okOne ?_ ?_ | exact rfl | exact W_cv _ | exact V_cv _ | exact Dd_cv _ | exact cells_cv _ _ _ | exact okPt _) (fun w => r_verify_walk n st len cap f m n' st' len' cap' g hn hc hf hm hn' hc' hg w) ⟨hv0, (by repeat first | exact okC_nil | refine okMany ?_ ?_ | refine okOne ?_ ?_ | exact rfl | exact W_cv _ | exact V_cv _ | exact Dd_cv _ | exact cells_cv _ _ _ | exact okPt _), hv1, (by repeat first | exact okC_nil | refine okMany ?_ ?_ | refine okOne ?_ ?_ | exact rfl | exact W_cv _ | exact V_cv _ | exact Dd_cv _ | exact cells_cv _ _ _ | exact okPt _), trivial⟩ (fun ρ => by first | rfl | (simp [SV.den, viewRho, Nat.add_assoc]; done) | (simp [SV.den, viewRho, Nat.add_assoc]; rfl)) hk
end Go.Proofs.Ythjpppgibdfaeaa
