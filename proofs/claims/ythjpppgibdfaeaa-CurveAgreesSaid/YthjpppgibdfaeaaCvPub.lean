/- YthjpppgibdfaeaaCvPub: a part of the proof: lemmas alone, of no statement. -/
import Derived.Test.YthjpppgibdfaeaaCvVer
import Derived.Test.YthjpppgibdfaeaaCvFour
/- The laws on public keys, walked. -/
namespace Go.Proofs.Ythjpppgibdfaeaa
open Go Go.SX Cv Go.RowKit Go.Lib
set_option maxRecDepth 100000
theorem publics1_walk (f0 : Nat → Nat) (len1 cap1 : Nat) (f1 : Nat → Nat) (hf0 : ∀ i, f0 i < 256) (hl1 : len1 ≤ cap1) (hf1 : ∀ i, f1 i < 256) (w : World) : VC Go.Proofs.Try.prog (fun _ => False) w ((Go.Proofs.Try.f3).body.getD .skip) (mkSt (argSlots 0 [(.g [.many 32 (cells .u8 32 (f0))]), (.s 0 0 0 len1 cap1)]) [(0, ⟨[.many cap1 (cells .u8 cap1 f1)], false⟩)] 1 80) (endS Γ [.tmp 4] (fun _ r => r = [.v (.bool true)])) := by
  unfold Go.Proofs.Try.f3
  dsimp only [Option.getD]
  refine vc_seq ?_
  refine vc_straight tyOK false [0, 1] rfl 1 17 rfl rfl ?_
  refine And.intro trivial ?_
  refine And.intro trivial ?_
  refine vc_seq ?_
  refine vc_seq ?_
  refine vc_straight tyOK false [0, 1] rfl 17 33 rfl rfl ?_
  refine awake_vc ?_
  refine And.intro trivial ?_
  refine vc_if rfl (fun hc1 => ?_) (fun hc1 => ?_)
  · cases hc1
  · skip
    refine vc_skip ?_
    refine vc_seq ?_
    refine vc_straight tyOK false [0, 1, 2, 3, 4, 5, 6, 7] rfl 41 105 rfl rfl ?_
    refine And.intro trivial ?_
    refine c_public_vc f0 hf0 ?_
    iterate 4 refine And.intro trivial ?_
    refine And.intro (by exact ⟨trivial, rfl⟩) ?_
    refine And.intro trivial ?_
    refine vc_seq ?_
    refine vc_straight tyOK false [0, 1, 2, 3, 4, 5, 6, 7] rfl 105 169 rfl rfl ?_
    refine And.intro trivial ?_
    refine r_public_vc f0 hf0 ?_
    rw [pub_eq]
    iterate 4 refine And.intro trivial ?_
    refine And.intro (by exact ⟨trivial, rfl⟩) ?_
    refine And.intro trivial ?_
    refine vc_seq ?_
    refine vc_seq ?_
    refine vc_straight tyOK false [0, 1, 2, 3, 4, 5, 6, 7, 8, 9, 10, 11, 12, 13, 14, 15, 16, 17, 18, 19, 20, 21, 22, 23, 24, 25, 26, 27, 28, 29, 30] rfl 169 417 rfl rfl ?_
    iterate 3 refine And.intro (by first | exact trivial | (refine Cv.eq_side ?_ ?_ <;> first | exact Cv.isC_cells _ _ _ | exact Cv.isC_rep _ _ _)) ?_
    refine reg_bool rfl rfl rfl rfl (by exact trivial) (fun b hb3 => ?_)
    cases b with
    | false =>
      skip
      refine And.intro trivial ?_
      refine And.intro rfl ?_
      refine And.intro trivial ?_
      refine And.intro trivial ?_
      refine And.intro trivial ?_
      refine reg_bool rfl rfl rfl rfl (by exact trivial) (fun b hb9 => ?_)
      cases b with
      | false =>
        skip
        iterate 2 refine And.intro trivial ?_
        refine reg_bool rfl rfl rfl rfl (by exact trivial) (fun b hb12 => ?_)
        cases b with
        | false =>
          have h0 : (pubOf f0).2 = 0 := by simpa using hb12
          iterate 2 refine And.intro trivial ?_
          refine reg_bool rfl rfl rfl rfl (by exact trivial) (fun b hb17 => ?_)
          cases b with
          | false =>
            skip
            refine And.intro trivial ?_
            refine c_valid_vc f0 hf0 ?_
            rw [pub_key f0]
            refine And.intro trivial ?_
            refine And.intro trivial ?_
            refine And.intro trivial ?_
            refine reg_bool rfl rfl rfl rfl (by exact trivial) (fun b hb23 => ?_)
            cases b with
            | false =>
              skip
              refine And.intro trivial ?_
              refine reg_bool rfl rfl rfl rfl (by exact trivial) (fun b hb25 => ?_)
              cases b with
              | false =>
                exact absurd h0 (of_decide_eq_false hb25)
              | true =>
                skip
                refine And.intro (by ((repeat' first | exact trivial | exact rfl | exact Nat.le_of_ble_eq_true rfl | decide | omega | refine And.intro ?_ ?_); done)) ?_
                refine c_isPublic_vc 33 0 33 33 (pubOf f0).1 (by omega) (by omega) (pub_lt f0) ⟨_, _, rfl, part_all⟩ ?_
                iterate 3 refine And.intro trivial ?_
                refine vc_if rfl (fun hc2 => ?_) (fun hc2 => ?_)
                · rw [pub_unpacks (pub_ok h0)] at hc2; cases hc2
                · skip
                  refine vc_skip ?_
                  refine vc_seq ?_
                  refine vc_seq ?_
                  refine vc_straight tyOK false [0, 1, 2] rfl 425 449 rfl rfl ?_
                  iterate 2 refine And.intro trivial ?_
                  refine And.intro rfl ?_
                  refine vc_if rfl (fun hc3 => ?_) (fun hc3 => ?_)
                  · have hlt1 : 70 < len1 := by have := of_decide_eq_true hc3; omega
                    refine vc_straight tyOK false [0, 1, 2] rfl 449 473 rfl rfl ?_
                    refine And.intro trivial ?_
                    refine reg_sv rfl rfl rfl rfl ?_ (fun v hv => ?_)
                    · exact (by ((repeat' first | exact trivial | exact rfl | exact Nat.le_of_ble_eq_true rfl | decide | omega | refine And.intro ?_ ?_); done))
                    replace hv := hv.symm.trans (show SV.s 0 0 (if cap1 = 0 then 0 else 0 + 0) 70 (cap1 - 0) = SV.s 0 0 0 70 cap1 from by rw [if_neg (by omega)]; rfl)
                    subst hv
                    refine And.intro trivial ?_
                    refine vc_seq ?_
                    refine vc_straight tyOK false [0, 1, 2, 3, 4, 5, 6] rfl 473 529 rfl rfl ?_
                    refine And.intro trivial ?_
                    refine spare_vc cap1 0 _ cap1 f1 (by omega) (by omega) ⟨_, _, rfl, part_all⟩ ?_
                    iterate 5 refine And.intro trivial ?_
                    refine vc_seq ?_
                    refine vc_straight tyOK false [0, 1, 2, 3, 4, 5, 6, 7] rfl 529 593 rfl rfl ?_
                    refine And.intro trivial ?_
                    refine r_unpack_vc cap1 0 _ cap1 f1 (by omega) (by omega) hf1 ⟨_, _, rfl, part_all⟩ ?_
                    iterate 4 refine And.intro trivial ?_
                    refine And.intro (by exact ⟨trivial, rfl⟩) ?_
                    refine And.intro trivial ?_
                    refine vc_seq ?_
                    refine vc_straight tyOK false [0, 1, 2, 3, 4, 5, 6, 7, 8, 9] rfl 593 673 rfl rfl ?_
                    refine And.intro trivial ?_
                    refine c_isPublic_vc _ 0 _ _ _ (by omega) (by omega) (spareF_lt hf1 _ _) ⟨_, _, rfl, part_all⟩ ?_
                    rw [junpack_spare]
                    refine And.intro trivial ?_
                    refine And.intro trivial ?_
                    refine reg_bool rfl rfl rfl rfl (by exact trivial) (fun b hb4 => ?_)
                    cases b with
                    | false =>
                      exact absurd hb4 (by simp)
                    | true =>
                      skip
                      iterate 2 refine And.intro trivial ?_
                      refine kept_vc _ 0 _ _ _ cap1 0 _ cap1 f1 (by omega) rfl (by omega) (by omega) (fun i _ => by rw [Nat.zero_add]) ⟨_, _, rfl, part_all⟩ ⟨_, _, rfl, part_all⟩ ?_
                      iterate 2 refine And.intro trivial ?_
                      refine vc_ret ?_
                      refine And.intro (by first | exact trivial | exact ⟨trivial, trivial⟩ | exact ⟨trivial, trivial, trivial⟩) ?_
                      rfl
                  · have hlt1 : len1 ≤ 70 := by have := of_decide_eq_false hc3; omega
                    refine vc_skip ?_
                    refine vc_seq ?_
                    refine vc_straight tyOK false [0, 1, 2, 3, 4, 5, 6] rfl 473 529 rfl rfl ?_
                    refine And.intro trivial ?_
                    refine spare_vc cap1 0 _ cap1 f1 (by omega) (by omega) ⟨_, _, rfl, part_all⟩ ?_
                    iterate 5 refine And.intro trivial ?_
                    refine vc_seq ?_
                    refine vc_straight tyOK false [0, 1, 2, 3, 4, 5, 6, 7] rfl 529 593 rfl rfl ?_
                    refine And.intro trivial ?_
                    refine r_unpack_vc cap1 0 _ cap1 f1 (by omega) (by omega) hf1 ⟨_, _, rfl, part_all⟩ ?_
                    iterate 4 refine And.intro trivial ?_
                    refine And.intro (by exact ⟨trivial, rfl⟩) ?_
                    refine And.intro trivial ?_
                    refine vc_seq ?_
                    refine vc_straight tyOK false [0, 1, 2, 3, 4, 5, 6, 7, 8, 9] rfl 593 673 rfl rfl ?_
                    refine And.intro trivial ?_
                    refine c_isPublic_vc _ 0 _ _ _ (by omega) (by omega) (spareF_lt hf1 _ _) ⟨_, _, rfl, part_all⟩ ?_
                    rw [junpack_spare]
                    refine And.intro trivial ?_
                    refine And.intro trivial ?_
                    refine reg_bool rfl rfl rfl rfl (by exact trivial) (fun b hb4 => ?_)
                    cases b with
                    | false =>
                      exact absurd hb4 (by simp)
                    | true =>
                      skip
                      iterate 2 refine And.intro trivial ?_
                      refine kept_vc _ 0 _ _ _ cap1 0 _ cap1 f1 (by omega) rfl (by omega) (by omega) (fun i _ => by rw [Nat.zero_add]) ⟨_, _, rfl, part_all⟩ ⟨_, _, rfl, part_all⟩ ?_
                      iterate 2 refine And.intro trivial ?_
                      refine vc_ret ?_
                      refine And.intro (by first | exact trivial | exact ⟨trivial, trivial⟩ | exact ⟨trivial, trivial, trivial⟩) ?_
                      rfl
            | true =>
              exact absurd hb23 (by simp)
          | true =>
            cases hb17
        | true =>
          have h0 : ¬ (pubOf f0).2 = 0 := by simpa using hb12
          refine And.intro trivial ?_
          refine And.intro rfl ?_
          iterate 2 refine And.intro trivial ?_
          refine reg_bool rfl rfl rfl rfl (by exact trivial) (fun b hb17 => ?_)
          cases b with
          | false =>
            skip
            refine And.intro trivial ?_
            refine c_valid_vc f0 hf0 ?_
            rw [pub_key f0]
            refine And.intro trivial ?_
            refine And.intro trivial ?_
            refine And.intro trivial ?_
            refine reg_bool rfl rfl rfl rfl (by exact trivial) (fun b hb23 => ?_)
            cases b with
            | false =>
              skip
              refine And.intro trivial ?_
              refine reg_bool rfl rfl rfl rfl (by exact trivial) (fun b hb25 => ?_)
              cases b with
              | false =>
                skip
                iterate 2 refine And.intro trivial ?_
                refine vc_if rfl (fun hc4 => ?_) (fun hc4 => ?_)
                · cases hc4
                · skip
                  refine vc_skip ?_
                  refine vc_seq ?_
                  refine vc_seq ?_
                  refine vc_straight tyOK false [0, 1, 2] rfl 425 449 rfl rfl ?_
                  iterate 2 refine And.intro trivial ?_
                  refine And.intro rfl ?_
                  refine vc_if rfl (fun hc5 => ?_) (fun hc5 => ?_)
                  · have hlt1 : 70 < len1 := by have := of_decide_eq_true hc5; omega
                    refine vc_straight tyOK false [0, 1, 2] rfl 449 473 rfl rfl ?_
                    refine And.intro trivial ?_
                    refine reg_sv rfl rfl rfl rfl ?_ (fun v hv => ?_)
                    · exact (by ((repeat' first | exact trivial | exact rfl | exact Nat.le_of_ble_eq_true rfl | decide | omega | refine And.intro ?_ ?_); done))
                    replace hv := hv.symm.trans (show SV.s 0 0 (if cap1 = 0 then 0 else 0 + 0) 70 (cap1 - 0) = SV.s 0 0 0 70 cap1 from by rw [if_neg (by omega)]; rfl)
                    subst hv
                    refine And.intro trivial ?_
                    refine vc_seq ?_
                    refine vc_straight tyOK false [0, 1, 2, 3, 4, 5, 6] rfl 473 529 rfl rfl ?_
                    refine And.intro trivial ?_
                    refine spare_vc cap1 0 _ cap1 f1 (by omega) (by omega) ⟨_, _, rfl, part_all⟩ ?_
                    iterate 5 refine And.intro trivial ?_
                    refine vc_seq ?_
                    refine vc_straight tyOK false [0, 1, 2, 3, 4, 5, 6, 7] rfl 529 593 rfl rfl ?_
                    refine And.intro trivial ?_
                    refine r_unpack_vc cap1 0 _ cap1 f1 (by omega) (by omega) hf1 ⟨_, _, rfl, part_all⟩ ?_
                    iterate 4 refine And.intro trivial ?_
                    refine And.intro (by exact ⟨trivial, rfl⟩) ?_
                    refine And.intro trivial ?_
                    refine vc_seq ?_
                    refine vc_straight tyOK false [0, 1, 2, 3, 4, 5, 6, 7, 8, 9] rfl 593 673 rfl rfl ?_
                    refine And.intro trivial ?_
                    refine c_isPublic_vc _ 0 _ _ _ (by omega) (by omega) (spareF_lt hf1 _ _) ⟨_, _, rfl, part_all⟩ ?_
                    rw [junpack_spare]
                    refine And.intro trivial ?_
                    refine And.intro trivial ?_
                    refine reg_bool rfl rfl rfl rfl (by exact trivial) (fun b hb4 => ?_)
                    cases b with
                    | false =>
                      exact absurd hb4 (by simp)
                    | true =>
                      skip
                      iterate 2 refine And.intro trivial ?_
                      refine kept_vc _ 0 _ _ _ cap1 0 _ cap1 f1 (by omega) rfl (by omega) (by omega) (fun i _ => by rw [Nat.zero_add]) ⟨_, _, rfl, part_all⟩ ⟨_, _, rfl, part_all⟩ ?_
                      iterate 2 refine And.intro trivial ?_
                      refine vc_ret ?_
                      refine And.intro (by first | exact trivial | exact ⟨trivial, trivial⟩ | exact ⟨trivial, trivial, trivial⟩) ?_
                      rfl
                  · have hlt1 : len1 ≤ 70 := by have := of_decide_eq_false hc5; omega
                    refine vc_skip ?_
                    refine vc_seq ?_
                    refine vc_straight tyOK false [0, 1, 2, 3, 4, 5, 6] rfl 473 529 rfl rfl ?_
                    refine And.intro trivial ?_
                    refine spare_vc cap1 0 _ cap1 f1 (by omega) (by omega) ⟨_, _, rfl, part_all⟩ ?_
                    iterate 5 refine And.intro trivial ?_
                    refine vc_seq ?_
                    refine vc_straight tyOK false [0, 1, 2, 3, 4, 5, 6, 7] rfl 529 593 rfl rfl ?_
                    refine And.intro trivial ?_
                    refine r_unpack_vc cap1 0 _ cap1 f1 (by omega) (by omega) hf1 ⟨_, _, rfl, part_all⟩ ?_
                    iterate 4 refine And.intro trivial ?_
                    refine And.intro (by exact ⟨trivial, rfl⟩) ?_
                    refine And.intro trivial ?_
                    refine vc_seq ?_
                    refine vc_straight tyOK false [0, 1, 2, 3, 4, 5, 6, 7, 8, 9] rfl 593 673 rfl rfl ?_
                    refine And.intro trivial ?_
                    refine c_isPublic_vc _ 0 _ _ _ (by omega) (by omega) (spareF_lt hf1 _ _) ⟨_, _, rfl, part_all⟩ ?_
                    rw [junpack_spare]
                    refine And.intro trivial ?_
                    refine And.intro trivial ?_
                    refine reg_bool rfl rfl rfl rfl (by exact trivial) (fun b hb4 => ?_)
                    cases b with
                    | false =>
                      exact absurd hb4 (by simp)
                    | true =>
                      skip
                      iterate 2 refine And.intro trivial ?_
                      refine kept_vc _ 0 _ _ _ cap1 0 _ cap1 f1 (by omega) rfl (by omega) (by omega) (fun i _ => by rw [Nat.zero_add]) ⟨_, _, rfl, part_all⟩ ⟨_, _, rfl, part_all⟩ ?_
                      iterate 2 refine And.intro trivial ?_
                      refine vc_ret ?_
                      refine And.intro (by first | exact trivial | exact ⟨trivial, trivial⟩ | exact ⟨trivial, trivial, trivial⟩) ?_
                      rfl
              | true =>
                exact absurd (of_decide_eq_true hb25) h0
            | true =>
              exact absurd hb23 (by simp)
          | true =>
            exact absurd (pub_err h0) (bnen hb17)
      | true =>
        exact absurd hb9 (by simp [eq0_dec])
    | true =>
      exact absurd hb3 (by simp)
theorem publics0_walk (f0 : Nat → Nat) (a1 : Option Addr) (hf0 : ∀ i, f0 i < 256) (w : World) : VC Go.Proofs.Try.prog (fun _ => False) w ((Go.Proofs.Try.f3).body.getD .skip) (mkSt (argSlots 0 [(.g [.many 32 (cells .u8 32 (f0))]), (.v (.slice a1 0 0))]) [] 0 80) (endS Γ [.tmp 4] (fun _ r => r = [.v (.bool true)])) := by
  unfold Go.Proofs.Try.f3
  dsimp only [Option.getD]
  refine vc_seq ?_
  refine vc_straight tyOK false [0, 1] rfl 0 16 rfl rfl ?_
  refine And.intro trivial ?_
  refine And.intro trivial ?_
  refine vc_seq ?_
  refine vc_seq ?_
  refine vc_straight tyOK false [0, 1] rfl 16 32 rfl rfl ?_
  refine awake_vc ?_
  refine And.intro trivial ?_
  refine vc_if rfl (fun hc1 => ?_) (fun hc1 => ?_)
  · cases hc1
  · skip
    refine vc_skip ?_
    refine vc_seq ?_
    refine vc_straight tyOK false [0, 1, 2, 3, 4, 5, 6, 7] rfl 40 104 rfl rfl ?_
    refine And.intro trivial ?_
    refine c_public_vc f0 hf0 ?_
    iterate 4 refine And.intro trivial ?_
    refine And.intro (by exact ⟨trivial, rfl⟩) ?_
    refine And.intro trivial ?_
    refine vc_seq ?_
    refine vc_straight tyOK false [0, 1, 2, 3, 4, 5, 6, 7] rfl 104 168 rfl rfl ?_
    refine And.intro trivial ?_
    refine r_public_vc f0 hf0 ?_
    rw [pub_eq]
    iterate 4 refine And.intro trivial ?_
    refine And.intro (by exact ⟨trivial, rfl⟩) ?_
    refine And.intro trivial ?_
    refine vc_seq ?_
    refine vc_seq ?_
    refine vc_straight tyOK false [0, 1, 2, 3, 4, 5, 6, 7, 8, 9, 10, 11, 12, 13, 14, 15, 16, 17, 18, 19, 20, 21, 22, 23, 24, 25, 26, 27, 28, 29, 30] rfl 168 416 rfl rfl ?_
    iterate 3 refine And.intro (by first | exact trivial | (refine Cv.eq_side ?_ ?_ <;> first | exact Cv.isC_cells _ _ _ | exact Cv.isC_rep _ _ _)) ?_
    refine reg_bool rfl rfl rfl rfl (by exact trivial) (fun b hb3 => ?_)
    cases b with
    | false =>
      skip
      refine And.intro trivial ?_
      refine And.intro rfl ?_
      refine And.intro trivial ?_
      refine And.intro trivial ?_
      refine And.intro trivial ?_
      refine reg_bool rfl rfl rfl rfl (by exact trivial) (fun b hb9 => ?_)
      cases b with
      | false =>
        skip
        iterate 2 refine And.intro trivial ?_
        refine reg_bool rfl rfl rfl rfl (by exact trivial) (fun b hb12 => ?_)
        cases b with
        | false =>
          have h0 : (pubOf f0).2 = 0 := by simpa using hb12
          iterate 2 refine And.intro trivial ?_
          refine reg_bool rfl rfl rfl rfl (by exact trivial) (fun b hb17 => ?_)
          cases b with
          | false =>
            skip
            refine And.intro trivial ?_
            refine c_valid_vc f0 hf0 ?_
            rw [pub_key f0]
            refine And.intro trivial ?_
            refine And.intro trivial ?_
            refine And.intro trivial ?_
            refine reg_bool rfl rfl rfl rfl (by exact trivial) (fun b hb23 => ?_)
            cases b with
            | false =>
              skip
              refine And.intro trivial ?_
              refine reg_bool rfl rfl rfl rfl (by exact trivial) (fun b hb25 => ?_)
              cases b with
              | false =>
                exact absurd h0 (of_decide_eq_false hb25)
              | true =>
                skip
                refine And.intro (by ((repeat' first | exact trivial | exact rfl | exact Nat.le_of_ble_eq_true rfl | decide | omega | refine And.intro ?_ ?_); done)) ?_
                refine c_isPublic_vc 33 0 33 33 (pubOf f0).1 (by omega) (by omega) (pub_lt f0) ⟨_, _, rfl, part_all⟩ ?_
                iterate 3 refine And.intro trivial ?_
                refine vc_if rfl (fun hc2 => ?_) (fun hc2 => ?_)
                · rw [pub_unpacks (pub_ok h0)] at hc2; cases hc2
                · skip
                  refine vc_skip ?_
                  refine vc_seq ?_
                  refine vc_seq ?_
                  refine vc_straight tyOK false [0, 1, 2] rfl 424 448 rfl rfl ?_
                  iterate 2 refine And.intro trivial ?_
                  refine And.intro rfl ?_
                  refine vc_if rfl (fun hc3 => ?_) (fun hc3 => ?_)
                  · exact absurd hc3 (by decide)
                  · skip
                    refine vc_skip ?_
                    refine vc_seq ?_
                    refine vc_straight tyOK false [0, 1, 2, 3, 4, 5, 6] rfl 472 528 rfl rfl ?_
                    refine And.intro trivial ?_
                    refine spare0_vc a1 zf 0 ?_
                    iterate 5 refine And.intro trivial ?_
                    refine vc_seq ?_
                    refine vc_straight tyOK false [0, 1, 2, 3, 4, 5, 6, 7] rfl 528 592 rfl rfl ?_
                    refine And.intro trivial ?_
                    refine r_unpack0_vc a1 ?_
                    iterate 4 refine And.intro trivial ?_
                    refine And.intro (by exact ⟨trivial, rfl⟩) ?_
                    refine And.intro trivial ?_
                    refine vc_seq ?_
                    refine vc_straight tyOK false [0, 1, 2, 3, 4, 5, 6, 7, 8, 9] rfl 592 672 rfl rfl ?_
                    refine And.intro trivial ?_
                    refine c_isPublic_vc _ 0 _ _ _ (by omega) (by omega) (spareF_lt zf_lt _ _) ⟨_, _, rfl, part_all⟩ ?_
                    rw [junpack_spare]
                    refine And.intro trivial ?_
                    refine And.intro trivial ?_
                    refine reg_bool rfl rfl rfl rfl (by exact trivial) (fun b hb4 => ?_)
                    cases b with
                    | false =>
                      exact absurd hb4 (by simp)
                    | true =>
                      skip
                      iterate 2 refine And.intro trivial ?_
                      refine kept0_vc _ 0 _ _ _ a1 zf (by omega) rfl (by omega) (fun i _ => by rw [Nat.zero_add]) ⟨_, _, rfl, part_all⟩ ?_
                      iterate 2 refine And.intro trivial ?_
                      refine vc_ret ?_
                      refine And.intro (by first | exact trivial | exact ⟨trivial, trivial⟩ | exact ⟨trivial, trivial, trivial⟩) ?_
                      rfl
            | true =>
              exact absurd hb23 (by simp)
          | true =>
            cases hb17
        | true =>
          have h0 : ¬ (pubOf f0).2 = 0 := by simpa using hb12
          refine And.intro trivial ?_
          refine And.intro rfl ?_
          iterate 2 refine And.intro trivial ?_
          refine reg_bool rfl rfl rfl rfl (by exact trivial) (fun b hb17 => ?_)
          cases b with
          | false =>
            skip
            refine And.intro trivial ?_
            refine c_valid_vc f0 hf0 ?_
            rw [pub_key f0]
            refine And.intro trivial ?_
            refine And.intro trivial ?_
            refine And.intro trivial ?_
            refine reg_bool rfl rfl rfl rfl (by exact trivial) (fun b hb23 => ?_)
            cases b with
            | false =>
              skip
              refine And.intro trivial ?_
              refine reg_bool rfl rfl rfl rfl (by exact trivial) (fun b hb25 => ?_)
              cases b with
              | false =>
                skip
                iterate 2 refine And.intro trivial ?_
                refine vc_if rfl (fun hc4 => ?_) (fun hc4 => ?_)
                · cases hc4
                · skip
                  refine vc_skip ?_
                  refine vc_seq ?_
                  refine vc_seq ?_
                  refine vc_straight tyOK false [0, 1, 2] rfl 424 448 rfl rfl ?_
                  iterate 2 refine And.intro trivial ?_
                  refine And.intro rfl ?_
                  refine vc_if rfl (fun hc5 => ?_) (fun hc5 => ?_)
                  · exact absurd hc5 (by decide)
                  · skip
                    refine vc_skip ?_
                    refine vc_seq ?_
                    refine vc_straight tyOK false [0, 1, 2, 3, 4, 5, 6] rfl 472 528 rfl rfl ?_
                    refine And.intro trivial ?_
                    refine spare0_vc a1 zf 0 ?_
                    iterate 5 refine And.intro trivial ?_
                    refine vc_seq ?_
                    refine vc_straight tyOK false [0, 1, 2, 3, 4, 5, 6, 7] rfl 528 592 rfl rfl ?_
                    refine And.intro trivial ?_
                    refine r_unpack0_vc a1 ?_
                    iterate 4 refine And.intro trivial ?_
                    refine And.intro (by exact ⟨trivial, rfl⟩) ?_
                    refine And.intro trivial ?_
                    refine vc_seq ?_
                    refine vc_straight tyOK false [0, 1, 2, 3, 4, 5, 6, 7, 8, 9] rfl 592 672 rfl rfl ?_
                    refine And.intro trivial ?_
                    refine c_isPublic_vc _ 0 _ _ _ (by omega) (by omega) (spareF_lt zf_lt _ _) ⟨_, _, rfl, part_all⟩ ?_
                    rw [junpack_spare]
                    refine And.intro trivial ?_
                    refine And.intro trivial ?_
                    refine reg_bool rfl rfl rfl rfl (by exact trivial) (fun b hb4 => ?_)
                    cases b with
                    | false =>
                      exact absurd hb4 (by simp)
                    | true =>
                      skip
                      iterate 2 refine And.intro trivial ?_
                      refine kept0_vc _ 0 _ _ _ a1 zf (by omega) rfl (by omega) (fun i _ => by rw [Nat.zero_add]) ⟨_, _, rfl, part_all⟩ ?_
                      iterate 2 refine And.intro trivial ?_
                      refine vc_ret ?_
                      refine And.intro (by first | exact trivial | exact ⟨trivial, trivial⟩ | exact ⟨trivial, trivial, trivial⟩) ?_
                      rfl
              | true =>
                exact absurd (of_decide_eq_true hb25) h0
            | true =>
              exact absurd hb23 (by simp)
          | true =>
            exact absurd (pub_err h0) (bnen hb17)
      | true =>
        exact absurd hb9 (by simp [eq0_dec])
    | true =>
      exact absurd hb3 (by simp)
theorem agrees_walk (f g : Nat → Nat) (hf : ∀ i, f i < 256) (hg : ∀ i, g i < 256) (w : World) : VC Go.Proofs.Try.prog (fun _ => False) w ((Go.Proofs.Try.f6).body.getD .skip) (mkSt (argSlots 0 [(.g [.many 32 (cells .u8 32 (f))]), (.g [.many 32 (cells .u8 32 (g))])]) [] 0 57) (endS Γ [.tmp 4] (fun _ r => r = [(.v (.bool true))])) := by
  unfold Go.Proofs.Try.f6
  dsimp only [Option.getD]
  have hag := agree f g
  refine vc_seq ?_
  refine vc_straight tyOK false [0, 1, 2] rfl 0 24 rfl rfl ?_
  iterate 2 refine And.intro trivial ?_
  refine And.intro trivial ?_
  refine vc_seq ?_
  refine vc_seq ?_
  refine vc_straight tyOK false [0, 1] rfl 24 40 rfl rfl ?_
  refine awake_vc ?_
  refine And.intro trivial ?_
  refine vc_if rfl (fun hc1 => ?_) (fun hc1 => ?_)
  · cases hc1
  · skip
    refine vc_skip ?_
    refine vc_seq ?_
    refine vc_straight tyOK false [0, 1, 2, 3, 4, 5, 6, 7, 8] rfl 48 120 rfl rfl ?_
    iterate 2 refine And.intro trivial ?_
    refine c_addKey_vc f g hf hg ?_
    iterate 4 refine And.intro trivial ?_
    refine And.intro (by exact ⟨trivial, rfl⟩) ?_
    refine And.intro trivial ?_
    refine vc_seq ?_
    refine vc_straight tyOK false [0, 1, 2, 3, 4, 5, 6, 7] rfl 120 184 rfl rfl ?_
    refine And.intro trivial ?_
    refine c_public_vc f hf ?_
    iterate 4 refine And.intro trivial ?_
    refine And.intro (by exact ⟨trivial, rfl⟩) ?_
    refine And.intro trivial ?_
    refine vc_seq ?_
    refine vc_seq ?_
    refine vc_straight tyOK false [0, 1] rfl 184 200 rfl rfl ?_
    refine And.intro trivial ?_
    refine And.intro rfl ?_
    refine vc_if rfl (fun hc2 => ?_) (fun hc2 => ?_)
    · have hk : ¬ keyOK (be f 32) = true := by rw [pub_key]; simpa using ne0 hc2
      refine vc_seq ?_
      refine vc_straight tyOK false [0, 1, 2] rfl 200 224 rfl rfl ?_
      refine And.intro trivial ?_
      refine And.intro rfl ?_
      refine And.intro trivial ?_
      refine vc_ret ?_
      refine And.intro (by first | exact trivial | exact ⟨trivial, trivial⟩ | exact ⟨trivial, trivial, trivial⟩) ?_
      first
      | (show [SV.v (.bool (((_ : Nat) : Int) == 1))] = _; rw [hag.bad hk]; rfl)
      | (show [SV.v (.bool (((_ : Nat) : Int) == ((_ : Nat) : Int)))] = _; rw [eqB (hag.same hk he)])
      | (rw [(hag.ok hk he).2.2]; simp)
    · have hk : keyOK (be f 32) = true := pub_ok (nne0 hc2)
      refine vc_skip ?_
      refine vc_seq ?_
      refine vc_straight tyOK false [0, 1, 2, 3, 4, 5, 6, 7, 8] rfl 224 296 rfl rfl ?_
      iterate 2 refine And.intro trivial ?_
      refine c_addPub_vc _ g (pub_lt f) hg ?_
      iterate 4 refine And.intro trivial ?_
      refine And.intro (by exact ⟨trivial, rfl⟩) ?_
      refine And.intro trivial ?_
      refine vc_seq ?_
      refine vc_seq ?_
      refine vc_straight tyOK false [0, 1] rfl 296 312 rfl rfl ?_
      refine And.intro trivial ?_
      refine And.intro rfl ?_
      refine vc_if rfl (fun hc3 => ?_) (fun hc3 => ?_)
      · have he := ne0 hc3
        refine vc_seq ?_
        refine vc_straight tyOK false [0, 1, 2, 3] rfl 312 344 rfl rfl ?_
        iterate 2 refine And.intro trivial ?_
        refine And.intro rfl ?_
        refine And.intro trivial ?_
        refine vc_ret ?_
        refine And.intro (by first | exact trivial | exact ⟨trivial, trivial⟩ | exact ⟨trivial, trivial, trivial⟩) ?_
        first
        | (show [SV.v (.bool (((_ : Nat) : Int) == 1))] = _; rw [hag.bad hk]; rfl)
        | (show [SV.v (.bool (((_ : Nat) : Int) == ((_ : Nat) : Int)))] = _; rw [eqB (hag.same hk he)])
        | (rw [(hag.ok hk he).2.2]; simp)
      · have he := nne0 hc3
        refine vc_skip ?_
        refine vc_seq ?_
        refine vc_straight tyOK false [0, 1, 2, 3, 4, 5, 6, 7] rfl 344 408 rfl rfl ?_
        refine And.intro trivial ?_
        refine c_public_vc _ (addKey_lt f g) ?_
        iterate 4 refine And.intro trivial ?_
        refine And.intro (by exact ⟨trivial, rfl⟩) ?_
        refine And.intro trivial ?_
        refine vc_seq ?_
        refine vc_straight tyOK false [0, 1, 2, 3, 4, 5, 6, 7, 8, 9, 10, 11] rfl 408 504 rfl rfl ?_
        refine And.intro trivial ?_
        refine And.intro rfl ?_
        refine reg_bool rfl rfl rfl rfl (by exact trivial) (fun b hb2 => ?_)
        cases b with
        | false =>
          exact absurd hb2 (by rw [(hag.ok hk he).1]; decide)
        | true =>
          skip
          refine And.intro trivial ?_
          refine And.intro rfl ?_
          refine And.intro trivial ?_
          refine reg_bool rfl rfl rfl rfl (by exact trivial) (fun b hb6 => ?_)
          cases b with
          | false =>
            exact absurd hb6 (by rw [(hag.ok hk he).2.1]; decide)
          | true =>
            skip
            iterate 3 refine And.intro (by first | exact trivial | (refine Cv.eq_side ?_ ?_ <;> first | exact Cv.isC_cells _ _ _ | exact Cv.isC_rep _ _ _)) ?_
            iterate 2 refine And.intro trivial ?_
            refine vc_ret ?_
            refine And.intro (by first | exact trivial | exact ⟨trivial, trivial⟩ | exact ⟨trivial, trivial, trivial⟩) ?_
            first
            | (show [SV.v (.bool (((_ : Nat) : Int) == 1))] = _; rw [hag.bad hk]; rfl)
            | (show [SV.v (.bool (((_ : Nat) : Int) == ((_ : Nat) : Int)))] = _; rw [eqB (hag.same hk he)])
            | (rw [(hag.ok hk he).2.2]; simp)
theorem agrees_vc (f g : Nat → Nat)  (hf : ∀ i, f i < 256) (hg : ∀ i, g i < 256) {eff : Bool} {σ : SSt} {nm : Nat} {K : SSt → SS → Prop}  (hk : K σ (.one ((.v (.bool true))))) : CallVC Go.Proofs.Try.prog eff (.fn 6) [(.g [.many 32 (cells .u8 32 (f))]), (.g [.many 32 (cells .u8 32 (g))])] σ nm K := by
  exact call_plain (res := [(.v (.bool true))]) tyOK Go.Proofs.Try.func6 (c := (Go.Proofs.Try.f6).body.getD .skip) rfl (by kernel_rfl) (rs := [.tmp 4]) rfl (Nat.le_of_ble_eq_true rfl) (by repeat first | exact plain_nil | exact okC_nil | refine plain_v ?_ | refine plain_g ?_ ?_ | refine okMany ?_ ?_ | refine okOne ?_ ?_ | exact rfl | exact W_cv _ | exact V_cv _ | exact Dd_cv _ | exact cells_cv _ _ _ | exact okPt _) (by repeat first | exact plain_nil | exact okC_nil | refine plain_v ?_ | refine plain_g ?_ ?_ | refine okMany ?_ ?_ | refine okOne ?_ ?_ | exact rfl | exact W_cv _ | exact V_cv _ | exact Dd_cv _ | exact cells_cv _ _ _ | exact okPt _) (fun w => agrees_walk f g hf hg w) hk
end Go.Proofs.Ythjpppgibdfaeaa
