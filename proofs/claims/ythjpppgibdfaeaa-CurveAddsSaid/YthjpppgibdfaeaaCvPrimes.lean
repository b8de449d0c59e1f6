import Derived.Test.YthjpppgibdfaeaaCvPrime
/- The two primes of the curve, by certificates. -/
namespace Cv
set_option maxRecDepth 100000
theorem all_cons {a : Nat} {l : List Nat} (h : Pr1 a) (hl : ∀ q ∈ l, Pr1 q) : ∀ q ∈ a :: l, Pr1 q := fun q hq => by
  rcases List.mem_cons.1 hq with rfl | hq
  · exact h
  · exact hl q hq
theorem pr_2 : Pr1 2 := small_pr (k := 0) (by decide +kernel) (by decide)
theorem pr_3 : Pr1 3 := small_pr (k := 0) (by decide +kernel) (by decide)
theorem pr_7 : Pr1 7 := small_pr (k := 1) (by decide +kernel) (by decide)
theorem pr_13441 : Pr1 13441 := small_pr (k := 114) (by decide +kernel) (by decide)
theorem pr_5 : Pr1 5 := small_pr (k := 1) (by decide +kernel) (by decide)
theorem pr_29 : Pr1 29 := small_pr (k := 4) (by decide +kernel) (by decide)
theorem pr_31 : Pr1 31 := small_pr (k := 4) (by decide +kernel) (by decide)
theorem pr_7723 : Pr1 7723 := small_pr (k := 86) (by decide +kernel) (by decide)
theorem pr_5323 : Pr1 5323 := small_pr (k := 71) (by decide +kernel) (by decide)
theorem pr_2621 : Pr1 2621 := small_pr (k := 50) (by decide +kernel) (by decide)
theorem pr_24809 : Pr1 24809 := small_pr (k := 156) (by decide +kernel) (by decide)
theorem pr_13331831 : Pr1 13331831 := small_pr (k := 3650) (by decide +kernel) (by decide)
theorem lu_173378833005251801 : lucB 173378833005251801 6 [2, 2, 2, 5, 5, 2621, 24809, 13331831] = true := by decide +kernel
theorem all_173378833005251801 : ∀ q ∈ [2, 2, 2, 5, 5, 2621, 24809, 13331831], Pr1 q := all_cons pr_2 (all_cons pr_2 (all_cons pr_2 (all_cons pr_5 (all_cons pr_5 (all_cons pr_2621 (all_cons pr_24809 (all_cons pr_13331831 (fun _ h => (List.not_mem_nil h).elim))))))))
theorem pr_173378833005251801 : Pr1 173378833005251801 := (lucas_of lu_173378833005251801 all_173378833005251801).1
theorem lu_22149492674086928081353 : lucB 22149492674086928081353 5 [2, 2, 2, 3, 5323, 173378833005251801] = true := by decide +kernel
theorem all_22149492674086928081353 : ∀ q ∈ [2, 2, 2, 3, 5323, 173378833005251801], Pr1 q := all_cons pr_2 (all_cons pr_2 (all_cons pr_2 (all_cons pr_3 (all_cons pr_5323 (all_cons pr_173378833005251801 (fun _ h => (List.not_mem_nil h).elim))))))
theorem pr_22149492674086928081353 : Pr1 22149492674086928081353 := (lucas_of lu_22149492674086928081353 all_22149492674086928081353).1
theorem lu_132896956044521568488119 : lucB 132896956044521568488119 6 [2, 3, 22149492674086928081353] = true := by decide +kernel
theorem all_132896956044521568488119 : ∀ q ∈ [2, 3, 22149492674086928081353], Pr1 q := all_cons pr_2 (all_cons pr_3 (all_cons pr_22149492674086928081353 (fun _ h => (List.not_mem_nil h).elim)))
theorem pr_132896956044521568488119 : Pr1 132896956044521568488119 := (lucas_of lu_132896956044521568488119 all_132896956044521568488119).1
theorem pr_11 : Pr1 11 := small_pr (k := 2) (by decide +kernel) (by decide)
theorem pr_1627 : Pr1 1627 := small_pr (k := 39) (by decide +kernel) (by decide)
theorem pr_2657 : Pr1 2657 := small_pr (k := 50) (by decide +kernel) (by decide)
theorem pr_4423 : Pr1 4423 := small_pr (k := 65) (by decide +kernel) (by decide)
theorem pr_41201 : Pr1 41201 := small_pr (k := 201) (by decide +kernel) (by decide)
theorem pr_96557 : Pr1 96557 := small_pr (k := 309) (by decide +kernel) (by decide)
theorem pr_7240687 : Pr1 7240687 := small_pr (k := 2689) (by decide +kernel) (by decide)
theorem pr_53 : Pr1 53 := small_pr (k := 6) (by decide +kernel) (by decide)
theorem lu_107590001 : lucB 107590001 3 [2, 2, 2, 2, 5, 5, 5, 5, 7, 29, 53] = true := by decide +kernel
theorem all_107590001 : ∀ q ∈ [2, 2, 2, 2, 5, 5, 5, 5, 7, 29, 53], Pr1 q := all_cons pr_2 (all_cons pr_2 (all_cons pr_2 (all_cons pr_2 (all_cons pr_5 (all_cons pr_5 (all_cons pr_5 (all_cons pr_5 (all_cons pr_7 (all_cons pr_29 (all_cons pr_53 (fun _ h => (List.not_mem_nil h).elim)))))))))))
theorem pr_107590001 : Pr1 107590001 := (lucas_of lu_107590001 all_107590001).1
theorem lu_255515944373312847190720520512484175977 : lucB 255515944373312847190720520512484175977 3 [2, 2, 2, 7, 7, 11, 1627, 2657, 4423, 41201, 96557, 7240687, 107590001] = true := by decide +kernel
theorem all_255515944373312847190720520512484175977 : ∀ q ∈ [2, 2, 2, 7, 7, 11, 1627, 2657, 4423, 41201, 96557, 7240687, 107590001], Pr1 q := all_cons pr_2 (all_cons pr_2 (all_cons pr_2 (all_cons pr_7 (all_cons pr_7 (all_cons pr_11 (all_cons pr_1627 (all_cons pr_2657 (all_cons pr_4423 (all_cons pr_41201 (all_cons pr_96557 (all_cons pr_7240687 (all_cons pr_107590001 (fun _ h => (List.not_mem_nil h).elim)))))))))))))
theorem pr_255515944373312847190720520512484175977 : Pr1 255515944373312847190720520512484175977 := (lucas_of lu_255515944373312847190720520512484175977 all_255515944373312847190720520512484175977).1
theorem lu_205115282021455665897114700593932402728804164701536103180137503955397371 : lucB 205115282021455665897114700593932402728804164701536103180137503955397371 10 [2, 3, 5, 29, 29, 31, 7723, 132896956044521568488119, 255515944373312847190720520512484175977] = true := by decide +kernel
theorem all_205115282021455665897114700593932402728804164701536103180137503955397371 : ∀ q ∈ [2, 3, 5, 29, 29, 31, 7723, 132896956044521568488119, 255515944373312847190720520512484175977], Pr1 q := all_cons pr_2 (all_cons pr_3 (all_cons pr_5 (all_cons pr_29 (all_cons pr_29 (all_cons pr_31 (all_cons pr_7723 (all_cons pr_132896956044521568488119 (all_cons pr_255515944373312847190720520512484175977 (fun _ h => (List.not_mem_nil h).elim)))))))))
theorem pr_205115282021455665897114700593932402728804164701536103180137503955397371 : Pr1 205115282021455665897114700593932402728804164701536103180137503955397371 := (lucas_of lu_205115282021455665897114700593932402728804164701536103180137503955397371 all_205115282021455665897114700593932402728804164701536103180137503955397371).1
theorem lu_115792089237316195423570985008687907853269984665640564039457584007908834671663 : lucB 115792089237316195423570985008687907853269984665640564039457584007908834671663 3 [2, 3, 7, 13441, 205115282021455665897114700593932402728804164701536103180137503955397371] = true := by decide +kernel
theorem all_115792089237316195423570985008687907853269984665640564039457584007908834671663 : ∀ q ∈ [2, 3, 7, 13441, 205115282021455665897114700593932402728804164701536103180137503955397371], Pr1 q := all_cons pr_2 (all_cons pr_3 (all_cons pr_7 (all_cons pr_13441 (all_cons pr_205115282021455665897114700593932402728804164701536103180137503955397371 (fun _ h => (List.not_mem_nil h).elim)))))
theorem pr_115792089237316195423570985008687907853269984665640564039457584007908834671663 : Pr1 115792089237316195423570985008687907853269984665640564039457584007908834671663 := (lucas_of lu_115792089237316195423570985008687907853269984665640564039457584007908834671663 all_115792089237316195423570985008687907853269984665640564039457584007908834671663).1
theorem pr_149 : Pr1 149 := small_pr (k := 11) (by decide +kernel) (by decide)
theorem pr_631 : Pr1 631 := small_pr (k := 24) (by decide +kernel) (by decide)
theorem pr_16699 : Pr1 16699 := small_pr (k := 128) (by decide +kernel) (by decide)
theorem pr_85831 : Pr1 85831 := small_pr (k := 291) (by decide +kernel) (by decide)
theorem pr_4681609 : Pr1 4681609 := small_pr (k := 2162) (by decide +kernel) (by decide)
theorem lu_107361793816595537 : lucB 107361793816595537 3 [2, 2, 2, 2, 16699, 85831, 4681609] = true := by decide +kernel
theorem all_107361793816595537 : ∀ q ∈ [2, 2, 2, 2, 16699, 85831, 4681609], Pr1 q := all_cons pr_2 (all_cons pr_2 (all_cons pr_2 (all_cons pr_2 (all_cons pr_16699 (all_cons pr_85831 (all_cons pr_4681609 (fun _ h => (List.not_mem_nil h).elim)))))))
theorem pr_107361793816595537 : Pr1 107361793816595537 := (lucas_of lu_107361793816595537 all_107361793816595537).1
theorem pr_17 : Pr1 17 := small_pr (k := 3) (by decide +kernel) (by decide)
theorem pr_59 : Pr1 59 := small_pr (k := 6) (by decide +kernel) (by decide)
theorem pr_4051 : Pr1 4051 := small_pr (k := 62) (by decide +kernel) (by decide)
theorem pr_120233 : Pr1 120233 := small_pr (k := 345) (by decide +kernel) (by decide)
theorem pr_797 : Pr1 797 := small_pr (k := 27) (by decide +kernel) (by decide)
theorem pr_9349 : Pr1 9349 := small_pr (k := 95) (by decide +kernel) (by decide)
theorem lu_44706919 : lucB 44706919 6 [2, 3, 797, 9349] = true := by decide +kernel
theorem all_44706919 : ∀ q ∈ [2, 3, 797, 9349], Pr1 q := all_cons pr_2 (all_cons pr_3 (all_cons pr_797 (all_cons pr_9349 (fun _ h => (List.not_mem_nil h).elim))))
theorem pr_44706919 : Pr1 44706919 := (lucas_of lu_44706919 all_44706919).1
theorem lu_174723607534414371449 : lucB 174723607534414371449 3 [2, 2, 2, 17, 59, 4051, 120233, 44706919] = true := by decide +kernel
theorem all_174723607534414371449 : ∀ q ∈ [2, 2, 2, 17, 59, 4051, 120233, 44706919], Pr1 q := all_cons pr_2 (all_cons pr_2 (all_cons pr_2 (all_cons pr_17 (all_cons pr_59 (all_cons pr_4051 (all_cons pr_120233 (all_cons pr_44706919 (fun _ h => (List.not_mem_nil h).elim))))))))
theorem pr_174723607534414371449 : Pr1 174723607534414371449 := (lucas_of lu_174723607534414371449 all_174723607534414371449).1
theorem pr_109 : Pr1 109 := small_pr (k := 9) (by decide +kernel) (by decide)
theorem pr_293 : Pr1 293 := small_pr (k := 16) (by decide +kernel) (by decide)
theorem pr_305873 : Pr1 305873 := small_pr (k := 552) (by decide +kernel) (by decide)
theorem pr_41 : Pr1 41 := small_pr (k := 5) (by decide +kernel) (by decide)
theorem pr_28181 : Pr1 28181 := small_pr (k := 166) (by decide +kernel) (by decide)
theorem lu_545358713 : lucB 545358713 5 [2, 2, 2, 41, 59, 28181] = true := by decide +kernel
theorem all_545358713 : ∀ q ∈ [2, 2, 2, 41, 59, 28181], Pr1 q := all_cons pr_2 (all_cons pr_2 (all_cons pr_2 (all_cons pr_41 (all_cons pr_59 (all_cons pr_28181 (fun _ h => (List.not_mem_nil h).elim))))))
theorem pr_545358713 : Pr1 545358713 := (lucas_of lu_545358713 all_545358713).1
theorem pr_461 : Pr1 461 := small_pr (k := 20) (by decide +kernel) (by decide)
theorem pr_1627771 : Pr1 1627771 := small_pr (k := 1274) (by decide +kernel) (by decide)
theorem lu_297159362677 : lucB 297159362677 2 [2, 2, 3, 3, 11, 461, 1627771] = true := by decide +kernel
theorem all_297159362677 : ∀ q ∈ [2, 2, 3, 3, 11, 461, 1627771], Pr1 q := all_cons pr_2 (all_cons pr_2 (all_cons pr_3 (all_cons pr_3 (all_cons pr_11 (all_cons pr_461 (all_cons pr_1627771 (fun _ h => (List.not_mem_nil h).elim)))))))
theorem pr_297159362677 : Pr1 297159362677 := (lucas_of lu_297159362677 all_297159362677).1
theorem lu_29047611873442575647497758179 : lucB 29047611873442575647497758179 2 [2, 293, 305873, 545358713, 297159362677] = true := by decide +kernel
theorem all_29047611873442575647497758179 : ∀ q ∈ [2, 293, 305873, 545358713, 297159362677], Pr1 q := all_cons pr_2 (all_cons pr_293 (all_cons pr_305873 (all_cons pr_545358713 (all_cons pr_297159362677 (fun _ h => (List.not_mem_nil h).elim)))))
theorem pr_29047611873442575647497758179 : Pr1 29047611873442575647497758179 := (lucas_of lu_29047611873442575647497758179 all_29047611873442575647497758179).1
theorem lu_341948486974166000522343609283189 : lucB 341948486974166000522343609283189 2 [2, 2, 3, 3, 3, 109, 29047611873442575647497758179] = true := by decide +kernel
theorem all_341948486974166000522343609283189 : ∀ q ∈ [2, 2, 3, 3, 3, 109, 29047611873442575647497758179], Pr1 q := all_cons pr_2 (all_cons pr_2 (all_cons pr_3 (all_cons pr_3 (all_cons pr_3 (all_cons pr_109 (all_cons pr_29047611873442575647497758179 (fun _ h => (List.not_mem_nil h).elim)))))))
theorem pr_341948486974166000522343609283189 : Pr1 341948486974166000522343609283189 := (lucas_of lu_341948486974166000522343609283189 all_341948486974166000522343609283189).1
theorem lu_115792089237316195423570985008687907852837564279074904382605163141518161494337 : lucB 115792089237316195423570985008687907852837564279074904382605163141518161494337 7 [2, 2, 2, 2, 2, 2, 3, 149, 631, 107361793816595537, 174723607534414371449, 341948486974166000522343609283189] = true := by decide +kernel
theorem all_115792089237316195423570985008687907852837564279074904382605163141518161494337 : ∀ q ∈ [2, 2, 2, 2, 2, 2, 3, 149, 631, 107361793816595537, 174723607534414371449, 341948486974166000522343609283189], Pr1 q := all_cons pr_2 (all_cons pr_2 (all_cons pr_2 (all_cons pr_2 (all_cons pr_2 (all_cons pr_2 (all_cons pr_3 (all_cons pr_149 (all_cons pr_631 (all_cons pr_107361793816595537 (all_cons pr_174723607534414371449 (all_cons pr_341948486974166000522343609283189 (fun _ h => (List.not_mem_nil h).elim))))))))))))
theorem pr_115792089237316195423570985008687907852837564279074904382605163141518161494337 : Pr1 115792089237316195423570985008687907852837564279074904382605163141518161494337 := (lucas_of lu_115792089237316195423570985008687907852837564279074904382605163141518161494337 all_115792089237316195423570985008687907852837564279074904382605163141518161494337).1
theorem pr_P : Pr1 Pp := pr_115792089237316195423570985008687907853269984665640564039457584007908834671663
theorem fermat_P : ∀ z, z % Pp ≠ 0 → z ^ (Pp - 1) % Pp = 1 := by
  have h := (lucas_of lu_115792089237316195423570985008687907853269984665640564039457584007908834671663 all_115792089237316195423570985008687907853269984665640564039457584007908834671663).2
  unfold Pp
  exact h
theorem pr_N : Pr1 Nn := pr_115792089237316195423570985008687907852837564279074904382605163141518161494337
theorem fermat_N : ∀ z, z % Nn ≠ 0 → z ^ (Nn - 1) % Nn = 1 := by
  have h := (lucas_of lu_115792089237316195423570985008687907852837564279074904382605163141518161494337 all_115792089237316195423570985008687907852837564279074904382605163141518161494337).2
  unfold Nn
  exact h
end Cv
