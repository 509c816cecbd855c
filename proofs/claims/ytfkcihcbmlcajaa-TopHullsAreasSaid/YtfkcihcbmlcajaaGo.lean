/- A few indices in the opposite order (slices.Reverse). No statement of the seat is proved here. -/
import Derived.Test.YtfkcihcbmlcajaaGn
namespace Go.Proofs.Ytfkcihcbmlcajaa.Hu
set_option linter.unusedVariables false
set_option linter.unusedSimpArgs false
open Go Go.RowKit
/-- both ends of the list are turned, i at each -/
structure RevI (xs zs : List Int) (i : Nat) : Prop where
  len : zs.length = xs.length
  at_ : ∀ k, k < xs.length → gI zs k = if k < i ∨ xs.length ≤ k + i then gI xs (xs.length - 1 - k) else gI xs k
theorem RevI.start (xs : List Int) : RevI xs xs 0 := ⟨rfl, fun k hk => by rw [if_neg (by omega)]⟩
theorem RevI.next {xs zs : List Int} {i j : Nat} (h : RevI xs zs i) (hij : i + j + 1 = xs.length) (hlt : i < j) : RevI xs ((zs.set i (gI zs j)).set j (gI zs i)) (i + 1) := by
  have hl := h.len
  refine ⟨by simp [hl], fun k hk => ?_⟩
  have hi := h.at_ i (by omega)
  have hj := h.at_ j (by omega)
  rw [if_neg (by omega)] at hi hj
  have hk' := h.at_ k hk
  by_cases h1 : k = j
  · subst h1
    rw [if_pos (by omega), show xs.length - 1 - k = i by omega, ← hi]
    simp [gI, List.getD_eq_getElem?_getD, List.getElem?_set, hl, hk]
  · by_cases h2 : k = i
    · subst h2
      rw [if_pos (by omega), show xs.length - 1 - k = j by omega, ← hj]
      simp [gI, List.getD_eq_getElem?_getD, List.getElem?_set, hl, hk, Ne.symm h1]
    · have e : gI ((zs.set i (gI zs j)).set j (gI zs i)) k = gI zs k := by
        simp [gI, List.getD_eq_getElem?_getD, List.getElem?_set, Ne.symm h1, Ne.symm h2]
      rw [e, hk']
      by_cases h3 : k < i ∨ xs.length ≤ k + i
      · rw [if_pos h3, if_pos (by omega)]
      · rw [if_neg h3, if_neg (by omega)]
theorem gI_ext {xs ys : List Int} (hl : xs.length = ys.length) (h : ∀ k, k < xs.length → gI xs k = gI ys k) : xs = ys := by
  apply List.ext_getElem hl
  intro k h1 h2
  have := h k h1
  rwa [gI, gI, getD_lt h1, getD_lt h2] at this
theorem RevI.done {xs zs : List Int} {i j : Nat} (h : RevI xs zs i) (hij : i + j + 1 = xs.length) (hge : j ≤ i) : zs = xs.reverse := by
  refine gI_ext (by rw [h.len, List.length_reverse]) fun k hk => ?_
  rw [h.len] at hk
  have e : gI xs.reverse k = gI xs (xs.length - 1 - k) := by
    rw [gI, gI, getD_lt (by simpa using hk), getD_lt (by omega), List.getElem_reverse]
  rw [e, h.at_ k hk]
  split
  · rfl
  · rw [show xs.length - 1 - k = k by omega]
set_option maxRecDepth 100000 in
theorem e_Reverse : Ent Try.prog 32 := fun _ _ => rfl
set_option maxRecDepth 8000 in
set_option maxHeartbeats 4000000 in
theorem Reverse_c {n : Nat} {A2 : Option Addr} {c2 : Nat} (xs : List Int) (hn : xs.length = n) (h0 : 0 < n) (hn8 : n ≤ 8) {w0 : World} {M : List Nat} (w : World) (S : Sat w0 M [.rw 0 (.slice A2 n c2) 3 1 ((xs).map zC)] w) :
    Calls Try.prog 32 #[.slice A2 n c2] w (RetP fun v w' => ∃ _ : Unit, v = .tuple #[] ∧ Sat w0 M [.rw 0 (.slice A2 n c2) 3 1 ((xs.reverse).map zC)] w') := by
  refine calls_of_cw (args := [.slice A2 n c2]) Try.func32 rfl rfl ?_
  obtain ⟨n, rfl⟩ : ∃ n', n = n' + 1 := ⟨n - 1, by omega⟩
  (repeat' (first | apply cw_seq | apply cw_region | apply wl_nil | apply cw_block | apply cw_skip | apply cw_exit | apply cw_ret | (apply y_bin; exact rfl; exact (fun _ => rfl); exact is_sub1 (by omega)) | (apply x_bin; exact rfl; exact rfl; exact rfl; exact is_sub1 (by omega)) | (apply cw_draw (id := 3) [(0, 0), (1, 0), (2, 0), (3, 0), (4, 0), (5, 0), (6, 0), (7, 0), (8, 0), (9, 0), (10, 0), (11, 0), (12, 0), (13, 2), (14, 0), (15, 2)]; assumption; exact mixed; kernel_rfl) | (apply x_move; exact rfl; exact rfl; (exact (by repeat' constructor))) | (apply x_assign; exact rfl; exact rfl; (exact (by repeat' constructor))) | (apply x_bin; exact rfl; exact rfl; exact rfl; (first | exact .z (.wrap (by omega)) | exact (by repeat' constructor))) | (apply x_builtin; exact rfl; exact rfl; exact (fun _ => rfl); (exact (by repeat' constructor))) | (apply y_loadRow; exact rfl; exact rfl; (exact (by repeat' constructor)); (first | omega | exact size_pos (by assumption) | assumption); exact rfl; exact rfl; (exact (by repeat' constructor))) | (apply z2_storeRow; exact rfl; exact rfl; (exact (by repeat' constructor)); exact rfl; exact rfl; (exact (by repeat' constructor)); (first | omega | exact size_pos (by assumption) | assumption); (first | decide | omega)) | (apply y_move; exact rfl; (exact (by repeat' constructor))) | (apply y_load; exact rfl; exact rfl; (exact (by repeat' constructor)); exact rfl; exact rfl; (exact (by repeat' constructor))) | (apply y_loadB; exact rfl; exact rfl; assumption; exact rfl; exact rfl; (exact (by repeat' constructor))) | (apply y_index; exact rfl; exact rfl; exact rfl; exact rfl; (constructor); (first | omega | exact size_pos (by assumption) | assumption); (first | exact rfl | assumption | exact Rd.some_ (by assumption) (by omega) | exact Rd.some_ (Old.rd (by assumption)) (by omega) | exact (Sat.rd (by assumption) (by exact (by repeat' constructor))).some_ (by omega))) | (apply y_indexArrB; exact rfl; exact rfl; exact rfl; exact rfl; decide; decide; (constructor)) | (apply y_loadR; exact rfl; exact rfl; assumption; (first | omega | exact size_pos (by assumption) | assumption); exact rfl; exact rfl; (exact (by repeat' constructor))) | (apply z2_store; exact rfl; exact rfl; (exact (by repeat' constructor)); (exact (by repeat' constructor)); exact rfl; exact rfl; exact rfl; (exact (by repeat' constructor))) | (apply PV.up3) | (apply y_nil; intro _ _; with_reducible refine And.intro ?_ ?_) | (apply y_nil; intro _ _) | (apply cw_true; exact rfl) | (apply cw_false; exact rfl) | (apply x_ndec; exact rfl; with_reducible exact rfl; all_goals (intro _; try omega)) | (apply x_dec; exact rfl; all_goals (intro _; try omega)) | (apply cw_ne; exact rfl; all_goals (intro _; try omega)) | (apply cw_eq; exact rfl; all_goals (intro _; try omega)) | (apply cw_not; exact rfl; all_goals (intro _; try omega)) | (apply cw_cond; exact rfl; all_goals (intro _; try omega))))
  refine cw_loop [2, 3, 7, 8, 9, 10, 11, 12, 13, 14, 15, 16, 17, 18, 19, 20, 21, 22, 23, 24, 25, 26, 27] [2, 3] (fun us wr => ∃ (i j : Nat) (zs : List Int), i + j + 1 = n + 1 ∧ us = [.int .i64 i, .int .i64 j] ∧ RevI xs zs i ∧ Sat w0 M [.rw 0 (.slice A2 (n + 1) c2) 3 1 (zs.map zC)] wr) (fun us _ => n + 1 - (intOf (us.getD 0 undef)).toNat) ?_ ?_
  · exact ⟨0, n, xs, by omega, rfl, RevI.start xs, by assumption⟩
  clear S
  rintro g us wr ⟨i, j, zs, hij, rfl, I, Sr⟩
  have hzl : zs.length = n + 1 := I.len.trans hn
  by_cases hlt : i < j
  · obtain ⟨j, rfl⟩ : ∃ j', j = j' + 1 := ⟨j - 1, by omega⟩
    have hA2 := (Sat.rdmapN (en := zC) (0 : Int) Sr .head hzl.symm).some_ (by omega)
    (repeat' (first | apply cw_seq | apply cw_region | apply wl_nil | apply cw_block | apply cw_skip | apply cw_exit | apply cw_ret | (apply y_loadRowM (en := zC) (0 : Int); exact rfl; exact rfl; (exact (by repeat' constructor)); exact hzl.symm; (exact (by omega)); exact rfl; exact rfl; (exact (by repeat' constructor))) | (apply y_bin; exact rfl; exact (fun _ => rfl); exact is_sub1 (by omega)) | (apply x_bin; exact rfl; exact rfl; exact rfl; exact is_sub1 (by omega)) | (apply z2_storeRow; exact rfl; exact rfl; (exact (by repeat' constructor)); exact rfl; exact rfl; (exact (by repeat' constructor)); (exact (by simp only [List.length_map, List.length_set]; omega)); (exact (by decide))) | (apply cw_draw (id := 3) [(0, 0), (1, 0), (2, 0), (3, 0), (4, 0), (5, 0), (6, 0), (7, 0), (8, 0), (9, 0), (10, 0), (11, 0), (12, 0), (13, 2), (14, 0), (15, 2)]; assumption; exact mixed; kernel_rfl) | (apply x_move; exact rfl; exact rfl; (exact (by repeat' constructor))) | (apply x_assign; exact rfl; exact rfl; (exact (by repeat' constructor))) | (apply x_bin; exact rfl; exact rfl; exact rfl; (first | exact .z (.wrap (by omega)) | exact (by repeat' constructor))) | (apply x_builtin; exact rfl; exact rfl; exact (fun _ => rfl); (exact (by repeat' constructor))) | (apply y_loadRow; exact rfl; exact rfl; (exact (by repeat' constructor)); (first | omega | exact size_pos (by assumption) | assumption); exact rfl; exact rfl; (exact (by repeat' constructor))) | (apply z2_storeRow; exact rfl; exact rfl; (exact (by repeat' constructor)); exact rfl; exact rfl; (exact (by repeat' constructor)); (first | omega | exact size_pos (by assumption) | assumption); (first | decide | omega)) | (apply y_move; exact rfl; (exact (by repeat' constructor))) | (apply y_load; exact rfl; exact rfl; (exact (by repeat' constructor)); exact rfl; exact rfl; (exact (by repeat' constructor))) | (apply y_loadB; exact rfl; exact rfl; assumption; exact rfl; exact rfl; (exact (by repeat' constructor))) | (apply y_index; exact rfl; exact rfl; exact rfl; exact rfl; (constructor); (first | omega | exact size_pos (by assumption) | assumption); (first | exact rfl | assumption | exact Rd.some_ (by assumption) (by omega) | exact Rd.some_ (Old.rd (by assumption)) (by omega) | exact (Sat.rd (by assumption) (by exact (by repeat' constructor))).some_ (by omega))) | (apply y_indexArrB; exact rfl; exact rfl; exact rfl; exact rfl; decide; decide; (constructor)) | (apply y_loadR; exact rfl; exact rfl; assumption; (first | omega | exact size_pos (by assumption) | assumption); exact rfl; exact rfl; (exact (by repeat' constructor))) | (apply z2_store; exact rfl; exact rfl; (exact (by repeat' constructor)); (exact (by repeat' constructor)); exact rfl; exact rfl; exact rfl; (exact (by repeat' constructor))) | (apply PV.up3) | (apply y_nil; intro _ _; with_reducible refine And.intro ?_ ?_) | (apply y_nil; intro _ _) | (apply cw_true; exact rfl) | (apply cw_false; exact rfl) | (apply x_ndec; exact rfl; with_reducible exact rfl; all_goals (intro _; try omega)) | (apply x_dec; exact rfl; all_goals (intro _; try omega)) | (apply cw_ne; exact rfl; all_goals (intro _; try omega)) | (apply cw_eq; exact rfl; all_goals (intro _; try omega)) | (apply cw_not; exact rfl; all_goals (intro _; try omega)) | (apply cw_cond; exact rfl; all_goals (intro _; try omega))))
    rename_i w3 S3
    have e : ((zs.map zC).set i (((zs.map zC).getD i []).set 0 (.int .i64 (gI zs (j + 1))))).set (j + 1) ((((zs.map zC).set i (((zs.map zC).getD i []).set 0 (.int .i64 (gI zs (j + 1))))).getD (j + 1) []).set 0 (.int .i64 (gI zs i))) = ((zs.set i (gI zs (j + 1))).set (j + 1) (gI zs i)).map zC := by
      rw [set_z (by omega), set_z (by rw [List.length_set]; omega)]
    replace S3 : Sat w0 M [.rw 0 (.slice A2 (n + 1) c2) 3 1 (((zs.set i (gI zs (j + 1))).set (j + 1) (gI zs i)).map zC)] w3 := e ▸ S3
    exact ⟨rfl, (by repeat (first | exact Agree.updl rfl (Agree.mask _ _ _) | refine Agree.upd rfl ?_)), ⟨i + 1, j, _, by omega, rfl, I.next (by omega) hlt, S3⟩, (show n + 1 - (i + 1 : Int).toNat < n + 1 - (i : Int).toNat by omega)⟩
  · (repeat' (first | apply cw_seq | apply cw_region | apply wl_nil | apply cw_block | apply cw_skip | apply cw_exit | apply cw_ret | (apply cw_draw (id := 3) [(0, 0), (1, 0), (2, 0), (3, 0), (4, 0), (5, 0), (6, 0), (7, 0), (8, 0), (9, 0), (10, 0), (11, 0), (12, 0), (13, 2), (14, 0), (15, 2)]; assumption; exact mixed; kernel_rfl) | (apply x_move; exact rfl; exact rfl; (exact (by repeat' constructor))) | (apply x_assign; exact rfl; exact rfl; (exact (by repeat' constructor))) | (apply x_bin; exact rfl; exact rfl; exact rfl; (first | exact .z (.wrap (by omega)) | exact (by repeat' constructor))) | (apply x_builtin; exact rfl; exact rfl; exact (fun _ => rfl); (exact (by repeat' constructor))) | (apply y_loadRow; exact rfl; exact rfl; (exact (by repeat' constructor)); (first | omega | exact size_pos (by assumption) | assumption); exact rfl; exact rfl; (exact (by repeat' constructor))) | (apply z2_storeRow; exact rfl; exact rfl; (exact (by repeat' constructor)); exact rfl; exact rfl; (exact (by repeat' constructor)); (first | omega | exact size_pos (by assumption) | assumption); (first | decide | omega)) | (apply y_move; exact rfl; (exact (by repeat' constructor))) | (apply y_load; exact rfl; exact rfl; (exact (by repeat' constructor)); exact rfl; exact rfl; (exact (by repeat' constructor))) | (apply y_loadB; exact rfl; exact rfl; assumption; exact rfl; exact rfl; (exact (by repeat' constructor))) | (apply y_index; exact rfl; exact rfl; exact rfl; exact rfl; (constructor); (first | omega | exact size_pos (by assumption) | assumption); (first | exact rfl | assumption | exact Rd.some_ (by assumption) (by omega) | exact Rd.some_ (Old.rd (by assumption)) (by omega) | exact (Sat.rd (by assumption) (by exact (by repeat' constructor))).some_ (by omega))) | (apply y_indexArrB; exact rfl; exact rfl; exact rfl; exact rfl; decide; decide; (constructor)) | (apply y_loadR; exact rfl; exact rfl; assumption; (first | omega | exact size_pos (by assumption) | assumption); exact rfl; exact rfl; (exact (by repeat' constructor))) | (apply z2_store; exact rfl; exact rfl; (exact (by repeat' constructor)); (exact (by repeat' constructor)); exact rfl; exact rfl; exact rfl; (exact (by repeat' constructor))) | (apply PV.up3) | (apply y_nil; intro _ _; with_reducible refine And.intro ?_ ?_) | (apply y_nil; intro _ _) | (apply cw_true; exact rfl) | (apply cw_false; exact rfl) | (apply x_ndec; exact rfl; with_reducible exact rfl; all_goals (intro _; try omega)) | (apply x_dec; exact rfl; all_goals (intro _; try omega)) | (apply cw_ne; exact rfl; all_goals (intro _; try omega)) | (apply cw_eq; exact rfl; all_goals (intro _; try omega)) | (apply cw_not; exact rfl; all_goals (intro _; try omega)) | (apply cw_cond; exact rfl; all_goals (intro _; try omega))))
    (first | (apply q_ret0; exact rfl) | (apply q_end0; exact rfl))
    rw [← I.done (j := j) (by omega) (by omega)]
    exact ⟨(), rfl, Sr⟩
end Go.Proofs.Ytfkcihcbmlcajaa.Hu
