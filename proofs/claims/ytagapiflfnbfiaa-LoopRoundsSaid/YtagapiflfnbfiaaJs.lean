/- Loops of dimensions: the reference's ends, chains backwards, sums. No statement of the seat is proved here. -/
import Derived.Test.YtagapiflfnbfiaaJr
namespace Go.Proofs.Ytagapiflfnbfiaa
set_option linter.unusedVariables false
set_option linter.unusedSimpArgs false
open Go Go.RowKit
set_option maxRecDepth 100000 in
theorem e_rEnds : Ent Try.prog 31 := fun _ _ => rfl
set_option maxRecDepth 8000 in
set_option maxHeartbeats 20000000 in
theorem rEnds_c (A : Option Addr) (cA : Nat) (l : List Dm) (hl : l.length ≤ 9223372036854775807) (ho : ∀ i, i < l.length → (dat l i).ok) (B : Option Addr) (cB : Nat) (c : List Lk) (hc : c.length ≤ 9223372036854775807) (hcc : c.length ≤ cB) (w : World) (R : Rd w A 5 l.length (fun i => dmC (l.getD i dm0))) (R2 : Rd w B 2 c.length (fun i => lkC (c.getD i lk0))) :
    Calls Try.prog 31 #[.slice A l.length cA, .slice B c.length cB] w (RetP (Val (.tuple #[.string (endL l c).1.1, .string (endL l c).1.2, .int .i64 (endL l c).2]) w)) := by
  refine calls_of_cw (args := [.slice A l.length cA, .slice B c.length cB]) Try.func31 rfl rfl ?_
  have S := Sat.start [] w
  have O := R.old
  have O2 := R2.old
  by_cases he : lpE l c = 0
  · have hp := lpE_ok he
    have h0 : (0 : Nat) < c.length := hp.2.1
    have h1 : c.length - 1 < c.length := by omega
    have hi0 : inR l (c.getD 0 lk0) := stp_inR (hp.2.2.2.1 0 h0)
    have hi1 : inR l (c.getD (c.length - 1) lk0) := stp_inR (hp.2.2.2.1 (c.length - 1) h1)
    have hz1 : ((c.length : Int) - 1).toNat = c.length - 1 := by omega
    have hzl : ((c.length : Int) - 1).toNat < c.length := by omega
    rw [endL_yes he, ← hz1]
    rw [← hz1] at hi1
    (repeat' (first | apply cw_seq | apply cw_region | apply wl_nil | apply cw_skip | apply cw_ret | (apply y_indexI (z := (c.length : Int) - 1); exact rfl; exact rfl; exact rfl; exact rfl; (constructor); (exact (by omega)); (exact (by omega)); (exact (Old.rd O2).some_ (by omega))) | (apply x_callv; assumption; exact rfl; exact rfl; exact rfl; exact e_rCheckL; (exact (by repeat' constructor)); with_reducible exact (rCheckL_c A cA l hl ho B cB c hc hcc _ (Old.now O (by assumption)) (Old.now O2 (by assumption))); intro _ _ _) | (apply z1_callv; exact rfl; exact rfl; exact e_rBegin; (exact (by repeat' constructor)); with_reducible exact (fun _ _ => rBegin_c A cA l hl ho _ hi0 _ (Old.now O (by assumption)))) | (apply z2_callv; exact rfl; exact rfl; exact e_rStop; (exact (by repeat' constructor)); with_reducible exact (fun _ _ => rStop_c A cA l hl ho _ hi1 _ (Old.now O (by assumption)))) | (apply cw_draw (id := 4) [(0, 0), (1, 0), (2, 0), (3, 0), (5, 0), (6, 0), (7, 0), (8, 0), (9, 0), (10, 0), (11, 0), (4, 1), (12, 2), (13, 0), (14, 0), (15, 0)]; assumption; exact mixed; kernel_rfl) | (apply x_move; exact rfl; exact rfl; (exact (by repeat' constructor))) | (apply x_assign; exact rfl; exact rfl; (exact (by repeat' constructor))) | (apply x_bin; exact rfl; exact rfl; exact rfl; (first | exact .z (.wrap (by omega)) | exact (by repeat' constructor))) | (apply y_move; exact rfl; (exact (by repeat' constructor))) | (apply y_assign; exact rfl; (exact (by repeat' constructor))) | (apply y_bin; exact rfl; exact (fun _ => rfl); (first | exact .z (.wrap (by omega)) | exact (by repeat' constructor))) | (apply y_builtin; exact rfl; exact (fun _ _ => rfl); (exact (by repeat' constructor))) | (apply y_index; exact rfl; exact rfl; exact rfl; exact rfl; (constructor); (first | omega | exact size_pos (by assumption) | assumption); (first | exact rfl | assumption | exact Rd.some_ (by assumption) (by omega) | exact Rd.some_ (Old.rd (by assumption)) (by omega) | exact (Sat.rd (by assumption) (by exact (by repeat' constructor))).some_ (by omega))) | (apply y_loadR; exact rfl; exact rfl; assumption; (first | omega | exact size_pos (by assumption) | assumption); exact rfl; exact rfl; (exact (by repeat' constructor))) | (apply y_nil; intro _ _) | (apply cw_ne; exact rfl; all_goals (intro _; try omega))))
    all_goals first
      | (exfalso; omega)
      | ((first | refine q_retS (by assumption) rfl (by repeat (first | exact .nil | (apply RV.tmp; exact (by repeat' constructor)) | (apply RV.cell; exact rfl; exact (by repeat' constructor); exact rfl; exact rfl; exact (by repeat' constructor)))) ?_ | (simp only [thenQ, blockQ]; refine q_retS (by assumption) rfl (by repeat (first | exact .nil | (apply RV.tmp; exact (by repeat' constructor)) | (apply RV.cell; exact rfl; exact (by repeat' constructor); exact rfl; exact rfl; exact (by repeat' constructor)))) ?_))
         exact ⟨rfl, Sat.keeps (by assumption)⟩)
      | skip
  · rw [endL_no he]
    (repeat' (first | apply cw_seq | apply cw_region | apply wl_nil | apply cw_ret | (apply x_callv; assumption; exact rfl; exact rfl; exact rfl; exact e_rCheckL; (exact (by repeat' constructor)); with_reducible exact (rCheckL_c A cA l hl ho B cB c hc hcc _ (Old.now O (by assumption)) (Old.now O2 (by assumption))); intro _ _ _) | (apply x_move; exact rfl; exact rfl; (exact (by repeat' constructor))) | (apply x_assign; exact rfl; exact rfl; (exact (by repeat' constructor))) | (apply x_bin; exact rfl; exact rfl; exact rfl; (first | exact .z (.wrap (by omega)) | exact (by repeat' constructor))) | (apply cw_ne; exact rfl; all_goals (intro _; try omega))))
    all_goals first
      | (exfalso; omega)
      | ((first | refine q_retS (by assumption) rfl (by repeat (first | exact .nil | (apply RV.tmp; exact (by repeat' constructor)) | (apply RV.cell; exact rfl; exact (by repeat' constructor); exact rfl; exact rfl; exact (by repeat' constructor)))) ?_ | (simp only [thenQ, blockQ]; refine q_retS (by assumption) rfl (by repeat (first | exact .nil | (apply RV.tmp; exact (by repeat' constructor)) | (apply RV.cell; exact rfl; exact (by repeat' constructor); exact rfl; exact rfl; exact (by repeat' constructor)))) ?_))
         exact ⟨rfl, Sat.keeps (by assumption)⟩)
/-! ### backwards -/
set_option maxRecDepth 100000 in
theorem e_rBackwards : Ent Try.prog 58 := fun _ _ => rfl
set_option maxRecDepth 8000 in
set_option maxHeartbeats 20000000 in
theorem rBackwards_c (B : Option Addr) (cB : Nat) (c : List Lk) (hc : c.length ≤ 9223372036854775807) (h256 : c.length ≤ 256) (w : World) (R2 : Rd w B 2 c.length (fun i => lkC (c.getD i lk0))) :
    Calls Try.prog 58 #[.slice B c.length cB] w (RetP (RowR (fun v => v) 75 2 ((rvL c).map lkC) w)) := by
  refine calls_of_cw (args := [.slice B c.length cB]) Try.func58 rfl rfl ?_
  have S := Sat.start [] w
  have O2 := R2.old
  (repeat' (first | apply cw_seq | apply cw_region | apply wl_nil | apply cw_block | (apply x_move; exact rfl; exact rfl; (exact (by repeat' constructor))) | (apply x_assign; exact rfl; exact rfl; (exact (by repeat' constructor))) | (apply x_bin; exact rfl; exact rfl; exact rfl; (first | exact .z (.wrap (by omega)) | exact (by repeat' constructor))) | (apply x_builtin; exact rfl; exact rfl; exact (fun _ => rfl); (exact (by repeat' constructor)))))
  refine cw_loop [3, 4, 8, 9, 10, 11, 12, 13, 14, 15, 16, 17, 18, 19, 20, 21, 22, 23, 24, 25, 26] [3, 4] (fun us wr => ∃ (j : Nat) (z : Int) (A' : Option Addr) (c' : Nat), j ≤ c.length ∧ z = (c.length : Int) - 1 - j ∧ us = [.slice A' j c', .int .i64 z] ∧ Sat w [] [.rw 0 (.slice A' j c') 75 2 (((rvL c).take j).map lkC)] wr) (fun us _ => (intOf (us.getD 1 undef) + 1).toNat) ?_ ?_
  · exact ⟨0, (c.length : Int) - 1, none, 0, by omega, by omega, rfl, S.addNil _ _⟩
  clear S
  rintro g' us wr ⟨j, z, A', c', hj, hz, rfl, Sr⟩
  have hrl := rvL_len c
  have hkl : (((rvL c).take j).map lkC).length = j := by rw [List.length_map, List.length_take]; omega
  by_cases hlt : j < c.length
  · have hz0 : 0 ≤ z ∧ z < c.length := by omega
    have hzn : z.toNat = c.length - 1 - j := by omega
    have hl9 : (((rvL c).take j).map lkC).length < 1000000000 := by omega
    have hat := rvL_at hlt
    rw [← hzn] at hat
    (repeat' (first | apply cw_seq | apply cw_region | apply wl_nil | apply cw_block | apply cw_skip | (apply y_indexI (z := z); exact rfl; exact rfl; exact rfl; exact rfl; (constructor); exact hz0.1; exact hz0.2; (exact (Old.rd O2).some_ (by omega))) | (apply y_loadR; exact rfl; exact rfl; exact O2; exact tlt hz0; exact rfl; exact rfl; (exact (by repeat' constructor))) | (apply cw_draw (id := 5) [(0, 0), (1, 0), (2, 0), (3, 0), (4, 0), (5, 0), (6, 0), (7, 0), (8, 0), (9, 0), (10, 0), (11, 0), (12, 0), (13, 2), (14, 2), (15, 0)]; assumption; exact mixed; kernel_rfl) | (apply x_move; exact rfl; exact rfl; (exact (by repeat' constructor))) | (apply x_assign; exact rfl; exact rfl; (exact (by repeat' constructor))) | (apply x_bin; exact rfl; exact rfl; exact rfl; (first | exact .z (.wrap (by omega)) | exact (by repeat' constructor))) | (apply z2_append1; exact rfl; exact rfl; exact rfl; exact rfl; exact (by repeat' constructor); exact (by repeat' constructor); exact rfl; exact rfl; exact rfl; (first | assumption | omega | (simp; omega)); intro _ _) | (apply y_move; exact rfl; (exact (by repeat' constructor))) | (apply y_assign; exact rfl; (exact (by repeat' constructor))) | (apply y_un; exact rfl; exact (fun _ => rfl); (first | exact .z (.wrap (by omega)) | exact (by repeat' constructor))) | (apply y_build; exact rfl; exact rfl; (exact (by repeat' constructor))) | (apply y_fieldE; exact rfl; exact rfl; exact rfl; (constructor)) | (apply z2_buildSlice; exact rfl; exact rfl; (exact (by repeat' constructor)); intro _) | (apply y_nil; intro _ _) | (apply x_dec; exact rfl; all_goals (intro _; try omega))))
    rename_i g1 cap1 _ S2
    refine ⟨rfl, (by repeat (first | exact Agree.updl rfl (Agree.mask _ _ _) | refine Agree.upd rfl ?_)), ⟨j + 1, z - 1, some ⟨g1, 0, none⟩, cap1, hlt, by omega, (by rw [hkl]; rfl), ?_⟩, ?_⟩
    · have hjr : j < (rvL c).length := by omega
      rw [hkl] at S2
      rw [takeL_succ hjr, List.map_append, List.map_cons, List.map_nil, show (rvL c).getD j lk0 = _ from hat]
      exact Sat.drop1 S2
    · show (z - 1 + 1).toNat < (z + 1).toNat
      omega
  · have e : j = c.length := by omega
    (repeat' (first | apply cw_seq | apply cw_region | apply wl_nil | apply cw_exit | apply cw_ret | (apply x_move; exact rfl; exact rfl; (exact (by repeat' constructor))) | (apply x_assign; exact rfl; exact rfl; (exact (by repeat' constructor))) | (apply x_bin; exact rfl; exact rfl; exact rfl; (first | exact .z (.wrap (by omega)) | exact (by repeat' constructor))) | (apply x_dec; exact rfl; all_goals (intro _; try omega))))
    (first | refine q_retS (by assumption) rfl (by repeat (first | exact .nil | (apply RV.tmp; exact (by repeat' constructor)) | (apply RV.cell; exact rfl; exact (by repeat' constructor); exact rfl; exact rfl; exact (by repeat' constructor)))) ?_ | (simp only [thenQ, blockQ]; refine q_retS (by assumption) rfl (by repeat (first | exact .nil | (apply RV.tmp; exact (by repeat' constructor)) | (apply RV.cell; exact rfl; exact (by repeat' constructor); exact rfl; exact rfl; exact (by repeat' constructor)))) ?_))
    rw [List.take_of_length_le (by omega)] at Sr
    exact rowR_n (V := fun v => v) (by rw [List.length_map]; omega) Sr .head
/-! ### the same -/
theorem flat_rLink : flatT Try.prog 9 75 = some [0, 1] := by kernel_rfl
set_option maxRecDepth 100000 in
theorem e_rSame : Ent Try.prog 19 := fun _ _ => rfl
set_option maxRecDepth 4000 in
set_option maxHeartbeats 2000000 in
theorem rSame_c (A B : Option Addr) (c c' : Nat) (xs : List Lk) (hx : xs.length ≤ 9223372036854775807) (w : World) (R1 : Rd w A 2 xs.length (fun i => lkC (xs.getD i lk0))) (R2 : Rd w B 2 xs.length (fun i => lkC (xs.getD i lk0))) : Calls Try.prog 19 #[.slice A xs.length c, .slice B xs.length c'] w (RetP (Val (.bool true) w)) := by
  refine calls_of_cw (args := [.slice A xs.length c, .slice B xs.length c']) Try.func19 rfl rfl ?_
  have S := Sat.start [] w
  have O1 := (R1).old
  have O2 := (R2).old
  (repeat' (first | apply cw_seq | apply cw_region | apply wl_nil | apply cw_block | apply cw_skip | (apply x_move; exact rfl; exact rfl; (exact (by repeat' constructor))) | (apply x_assign; exact rfl; exact rfl; (exact (by repeat' constructor))) | (apply x_bin; exact rfl; exact rfl; exact rfl; (first | exact .z (.wrap (by omega)) | exact (by repeat' constructor))) | (apply x_builtin; exact rfl; exact rfl; exact (fun _ => rfl); (exact (by repeat' constructor))) | (apply cw_ne; exact rfl; all_goals (intro _; try omega))))
  refine cw_loop [4, 5, 11, 12, 13, 14, 15, 16, 17, 18, 19, 20, 21, 22, 23, 24, 25] [5] (fun us wr => ∃ k : Nat, k ≤ xs.length ∧ us = [.int .i64 k] ∧ Sat w [] [] wr) (fun us _ => xs.length - (intOf (us.getD 0 undef)).toNat) ?_ ?_
  · exact ⟨0, by omega, rfl, S⟩
  clear S
  rintro g' us wr ⟨k, hk, rfl, Sr⟩
  by_cases hlt : k < xs.length
  · (repeat' (first | apply cw_seq | apply cw_region | apply wl_nil | apply cw_block | apply cw_skip | apply cw_ret | (apply cw_draw (id := 6) [(0, 0), (1, 0), (2, 0), (3, 0), (4, 0), (5, 0), (6, 0), (7, 0), (8, 0)]; assumption; exact mixed; kernel_rfl) | (apply x_move; exact rfl; exact rfl; (exact (by repeat' constructor))) | (apply x_assign; exact rfl; exact rfl; (exact (by repeat' constructor))) | (apply x_bin; exact rfl; exact rfl; exact rfl; (first | exact .z (.wrap (by omega)) | exact (by repeat' constructor))) | (apply x_builtin; exact rfl; exact rfl; exact (fun _ => rfl); (exact (by repeat' constructor))) | (apply y_neAgg; exact rfl; exact rfl; exact rfl; (first | with_reducible exact flat_Limits | with_reducible exact flat_Dimension | with_reducible exact flat_Limits | with_reducible exact flat_Limits | with_reducible exact flat_at | with_reducible exact flat_spl | with_reducible exact flat_take | with_reducible exact flat_set | with_reducible exact flat_get | with_reducible exact flat_single | with_reducible exact flat_Spot | with_reducible exact flat_Datum | with_reducible exact flat_Link | with_reducible exact flat_rLink | with_reducible exact flat_Dimension | with_reducible exact flat_Spot | with_reducible exact flat_step | with_reducible exact flat_Point | with_reducible exact flat_lift | with_reducible exact flat_back); exact rfl; kernel_rfl; exact rfl) | (apply y_move; exact rfl; (exact (by repeat' constructor))) | (apply y_index; exact rfl; exact rfl; exact rfl; exact rfl; (constructor); (first | omega | exact size_pos (by assumption) | assumption); (first | exact rfl | assumption | exact Rd.some_ (by assumption) (by omega) | exact Rd.some_ (Old.rd (by assumption)) (by omega) | exact (Sat.rd (by assumption) (by exact (by repeat' constructor))).some_ (by omega))) | (apply y_loadR; exact rfl; exact rfl; assumption; (first | omega | exact size_pos (by assumption) | assumption); exact rfl; exact rfl; (exact (by repeat' constructor))) | (apply y_nil; intro _ _) | (apply x_dec; exact rfl; all_goals (intro _; try omega)) | (apply cw_not; exact rfl; all_goals (intro _; try omega))))
    all_goals first
      | (exfalso; simp_all; done)
      | (refine ⟨rfl, (by repeat (first | exact Agree.updl rfl (Agree.mask _ _ _) | refine Agree.upd rfl ?_)), ⟨k + 1, hlt, rfl, by assumption⟩, ?_⟩
         show xs.length - (k + 1 : Int).toNat < xs.length - (k : Int).toNat
         omega)
  · (repeat' (first | apply cw_seq | apply cw_region | apply wl_nil | apply cw_exit | apply cw_ret | (apply x_move; exact rfl; exact rfl; (exact (by repeat' constructor))) | (apply x_assign; exact rfl; exact rfl; (exact (by repeat' constructor))) | (apply x_bin; exact rfl; exact rfl; exact rfl; (first | exact .z (.wrap (by omega)) | exact (by repeat' constructor))) | (apply x_builtin; exact rfl; exact rfl; exact (fun _ => rfl); (exact (by repeat' constructor))) | (apply x_dec; exact rfl; all_goals (intro _; try omega))))
    (first | refine q_retS (by assumption) rfl (by repeat (first | exact .nil | (apply RV.tmp; exact (by repeat' constructor)) | (apply RV.cell; exact rfl; exact (by repeat' constructor); exact rfl; exact rfl; exact (by repeat' constructor)))) ?_ | (simp only [thenQ, blockQ]; refine q_retS (by assumption) rfl (by repeat (first | exact .nil | (apply RV.tmp; exact (by repeat' constructor)) | (apply RV.cell; exact rfl; exact (by repeat' constructor); exact rfl; exact rfl; exact (by repeat' constructor)))) ?_))
    exact ⟨rfl, Sat.keeps (by assumption)⟩
end Go.Proofs.Ytagapiflfnbfiaa
