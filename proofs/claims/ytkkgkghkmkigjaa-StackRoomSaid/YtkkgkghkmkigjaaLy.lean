/- Stacks of dimensions: the chapter's example. No statement of the seat is proved here. -/
import Derived.Test.YtkkgkghkmkigjaaLx
namespace Go.Proofs.Ytkkgkghkmkigjaa
set_option linter.unusedVariables false
set_option linter.unusedSimpArgs false
open Go Go.RowKit
abbrev nA : ByteArray := ⟨#[65]⟩
abbrev nB : ByteArray := ⟨#[66]⟩
abbrev nC : ByteArray := ⟨#[67]⟩
abbrev nD : ByteArray := ⟨#[68]⟩
abbrev l3 : List Dm := [⟨nA, nB, 0, 10, 12⟩, ⟨nC, nB, 0, 3, 4⟩, ⟨nC, nD, 0, 5, 9⟩]
abbrev c3 : List Lk := [⟨0, false⟩, ⟨1, true⟩, ⟨2, false⟩]
theorem v3 : ∀ i, i < l3.length → validE (dat l3 i) = 0 := by
  intro i hi
  have h3 : i = 0 ∨ i = 1 ∨ i = 2 := by simp at hi; omega
  have hA : nameE nA = 0 := by decide +kernel
  have hB : nameE nB = 0 := by decide +kernel
  have hC : nameE nC = 0 := by decide +kernel
  have hD : nameE nD = 0 := by decide +kernel
  rcases h3 with rfl | rfl | rfl
  · show firstE [nameE nA, nameE nB, clsE ⟨nA, nB, 0, 10, 12⟩, chk 10 12] = 0
    rw [hA, hB]; decide
  · show firstE [nameE nC, nameE nB, clsE ⟨nC, nB, 0, 3, 4⟩, chk 3 4] = 0
    rw [hC, hB]; decide
  · show firstE [nameE nC, nameE nD, clsE ⟨nC, nD, 0, 5, 9⟩, chk 5 9] = 0
    rw [hC, hD]; decide
theorem s3 : ∀ i, i < c3.length → stp l3 c3 i = 0 := by
  intro i hi
  have h3 : i = 0 ∨ i = 1 ∨ i = 2 := by simp at hi; omega
  rcases h3 with rfl | rfl | rfl
  · refine stp_0 ⟨by decide, by decide⟩ (by rintro ⟨h, _⟩; omega) ?_
    rintro (⟨j, h, _⟩ | ⟨h, _⟩) <;> omega
  · refine stp_0 ⟨by decide, by decide⟩ ?_ ?_
    · rintro ⟨_, h | h⟩
      · exact h (by decide)
      · exact h (by decide)
    · rintro (⟨j, h, h2 | h2⟩ | ⟨_, h2⟩)
      · have : j = 0 := by omega
        subst this
        exact absurd h2 (by decide)
      · omega
      · exact absurd h2 (by decide)
  · refine stp_0 ⟨by decide, by decide⟩ ?_ ?_
    · rintro ⟨_, h | h⟩
      · exact h (by decide)
      · exact h (by decide)
    · rintro (⟨j, h, h2 | h2⟩ | ⟨_, h2⟩)
      · have hj : j = 0 ∨ j = 1 := by omega
        rcases hj with rfl | rfl
        · exact absurd h2 (by decide)
        · exact absurd h2 (by decide)
      · have hj : j = 1 := by omega
        subst hj
        exact absurd h2.2 (by decide)
      · exact absurd h2 (by decide)
theorem lp3 : lpE l3 c3 = 0 := lpE_of (givenE_of (by decide) v3) (by
  unfold chainE
  rw [if_neg (by decide), if_neg (by decide)]
  exact fstE_of _ _ fun i _ hi => s3 i (by omega))
theorem st3 : stkE l3 c3 10 16 = 0 := by
  unfold stkE
  rw [if_neg (fun e => e lp3)]
  decide
theorem bn3 : bndE l3 c3 = (11, 18) := by decide
theorem ex3 (b : Bool) : extS l3 c3 b = if b = true then [12, 3, 9] else [10, 4, 5] := by
  rw [← extK_all, show c3.length = 2 + 1 from rfl, extK_succ s3 b (k := 2) (by decide), show (2 : Nat) = 1 + 1 from rfl, extK_succ s3 b (k := 1) (by decide), show (1 : Nat) = 0 + 1 from rfl, extK_succ s3 b (k := 0) (by decide), extK_zero]
  cases b <;> decide
theorem pa3 : parL l3 c3 10 16 14 = ([12, 3, 5], 0) := by
  rw [parL_yes st3 (by rw [bn3]; decide)]
  unfold parE filK
  rw [bn3, ex3]
  decide
theorem ke3 : keeL l3 c3 10 16 = ((false, 0), [12, 3, 9]) := by
  rw [keeL_hi st3 (by rw [bn3]; decide) (by rw [bn3]; decide), ex3]
  rfl
theorem sp3 : spaL l3 c3 10 16 = ((1, -2), 0) := by
  rw [spaL_yes st3, bn3]; rfl
theorem ro3 : rooL l3 c3 10 16 2 = ((4, 7), 0) := by
  unfold rooL rooP
  rw [if_pos st3, bn3]
  decide
theorem ro3' : rooL l3 c3 10 16 1 = ((5, 5), 0) := by
  unfold rooL rooP
  rw [if_pos st3, bn3]
  decide
theorem o3 : ∀ i, i < l3.length → (dat l3 i).ok := by
  intro i hi
  have h3 : i = 0 ∨ i = 1 ∨ i = 2 := by simp at hi; omega
  rcases h3 with rfl | rfl | rfl
  all_goals exact ⟨show (⟨#[_]⟩ : ByteArray).size ≤ _ from Nat.le_of_ble_eq_true rfl, show (⟨#[_]⟩ : ByteArray).size ≤ _ from Nat.le_of_ble_eq_true rfl⟩
theorem aw_Limits {b1 b2 : Nat} {w : World} (R : Rd w (some ⟨b1, 0, none⟩) 5 3 (fun i => dmC (l3.getD i dm0))) (R2 : Rd w (some ⟨b2, 0, none⟩) 2 3 (fun i => lkC (c3.getD i lk0))) : Calls Try.prog 20 #[.agg #[.slice (some ⟨b1, 0, none⟩) 3 3, .slice (some ⟨b2, 0, none⟩) 3 3, .int .i64 10, .int .i64 16]] w (RetP (Val (.tuple #[.agg #[.int .i64 11, .int .i64 18], .int .i64 0]) w)) := by
  have := Limits_c (some ⟨b1, 0, none⟩) 3 l3 (by decide) o3 (some ⟨b2, 0, none⟩) 3 c3 (by decide) 10 16 st3 w R R2
  rw [bn3] at this
  exact this
theorem aw_Part {b1 b2 : Nat} {w : World} (R : Rd w (some ⟨b1, 0, none⟩) 5 3 (fun i => dmC (l3.getD i dm0))) (R2 : Rd w (some ⟨b2, 0, none⟩) 2 3 (fun i => lkC (c3.getD i lk0))) : Calls Try.prog 14 #[.agg #[.slice (some ⟨b1, 0, none⟩) 3 3, .slice (some ⟨b2, 0, none⟩) 3 3, .int .i64 10, .int .i64 16], .int .i64 14] w (RetP (RowR (fun v => .tuple #[v, .int .i64 0]) 3 1 ([12, 3, 5].map intC) w)) := by
  have := PartS_c (some ⟨b1, 0, none⟩) 3 l3 (by decide) o3 (some ⟨b2, 0, none⟩) 3 c3 (by decide) 10 16 14 w R R2
  rw [pa3] at this
  exact this
theorem aw_Keeps {b1 b2 : Nat} {w : World} (R : Rd w (some ⟨b1, 0, none⟩) 5 3 (fun i => dmC (l3.getD i dm0))) (R2 : Rd w (some ⟨b2, 0, none⟩) 2 3 (fun i => lkC (c3.getD i lk0))) : Calls Try.prog 23 #[.agg #[.slice (some ⟨b1, 0, none⟩) 3 3, .slice (some ⟨b2, 0, none⟩) 3 3, .int .i64 10, .int .i64 16]] w (RetP (RowR (fun v => .tuple #[.bool false, v, .int .i64 0]) 3 1 ([12, 3, 9].map intC) w)) := by
  have := KeepsS_c (some ⟨b1, 0, none⟩) 3 l3 (by decide) o3 (some ⟨b2, 0, none⟩) 3 c3 (by decide) 10 16 w R R2
  rw [ke3] at this
  exact this
theorem aw_Spare {b1 b2 : Nat} {w : World} (R : Rd w (some ⟨b1, 0, none⟩) 5 3 (fun i => dmC (l3.getD i dm0))) (R2 : Rd w (some ⟨b2, 0, none⟩) 2 3 (fun i => lkC (c3.getD i lk0))) : Calls Try.prog 22 #[.agg #[.slice (some ⟨b1, 0, none⟩) 3 3, .slice (some ⟨b2, 0, none⟩) 3 3, .int .i64 10, .int .i64 16]] w (RetP (Val (.tuple #[.int .i64 1, .int .i64 (-2), .int .i64 0]) w)) := by
  have := Spare_c (some ⟨b1, 0, none⟩) 3 l3 (by decide) o3 (some ⟨b2, 0, none⟩) 3 c3 (by decide) 10 16 w R R2
  rw [sp3] at this
  exact this
theorem aw_R2 {b1 b2 : Nat} {w : World} (R : Rd w (some ⟨b1, 0, none⟩) 5 3 (fun i => dmC (l3.getD i dm0))) (R2 : Rd w (some ⟨b2, 0, none⟩) 2 3 (fun i => lkC (c3.getD i lk0))) : Calls Try.prog 17 #[.agg #[.slice (some ⟨b1, 0, none⟩) 3 3, .slice (some ⟨b2, 0, none⟩) 3 3, .int .i64 10, .int .i64 16], .int .i64 2] w (RetP (Val (.tuple #[.agg #[.int .i64 4, .int .i64 7], .int .i64 0]) w)) := by
  have := RoomS_c (some ⟨b1, 0, none⟩) 3 l3 (by decide) o3 (some ⟨b2, 0, none⟩) 3 c3 (by decide) 10 16 2 w R R2
  rw [ro3] at this
  exact this
theorem aw_R1 {b1 b2 : Nat} {w : World} (R : Rd w (some ⟨b1, 0, none⟩) 5 3 (fun i => dmC (l3.getD i dm0))) (R2 : Rd w (some ⟨b2, 0, none⟩) 2 3 (fun i => lkC (c3.getD i lk0))) : Calls Try.prog 17 #[.agg #[.slice (some ⟨b1, 0, none⟩) 3 3, .slice (some ⟨b2, 0, none⟩) 3 3, .int .i64 10, .int .i64 16], .int .i64 1] w (RetP (Val (.tuple #[.agg #[.int .i64 5, .int .i64 5], .int .i64 0]) w)) := by
  have := RoomS_c (some ⟨b1, 0, none⟩) 3 l3 (by decide) o3 (some ⟨b2, 0, none⟩) 3 c3 (by decide) 10 16 1 w R R2
  rw [ro3'] at this
  exact this
theorem EqualZ_m {A B : Option Addr} {c c' m : Nat} {w : World} (xs : List Int) (hm : m = xs.length) (hx : xs.length ≤ 9223372036854775807) (R1 : Rd w A 1 xs.length (fun i => intC (xs.getD i 0))) (R2 : Rd w B 1 xs.length (fun i => intC (xs.getD i 0))) :
    Calls Try.prog 16 #[.slice A m c, .slice B m c'] w (RetP (Val (.bool true) w)) := by subst hm; exact EqualZ_c A B c c' xs hx w R1 R2
set_option maxRecDepth 100000 in
theorem e_Three : Ent Try.prog 38 := fun _ _ => rfl
set_option maxRecDepth 8000 in
theorem Three_c (w : World) : Calls Try.prog 38 #[] w (RetP fun v w' => ∃ a : Nat × Nat, v = .agg #[.slice (some ⟨a.1, 0, none⟩) 3 3, .slice (some ⟨a.2, 0, none⟩) 3 3, .int .i64 10, .int .i64 16] ∧
    Sat w (blks []) [.cl a.2 70 (c3.flatMap lkC), .cl a.1 50 (l3.flatMap dmC)] w') := by
  refine calls_of_cw (args := []) Try.func38 rfl rfl ?_
  have S := Sat.start [] w
  (repeat' (first | apply cw_seq | apply cw_region | apply wl_nil | apply cw_block | apply cw_skip | apply cw_exit | apply cw_ret | (apply x_buildSlice0; assumption; exact rfl; exact rfl; exact rfl; intro _ _ _ _ _) | (apply x_move; exact rfl; exact rfl; (exact (by repeat' constructor))) | (apply x_assign; exact rfl; exact rfl; (exact (by repeat' constructor))) | (apply x_alloc; assumption; exact rfl; exact rfl; exact rfl; (exact (by repeat' constructor)); intro _ _ _) | (apply x_store; assumption; exact rfl; exact rfl; (exact (by repeat' constructor)); (exact (by repeat' constructor)); exact rfl; exact rfl; exact rfl; (exact (by repeat' constructor)); intro _ _) | (apply x_build; exact rfl; exact rfl; exact rfl; (exact (by repeat' constructor))) | (apply x_buildSlice; assumption; exact rfl; exact rfl; exact rfl; (exact (by repeat' constructor)); intro _ _ _)))
  (first | refine q_retS (by assumption) rfl (by repeat (first | exact .nil | (apply RV.tmp; exact (by repeat' constructor)) | (apply RV.cell; exact rfl; exact (by repeat' constructor); exact rfl; exact rfl; exact (by repeat' constructor)))) ?_ | (simp only [thenQ, blockQ]; refine q_retS (by assumption) rfl (by repeat (first | exact .nil | (apply RV.tmp; exact (by repeat' constructor)) | (apply RV.cell; exact rfl; exact (by repeat' constructor); exact rfl; exact rfl; exact (by repeat' constructor)))) ?_))
  rename_i b0 _ _ b1 _ _ b2 _ _ w3 S3
  exact ⟨(b1, b2), rfl, Sat.drop S3 _ (List.sublist_append_left [_, _] [_])⟩
set_option maxRecDepth 100000 in
theorem e_awake : Ent Try.prog 13 := fun _ _ => rfl
set_option maxRecDepth 4000 in
set_option maxHeartbeats 20000000 in
theorem awake_c  (w : World) : Calls Try.prog 13 #[] w (RetP (Val (.bool true) w)) := by
  refine calls_of_cw (args := []) Try.func13 rfl rfl ?_
  have S := Sat.start [] w
  (repeat' (first | apply cw_seq | apply cw_region | apply wl_nil | apply cw_block | apply cw_skip | apply cw_exit | apply cw_ret | (apply x_callC (bd := []) (hc := []) (fr := _); assumption; exact rfl; exact rfl; exact rfl; exact e_Three; (exact (by repeat' constructor)); exact List.Perm.refl _; exact (fun _ => Three_c _); rintro ⟨b1, b2⟩ w2 S2; replace S2 : Sat w [] (_ :: _ :: _) w2 := S2) | (apply x_callv; assumption; exact rfl; exact rfl; exact rfl; exact e_Limits; (exact (by repeat' constructor)); (with_reducible refine (aw_Limits ?_ ?_)); exact Sat.rdflat dm0 dmC_len (by assumption) (by exact (by repeat' constructor)); exact Sat.rdflat lk0 lkC_len (by assumption) (by exact (by repeat' constructor)); intro _ _ _) | (apply x_callrowE (m := 3); assumption; exact rfl; exact rfl; exact rfl; exact e_PartS; (exact (by repeat' constructor)); (with_reducible refine (aw_Part ?_ ?_)); exact Sat.rdflat dm0 dmC_len (by assumption) (by exact (by repeat' constructor)); exact Sat.rdflat lk0 lkC_len (by assumption) (by exact (by repeat' constructor)); exact rfl; intro _ _ _ _) | (apply x_callrowE (m := 3); assumption; exact rfl; exact rfl; exact rfl; exact e_KeepsS; (exact (by repeat' constructor)); (with_reducible refine (aw_Keeps ?_ ?_)); exact Sat.rdflat dm0 dmC_len (by assumption) (by exact (by repeat' constructor)); exact Sat.rdflat lk0 lkC_len (by assumption) (by exact (by repeat' constructor)); exact rfl; intro _ _ _ _) | (apply x_callv; assumption; exact rfl; exact rfl; exact rfl; exact e_Spare; (exact (by repeat' constructor)); (with_reducible refine (aw_Spare ?_ ?_)); exact Sat.rdflat dm0 dmC_len (by assumption) (by exact (by repeat' constructor)); exact Sat.rdflat lk0 lkC_len (by assumption) (by exact (by repeat' constructor)); intro _ _ _) | (apply x_callv; assumption; exact rfl; exact rfl; exact rfl; exact e_RoomS; (exact (by repeat' constructor)); (with_reducible refine (aw_R2 ?_ ?_)); exact Sat.rdflat dm0 dmC_len (by assumption) (by exact (by repeat' constructor)); exact Sat.rdflat lk0 lkC_len (by assumption) (by exact (by repeat' constructor)); intro _ _ _) | (apply x_callv; assumption; exact rfl; exact rfl; exact rfl; exact e_RoomS; (exact (by repeat' constructor)); (with_reducible refine (aw_R1 ?_ ?_)); exact Sat.rdflat dm0 dmC_len (by assumption) (by exact (by repeat' constructor)); exact Sat.rdflat lk0 lkC_len (by assumption) (by exact (by repeat' constructor)); intro _ _ _) | (apply x_callv; assumption; exact rfl; exact rfl; exact rfl; exact e_EqualZ; (exact (by repeat' constructor)); (with_reducible refine (EqualZ_m [12, 3, 5] ?_ ?_ ?_ ?_)); exact rfl; exact (by decide); exact Sat.rdmapN (0 : Int) (by assumption) (by exact (by repeat' constructor)) rfl; exact Sat.rdflat (0 : Int) intC_len (by assumption) (by exact (by repeat' constructor)); intro _ _ _) | (apply x_callv; assumption; exact rfl; exact rfl; exact rfl; exact e_EqualZ; (exact (by repeat' constructor)); (with_reducible refine (EqualZ_m [12, 3, 9] ?_ ?_ ?_ ?_)); exact rfl; exact (by decide); exact Sat.rdmapN (0 : Int) (by assumption) (by exact (by repeat' constructor)) rfl; exact Sat.rdflat (0 : Int) intC_len (by assumption) (by exact (by repeat' constructor)); intro _ _ _) | (apply x_buildSlice0; assumption; exact rfl; exact rfl; exact rfl; intro _ _ _ _ _) | (apply x_not; exact rfl; exact rfl) | (apply x_move; exact rfl; exact rfl; (exact (by repeat' constructor))) | (apply x_assign; exact rfl; exact rfl; (exact (by repeat' constructor))) | (apply x_load; assumption; exact rfl; exact rfl; exact rfl; (exact (by repeat' constructor)); exact rfl; exact rfl; (exact (by repeat' constructor))) | (apply x_eqStr; exact rfl; exact rfl; exact rfl; exact rfl) | (apply x_neStr; exact rfl; exact rfl; exact rfl; exact rfl) | (apply x_eqAgg; exact rfl; exact rfl; exact rfl; exact rfl; (first | with_reducible exact flat_Limits | with_reducible exact flat_Dimension | with_reducible exact flat_Limits | with_reducible exact flat_Limits | with_reducible exact flat_spl | with_reducible exact flat_at | with_reducible exact flat_take | with_reducible exact flat_set | with_reducible exact flat_get | with_reducible exact flat_single | with_reducible exact flat_Spot | with_reducible exact flat_Datum | with_reducible exact flat_Dimension | with_reducible exact flat_Spot | with_reducible exact flat_step | with_reducible exact flat_Point); exact rfl; kernel_rfl; exact rfl) | (apply x_neAgg; exact rfl; exact rfl; exact rfl; exact rfl; (first | with_reducible exact flat_Limits | with_reducible exact flat_Dimension | with_reducible exact flat_Limits | with_reducible exact flat_Limits | with_reducible exact flat_spl | with_reducible exact flat_at | with_reducible exact flat_take | with_reducible exact flat_set | with_reducible exact flat_get | with_reducible exact flat_single | with_reducible exact flat_Spot | with_reducible exact flat_Datum | with_reducible exact flat_Dimension | with_reducible exact flat_Spot | with_reducible exact flat_step | with_reducible exact flat_Point); exact rfl; kernel_rfl; exact rfl) | (apply x_bin; exact rfl; exact rfl; exact rfl; (first | exact .z (.wrap (by omega)) | exact (by repeat' constructor))) | (apply x_pick; exact rfl; exact rfl; exact rfl; (exact (by repeat' constructor))) | (apply x_un; exact rfl; exact rfl; exact rfl; (first | exact .z (.wrap (by omega)) | exact (by repeat' constructor))) | (apply x_alloc; assumption; exact rfl; exact rfl; exact rfl; (exact (by repeat' constructor)); intro _ _ _) | (apply x_store; assumption; exact rfl; exact rfl; (exact (by repeat' constructor)); (exact (by repeat' constructor)); exact rfl; exact rfl; exact rfl; (exact (by repeat' constructor)); intro _ _) | (apply x_build; exact rfl; exact rfl; exact rfl; (exact (by repeat' constructor))) | (apply x_extract; exact rfl; exact rfl; exact rfl; (exact (by repeat' constructor))) | (apply x_buildSlice; assumption; exact rfl; exact rfl; exact rfl; (exact (by repeat' constructor)); intro _ _ _) | (apply x_loadB; assumption; exact rfl; exact rfl; exact rfl; assumption; exact rfl; exact rfl; (exact (by repeat' constructor))) | (apply x_loadR; exact rfl; exact rfl; exact rfl; (first | exact Old.now (by assumption) (by assumption) | exact Sat.rdpr (by assumption) (by exact (by repeat' constructor)) | exact Sat.rd (by assumption) (by exact (by repeat' constructor))); (first | omega | exact size_pos (by assumption) | assumption); exact rfl; exact rfl; (exact (by repeat' constructor))) | (apply cw_true; exact rfl) | (apply cw_false; exact rfl) | (apply x_ndec; exact rfl; with_reducible exact rfl; all_goals (intro _; try omega)) | (apply x_dec; exact rfl; all_goals (intro _; try omega)) | (apply cw_ne; exact rfl; all_goals (intro _; try omega)) | (apply cw_eq; exact rfl; all_goals (intro _; try omega)) | (apply cw_not; exact rfl; all_goals (intro _; try omega)) | (apply cw_cond; exact rfl; all_goals (intro _; try omega)) | (apply x_gndec; exact rfl; exact rfl; with_reducible exact rfl; all_goals (intro _; try omega)) | (apply x_gdec; exact rfl; exact rfl; all_goals (intro _; try omega)) | (apply x_gne; exact rfl; exact rfl; all_goals (intro _; try omega)) | (apply x_geq; exact rfl; exact rfl; all_goals (intro _; try omega)) | (apply x_gnot; exact rfl; exact rfl; all_goals (intro _; try omega)) | (apply x_gsplit; exact rfl; exact rfl; all_goals (intro _; try omega))))
  all_goals (first | refine q_retS (by assumption) rfl (by repeat (first | exact .nil | (apply RV.tmp; exact (by repeat' constructor)) | (apply RV.cell; exact rfl; exact (by repeat' constructor); exact rfl; exact rfl; exact (by repeat' constructor)))) ?_ | (simp only [thenQ, blockQ]; refine q_retS (by assumption) rfl (by repeat (first | exact .nil | (apply RV.tmp; exact (by repeat' constructor)) | (apply RV.cell; exact rfl; exact (by repeat' constructor); exact rfl; exact rfl; exact (by repeat' constructor)))) ?_))
  all_goals refine ⟨?_, Sat.keeps (by assumption)⟩
  all_goals first | rfl | (simp [pack]; done) | (exfalso; simp_all; done)
end Go.Proofs.Ytkkgkghkmkigjaa
