/- Pairs of holes and pins: right pairs are found to be so. No statement of the seat is proved here. -/
import Derived.Test.YtdkknknebehkgaaSm
namespace Go.Proofs.Ytdkknknebehkgaa.Sl
set_option linter.unusedVariables false
set_option linter.unusedSimpArgs false
open Go Go.RowKit
open Go.Maps (Keyed)
theorem kI : Keyed Try.prog 3 := Maps.int_keyed (q := .i64) (by kernel_rfl)
theorem keyI {z : Int} (h : 0 ≤ z ∧ z < 1000000) : keyOf Try.prog 3 (.int .i64 z) = some (.int .i64 z) :=
  Maps.keyOf_int_mk (by kernel_rfl) (by simp [Lit.wf, IntKind.min, IntKind.max, IntKind.signed, IntKind.bits]; omega)
abbrev pr0 : Nat × Nat := (0, 0)
/-- the pins that are used -/
def Used (l : List (Nat × Nat)) (i : Nat) (m : Lit → Bool) : Prop := ∀ z : Int, m (.int .i64 z) = true → ∃ j, j < i ∧ ((l.getD j pr0).2 : Int) = z
theorem Used.zero (l : List (Nat × Nat)) : Used l 0 (fun _ => false) := fun z hz => by cases hz
theorem Used.put {l : List (Nat × Nat)} {i : Nat} {m : Lit → Bool} (U : Used l i m) : Used l (i + 1) (putB m (.int .i64 ((l.getD i pr0).2 : Int)) true) := by
  intro z hz
  by_cases e : z = ((l.getD i pr0).2 : Int)
  · exact ⟨i, Nat.lt_succ_self i, e.symm⟩
  · rw [putB_other (by intro h; injection h with h1 h2; exact e h2)] at hz
    obtain ⟨j, hj, h⟩ := U z hz
    exact ⟨j, Nat.lt_succ_of_lt hj, h⟩
theorem pair_at {l : List (Nat × Nat)} {R : Nat × Nat → Nat × Nat → Prop} (h : l.Pairwise R) {i j : Nat} (hij : i < j) (hj : j < l.length) : R (l.getD i pr0) (l.getD j pr0) := by
  have := (List.pairwise_iff_getElem.1 h) i j (by omega) hj hij
  simpa [List.getD_eq_getElem?_getD, hj, show i < l.length by omega] using this
theorem mem_at {l : List (Nat × Nat)} {i : Nat} (h : i < l.length) : l.getD i pr0 ∈ l := by
  simp [List.getD_eq_getElem?_getD, h]
set_option maxRecDepth 100000 in
theorem e_Verify : Ent Try.prog 10 := fun _ _ => rfl
set_option maxRecDepth 8000 in
set_option maxHeartbeats 8000000 in
theorem Verify_c {X Y A : Option Addr} {cx cy c : Nat} {xs ys : List Int} {lo hi : Int} {l : List (Nat × Nat)} (hx : szR xs) (hy : szR ys) (hnx : xs.length ≤ 8) (hny : ys.length ≤ 8) (h1 : -100000 ≤ lo) (h2 : lo ≤ hi) (h3 : hi ≤ 100000) (L : PRes xs ys lo hi l) (w : World)
    (RX : Rd w X 1 xs.length (fun i => zC (xs.getD i 0))) (RY : Rd w Y 1 ys.length (fun i => zC (ys.getD i 0))) (RA : Rd w A 2 l.length (fun i => prC (l.getD i pr0))) :
    Calls Try.prog 10 #[.slice X xs.length cx, .slice Y ys.length cy, .agg #[.int .i64 lo, .int .i64 hi, .slice A l.length c]] w (RetP (Val (.int .i64 0) w)) := by
  refine calls_of_cw (args := [.slice X xs.length cx, .slice Y ys.length cy, .agg #[.int .i64 lo, .int .i64 hi, .slice A l.length c]]) Try.func10 rfl rfl ?_
  have S := Sat.start [] w
  have OX := RX.old
  have OY := RY.old
  have OA := RA.old
  have hl8 : l.length ≤ 8 := by have := L.le; omega
  (repeat' (first | apply cw_seq | apply cw_region | apply wl_nil | apply cw_block | apply cw_skip | (apply x_box; assumption; exact rfl; exact rfl; (exact (by repeat' constructor)); (exact (by repeat' constructor)); intro b5 _ _) | (apply x_callv; assumption; exact rfl; exact rfl; exact rfl; exact e_Check; (exact (by repeat' constructor)); exact (Check_c hx hy hnx hny h1 h2 h3 _ (OX.now (by assumption)) (OY.now (by assumption))); intro _ _ _) | (apply x_makeMap; assumption; exact rfl; exact rfl; exact rfl; intro b8 w8 S8) | (apply x_move; exact rfl; exact rfl; (exact (by repeat' constructor))) | (apply x_assign; exact rfl; exact rfl; (exact (by repeat' constructor))) | (apply x_fieldB; exact rfl; exact rfl; exact rfl; exact rfl; (constructor)) | (apply x_load; assumption; exact rfl; exact rfl; exact rfl; (exact (by repeat' constructor)); exact rfl; exact rfl; (exact (by repeat' constructor))) | (apply x_bin; exact rfl; exact rfl; exact rfl; (first | exact .z (.wrap (by omega)) | exact (by repeat' constructor))) | (apply x_builtin; exact rfl; exact rfl; exact (fun _ => rfl); (exact (by repeat' constructor))) | (apply cw_false; exact rfl) | (apply x_dec; exact rfl; all_goals (intro _; try omega))))
  refine cw_loop [6, 9, 10, 27, 28, 29, 30, 31, 32, 33, 34, 35, 36, 37, 38, 39, 40, 41, 42, 43, 44, 45, 46, 47, 48, 49, 50, 51, 52, 53, 54, 55, 56, 57, 58, 59, 60, 61, 62, 63, 64, 65, 66, 67, 68, 69, 70, 71, 72, 73, 74, 75, 76, 77, 78, 79, 80, 81, 82, 83, 84, 85, 86, 87, 88, 89, 90, 91, 92, 93] [27] (fun us wr => ∃ (i n : Nat) (m : Lit → Bool), i ≤ l.length ∧ n ≤ i ∧ us = [.int .i64 i] ∧ Used l i m ∧ Sat w [] [.pr b8 (MapB Try.prog 3 4 n m), .cl b5 46 [.int .i64 lo, .int .i64 hi, .slice A l.length c]] wr) (fun us _ => l.length - (intOf (us.getD 0 undef)).toNat) ?_ ?_
  · exact ⟨0, 0, _, Nat.zero_le _, Nat.le_refl _, rfl, Used.zero l, S8⟩
  clear S S8
  rintro g us wr ⟨i, n, m, hi', hn, rfl, U, Sr⟩
  by_cases hlt : i < l.length
  · have hp := L.mem _ (mem_at hlt)
    have hq : 0 ≤ ((l.getD i pr0).2 : Int) ∧ ((l.getD i pr0).2 : Int) < 1000000 := by omega
    have hu : m (.int .i64 ((l.getD i pr0).2 : Int)) = false := by
      cases h : m (.int .i64 ((l.getD i pr0).2 : Int)) with
      | false => rfl
      | true =>
        obtain ⟨j, hj, e⟩ := U _ h
        exact absurd (Int.ofNat.inj e) (pair_at L.dist hj hlt)
    have hft : fitB lo hi (xs.getD (l.getD i pr0).1 0) (ys.getD (l.getD i pr0).2 0) = true := hp.2.2
    have hfc : ∀ w, Calls Try.prog 22 #[.int .i64 (xs.getD (l.getD i pr0).1 0), .int .i64 (ys.getD (l.getD i pr0).2 0), .agg #[.int .i64 lo, .int .i64 hi]] w (RetP (Val (.bool true) w)) := fun w => by
      have := fits_c (xs.getD (l.getD i pr0).1 0) (ys.getD (l.getD i pr0).2 0) lo hi (hx _ hp.1) (hy _ hp.2.1) w
      rw [hft] at this
      exact this
    by_cases h0i : i = 0
    · subst h0i
      (repeat' (first | apply cw_seq | apply cw_region | apply wl_nil | apply cw_block | apply cw_skip | (apply y_gdec; exact rfl; exact rfl; all_goals (intro _; try omega)) | (apply x_gdec; exact rfl; exact rfl; all_goals (intro _; try omega)) | (apply x_lookupB; assumption; exact rfl; exact rfl; exact rfl; exact kI; exact rfl; exact rfl; (exact (by repeat' constructor)); exact keyI hq; exact trivial; exact hu) | (apply x_mapUpdateB; assumption; exact rfl; exact rfl; exact kI; exact rfl; exact rfl; exact rfl; (exact (by repeat' constructor)); (exact (by unfold maxLen; omega)); exact keyI hq; exact trivial; intro _ _) | (apply z2_callv; exact rfl; exact rfl; exact e_fits; (exact (by repeat' constructor)); intro _ _; (with_reducible exact hfc _)) | (apply cw_draw (id := 12) [(0, 0), (1, 0), (2, 0), (3, 0), (4, 0), (5, 0), (6, 0), (7, 0), (8, 0), (9, 0), (10, 0), (11, 0), (12, 0), (13, 0), (14, 0)]; assumption; exact mixed; kernel_rfl) | (apply cw_draw (id := 16) [(0, 0), (1, 0), (2, 0), (3, 0), (4, 0), (5, 0), (6, 0), (7, 0), (8, 0), (9, 0), (10, 0), (11, 0), (12, 2), (13, 0), (14, 0)]; assumption; exact mixed; kernel_rfl) | (apply x_move; exact rfl; exact rfl; (exact (by repeat' constructor))) | (apply x_assign; exact rfl; exact rfl; (exact (by repeat' constructor))) | (apply x_load; assumption; exact rfl; exact rfl; exact rfl; (exact (by repeat' constructor)); exact rfl; exact rfl; (exact (by repeat' constructor))) | (apply x_bin; exact rfl; exact rfl; exact rfl; (first | exact .z (.wrap (by omega)) | exact (by repeat' constructor))) | (apply x_pick; exact rfl; exact rfl; exact rfl; (exact (by repeat' constructor))) | (apply x_alloc; assumption; exact rfl; exact rfl; exact rfl; (exact (by repeat' constructor)); intro _ _ _) | (apply x_store; assumption; exact rfl; exact rfl; (exact (by repeat' constructor)); (exact (by repeat' constructor)); exact rfl; exact rfl; exact rfl; (exact (by repeat' constructor)); intro _ _) | (apply x_builtin; exact rfl; exact rfl; exact (fun _ => rfl); (exact (by repeat' constructor))) | (apply x_index; exact rfl; exact rfl; exact rfl; exact rfl; exact rfl; (constructor); (first | omega | exact size_pos (by assumption) | assumption); (first | exact rfl | assumption | exact Rd.some_ (by assumption) (by omega) | exact Rd.some_ (Old.rd (by assumption)) (by omega) | exact (Sat.rd (by assumption) (by exact (by repeat' constructor))).some_ (by omega))) | (apply x_indexArrB; exact rfl; exact rfl; exact rfl; exact rfl; exact rfl; decide; decide; (constructor)) | (apply x_loadR; exact rfl; exact rfl; exact rfl; (first | exact Old.now (by assumption) (by assumption) | exact Sat.rdpr (by assumption) (by exact (by repeat' constructor)) | exact Sat.rd (by assumption) (by exact (by repeat' constructor))); (first | omega | exact size_pos (by assumption) | assumption); exact rfl; exact rfl; (exact (by repeat' constructor))) | (apply y_not; exact rfl) | (apply y_move; exact rfl; (exact (by repeat' constructor))) | (apply y_assign; exact rfl; (exact (by repeat' constructor))) | (apply y_fieldB; exact rfl; exact rfl; exact rfl; (constructor)) | (apply y_load; exact rfl; exact rfl; (exact (by repeat' constructor)); exact rfl; exact rfl; (exact (by repeat' constructor))) | (apply y_bin; exact rfl; exact (fun _ => rfl); (first | exact .z (.wrap (by omega)) | exact (by repeat' constructor))) | (apply y_pick; exact rfl; exact rfl; (exact (by repeat' constructor))) | (apply y_un; exact rfl; exact (fun _ => rfl); (first | exact .z (.wrap (by omega)) | exact (by repeat' constructor))) | (apply y_index; exact rfl; exact rfl; exact rfl; exact rfl; (constructor); (first | omega | exact size_pos (by assumption) | assumption); (first | exact rfl | assumption | exact Rd.some_ (by assumption) (by omega) | exact Rd.some_ (Old.rd (by assumption)) (by omega) | exact (Sat.rd (by assumption) (by exact (by repeat' constructor))).some_ (by omega))) | (apply y_indexArrB; exact rfl; exact rfl; exact rfl; exact rfl; decide; decide; (constructor)) | (apply y_loadR; exact rfl; exact rfl; assumption; (first | omega | exact size_pos (by assumption) | assumption); exact rfl; exact rfl; (exact (by repeat' constructor))) | (apply y_nil; intro _ _) | (apply cw_false; exact rfl) | (apply x_dec; exact rfl; all_goals (intro _; try omega))))
      all_goals first
        | (refine ⟨rfl, (by repeat (first | exact Agree.updl rfl (Agree.mask _ _ _) | refine Agree.upd rfl ?_)), ⟨0 + 1, n + 1, _, hlt, by omega, rfl, U.put, Sat.drop1 (by assumption)⟩, ?_⟩
           show l.length - ((0 : Nat) + 1 : Int).toNat < l.length - ((0 : Nat) : Int).toNat
           omega)
        | (exfalso; omega)
    · obtain ⟨j, rfl⟩ : ∃ j, i = j + 1 := ⟨i - 1, by omega⟩
      have hasc : (l.getD j pr0).1 < (l.getD (j + 1) pr0).1 := pair_at L.asc (Nat.lt_succ_self j) hlt
      have hlj : j < l.length := by omega
      have hsub : Is (.int .i64 (IntKind.i64.wrap (((j + 1 : Nat) : Int) - 1))) (.int .i64 (j : Int)) := by
        have e : IntKind.i64.wrap (((j + 1 : Nat) : Int) - 1) = (j : Int) := by rw [IntKind.wrap_i64]; omega
        rw [e]; exact .z .int
      (repeat' (first | apply cw_seq | apply cw_region | apply wl_nil | apply cw_block | apply cw_skip | (apply y_gdec; exact rfl; exact rfl; all_goals (intro _; try omega)) | (apply x_gdec; exact rfl; exact rfl; all_goals (intro _; try omega)) | (apply y_bin; exact rfl; exact (fun _ => rfl); exact hsub) | (apply y_indexArr; exact rfl; exact rfl; exact rfl; exact rfl; (exact (by decide)); (exact (by decide)); exact .ptre) | (apply x_lookupB; assumption; exact rfl; exact rfl; exact rfl; exact kI; exact rfl; exact rfl; (exact (by repeat' constructor)); exact keyI hq; exact trivial; exact hu) | (apply x_mapUpdateB; assumption; exact rfl; exact rfl; exact kI; exact rfl; exact rfl; exact rfl; (exact (by repeat' constructor)); (exact (by unfold maxLen; omega)); exact keyI hq; exact trivial; intro _ _) | (apply z2_callv; exact rfl; exact rfl; exact e_fits; (exact (by repeat' constructor)); intro _ _; (with_reducible exact hfc _)) | (apply cw_draw (id := 12) [(0, 0), (1, 0), (2, 0), (3, 0), (4, 0), (5, 0), (6, 0), (7, 0), (8, 0), (9, 0), (10, 0), (11, 0), (12, 0), (13, 0), (14, 0)]; assumption; exact mixed; kernel_rfl) | (apply cw_draw (id := 16) [(0, 0), (1, 0), (2, 0), (3, 0), (4, 0), (5, 0), (6, 0), (7, 0), (8, 0), (9, 0), (10, 0), (11, 0), (12, 2), (13, 0), (14, 0)]; assumption; exact mixed; kernel_rfl) | (apply x_move; exact rfl; exact rfl; (exact (by repeat' constructor))) | (apply x_assign; exact rfl; exact rfl; (exact (by repeat' constructor))) | (apply x_load; assumption; exact rfl; exact rfl; exact rfl; (exact (by repeat' constructor)); exact rfl; exact rfl; (exact (by repeat' constructor))) | (apply x_bin; exact rfl; exact rfl; exact rfl; (first | exact .z (.wrap (by omega)) | exact (by repeat' constructor))) | (apply x_pick; exact rfl; exact rfl; exact rfl; (exact (by repeat' constructor))) | (apply x_alloc; assumption; exact rfl; exact rfl; exact rfl; (exact (by repeat' constructor)); intro _ _ _) | (apply x_store; assumption; exact rfl; exact rfl; (exact (by repeat' constructor)); (exact (by repeat' constructor)); exact rfl; exact rfl; exact rfl; (exact (by repeat' constructor)); intro _ _) | (apply x_builtin; exact rfl; exact rfl; exact (fun _ => rfl); (exact (by repeat' constructor))) | (apply x_index; exact rfl; exact rfl; exact rfl; exact rfl; exact rfl; (constructor); (first | omega | exact size_pos (by assumption) | assumption); (first | exact rfl | assumption | exact Rd.some_ (by assumption) (by omega) | exact Rd.some_ (Old.rd (by assumption)) (by omega) | exact (Sat.rd (by assumption) (by exact (by repeat' constructor))).some_ (by omega))) | (apply x_indexArrB; exact rfl; exact rfl; exact rfl; exact rfl; exact rfl; decide; decide; (constructor)) | (apply x_loadR; exact rfl; exact rfl; exact rfl; (first | exact Old.now (by assumption) (by assumption) | exact Sat.rdpr (by assumption) (by exact (by repeat' constructor)) | exact Sat.rd (by assumption) (by exact (by repeat' constructor))); (first | omega | exact size_pos (by assumption) | assumption); exact rfl; exact rfl; (exact (by repeat' constructor))) | (apply y_move; exact rfl; (exact (by repeat' constructor))) | (apply y_assign; exact rfl; (exact (by repeat' constructor))) | (apply y_fieldB; exact rfl; exact rfl; exact rfl; (constructor)) | (apply y_load; exact rfl; exact rfl; (exact (by repeat' constructor)); exact rfl; exact rfl; (exact (by repeat' constructor))) | (apply y_bin; exact rfl; exact (fun _ => rfl); (first | exact .z (.wrap (by omega)) | exact (by repeat' constructor))) | (apply y_pick; exact rfl; exact rfl; (exact (by repeat' constructor))) | (apply y_un; exact rfl; exact (fun _ => rfl); (first | exact .z (.wrap (by omega)) | exact (by repeat' constructor))) | (apply y_index; exact rfl; exact rfl; exact rfl; exact rfl; (constructor); (first | omega | exact size_pos (by assumption) | assumption); (first | exact rfl | assumption | exact Rd.some_ (by assumption) (by omega) | exact Rd.some_ (Old.rd (by assumption)) (by omega) | exact (Sat.rd (by assumption) (by exact (by repeat' constructor))).some_ (by omega))) | (apply y_indexArrB; exact rfl; exact rfl; exact rfl; exact rfl; decide; decide; (constructor)) | (apply y_loadR; exact rfl; exact rfl; assumption; (first | omega | exact size_pos (by assumption) | assumption); exact rfl; exact rfl; (exact (by repeat' constructor))) | (apply y_nil; intro _ _) | (apply cw_false; exact rfl) | (apply x_dec; exact rfl; all_goals (intro _; try omega))))
      all_goals first
        | (refine ⟨rfl, (by repeat (first | exact Agree.updl rfl (Agree.mask _ _ _) | refine Agree.upd rfl ?_)), ⟨(j + 1) + 1, n + 1, _, hlt, by omega, rfl, U.put, Sat.drop1 (by assumption)⟩, ?_⟩
           show l.length - (((j + 1) : Nat) + 1 : Int).toNat < l.length - (((j + 1) : Nat) : Int).toNat
           omega)
        | (exfalso; omega)
  · have hie : i = l.length := by omega
    subst hie
    (repeat' (first | apply cw_seq | apply cw_region | apply wl_nil | apply cw_exit | apply cw_ret | (apply x_assign; exact rfl; exact rfl; (exact (by repeat' constructor))) | (apply x_bin; exact rfl; exact rfl; exact rfl; (first | exact .z (.wrap (by omega)) | exact (by repeat' constructor))) | (apply x_dec; exact rfl; all_goals (intro _; try omega))))
    (first | refine q_retS (by assumption) rfl (by repeat (first | exact .nil | (apply RV.tmp; exact (by repeat' constructor)) | (apply RV.cell; exact rfl; exact (by repeat' constructor); exact rfl; exact rfl; exact (by repeat' constructor)))) ?_ | (simp only [thenQ, blockQ]; refine q_retS (by assumption) rfl (by repeat (first | exact .nil | (apply RV.tmp; exact (by repeat' constructor)) | (apply RV.cell; exact rfl; exact (by repeat' constructor); exact rfl; exact rfl; exact (by repeat' constructor)))) ?_))
    exact ⟨rfl, Sat.keeps (by assumption)⟩
end Go.Proofs.Ytdkknknebehkgaa.Sl
