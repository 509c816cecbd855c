/- Holes and shafts within the limits of a fit: the walk of TopSelectsFit. No statement of the seat is proved here. -/
import Derived.Test.YtdkknknebehkgaaSo
import Derived.Test.YtdkknknebehkgaaSq
namespace Go.Proofs.Ytdkknknebehkgaa.Sl
set_option linter.unusedVariables false
set_option linter.unusedSimpArgs false
open Go Go.RowKit
theorem Pairs_n {X Y : Option Addr} {cx cy nx ny : Nat} {xs ys : List Int} {lo hi : Int} (ex : xs.length = nx) (ey : ys.length = ny) (hx : szR xs) (hy : szR ys) (hnx : nx ≤ 8) (hny : ny ≤ 8) (h1 : -100000 ≤ lo) (h2 : lo ≤ hi) (h3 : hi ≤ 100000) (w : World)
    (RX : Rd w X 1 xs.length (fun i => zC (xs.getD i 0))) (RY : Rd w Y 1 ys.length (fun i => zC (ys.getD i 0))) :
    Calls Try.prog 9 #[.slice X nx cx, .slice Y ny cy, .agg #[.int .i64 lo, .int .i64 hi]] w (RetP fun v w' => ∃ (l : List (Nat × Nat)) (A : Option Addr) (c : Nat), v = .tuple #[.slice A l.length c, .int .i64 0] ∧ PRes xs ys lo hi l ∧
      Sat w [] [.rw 0 (.slice A l.length c) 75 2 (l.map prC)] w') := by
  subst ex ey
  exact Pairs_c hx hy hnx hny h1 h2 h3 w RX RY
theorem Verify_n {X Y A : Option Addr} {cx cy c nx ny : Nat} {xs ys : List Int} {lo hi : Int} {l : List (Nat × Nat)} (ex : xs.length = nx) (ey : ys.length = ny) (hx : szR xs) (hy : szR ys) (hnx : nx ≤ 8) (hny : ny ≤ 8) (h1 : -100000 ≤ lo) (h2 : lo ≤ hi) (h3 : hi ≤ 100000) (L : PRes xs ys lo hi l) (w : World)
    (RX : Rd w X 1 xs.length (fun i => zC (xs.getD i 0))) (RY : Rd w Y 1 ys.length (fun i => zC (ys.getD i 0))) (RA : Rd w A 2 l.length (fun i => prC (l.getD i pr0))) :
    Calls Try.prog 10 #[.slice X nx cx, .slice Y ny cy, .agg #[.int .i64 lo, .int .i64 hi, .slice A l.length c]] w (RetP (Val (.int .i64 0) w)) := by
  subst ex ey
  exact Verify_c hx hy hnx hny h1 h2 h3 L w RX RY RA
theorem szR_msr {lo hi : Int} {bs : List Int} (h : 1 ≤ lo ∧ lo ≤ hi ∧ hi ≤ 100000) : szR (bs.map (msr lo hi)) := fun i hi' => by
  have e : (bs.map (msr lo hi)).getD i 0 = msr lo hi (bs.getD i 0) := by
    rw [List.length_map] at hi'
    simp [List.getD_eq_getElem?_getD, hi']
  rw [e]
  have := msr_in (b := bs.getD i 0) h.2.1
  omega
theorem fit_msr {a1 a2 c1 c2 : Int} {hs ss : List Int} (h1 : a1 ≤ a2) (h2 : c1 ≤ c2) : ∀ i j, i < (hs.map (msr a1 a2)).length → j < (ss.map (msr c1 c2)).length → ftB (hs.map (msr a1 a2)) (ss.map (msr c1 c2)) (a1 - c2) (a2 - c1) i j = true := fun i j hi hj => by
  rw [List.length_map] at hi hj
  have e1 : (hs.map (msr a1 a2)).getD i 0 = msr a1 a2 (hs.getD i 0) := by simp [List.getD_eq_getElem?_getD, hi]
  have e2 : (ss.map (msr c1 c2)).getD j 0 = msr c1 c2 (ss.getD j 0) := by simp [List.getD_eq_getElem?_getD, hj]
  have k1 := msr_in (b := hs.getD i 0) h1
  have k2 := msr_in (b := ss.getD j 0) h2
  unfold ftB fitB
  rw [e1, e2, Bool.and_eq_true, decide_eq_true_iff, decide_eq_true_iff]
  omega
set_option maxRecDepth 100000 in
theorem e_law : Ent Try.prog 3 := fun _ _ => rfl
set_option maxRecDepth 8000 in
set_option maxHeartbeats 8000000 in
theorem law_main (f : Ft) (a1 a2 c1 c2 : Int) (ha : 1 ≤ a1 ∧ a1 ≤ a2 ∧ a2 ≤ 100000) (hc : 1 ≤ c1 ∧ c1 ≤ c2 ∧ c2 ≤ 100000)
    (hk : ∀ w, Calls Try.prog 4 #[.agg #[.int .i64 (f).s, .bool (f).b1, .int .i64 (f).l1, .int .i64 (f).g1, .bool (f).b2, .int .i64 (f).l2, .int .i64 (f).g2]] w (RetP (Val (.int .i64 0) w)))
    (hb : ∀ w, Calls Try.prog 6 #[.agg #[.int .i64 (f).s, .bool (f).b1, .int .i64 (f).l1, .int .i64 (f).g1, .bool (f).b2, .int .i64 (f).l2, .int .i64 (f).g2]] w (RetP (Val (.tuple #[.agg #[.int .i64 (a1), .int .i64 (a2)], .agg #[.int .i64 (c1), .int .i64 (c2)]]) w)))
    (hcl : ∀ w, Calls Try.prog 8 #[.agg #[.int .i64 (f).s, .bool (f).b1, .int .i64 (f).l1, .int .i64 (f).g1, .bool (f).b2, .int .i64 (f).l2, .int .i64 (f).g2]] w (RetP (Val (.tuple #[.agg #[.int .i64 (a1 - c2), .int .i64 (a2 - c1)], .int .i64 0]) w)))
    {A B : Option Addr} {cA cB : Nat} {hs ss : List Int} (hh : hs.length ≤ 8) (hs8 : ss.length ≤ 8) (hb1 : ∀ i, i < hs.length → 0 ≤ hs.getD i 0 ∧ hs.getD i 0 ≤ 255) (hb2 : ∀ i, i < ss.length → 0 ≤ ss.getD i 0 ∧ ss.getD i 0 ≤ 255) (w : World)
    (R1 : Rd w A 1 hs.length (fun i => uC (hs.getD i 0))) (R2 : Rd w B 1 ss.length (fun i => uC (ss.getD i 0))) :
    Calls Try.prog 3 #[.agg #[.int .i64 (f).s, .bool (f).b1, .int .i64 (f).l1, .int .i64 (f).g1, .bool (f).b2, .int .i64 (f).l2, .int .i64 (f).g2], .slice A hs.length cA, .slice B ss.length cB] w (RetP (Val (.bool true) w)) := by
  refine calls_of_cw (args := [.agg #[.int .i64 (f).s, .bool (f).b1, .int .i64 (f).l1, .int .i64 (f).g1, .bool (f).b2, .int .i64 (f).l2, .int .i64 (f).g2], .slice A hs.length cA, .slice B ss.length cB]) Try.func3 rfl rfl ?_
  have S := Sat.start [] w
  have O1 := R1.old
  have O2 := R2.old
  have hx : szR (hs.map (msr a1 a2)) := szR_msr ha
  have hy : szR (ss.map (msr c1 c2)) := szR_msr hc
  have hfit := fit_msr (hs := hs) (ss := ss) ha.2.1 hc.2.1
  (repeat' (first | apply cw_seq | apply cw_region | apply wl_nil | apply cw_skip | apply cw_ret | (apply x_callv; assumption; exact rfl; exact rfl; exact rfl; exact e_r16; (exact (by repeat' constructor)); with_reducible exact (hk _); intro _ _ _) | (apply x_callv; assumption; exact rfl; exact rfl; exact rfl; exact e_both16; (exact (by repeat' constructor)); with_reducible exact (hb _); intro _ _ _) | (apply x_callv; assumption; exact rfl; exact rfl; exact rfl; exact e_fClear; (exact (by repeat' constructor)); with_reducible exact (hcl _); intro _ _ _) | (apply z1_callrowE (m := hs.length); exact rfl; exact rfl; exact e_msr; (exact (by repeat' constructor)); (with_reducible exact (fun _ Sx => msr_c _ _ ha _ _ _ hh hb1 _ (O1.now Sx))); exact (by rw [List.length_map, List.length_map]); intro AX kX) | (apply z2_callrowE (m := ss.length); exact rfl; exact rfl; exact e_msr; (exact (by repeat' constructor)); (with_reducible exact (fun _ Sx => msr_c _ _ hc _ _ _ hs8 hb2 _ (O2.now Sx))); exact (by rw [List.length_map, List.length_map]); intro AY kY) | (apply x_call; exact rfl; exact rfl; exact rfl; exact e_Pairs; (exact (by repeat' constructor)); (exact Pairs_n (xs := hs.map (msr a1 a2)) (ys := ss.map (msr c1 c2)) (List.length_map _) (List.length_map _) hx hy hh hs8 (by omega) (by omega) (by omega) _ (Sat.rdmapN (en := zC) (0 : Int) (by assumption) (by exact (by repeat' constructor)) (List.length_map _).symm) (Sat.rdmapN (en := zC) (0 : Int) (by assumption) (by exact (by repeat' constructor)) (List.length_map _).symm)); rintro _ w5 ⟨l, AL, cL, rfl, L, S5⟩; have S6 := (Rl.Sat.moreA (by assumption) S5).1; clear S5; have hle := L.le; (try have hln := L.num hfit); simp only [List.length_map] at *; simp only [List.cons_append, List.nil_append] at S6) | (apply x_callv; assumption; exact rfl; exact rfl; exact rfl; exact e_Verify; (exact (by repeat' constructor)); (exact Verify_n (xs := hs.map (msr a1 a2)) (ys := ss.map (msr c1 c2)) (List.length_map _) (List.length_map _) hx hy hh hs8 (by omega) (by omega) (by omega) L _ (Sat.rdmapN (en := zC) (0 : Int) (by assumption) (by exact (by repeat' constructor)) (List.length_map _).symm) (Sat.rdmapN (en := zC) (0 : Int) (by assumption) (by exact (by repeat' constructor)) (List.length_map _).symm) (Sat.rdmapN (en := prC) pr0 (by assumption) (by exact (by repeat' constructor)) rfl)); intro _ _ _) | (apply x_callv; assumption; exact rfl; exact rfl; exact rfl; exact e_casePicks; (exact (by repeat' constructor)); exact (casePicks_c _); intro _ _ _) | (apply cw_draw (id := 6) [(0, 0), (1, 0), (2, 0), (4, 0), (5, 0), (6, 0), (3, 1), (7, 2), (8, 0), (9, 0)]; assumption; exact mixed; kernel_rfl) | (apply x_move; exact rfl; exact rfl; (exact (by repeat' constructor))) | (apply x_assign; exact rfl; exact rfl; (exact (by repeat' constructor))) | (apply x_fieldB; exact rfl; exact rfl; exact rfl; exact rfl; (constructor)) | (apply x_load; assumption; exact rfl; exact rfl; exact rfl; (exact (by repeat' constructor)); exact rfl; exact rfl; (exact (by repeat' constructor))) | (apply x_bin; exact rfl; exact rfl; exact rfl; (first | exact .z (.wrap (by omega)) | exact (by repeat' constructor))) | (apply x_pick; exact rfl; exact rfl; exact rfl; (exact (by repeat' constructor))) | (apply x_box; assumption; exact rfl; exact rfl; (exact (by repeat' constructor)); (exact (by repeat' constructor)); intro _ _ _) | (apply x_alloc; assumption; exact rfl; exact rfl; exact rfl; (exact (by repeat' constructor)); intro _ _ _) | (apply x_store; assumption; exact rfl; exact rfl; (exact (by repeat' constructor)); (exact (by repeat' constructor)); exact rfl; exact rfl; exact rfl; (exact (by repeat' constructor)); intro _ _) | (apply x_build; exact rfl; exact rfl; exact rfl; (exact (by repeat' constructor))) | (apply x_extract; exact rfl; exact rfl; exact rfl; (exact (by repeat' constructor))) | (apply x_builtin; exact rfl; exact rfl; exact (fun _ => rfl); (exact (by repeat' constructor))) | (apply y_move; exact rfl; (exact (by repeat' constructor))) | (apply y_assign; exact rfl; (exact (by repeat' constructor))) | (apply y_load; exact rfl; exact rfl; (exact (by repeat' constructor)); exact rfl; exact rfl; (exact (by repeat' constructor))) | (apply y_nil; intro _ _) | (apply x_dec; exact rfl; all_goals (intro _; try omega)) | (apply cw_ne; exact rfl; all_goals (intro _; try omega)) | (apply x_gdec; exact rfl; exact rfl; all_goals (intro _; try omega))))
  all_goals (first | refine q_retS (by assumption) rfl (by repeat (first | exact .nil | (apply RV.tmp; exact (by repeat' constructor)) | (apply RV.cell; exact rfl; exact (by repeat' constructor); exact rfl; exact rfl; exact (by repeat' constructor)))) ?_ | (simp only [thenQ, blockQ]; refine q_retS (by assumption) rfl (by repeat (first | exact .nil | (apply RV.tmp; exact (by repeat' constructor)) | (apply RV.cell; exact rfl; exact (by repeat' constructor); exact rfl; exact rfl; exact (by repeat' constructor)))) ?_))
  all_goals exact ⟨rfl, Sat.keeps (by assumption)⟩
set_option maxRecDepth 8000 in
set_option maxHeartbeats 8000000 in
theorem law_c (f : Ft) (A B : Option Addr) (cA cB : Nat) (hs ss : List Int) (hb1 : ∀ i, i < hs.length → 0 ≤ hs.getD i 0 ∧ hs.getD i 0 ≤ 255) (hb2 : ∀ i, i < ss.length → 0 ≤ ss.getD i 0 ∧ ss.getD i 0 ≤ 255) (w : World)
    (R1 : Rd w A 1 hs.length (fun i => uC (hs.getD i 0))) (R2 : Rd w B 1 ss.length (fun i => uC (ss.getD i 0))) :
    Calls Try.prog 3 #[.agg #[.int .i64 (f).s, .bool (f).b1, .int .i64 (f).l1, .int .i64 (f).g1, .bool (f).b2, .int .i64 (f).l2, .int .i64 (f).g2], .slice A hs.length cA, .slice B ss.length cB] w (RetP (Val (.bool true) w)) := by
  by_cases hE : fitE f = 0
  · by_cases h1 : hs.length ≤ 8
    · by_cases h2 : ss.length ≤ 8
      · obtain ⟨l1, l2, l3⟩ := fit_lims hE
        refine law_main f (loA f) (hiA f) (loB f) (hiB f) l1 l2 (fun w => ?_) (both16_c f hE) (fun w => ?_) h1 h2 hb1 hb2 w R1 R2
        · have := r16_c f w
          rw [hE] at this
          exact this
        · have := fClear_c f w
          rw [hE, l3] at this
          exact this
      · refine calls_of_cw (args := [.agg #[.int .i64 (f).s, .bool (f).b1, .int .i64 (f).l1, .int .i64 (f).g1, .bool (f).b2, .int .i64 (f).l2, .int .i64 (f).g2], .slice A hs.length cA, .slice B ss.length cB]) Try.func3 rfl rfl ?_
        have S := Sat.start [] w
        have hk : ∀ w, Calls Try.prog 4 #[.agg #[.int .i64 (f).s, .bool (f).b1, .int .i64 (f).l1, .int .i64 (f).g1, .bool (f).b2, .int .i64 (f).l2, .int .i64 (f).g2]] w (RetP (Val (.int .i64 0) w)) := fun w => by
          have := r16_c f w
          rw [hE] at this
          exact this
        (repeat' (first | apply cw_seq | apply cw_region | apply wl_nil | apply cw_ret | (apply x_callv; assumption; exact rfl; exact rfl; exact rfl; exact e_r16; (exact (by repeat' constructor)); with_reducible exact (hk _); intro _ _ _) | (apply x_callv; assumption; exact rfl; exact rfl; exact rfl; exact e_casePicks; (exact (by repeat' constructor)); exact (casePicks_c _); intro _ _ _) | (apply x_move; exact rfl; exact rfl; (exact (by repeat' constructor))) | (apply x_assign; exact rfl; exact rfl; (exact (by repeat' constructor))) | (apply x_fieldB; exact rfl; exact rfl; exact rfl; exact rfl; (constructor)) | (apply x_load; assumption; exact rfl; exact rfl; exact rfl; (exact (by repeat' constructor)); exact rfl; exact rfl; (exact (by repeat' constructor))) | (apply x_bin; exact rfl; exact rfl; exact rfl; (first | exact .z (.wrap (by omega)) | exact (by repeat' constructor))) | (apply x_pick; exact rfl; exact rfl; exact rfl; (exact (by repeat' constructor))) | (apply x_box; assumption; exact rfl; exact rfl; (exact (by repeat' constructor)); (exact (by repeat' constructor)); intro _ _ _) | (apply x_alloc; assumption; exact rfl; exact rfl; exact rfl; (exact (by repeat' constructor)); intro _ _ _) | (apply x_store; assumption; exact rfl; exact rfl; (exact (by repeat' constructor)); (exact (by repeat' constructor)); exact rfl; exact rfl; exact rfl; (exact (by repeat' constructor)); intro _ _) | (apply x_build; exact rfl; exact rfl; exact rfl; (exact (by repeat' constructor))) | (apply x_builtin; exact rfl; exact rfl; exact (fun _ => rfl); (exact (by repeat' constructor))) | (apply x_dec; exact rfl; all_goals (intro _; try omega)) | (apply x_gdec; exact rfl; exact rfl; all_goals (intro _; try omega))))
        all_goals first
          | (exfalso; omega)
          | skip
        all_goals (first | refine q_retS (by assumption) rfl (by repeat (first | exact .nil | (apply RV.tmp; exact (by repeat' constructor)) | (apply RV.cell; exact rfl; exact (by repeat' constructor); exact rfl; exact rfl; exact (by repeat' constructor)))) ?_ | (simp only [thenQ, blockQ]; refine q_retS (by assumption) rfl (by repeat (first | exact .nil | (apply RV.tmp; exact (by repeat' constructor)) | (apply RV.cell; exact rfl; exact (by repeat' constructor); exact rfl; exact rfl; exact (by repeat' constructor)))) ?_))
        all_goals exact ⟨rfl, Sat.keeps (by assumption)⟩
    · refine calls_of_cw (args := [.agg #[.int .i64 (f).s, .bool (f).b1, .int .i64 (f).l1, .int .i64 (f).g1, .bool (f).b2, .int .i64 (f).l2, .int .i64 (f).g2], .slice A hs.length cA, .slice B ss.length cB]) Try.func3 rfl rfl ?_
      have S := Sat.start [] w
      have hk : ∀ w, Calls Try.prog 4 #[.agg #[.int .i64 (f).s, .bool (f).b1, .int .i64 (f).l1, .int .i64 (f).g1, .bool (f).b2, .int .i64 (f).l2, .int .i64 (f).g2]] w (RetP (Val (.int .i64 0) w)) := fun w => by
        have := r16_c f w
        rw [hE] at this
        exact this
      (repeat' (first | apply cw_seq | apply cw_region | apply wl_nil | apply cw_ret | (apply x_callv; assumption; exact rfl; exact rfl; exact rfl; exact e_r16; (exact (by repeat' constructor)); with_reducible exact (hk _); intro _ _ _) | (apply x_callv; assumption; exact rfl; exact rfl; exact rfl; exact e_casePicks; (exact (by repeat' constructor)); exact (casePicks_c _); intro _ _ _) | (apply x_not; exact rfl; exact rfl) | (apply x_move; exact rfl; exact rfl; (exact (by repeat' constructor))) | (apply x_assign; exact rfl; exact rfl; (exact (by repeat' constructor))) | (apply x_fieldB; exact rfl; exact rfl; exact rfl; exact rfl; (constructor)) | (apply x_load; assumption; exact rfl; exact rfl; exact rfl; (exact (by repeat' constructor)); exact rfl; exact rfl; (exact (by repeat' constructor))) | (apply x_bin; exact rfl; exact rfl; exact rfl; (first | exact .z (.wrap (by omega)) | exact (by repeat' constructor))) | (apply x_pick; exact rfl; exact rfl; exact rfl; (exact (by repeat' constructor))) | (apply x_box; assumption; exact rfl; exact rfl; (exact (by repeat' constructor)); (exact (by repeat' constructor)); intro _ _ _) | (apply x_alloc; assumption; exact rfl; exact rfl; exact rfl; (exact (by repeat' constructor)); intro _ _ _) | (apply x_store; assumption; exact rfl; exact rfl; (exact (by repeat' constructor)); (exact (by repeat' constructor)); exact rfl; exact rfl; exact rfl; (exact (by repeat' constructor)); intro _ _) | (apply x_build; exact rfl; exact rfl; exact rfl; (exact (by repeat' constructor))) | (apply x_builtin; exact rfl; exact rfl; exact (fun _ => rfl); (exact (by repeat' constructor))) | (apply cw_true; exact rfl) | (apply x_gdec; exact rfl; exact rfl; all_goals (intro _; try omega))))
      all_goals first
        | (exfalso; omega)
        | skip
      all_goals (first | refine q_retS (by assumption) rfl (by repeat (first | exact .nil | (apply RV.tmp; exact (by repeat' constructor)) | (apply RV.cell; exact rfl; exact (by repeat' constructor); exact rfl; exact rfl; exact (by repeat' constructor)))) ?_ | (simp only [thenQ, blockQ]; refine q_retS (by assumption) rfl (by repeat (first | exact .nil | (apply RV.tmp; exact (by repeat' constructor)) | (apply RV.cell; exact rfl; exact (by repeat' constructor); exact rfl; exact rfl; exact (by repeat' constructor)))) ?_))
      all_goals exact ⟨rfl, Sat.keeps (by assumption)⟩
  · refine calls_of_cw (args := [.agg #[.int .i64 (f).s, .bool (f).b1, .int .i64 (f).l1, .int .i64 (f).g1, .bool (f).b2, .int .i64 (f).l2, .int .i64 (f).g2], .slice A hs.length cA, .slice B ss.length cB]) Try.func3 rfl rfl ?_
    have S := Sat.start [] w
    (repeat' (first | apply cw_seq | apply cw_region | apply wl_nil | apply cw_ret | (apply x_callv; assumption; exact rfl; exact rfl; exact rfl; exact e_r16; (exact (by repeat' constructor)); with_reducible exact (r16_c f _); intro _ _ _) | (apply x_callv; assumption; exact rfl; exact rfl; exact rfl; exact e_casePicks; (exact (by repeat' constructor)); exact (casePicks_c _); intro _ _ _) | (apply x_not; exact rfl; exact rfl) | (apply x_move; exact rfl; exact rfl; (exact (by repeat' constructor))) | (apply x_assign; exact rfl; exact rfl; (exact (by repeat' constructor))) | (apply x_fieldB; exact rfl; exact rfl; exact rfl; exact rfl; (constructor)) | (apply x_load; assumption; exact rfl; exact rfl; exact rfl; (exact (by repeat' constructor)); exact rfl; exact rfl; (exact (by repeat' constructor))) | (apply x_bin; exact rfl; exact rfl; exact rfl; (first | exact .z (.wrap (by omega)) | exact (by repeat' constructor))) | (apply x_pick; exact rfl; exact rfl; exact rfl; (exact (by repeat' constructor))) | (apply x_box; assumption; exact rfl; exact rfl; (exact (by repeat' constructor)); (exact (by repeat' constructor)); intro _ _ _) | (apply x_alloc; assumption; exact rfl; exact rfl; exact rfl; (exact (by repeat' constructor)); intro _ _ _) | (apply x_store; assumption; exact rfl; exact rfl; (exact (by repeat' constructor)); (exact (by repeat' constructor)); exact rfl; exact rfl; exact rfl; (exact (by repeat' constructor)); intro _ _) | (apply x_build; exact rfl; exact rfl; exact rfl; (exact (by repeat' constructor))) | (apply cw_true; exact rfl) | (apply x_gne; exact rfl; exact rfl; all_goals (intro _; try omega))))
    all_goals first
      | (exfalso; omega)
      | skip
    all_goals (first | refine q_retS (by assumption) rfl (by repeat (first | exact .nil | (apply RV.tmp; exact (by repeat' constructor)) | (apply RV.cell; exact rfl; exact (by repeat' constructor); exact rfl; exact rfl; exact (by repeat' constructor)))) ?_ | (simp only [thenQ, blockQ]; refine q_retS (by assumption) rfl (by repeat (first | exact .nil | (apply RV.tmp; exact (by repeat' constructor)) | (apply RV.cell; exact rfl; exact (by repeat' constructor); exact rfl; exact rfl; exact (by repeat' constructor)))) ?_))
    all_goals exact ⟨rfl, Sat.keeps (by assumption)⟩
/-! ### a slice of bytes as an argument -/
theorem openBs {w : World} {v : Value} (h : LeavesS w [.slice 1 [.int .u8]] [v]) :
    ∃ (A : Option Addr) (cap : Nat) (l : List Int), v = .slice A l.length cap ∧ l.length ≤ cap ∧ cap ≤ maxLen ∧ Rd w A 1 l.length (fun i => uC (l.getD i 0)) ∧ ∀ z ∈ l, 0 ≤ z ∧ z ≤ 255 := by
  simp only [LeavesS, LeafS] at h
  obtain ⟨_, _, e, ⟨A, cap, css, rfl, h1, h2, R, hc⟩, rfl⟩ := h
  injection e with e _
  subst e
  obtain ⟨l, rfl, hl⟩ := ex_map (f := uC) (p := fun z => 0 ≤ z ∧ z ≤ 255) css (fun c hcm => by
    obtain ⟨_, _, rfl, ⟨x, rfl, hx⟩, rfl⟩ := hc c hcm
    refine ⟨x, rfl, ?_⟩
    simp [Lit.wf, IntKind.min, IntKind.max, IntKind.signed, IntKind.bits] at hx
    omega)
  rw [List.length_map] at h1
  exact ⟨A, cap, l, by rw [List.length_map], h1, h2, R.map (0 : Int), hl⟩
theorem bytes_at {l : List Int} (h : ∀ z ∈ l, 0 ≤ z ∧ z ≤ 255) : ∀ i, i < l.length → 0 ≤ l.getD i 0 ∧ l.getD i 0 ≤ 255 := fun i hi => by
  have : l.getD i 0 ∈ l := by simp [List.getD_eq_getElem?_getD, hi]
  exact h _ this
end Go.Proofs.Ytdkknknebehkgaa.Sl
