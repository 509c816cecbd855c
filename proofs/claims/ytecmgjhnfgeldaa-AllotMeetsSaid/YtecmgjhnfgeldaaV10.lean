/- The front and the least cost: the law walked. No statement of the seat is proved here. -/
import Derived.Test.YtecmgjhnfgeldaaV9
namespace Go.Proofs.Ytecmgjhnfgeldaa.Al
set_option linter.unusedVariables false
set_option linter.unusedSimpArgs false
open Go Go.RowKit
theorem Front_y {F : List Pr2} {e : Int} (m : Int) (B : Option Addr) (cB : Nat) (ps : List Pt) (hp : ps.length ≤ 9223372036854775807) (hcs : ∀ i, i < ps.length → (pat ps i).cs.length ≤ 9223372036854775807) (hN : chkE m ps = 0 → prodN ps ≤ 20000) (hv : frtL m ps = (F, e)) (w : World) (R : Rd w B 2 ps.length (fun i => ptC (ps.getD i pt0))) (R2 : ∀ i, i < ps.length → Rd w (pat ps i).A 2 (pat ps i).cs.length (fun j => chC ((pat ps i).cs.getD j ch0))) : Calls Try.prog 17 #[.agg #[.int .i64 m, .slice B ps.length cB]] w (RetP (RowR (fun v => .tuple #[v, .int .i64 e]) 51 2 (F.map prC) w)) := by
  have := FrontT_c m B cB ps hp hcs hN w R R2
  rw [hv] at this
  exact this
set_option maxRecDepth 100000 in
theorem e_lawMeets : Ent Try.prog 7 := fun _ _ => rfl
set_option maxRecDepth 8000 in
set_option maxHeartbeats 8000000 in
theorem lawMeets_c (m : Int) (B : Option Addr) (cB : Nat) (ps : List Pt) (hp : ps.length ≤ 9223372036854775807) (hcs : ∀ i, i < ps.length → (pat ps i).cs.length ≤ 9223372036854775807) (hz : ps.length * 32 ≤ reachBytes) (hcz : ∀ i, i < ps.length → (pat ps i).cs.length * 16 ≤ reachBytes) (w : World) (R : Rd w B 2 ps.length (fun i => ptC (ps.getD i pt0))) (R2 : ∀ i, i < ps.length → Rd w (pat ps i).A 2 (pat ps i).cs.length (fun j => chC ((pat ps i).cs.getD j ch0))) : Calls Try.prog 7 #[.agg #[.int .i64 m, .slice B ps.length cB]] w (RetP (Val (.bool true) w)) := by
  refine calls_of_cw (args := [.agg #[.int .i64 m, .slice B ps.length cB]]) Try.func7 rfl rfl ?_
  have S := Sat.start [] w
  have O := R.old
  by_cases hr : Rgt m ps
  · have ho := chkE_ok hr.ck
    have hf := frF_few ho hr.few 0
    rw [List.drop_zero] at hf
    have hpos := frF_pos ps ho.all
    have hA := (frF_front ps).asc
    obtain ⟨l, c, e, hv⟩ : ∃ l c e, slvL m ps = (l, c, e) := ⟨_, _, _, rfl⟩
    by_cases hbig : 16384 < (frF ps).length
    · have hfr := frtL_12 hr.ck hbig
      (repeat' (first | apply cw_seq | apply cw_region | apply wl_nil | apply cw_skip | apply cw_ret | (apply x_gdec; exact rfl; exact rfl; all_goals (intro _; try omega)) | (apply x_callv; assumption; exact rfl; exact rfl; exact rfl; exact e_right; (exact (by repeat' constructor)); with_reducible exact (right_y m B cB ps hp hcs hz hcz hr _ (R.old.now (by assumption)) (fun i hi => (R2 i hi).old.now (by assumption))); intro _ _ _) | (apply x_callv; assumption; exact rfl; exact rfl; exact rfl; exact e_awake; (exact (by repeat' constructor)); with_reducible exact (awake_c _); intro _ _ _) | (apply x_callrowE (m := l.length); assumption; exact rfl; exact rfl; exact rfl; exact e_SolveT; (exact (by repeat' constructor)); (with_reducible exact (Solve_y m B cB ps hp hcs (fun _ => hr.few) hv _ (R.old.now (by assumption)) (fun i hi => (R2 i hi).old.now (by assumption)))); exact List.length_map _; intro _ _ _ _) | (apply x_callrowE (m := 0); assumption; exact rfl; exact rfl; exact rfl; exact e_FrontT; (exact (by repeat' constructor)); (with_reducible exact (Front_y m B cB ps hp hcs (fun _ => hr.few) hfr _ (R.old.now (by assumption)) (fun i hi => (R2 i hi).old.now (by assumption)))); exact rfl; intro _ _ _ _) | (apply x_not; exact rfl; exact rfl) | (apply x_move; exact rfl; exact rfl; (exact (by repeat' constructor))) | (apply x_assign; exact rfl; exact rfl; (exact (by repeat' constructor))) | (apply x_load; assumption; exact rfl; exact rfl; exact rfl; (exact (by repeat' constructor)); exact rfl; exact rfl; (exact (by repeat' constructor))) | (apply x_bin; exact rfl; exact rfl; exact rfl; (first | exact .z (.wrap (by omega)) | exact (by repeat' constructor))) | (apply x_pick; exact rfl; exact rfl; exact rfl; (exact (by repeat' constructor))) | (apply x_un; exact rfl; exact rfl; exact rfl; (first | exact .z (.wrap (by omega)) | exact (by repeat' constructor))) | (apply x_box; assumption; exact rfl; exact rfl; (exact (by repeat' constructor)); (exact (by repeat' constructor)); intro _ _ _) | (apply x_extract; exact rfl; exact rfl; exact rfl; (exact (by repeat' constructor))) | (apply cw_true; exact rfl) | (apply cw_false; exact rfl)))
      (all_goals (first | refine q_retS (by assumption) rfl (by repeat (first | exact .nil | (apply RV.tmp; exact (by repeat' constructor)) | (apply RV.cell; exact rfl; exact (by repeat' constructor); exact rfl; exact rfl; exact (by repeat' constructor)))) ?_ | (simp only [thenQ, blockQ]; refine q_retS (by assumption) rfl (by repeat (first | exact .nil | (apply RV.tmp; exact (by repeat' constructor)) | (apply RV.cell; exact rfl; exact (by repeat' constructor); exact rfl; exact rfl; exact (by repeat' constructor)))) ?_))); (all_goals refine ⟨?_, Sat.keeps (by assumption)⟩); (all_goals first | rfl | (simp [pack]; done) | (exfalso; simp_all; done))
    · have hfr := frtL_0 hr.ck hbig
      obtain ⟨F, hF⟩ : ∃ F, frF ps = F := ⟨_, rfl⟩
      rw [hF] at hf hpos hA hfr
      have hce : (lstF F m F.length < 0 ∧ e = 6) ∨ (0 ≤ lstF F m F.length ∧ e = 0 ∧ lstF F m F.length = c) := by
        rcases slv_cases hr.ck with ⟨h1, hv2⟩ | ⟨l', c', h1, hv2, hs⟩
        · rw [hF] at h1
          rw [lstF_none hA h1]
          rw [hv] at hv2
          injection hv2 with _ hv2
          injection hv2 with _ hv2
          exact .inl ⟨by decide, hv2⟩
        · have := chp_le ho h1
          rw [hF] at h1
          rw [lstF_some hA h1]
          rw [hv] at hv2
          injection hv2 with _ hv2
          injection hv2 with hc hv2
          exact .inr ⟨this.1, hv2, hc.symm⟩
      (repeat' (first | apply cw_seq | apply cw_region | apply wl_nil | apply cw_block | apply cw_skip | (apply x_callv; assumption; exact rfl; exact rfl; exact rfl; exact e_right; (exact (by repeat' constructor)); with_reducible exact (right_y m B cB ps hp hcs hz hcz hr _ (R.old.now (by assumption)) (fun i hi => (R2 i hi).old.now (by assumption))); intro _ _ _) | (apply x_callrowE (m := l.length); assumption; exact rfl; exact rfl; exact rfl; exact e_SolveT; (exact (by repeat' constructor)); (with_reducible exact (Solve_y m B cB ps hp hcs (fun _ => hr.few) hv _ (R.old.now (by assumption)) (fun i hi => (R2 i hi).old.now (by assumption)))); exact List.length_map _; intro _ _ _ _) | (apply x_callrowE (m := F.length); assumption; exact rfl; exact rfl; exact rfl; exact e_FrontT; (exact (by repeat' constructor)); (with_reducible exact (Front_y m B cB ps hp hcs (fun _ => hr.few) hfr _ (R.old.now (by assumption)) (fun i hi => (R2 i hi).old.now (by assumption)))); exact List.length_map _; intro _ _ _ _) | (apply x_move; exact rfl; exact rfl; (exact (by repeat' constructor))) | (apply x_assign; exact rfl; exact rfl; (exact (by repeat' constructor))) | (apply x_load; assumption; exact rfl; exact rfl; exact rfl; (exact (by repeat' constructor)); exact rfl; exact rfl; (exact (by repeat' constructor))) | (apply x_bin; exact rfl; exact rfl; exact rfl; (first | exact .z (.wrap (by omega)) | exact (by repeat' constructor))) | (apply x_pick; exact rfl; exact rfl; exact rfl; (exact (by repeat' constructor))) | (apply x_un; exact rfl; exact rfl; exact rfl; (first | exact .z (.wrap (by omega)) | exact (by repeat' constructor))) | (apply x_box; assumption; exact rfl; exact rfl; (exact (by repeat' constructor)); (exact (by repeat' constructor)); intro _ _ _) | (apply x_extract; exact rfl; exact rfl; exact rfl; (exact (by repeat' constructor))) | (apply x_builtin; exact rfl; exact rfl; exact (fun _ => rfl); (exact (by repeat' constructor))) | (apply cw_false; exact rfl) | (apply x_dec; exact rfl; all_goals (intro _; try omega))))
      all_goals first
        | (exfalso; omega)
        | skip
      rename_i b1 _ _ _ _ _ AF cF _ _ Al cl w2 S2 _
      refine cw_loop [2, 8, 9, 10, 40, 41, 42, 43, 44, 45, 46, 47, 48, 49, 50, 51, 52, 53, 54, 55, 56, 57, 58, 59, 60, 61, 62, 63, 64, 65, 66, 67, 68, 69, 70, 71, 72, 73, 74, 75, 76] [8, 40] (fun us wr => ∃ i : Nat, i ≤ F.length ∧ us = [.int .i64 (lstF F m i), .int .i64 i] ∧ Sat w [] [.rw 0 (.slice Al l.length cl) 3 1 (l.map pkC), .rw 0 (.slice AF F.length cF) 51 2 (F.map prC), .cl b1 24 [.int .i64 m, .slice B ps.length cB]] wr) (fun us _ => F.length - (intOf (us.getD 1 undef)).toNat) ?_ ?_
      · exact ⟨0, Nat.zero_le _, rfl, S2⟩
      clear S2
      rintro g us wr ⟨i, hi, rfl, Sr⟩
      by_cases hlt : i < F.length
      · have hstep : ∀ z, (F.getD i (0, 0)).1 ≤ m ∧ z = (F.getD i (0, 0)).2 ∨ ¬ (F.getD i (0, 0)).1 ≤ m ∧ z = lstF F m i → z = lstF F m (i + 1) := by
          rintro z (⟨h1, rfl⟩ | ⟨h1, rfl⟩)
          · rw [lstF, if_pos h1]
          · rw [lstF, if_neg h1]
        have hgo : i = 0 ∨ ∃ j, i = j + 1 ∧ (F.getD j (0, 0)).1 < (F.getD i (0, 0)).1 ∧ (F.getD i (0, 0)).2 < (F.getD j (0, 0)).2 := by
          cases i with
          | zero => exact .inl rfl
          | succ j => exact .inr ⟨j, rfl, asc_at hA hlt⟩
        rcases hgo with rfl | ⟨j, rfl, hj1, hj2⟩
        all_goals
          (repeat' (first | apply cw_seq | apply cw_region | apply wl_nil | apply cw_block | apply cw_skip | (apply y_loadRowM ((0 : Int), (0 : Int)); exact rfl; exact rfl; (exact (by repeat' constructor)); exact rfl; (first | omega | exact size_pos (by assumption) | assumption); exact rfl; exact rfl; (exact (by repeat' constructor))) | (apply x_loadR; exact rfl; exact rfl; exact rfl; exact Sat.rdmapN ((0 : Int), (0 : Int)) (by assumption) (by exact (by repeat' constructor)) rfl; (first | omega | exact size_pos (by assumption) | assumption); exact rfl; exact rfl; (exact (by repeat' constructor))) | (apply y_indexArrE; exact rfl; exact rfl; exact rfl; exact rfl; decide; decide; (constructor)) | (apply y_bin; exact rfl; exact (fun _ => rfl); exact is_sub1 (by omega)) | (apply cw_draw (id := 11) [(0, 0), (1, 0), (2, 0), (3, 0), (4, 0), (5, 0), (6, 0), (7, 0), (8, 0), (9, 0), (10, 0), (11, 0), (12, 0), (13, 0), (14, 0), (15, 0), (16, 0), (17, 0), (18, 0), (19, 0), (20, 0), (21, 0), (22, 0), (23, 0)]; assumption; exact mixed; kernel_rfl) | (apply x_move; exact rfl; exact rfl; (exact (by repeat' constructor))) | (apply x_assign; exact rfl; exact rfl; (exact (by repeat' constructor))) | (apply x_fieldB; exact rfl; exact rfl; exact rfl; exact rfl; (constructor)) | (apply x_load; assumption; exact rfl; exact rfl; exact rfl; (exact (by repeat' constructor)); exact rfl; exact rfl; (exact (by repeat' constructor))) | (apply x_bin; exact rfl; exact rfl; exact rfl; (first | exact .z (.wrap (by omega)) | exact (by repeat' constructor))) | (apply x_alloc; assumption; exact rfl; exact rfl; exact rfl; (exact (by repeat' constructor)); intro _ _ _) | (apply x_store; assumption; exact rfl; exact rfl; (exact (by repeat' constructor)); (exact (by repeat' constructor)); exact rfl; exact rfl; exact rfl; (exact (by repeat' constructor)); intro _ _) | (apply x_index; exact rfl; exact rfl; exact rfl; exact rfl; exact rfl; (constructor); (first | omega | exact size_pos (by assumption) | assumption); (first | exact rfl | assumption | exact Rd.some_ (by assumption) (by omega) | exact Rd.some_ (Old.rd (by assumption)) (by omega) | exact (Sat.rd (by assumption) (by exact (by repeat' constructor))).some_ (by omega))) | (apply x_indexArrB; exact rfl; exact rfl; exact rfl; exact rfl; exact rfl; decide; decide; (constructor)) | (apply y_not; exact rfl) | (apply y_move; exact rfl; (exact (by repeat' constructor))) | (apply y_load; exact rfl; exact rfl; (exact (by repeat' constructor)); exact rfl; exact rfl; (exact (by repeat' constructor))) | (apply y_bin; exact rfl; exact (fun _ => rfl); (first | exact .z (.wrap (by omega)) | exact (by repeat' constructor))) | (apply y_pick; exact rfl; exact rfl; (exact (by repeat' constructor))) | (apply y_index; exact rfl; exact rfl; exact rfl; exact rfl; (constructor); (first | omega | exact size_pos (by assumption) | assumption); (first | exact rfl | assumption | exact Rd.some_ (by assumption) (by omega) | exact Rd.some_ (Old.rd (by assumption)) (by omega) | exact (Sat.rd (by assumption) (by exact (by repeat' constructor))).some_ (by omega))) | (apply y_indexArrB; exact rfl; exact rfl; exact rfl; exact rfl; decide; decide; (constructor)) | (apply y_nil; intro _ _) | (apply y_gdec; exact rfl; exact rfl; all_goals (intro _; try omega)) | (apply cw_false; exact rfl) | (apply x_dec; exact rfl; all_goals (intro _; try omega))))
        all_goals first
          | (exfalso; omega)
          | skip
        all_goals first
          | (refine ⟨rfl, (by repeat (first | exact Agree.updl rfl (Agree.mask _ _ _) | refine Agree.upd rfl ?_ | refine Agree.updl rfl ?_ | refine Agree.maskIn rfl ?_)), ⟨0 + 1, hlt, ?_, Sat.drop1 (by assumption)⟩, ?_⟩
             · first
                 | exact congrArg (fun z : Int => [Value.int .i64 z, Value.int .i64 ((0 + 1 : Nat) : Int)]) (hstep _ (.inl ⟨by assumption, rfl⟩))
                 | exact congrArg (fun z : Int => [Value.int .i64 z, Value.int .i64 ((0 + 1 : Nat) : Int)]) (hstep _ (.inr ⟨by assumption, rfl⟩))
             · show F.length - ((0 + 1 : Nat) : Int).toNat < F.length - ((0 : Nat) : Int).toNat
               omega)
          | (refine ⟨rfl, (by repeat (first | exact Agree.updl rfl (Agree.mask _ _ _) | refine Agree.upd rfl ?_ | refine Agree.updl rfl ?_ | refine Agree.maskIn rfl ?_)), ⟨(j + 1) + 1, hlt, ?_, Sat.drop1 (by assumption)⟩, ?_⟩
             · first
                 | exact congrArg (fun z : Int => [Value.int .i64 z, Value.int .i64 (((j + 1) + 1 : Nat) : Int)]) (hstep _ (.inl ⟨by assumption, rfl⟩))
                 | exact congrArg (fun z : Int => [Value.int .i64 z, Value.int .i64 (((j + 1) + 1 : Nat) : Int)]) (hstep _ (.inr ⟨by assumption, rfl⟩))
             · show F.length - (((j + 1) + 1 : Nat) : Int).toNat < F.length - (((j + 1) : Nat) : Int).toNat
               omega)
      · have ei : i = F.length := by omega
        subst ei
        rcases hce with ⟨h1, rfl⟩ | ⟨h1, rfl, hc⟩
        · (repeat' (first | apply cw_seq | apply cw_region | apply wl_nil | apply cw_exit | apply cw_ret | (apply x_gdec; exact rfl; exact rfl; all_goals (intro _; try omega)) | (apply x_callv; assumption; exact rfl; exact rfl; exact rfl; exact e_awake; (exact (by repeat' constructor)); with_reducible exact (awake_c _); intro _ _ _) | (apply x_move; exact rfl; exact rfl; (exact (by repeat' constructor))) | (apply x_assign; exact rfl; exact rfl; (exact (by repeat' constructor))) | (apply x_bin; exact rfl; exact rfl; exact rfl; (first | exact .z (.wrap (by omega)) | exact (by repeat' constructor))) | (apply x_pick; exact rfl; exact rfl; exact rfl; (exact (by repeat' constructor))) | (apply x_dec; exact rfl; all_goals (intro _; try omega))))
          (all_goals (first | refine q_retS (by assumption) rfl (by repeat (first | exact .nil | (apply RV.tmp; exact (by repeat' constructor)) | (apply RV.cell; exact rfl; exact (by repeat' constructor); exact rfl; exact rfl; exact (by repeat' constructor)))) ?_ | (simp only [thenQ, blockQ]; refine q_retS (by assumption) rfl (by repeat (first | exact .nil | (apply RV.tmp; exact (by repeat' constructor)) | (apply RV.cell; exact rfl; exact (by repeat' constructor); exact rfl; exact rfl; exact (by repeat' constructor)))) ?_))); (all_goals refine ⟨?_, Sat.keeps (by assumption)⟩); (all_goals first | rfl | (simp [pack]; done) | (exfalso; simp_all; done))
        · rw [hc] at h1
          rw [hc]
          (repeat' (first | apply cw_seq | apply cw_region | apply wl_nil | apply cw_skip | apply cw_exit | apply cw_ret | (apply x_gdec; exact rfl; exact rfl; all_goals (intro _; try omega)) | (apply x_callv; assumption; exact rfl; exact rfl; exact rfl; exact e_awake; (exact (by repeat' constructor)); with_reducible exact (awake_c _); intro _ _ _) | (apply x_move; exact rfl; exact rfl; (exact (by repeat' constructor))) | (apply x_assign; exact rfl; exact rfl; (exact (by repeat' constructor))) | (apply x_bin; exact rfl; exact rfl; exact rfl; (first | exact .z (.wrap (by omega)) | exact (by repeat' constructor))) | (apply x_pick; exact rfl; exact rfl; exact rfl; (exact (by repeat' constructor))) | (apply x_dec; exact rfl; all_goals (intro _; try omega))))
          (all_goals (first | refine q_retS (by assumption) rfl (by repeat (first | exact .nil | (apply RV.tmp; exact (by repeat' constructor)) | (apply RV.cell; exact rfl; exact (by repeat' constructor); exact rfl; exact rfl; exact (by repeat' constructor)))) ?_ | (simp only [thenQ, blockQ]; refine q_retS (by assumption) rfl (by repeat (first | exact .nil | (apply RV.tmp; exact (by repeat' constructor)) | (apply RV.cell; exact rfl; exact (by repeat' constructor); exact rfl; exact rfl; exact (by repeat' constructor)))) ?_))); (all_goals refine ⟨?_, Sat.keeps (by assumption)⟩); (all_goals first | rfl | (simp [pack]; done) | (exfalso; simp_all; done))
  · (repeat' (first | apply cw_seq | apply cw_region | apply wl_nil | apply cw_ret | (apply x_callv; assumption; exact rfl; exact rfl; exact rfl; exact e_right; (exact (by repeat' constructor)); with_reducible exact (right_n m B cB ps hp hcs hz hcz hr _ (R.old.now (by assumption)) (fun i hi => (R2 i hi).old.now (by assumption))); intro _ _ _) | (apply x_callv; assumption; exact rfl; exact rfl; exact rfl; exact e_awake; (exact (by repeat' constructor)); with_reducible exact (awake_c _); intro _ _ _) | (apply x_assign; exact rfl; exact rfl; (exact (by repeat' constructor))) | (apply x_load; assumption; exact rfl; exact rfl; exact rfl; (exact (by repeat' constructor)); exact rfl; exact rfl; (exact (by repeat' constructor))) | (apply x_un; exact rfl; exact rfl; exact rfl; (first | exact .z (.wrap (by omega)) | exact (by repeat' constructor))) | (apply x_box; assumption; exact rfl; exact rfl; (exact (by repeat' constructor)); (exact (by repeat' constructor)); intro _ _ _) | (apply cw_true; exact rfl)))
    (all_goals (first | refine q_retS (by assumption) rfl (by repeat (first | exact .nil | (apply RV.tmp; exact (by repeat' constructor)) | (apply RV.cell; exact rfl; exact (by repeat' constructor); exact rfl; exact rfl; exact (by repeat' constructor)))) ?_ | (simp only [thenQ, blockQ]; refine q_retS (by assumption) rfl (by repeat (first | exact .nil | (apply RV.tmp; exact (by repeat' constructor)) | (apply RV.cell; exact rfl; exact (by repeat' constructor); exact rfl; exact rfl; exact (by repeat' constructor)))) ?_))); (all_goals refine ⟨?_, Sat.keeps (by assumption)⟩); (all_goals first | rfl | (simp [pack]; done) | (exfalso; simp_all; done))
theorem lawMeets_t (t : Tk) (w : World) (h : t.ok w) : Calls Try.prog 7 #[tkV t] w (RetP (Val (.bool true) w)) :=
  lawMeets_c t.m t.B t.cB t.ps h.hp h.hcs h.hz h.hcz w h.R h.R2
end Go.Proofs.Ytecmgjhnfgeldaa.Al
