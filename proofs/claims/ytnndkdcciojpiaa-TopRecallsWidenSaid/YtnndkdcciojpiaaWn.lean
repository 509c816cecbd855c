/- Parts that are recalled: the walk. No statement of the seat is proved here. -/
import Derived.Test.YtnndkdcciojpiaaWm
namespace Go.Proofs.Ytnndkdcciojpiaa.Rl
set_option linter.unusedVariables false
set_option linter.unusedSimpArgs false
open Go Go.RowKit Go.Maps
theorem Sat.clAt {w0 w : World} {M : List Nat} {h : List HO} {b : Nat} {T : TypeId} {cs : List Value} (S : Sat w0 M h w) (hh : Has h (.cl b T cs)) : w.heap[b]? = some (.cells cs.toArray T (0, 0)) := (S.ok _ hh.mem).1
theorem Sat.hltC {w0 w : World} {M : List Nat} {h : List HO} {b : Nat} {T : TypeId} {cs : List Value} (S : Sat w0 M h w) (hh : Has h (.cl b T cs)) : b < w.heap.size := (S.ok _ hh.mem).lt rfl
theorem Sat.hltP {w0 w : World} {M : List Nat} {h : List HO} {b : Nat} {φ : Option Obj → Prop} (S : Sat w0 M h w) (hh : Has h (.pr b φ)) : b < w.heap.size := (S.ok _ hh.mem).lt rfl
set_option maxRecDepth 100000 in
theorem e_kept : Ent Try.prog 51 := fun _ _ => rfl
set_option maxRecDepth 8000 in
set_option maxHeartbeats 8000000 in
theorem kept_c {A : Option Addr} {c : Nat} {l : List Ev} (ho : ∀ i, i < l.length → (l.getD i ev0).ok) (hn : l.length ≤ 4096) (w : World) (R : Rd w A 4 l.length (fun i => evC (l.getD i ev0))) : Calls Try.prog 51 #[.slice A l.length c, .func (.func 52) #[] #[]] w (RetP fun v w' => ∃ a : Nat × {c : Nat // c ≤ 4096}, v = .map (some a.1) ∧ Sat w [] [.pr a.1 (MapV Try.prog 9 a.2.1 (reF l))] w') := by
  refine calls_of_cwM (args := [.slice A l.length c, .func (.func 52) #[] #[]]) Try.func51 rfl rfl ?_
  have S := Sat.start [] w
  have O := R.old
  (repeat' (first | apply cw_seq | apply cw_region | apply wl_nil | apply cw_block | (apply x_makeMapV; assumption; exact rfl; exact rfl; exact rfl; intro _ _ _) | (apply x_calln; assumption; exact rfl; exact rfl; exact rfl; exact e_states; (exact (by repeat' constructor)); exact (states_c _ _ _ _); intro _ _ _) | (apply x_assign; exact rfl; exact rfl; (exact (by repeat' constructor))) | (apply x_load; assumption; exact rfl; exact rfl; exact rfl; (exact (by repeat' constructor)); exact rfl; exact rfl; (exact (by repeat' constructor))) | (apply x_box; assumption; exact rfl; exact rfl; (exact (by repeat' constructor)); (exact (by repeat' constructor)); intro _ _ _) | (apply x_alloc; assumption; exact rfl; exact rfl; exact rfl; (exact (by repeat' constructor)); intro _ _ _) | (apply x_store; assumption; exact rfl; exact rfl; (exact (by repeat' constructor)); (exact (by repeat' constructor)); exact rfl; exact rfl; exact rfl; (exact (by repeat' constructor)); intro _ _)))
  rename_i b2 _ _ b3 _ _ bM _ _ b5 _ _ _ _ bN _ _ b6 _ _ _ _ b8 w4 S4
  replace S4 : Sat w [] ([.cl b8 23 [.slice A l.length c]] ++ [.cl b6 73 [.map (some bN)], .pr bN (MapV Try.prog 9 0 (nvF l 0)), .cl b5 73 [.map (some bM)], .pr bM (MapV Try.prog 9 0 (ouF l 0)), .cl b3 103 [.func (.func 52) #[] #[]], .cl b2 23 [.slice A l.length c]]) w4 := S4
  refine cw_range (hi := [.cl b8 23 [.slice A l.length c]]) (h := [.cl b6 73 [.map (some bN)], .pr bN (MapV Try.prog 9 0 (nvF l 0)), .cl b5 73 [.map (some bM)], .pr bM (MapV Try.prog 9 0 (ouF l 0)), .cl b3 103 [.func (.func 52) #[] #[]], .cl b2 23 [.slice A l.length c]]) S4 rfl e_states1 (fun _ => rfl) rfl (states_it O ho hn)
    (fun pre h' => ∃ c1 c2, c1 ≤ pre.length ∧ c2 ≤ pre.length ∧ h' = [.cl b6 73 [.map (some bN)], .pr bN (MapV Try.prog 9 c2 (nvF l pre.length)), .cl b5 73 [.map (some bM)], .pr bM (MapV Try.prog 9 c1 (ouF l pre.length)), .cl b3 103 [.func (.func 52) #[] #[]], .cl b2 23 [.slice A l.length c]]) (fun _ _ _ => False) ⟨0, 0, Nat.le_refl _, Nat.le_refl _, rfl⟩ ?_ ?_ ?_
  all_goals clear S4 S
  · rintro l2 pre x rest fr _ W hx ⟨c1, c2, hc1, hc2, rfl⟩ S1
    have hlen : pre.length < l.length := by
      have h1 := congrArg List.length hx
      rw [stL_len] at h1
      simp only [List.length_append, List.length_cons] at h1
      omega
    have hxi : x = (((l.length - 1 - pre.length : Nat) : Int), ckF l pre.length) := by
      have h1 := stL_at hlen
      rw [hx, List.getD_eq_getElem?_getD, List.getElem?_append_right (Nat.le_refl _), Nat.sub_self] at h1
      exact h1
    subst hxi
    obtain ⟨d, hd⟩ : ∃ d, pre.length = d := ⟨_, rfl⟩
    have hd2 : ∀ y : Int × Int × Int, (pre ++ [y]).length = d + 1 := fun y => by simp [hd]
    rw [hd] at hlen S1 hc1 hc2
    rw [hd]
    replace S1 : Sat w [] (_ :: _ :: _ :: _ :: _ :: _ :: fr) W := S1
    (repeat' (first | apply cw_seq | apply cw_region | apply wl_nil | (apply x_assign; exact rfl; exact rfl; (exact (by repeat' constructor))) | (apply x_alloc; assumption; exact rfl; exact rfl; exact rfl; (exact (by repeat' constructor)); intro _ _ _) | (apply x_store; assumption; exact rfl; exact rfl; (exact (by repeat' constructor)); (exact (by repeat' constructor)); exact rfl; exact rfl; exact rfl; (exact (by repeat' constructor)); intro _ _)))
    rename_i b7 _ _ W2 S5
    refine ⟨_ :: _ :: _ :: _ :: _ :: _ :: _ :: [], S5, fun W2 fr' S2 => ?_⟩
    replace S2 : Sat w [] (.cl b7 72 [.int .i64 (ckF l d).1, .int .i64 (ckF l d).2] :: _ :: _ :: _ :: _ :: _ :: _ :: fr') W2 := S2
    clear S1 S5
    have hin : l.length - 1 - d < l.length := by omega
    have hok := ho (l.length - 1 - d) hin
    by_cases hk3 : (l.getD (l.length - 1 - d) ev0).k = 3
    · have h1 : nevP l d := .inl hk3
      have h2 : ¬ susP l d := fun h => h.1 h1
      (repeat' (first | apply cw_seq | apply cw_region | apply wl_nil | apply cw_block | (apply x_gdec; exact rfl; exact rfl; all_goals (intro _; try omega)) | (apply x_putV; assumption; exact rfl; exact rfl; exact kS; exact rfl; exact rfl; (exact (by repeat' constructor)); (exact (by repeat' constructor)); (exact (by unfold maxLen; omega)); exact keyS hok.hp; intro _ _) | (apply x_not; exact rfl; exact rfl) | (apply x_move; exact rfl; exact rfl; (exact (by repeat' constructor))) | (apply x_assign; exact rfl; exact rfl; (exact (by repeat' constructor))) | (apply x_fieldB; exact rfl; exact rfl; exact rfl; exact rfl; (constructor)) | (apply x_load; assumption; exact rfl; exact rfl; exact rfl; (exact (by repeat' constructor)); exact rfl; exact rfl; (exact (by repeat' constructor))) | (apply x_bin; exact rfl; exact rfl; exact rfl; (first | exact .z (.wrap (by omega)) | exact (by repeat' constructor))) | (apply x_pick; exact rfl; exact rfl; exact rfl; (exact (by repeat' constructor))) | (apply x_alloc; assumption; exact rfl; exact rfl; exact rfl; (exact (by repeat' constructor)); intro _ _ _) | (apply x_store; assumption; exact rfl; exact rfl; (exact (by repeat' constructor)); (exact (by repeat' constructor)); exact rfl; exact rfl; exact rfl; (exact (by repeat' constructor)); intro _ _) | (apply x_index; exact rfl; exact rfl; exact rfl; exact rfl; exact rfl; (constructor); (first | omega | exact size_pos (by assumption) | assumption); (first | exact rfl | assumption | exact Rd.some_ (by assumption) (by omega) | exact Rd.some_ (Old.rd (by assumption)) (by omega) | exact (Sat.rd (by assumption) (by exact (by repeat' constructor))).some_ (by omega))) | (apply x_loadR; exact rfl; exact rfl; exact rfl; (first | exact Old.now (by assumption) (by assumption) | exact Sat.rdpr (by assumption) (by exact (by repeat' constructor)) | exact Sat.rd (by assumption) (by exact (by repeat' constructor))); (first | omega | exact size_pos (by assumption) | assumption); exact rfl; exact rfl; (exact (by repeat' constructor))) | (apply cw_true; exact rfl)))
      have e1 : nvF l (d + 1) = _ := setF_yes h1
      have e2 : ouF l (d + 1) = _ := setF_no h2
      refine ⟨_, ⟨c1, c2 + 1, by rw [hd2]; omega, by rw [hd2]; omega, rfl⟩, ?_⟩
      rw [hd2, e1, e2]
      exact Sat.drop1 (Sat.drop1 (by assumption))
    by_cases hs2 : (ckF l d).2 = 2
    · have h1 : nevP l d := .inr hs2
      have h2 : ¬ susP l d := fun h => h.1 h1
      (repeat' (first | apply cw_seq | apply cw_region | apply wl_nil | apply cw_block | (apply x_gdec; exact rfl; exact rfl; all_goals (intro _; try omega)) | (apply x_putV; assumption; exact rfl; exact rfl; exact kS; exact rfl; exact rfl; (exact (by repeat' constructor)); (exact (by repeat' constructor)); (exact (by unfold maxLen; omega)); exact keyS hok.hp; intro _ _) | (apply x_move; exact rfl; exact rfl; (exact (by repeat' constructor))) | (apply x_assign; exact rfl; exact rfl; (exact (by repeat' constructor))) | (apply x_fieldB; exact rfl; exact rfl; exact rfl; exact rfl; (constructor)) | (apply x_load; assumption; exact rfl; exact rfl; exact rfl; (exact (by repeat' constructor)); exact rfl; exact rfl; (exact (by repeat' constructor))) | (apply x_bin; exact rfl; exact rfl; exact rfl; (first | exact .z (.wrap (by omega)) | exact (by repeat' constructor))) | (apply x_pick; exact rfl; exact rfl; exact rfl; (exact (by repeat' constructor))) | (apply x_alloc; assumption; exact rfl; exact rfl; exact rfl; (exact (by repeat' constructor)); intro _ _ _) | (apply x_store; assumption; exact rfl; exact rfl; (exact (by repeat' constructor)); (exact (by repeat' constructor)); exact rfl; exact rfl; exact rfl; (exact (by repeat' constructor)); intro _ _) | (apply x_index; exact rfl; exact rfl; exact rfl; exact rfl; exact rfl; (constructor); (first | omega | exact size_pos (by assumption) | assumption); (first | exact rfl | assumption | exact Rd.some_ (by assumption) (by omega) | exact Rd.some_ (Old.rd (by assumption)) (by omega) | exact (Sat.rd (by assumption) (by exact (by repeat' constructor))).some_ (by omega))) | (apply x_loadR; exact rfl; exact rfl; exact rfl; (first | exact Old.now (by assumption) (by assumption) | exact Sat.rdpr (by assumption) (by exact (by repeat' constructor)) | exact Sat.rd (by assumption) (by exact (by repeat' constructor))); (first | omega | exact size_pos (by assumption) | assumption); exact rfl; exact rfl; (exact (by repeat' constructor))) | (apply x_dec; exact rfl; all_goals (intro _; try omega))))
      have e1 : nvF l (d + 1) = _ := setF_yes h1
      have e2 : ouF l (d + 1) = _ := setF_no h2
      refine ⟨_, ⟨c1, c2 + 1, by rw [hd2]; omega, by rw [hd2]; omega, rfl⟩, ?_⟩
      rw [hd2, e1, e2]
      exact Sat.drop1 (Sat.drop1 (by assumption))
    have h1 : ¬ nevP l d := fun h => h.elim hk3 hs2
    by_cases hk0 : (l.getD (l.length - 1 - d) ev0).k = 0
    · by_cases hs3 : (ckF l d).2 = 3
      · have h2 : susP l d := ⟨h1, hk0, hs3⟩
        (repeat' (first | apply cw_seq | apply cw_region | apply wl_nil | apply cw_block | (apply x_gdec; exact rfl; exact rfl; all_goals (intro _; try omega)) | (apply x_putV; assumption; exact rfl; exact rfl; exact kS; exact rfl; exact rfl; (exact (by repeat' constructor)); (exact (by repeat' constructor)); (exact (by unfold maxLen; omega)); exact keyS hok.hp; intro _ _) | (apply x_callv; assumption; exact rfl; exact rfl; exact rfl; exact e_recalled1; (exact (by repeat' constructor)); with_reducible exact (recalled1_c (l.getD (l.length - 1 - d) ev0) (ckF l d).2 _); intro _ _ _) | (apply x_move; exact rfl; exact rfl; (exact (by repeat' constructor))) | (apply x_assign; exact rfl; exact rfl; (exact (by repeat' constructor))) | (apply x_fieldB; exact rfl; exact rfl; exact rfl; exact rfl; (constructor)) | (apply x_load; assumption; exact rfl; exact rfl; exact rfl; (exact (by repeat' constructor)); exact rfl; exact rfl; (exact (by repeat' constructor))) | (apply x_bin; exact rfl; exact rfl; exact rfl; (first | exact .z (.wrap (by omega)) | exact (by repeat' constructor))) | (apply x_pick; exact rfl; exact rfl; exact rfl; (exact (by repeat' constructor))) | (apply x_alloc; assumption; exact rfl; exact rfl; exact rfl; (exact (by repeat' constructor)); intro _ _ _) | (apply x_store; assumption; exact rfl; exact rfl; (exact (by repeat' constructor)); (exact (by repeat' constructor)); exact rfl; exact rfl; exact rfl; (exact (by repeat' constructor)); intro _ _) | (apply x_index; exact rfl; exact rfl; exact rfl; exact rfl; exact rfl; (constructor); (first | omega | exact size_pos (by assumption) | assumption); (first | exact rfl | assumption | exact Rd.some_ (by assumption) (by omega) | exact Rd.some_ (Old.rd (by assumption)) (by omega) | exact (Sat.rd (by assumption) (by exact (by repeat' constructor))).some_ (by omega))) | (apply x_loadR; exact rfl; exact rfl; exact rfl; (first | exact Old.now (by assumption) (by assumption) | exact Sat.rdpr (by assumption) (by exact (by repeat' constructor)) | exact Sat.rd (by assumption) (by exact (by repeat' constructor))); (first | omega | exact size_pos (by assumption) | assumption); exact rfl; exact rfl; (exact (by repeat' constructor))) | (apply x_dec; exact rfl; all_goals (intro _; try omega))))
        have e1 : nvF l (d + 1) = _ := setF_no h1
        have e2 : ouF l (d + 1) = _ := setF_yes h2
        refine ⟨_, ⟨c1 + 1, c2, by rw [hd2]; omega, by rw [hd2]; omega, rfl⟩, ?_⟩
        rw [hd2, e1, e2]
        exact Sat.drop1 (Sat.drop1 (by assumption))
      · have h2 : ¬ susP l d := fun h => hs3 h.2.2
        (repeat' (first | apply cw_seq | apply cw_region | apply wl_nil | apply cw_block | apply cw_skip | (apply x_gdec; exact rfl; exact rfl; all_goals (intro _; try omega)) | (apply x_callv; assumption; exact rfl; exact rfl; exact rfl; exact e_recalled1; (exact (by repeat' constructor)); with_reducible exact (recalled1_c (l.getD (l.length - 1 - d) ev0) (ckF l d).2 _); intro _ _ _) | (apply x_move; exact rfl; exact rfl; (exact (by repeat' constructor))) | (apply x_assign; exact rfl; exact rfl; (exact (by repeat' constructor))) | (apply x_fieldB; exact rfl; exact rfl; exact rfl; exact rfl; (constructor)) | (apply x_load; assumption; exact rfl; exact rfl; exact rfl; (exact (by repeat' constructor)); exact rfl; exact rfl; (exact (by repeat' constructor))) | (apply x_bin; exact rfl; exact rfl; exact rfl; (first | exact .z (.wrap (by omega)) | exact (by repeat' constructor))) | (apply x_pick; exact rfl; exact rfl; exact rfl; (exact (by repeat' constructor))) | (apply x_alloc; assumption; exact rfl; exact rfl; exact rfl; (exact (by repeat' constructor)); intro _ _ _) | (apply x_store; assumption; exact rfl; exact rfl; (exact (by repeat' constructor)); (exact (by repeat' constructor)); exact rfl; exact rfl; exact rfl; (exact (by repeat' constructor)); intro _ _) | (apply x_index; exact rfl; exact rfl; exact rfl; exact rfl; exact rfl; (constructor); (first | omega | exact size_pos (by assumption) | assumption); (first | exact rfl | assumption | exact Rd.some_ (by assumption) (by omega) | exact Rd.some_ (Old.rd (by assumption)) (by omega) | exact (Sat.rd (by assumption) (by exact (by repeat' constructor))).some_ (by omega))) | (apply x_loadR; exact rfl; exact rfl; exact rfl; (first | exact Old.now (by assumption) (by assumption) | exact Sat.rdpr (by assumption) (by exact (by repeat' constructor)) | exact Sat.rd (by assumption) (by exact (by repeat' constructor))); (first | omega | exact size_pos (by assumption) | assumption); exact rfl; exact rfl; (exact (by repeat' constructor))) | (apply x_dec; exact rfl; all_goals (intro _; try omega))))
        have e1 : nvF l (d + 1) = _ := setF_no h1
        have e2 : ouF l (d + 1) = _ := setF_no h2
        refine ⟨_, ⟨c1, c2, by rw [hd2]; omega, by rw [hd2]; omega, rfl⟩, ?_⟩
        rw [hd2, e1, e2]
        exact Sat.drop1 (Sat.drop1 (by assumption))
    · have h2 : ¬ susP l d := fun h => hk0 h.2.1
      (repeat' (first | apply cw_seq | apply cw_region | apply wl_nil | apply cw_block | apply cw_skip | (apply x_gdec; exact rfl; exact rfl; all_goals (intro _; try omega)) | (apply x_not; exact rfl; exact rfl) | (apply x_move; exact rfl; exact rfl; (exact (by repeat' constructor))) | (apply x_assign; exact rfl; exact rfl; (exact (by repeat' constructor))) | (apply x_fieldB; exact rfl; exact rfl; exact rfl; exact rfl; (constructor)) | (apply x_load; assumption; exact rfl; exact rfl; exact rfl; (exact (by repeat' constructor)); exact rfl; exact rfl; (exact (by repeat' constructor))) | (apply x_bin; exact rfl; exact rfl; exact rfl; (first | exact .z (.wrap (by omega)) | exact (by repeat' constructor))) | (apply x_pick; exact rfl; exact rfl; exact rfl; (exact (by repeat' constructor))) | (apply x_alloc; assumption; exact rfl; exact rfl; exact rfl; (exact (by repeat' constructor)); intro _ _ _) | (apply x_store; assumption; exact rfl; exact rfl; (exact (by repeat' constructor)); (exact (by repeat' constructor)); exact rfl; exact rfl; exact rfl; (exact (by repeat' constructor)); intro _ _) | (apply x_index; exact rfl; exact rfl; exact rfl; exact rfl; exact rfl; (constructor); (first | omega | exact size_pos (by assumption) | assumption); (first | exact rfl | assumption | exact Rd.some_ (by assumption) (by omega) | exact Rd.some_ (Old.rd (by assumption)) (by omega) | exact (Sat.rd (by assumption) (by exact (by repeat' constructor))).some_ (by omega))) | (apply x_loadR; exact rfl; exact rfl; exact rfl; (first | exact Old.now (by assumption) (by assumption) | exact Sat.rdpr (by assumption) (by exact (by repeat' constructor)) | exact Sat.rd (by assumption) (by exact (by repeat' constructor))); (first | omega | exact size_pos (by assumption) | assumption); exact rfl; exact rfl; (exact (by repeat' constructor))) | (apply cw_false; exact rfl) | (apply x_dec; exact rfl; all_goals (intro _; try omega))))
      have e1 : nvF l (d + 1) = _ := setF_no h1
      have e2 : ouF l (d + 1) = _ := setF_no h2
      refine ⟨_, ⟨c1, c2, by rw [hd2]; omega, by rw [hd2]; omega, rfl⟩, ?_⟩
      rw [hd2, e1, e2]
      exact Sat.drop1 (Sat.drop1 (by assumption))
  · rintro D1 _ W ⟨c1, c2, hc1, hc2, rfl⟩ S1
    rw [stL_len] at S1 hc1 hc2
    replace S1 : Sat w [] (_ :: _ :: _ :: _ :: _ :: _ :: _ :: []) W := S1
    have ap := S1.apart
    have n6 : b6 ≠ bM := fun e => by subst e; simp [Apart, HO.own] at ap
    have n7 : bN ≠ bM := fun e => by subst e; simp [Apart, HO.own] at ap
    have n76 : bN ≠ b6 := fun e => by subst e; simp [Apart, HO.own] at ap
    (repeat' (first | apply cw_seq | apply cw_region | apply wl_nil | apply cw_ret | (apply x_callGrow; assumption; exact rfl; exact rfl; exact rfl; exact e_Delete; (exact (by repeat' constructor)); (with_reducible exact DeleteFunc_c (m := ouF l l.length) (nv := nvF l l.length) (c1 := c1) (c2 := c2) (fun _ _ h => setF_true h) n6 n7 n76 _ (Sat.prAt (by assumption) (by exact (by repeat' constructor))) (Sat.clAt (by assumption) (by exact (by repeat' constructor))) (Sat.prAt (by assumption) (by exact (by repeat' constructor))) (Sat.hltC (b := b6) (by assumption) (by exact (by repeat' constructor))) (Sat.hltP (b := bN) (by assumption) (by exact (by repeat' constructor)))); (exact (by repeat' constructor)); intro w3 S3) | (apply x_assign; exact rfl; exact rfl; (exact (by repeat' constructor))) | (apply x_load; assumption; exact rfl; exact rfl; exact rfl; (exact (by repeat' constructor)); exact rfl; exact rfl; (exact (by repeat' constructor))) | (apply x_makeFunc; exact rfl; exact rfl; (exact (by repeat' constructor)))))
    refine q_retM1 (by assumption) (by exact (by repeat' constructor)) rfl (by repeat (first | exact .nil | (apply RV.tmp; exact (by repeat' constructor)) | (apply RV.cell; exact rfl; exact (by repeat' constructor); exact rfl; exact rfl; exact (by repeat' constructor)))) ?_
    intro w' S2
    exact ⟨(bM, ⟨c1, by omega⟩), rfl, Sat.drop S2 _ (.cons _ (.cons _ (.cons _ (.cons _ (.cons_cons _ (.cons _ (.cons _ (.slnil))))))))⟩
  · rintro D1 _ pre _ W hf
    exact hf.elim
end Go.Proofs.Ytnndkdcciojpiaa.Rl
