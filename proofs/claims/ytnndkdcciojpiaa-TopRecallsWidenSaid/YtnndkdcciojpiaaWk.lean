/- Gauges that are unsure. No statement of the seat is proved here. -/
import Derived.Test.YtnndkdcciojpiaaWj
namespace Go.Proofs.Ytnndkdcciojpiaa.Rl
set_option linter.unusedVariables false
set_option linter.unusedSimpArgs false
open Go Go.RowKit Go.Maps
noncomputable def unF (l : List Ev) : Nat → Lit → Option Value
  | 0 => fun _ => none
  | d + 1 => @ite _ ((ckF l d).2 = 1) (Classical.propDecidable _) (putV (unF l d) (keyL (l.getD (l.length - 1 - d) ev0).g) (.bool true)) (unF l d)
theorem unF_yes {l : List Ev} {d : Nat} (h : (ckF l d).2 = 1) : unF l (d + 1) = putV (unF l d) (keyL (l.getD (l.length - 1 - d) ev0).g) (.bool true) := if_pos h
theorem unF_no {l : List Ev} {d : Nat} (h : ¬ (ckF l d).2 = 1) : unF l (d + 1) = unF l d := if_neg h
theorem unF_mem {l : List Ev} : ∀ {d : Nat} {s : ByteArray}, (unF l d (keyL s)).isSome = true ↔ ∃ e, e < d ∧ (ckF l e).2 = 1 ∧ (l.getD (l.length - 1 - e) ev0).g = s
  | 0, s => by simp [unF]
  | d + 1, s => by
    by_cases h : (ckF l d).2 = 1
    · rw [unF_yes h]
      by_cases hs : (l.getD (l.length - 1 - d) ev0).g = s
      · subst hs
        rw [putV_same]
        simp only [Option.isSome_some, true_iff]
        exact ⟨d, Nat.lt_succ_self _, h, rfl⟩
      · rw [putV_other (fun e => hs (keyL_inj e).symm), unF_mem]
        constructor
        · rintro ⟨e, h1, h2, h3⟩; exact ⟨e, Nat.lt_succ_of_lt h1, h2, h3⟩
        · rintro ⟨e, h1, h2, h3⟩
          rcases Nat.lt_succ_iff_lt_or_eq.1 h1 with h4 | rfl
          · exact ⟨e, h4, h2, h3⟩
          · exact absurd h3 hs
    · rw [unF_no h, unF_mem]
      constructor
      · rintro ⟨e, h1, h2, h3⟩; exact ⟨e, Nat.lt_succ_of_lt h1, h2, h3⟩
      · rintro ⟨e, h1, h2, h3⟩
        rcases Nat.lt_succ_iff_lt_or_eq.1 h1 with h4 | rfl
        · exact ⟨e, h4, h2, h3⟩
        · exact absurd h2 h
set_option maxRecDepth 100000 in
theorem e_Unsure : Ent Try.prog 9 := fun _ _ => rfl
set_option maxRecDepth 8000 in
set_option maxHeartbeats 8000000 in
theorem Unsure_c {A : Option Addr} {c : Nat} {l : List Ev} (hl : l.length ≤ c) (ho : ∀ i, i < l.length → (l.getD i ev0).ok) (hR : RightL l) (w : World) (R : Rd w A 4 l.length (fun i => evC (l.getD i ev0))) : Calls Try.prog 9 #[.slice A l.length c] w (RetP fun v w' => ∃ a : NamesOf (unF l l.length), v = .tuple #[a.sl, .int .i64 0] ∧ Sat w [] [a.ho] w') := by
  refine calls_of_cwM (args := [.slice A l.length c]) Try.func9 rfl rfl ?_
  have S := Sat.start [] w
  have O := R.old
  have hn := hR.n
  (repeat' (first | apply cw_seq | apply cw_region | apply wl_nil | apply cw_block | apply cw_skip | (apply x_callv; assumption; exact rfl; exact rfl; exact rfl; exact e_pCheckL; (exact (by repeat' constructor)); with_reducible exact (pCheckL_t hl ho hR _ (Old.now O (by assumption))); intro _ _ _) | (apply x_makeMapV; assumption; exact rfl; exact rfl; exact rfl; intro bM _ _) | (apply x_calln; assumption; exact rfl; exact rfl; exact rfl; exact e_states; (exact (by repeat' constructor)); exact (states_c _ _ _ _); intro _ _ _) | (apply x_move; exact rfl; exact rfl; (exact (by repeat' constructor))) | (apply x_assign; exact rfl; exact rfl; (exact (by repeat' constructor))) | (apply x_load; assumption; exact rfl; exact rfl; exact rfl; (exact (by repeat' constructor)); exact rfl; exact rfl; (exact (by repeat' constructor))) | (apply x_bin; exact rfl; exact rfl; exact rfl; (first | exact .z (.wrap (by omega)) | exact (by repeat' constructor))) | (apply x_box; assumption; exact rfl; exact rfl; (exact (by repeat' constructor)); (exact (by repeat' constructor)); intro _ _ _) | (apply x_alloc; assumption; exact rfl; exact rfl; exact rfl; (exact (by repeat' constructor)); intro _ _ _) | (apply x_store; assumption; exact rfl; exact rfl; (exact (by repeat' constructor)); (exact (by repeat' constructor)); exact rfl; exact rfl; exact rfl; (exact (by repeat' constructor)); intro _ _) | (apply cw_false; exact rfl)))
  rename_i b1 _ _ _ _ _ _ _ b5 _ _ _ _ b8 w4 S4
  replace S4 : Sat w [] ([.cl b8 23 [.slice A l.length c]] ++ [.cl b5 73 [.map (some bM)], .pr bM (MapV Try.prog 9 0 (unF l 0)), .cl b1 23 [.slice A l.length c]]) w4 := S4
  refine cw_range (hi := [.cl b8 23 [.slice A l.length c]]) (h := [.cl b5 73 [.map (some bM)], .pr bM (MapV Try.prog 9 0 (unF l 0)), .cl b1 23 [.slice A l.length c]]) S4 rfl e_states1 (fun _ => rfl) rfl (states_it O ho hn)
    (fun pre h' => ∃ c1, c1 ≤ pre.length ∧ h' = [.cl b5 73 [.map (some bM)], .pr bM (MapV Try.prog 9 c1 (unF l pre.length)), .cl b1 23 [.slice A l.length c]]) (fun _ _ _ => False) ⟨0, Nat.le_refl _, rfl⟩ ?_ ?_ ?_
  all_goals clear S4 S
  · rintro l2 pre x rest fr _ W hx ⟨c1, hc1, rfl⟩ S1
    have hlen : pre.length < l.length := by
      have h1 := congrArg List.length hx
      rw [stL_len] at h1
      simp only [List.length_append, List.length_cons] at h1
      omega
    have hxi : x = (((l.length - 1 - pre.length : Nat) : Int), ckF l pre.length) := by
      have h1 := stL_at hlen
      rw [hx, List.getD_eq_getElem?_getD, List.getElem?_append_right (Nat.le_refl _), Nat.sub_self] at h1
      exact h1
    subst hxi
    obtain ⟨d, hd⟩ : ∃ d, pre.length = d := ⟨_, rfl⟩
    have hd2 : ∀ y : Int × Int × Int, (pre ++ [y]).length = d + 1 := fun y => by simp [hd]
    rw [hd] at hlen S1 hc1
    rw [hd]
    replace S1 : Sat w [] (_ :: _ :: _ :: fr) W := S1
    (repeat' (first | apply cw_seq | apply cw_region | apply wl_nil | (apply x_assign; exact rfl; exact rfl; (exact (by repeat' constructor))) | (apply x_alloc; assumption; exact rfl; exact rfl; exact rfl; (exact (by repeat' constructor)); intro _ _ _) | (apply x_store; assumption; exact rfl; exact rfl; (exact (by repeat' constructor)); (exact (by repeat' constructor)); exact rfl; exact rfl; exact rfl; (exact (by repeat' constructor)); intro _ _)))
    rename_i b7 _ _ W2 S5
    refine ⟨_ :: _ :: _ :: _ :: [], S5, fun W2 fr' S2 => ?_⟩
    replace S2 : Sat w [] (.cl b7 72 [.int .i64 (ckF l d).1, .int .i64 (ckF l d).2] :: _ :: _ :: _ :: fr') W2 := S2
    clear S1 S5
    have hin : l.length - 1 - d < l.length := by omega
    have hok := ho (l.length - 1 - d) hin
    by_cases hk : (ckF l d).2 = 1
    · (repeat' (first | apply cw_seq | apply cw_region | apply wl_nil | apply cw_block | (apply z2_putV; exact rfl; exact rfl; exact kS; exact rfl; exact rfl; (exact (by repeat' constructor)); (exact (by repeat' constructor)); (exact (by unfold maxLen; omega)); exact keyS hok.hg) | (apply cw_draw (id := 9) [(0, 0), (1, 0), (2, 0), (3, 0), (4, 0), (5, 0), (6, 2)]; assumption; exact mixed; kernel_rfl) | (apply x_fieldB; exact rfl; exact rfl; exact rfl; exact rfl; (constructor)) | (apply x_load; assumption; exact rfl; exact rfl; exact rfl; (exact (by repeat' constructor)); exact rfl; exact rfl; (exact (by repeat' constructor))) | (apply x_bin; exact rfl; exact rfl; exact rfl; (first | exact .z (.wrap (by omega)) | exact (by repeat' constructor))) | (apply y_move; exact rfl; (exact (by repeat' constructor))) | (apply y_load; exact rfl; exact rfl; (exact (by repeat' constructor)); exact rfl; exact rfl; (exact (by repeat' constructor))) | (apply y_fieldE; exact rfl; exact rfl; exact rfl; (constructor)) | (apply y_index; exact rfl; exact rfl; exact rfl; exact rfl; (constructor); (first | omega | exact size_pos (by assumption) | assumption); (first | exact rfl | assumption | exact Rd.some_ (by assumption) (by omega) | exact Rd.some_ (Old.rd (by assumption)) (by omega) | exact (Sat.rd (by assumption) (by exact (by repeat' constructor))).some_ (by omega))) | (apply y_loadR; exact rfl; exact rfl; assumption; (first | omega | exact size_pos (by assumption) | assumption); exact rfl; exact rfl; (exact (by repeat' constructor))) | (apply y_nil; intro _ _) | (apply x_dec; exact rfl; all_goals (intro _; try omega))))
      refine ⟨_, ⟨c1 + 1, by rw [hd2]; omega, rfl⟩, ?_⟩
      rw [hd2, unF_yes hk]
      exact Sat.drop1 (by assumption)
    · (repeat' (first | apply cw_seq | apply cw_region | apply wl_nil | apply cw_block | apply cw_skip | (apply x_fieldB; exact rfl; exact rfl; exact rfl; exact rfl; (constructor)) | (apply x_load; assumption; exact rfl; exact rfl; exact rfl; (exact (by repeat' constructor)); exact rfl; exact rfl; (exact (by repeat' constructor))) | (apply x_bin; exact rfl; exact rfl; exact rfl; (first | exact .z (.wrap (by omega)) | exact (by repeat' constructor))) | (apply x_dec; exact rfl; all_goals (intro _; try omega))))
      refine ⟨_, ⟨c1, by rw [hd2]; omega, rfl⟩, ?_⟩
      rw [hd2, unF_no hk]
      exact Sat.drop1 (by assumption)
  · rintro D1 _ W ⟨c1, hc1, rfl⟩ S1
    rw [stL_len] at S1 hc1
    replace S1 : Sat w [] (_ :: _ :: _ :: _ :: []) W := S1
    (repeat' (first | apply cw_seq | apply cw_region | apply wl_nil | apply cw_ret | (apply x_callT (hs := fun a : NamesOf (unF l l.length) => [a.ho]) (V := fun a => a.sl); assumption; exact rfl; exact rfl; exact rfl; exact e_sorted; (exact (by repeat' constructor)); (with_reducible exact sorted_c (m := unF l l.length) (c := c1) (by omega) _ (Sat.prAt (by assumption) (by exact (by repeat' constructor)))); rintro a w3 S3) | (apply x_assign; exact rfl; exact rfl; (exact (by repeat' constructor))) | (apply x_load; assumption; exact rfl; exact rfl; exact rfl; (exact (by repeat' constructor)); exact rfl; exact rfl; (exact (by repeat' constructor)))))
    refine q_retM1 (by assumption) (by exact (by repeat' constructor)) rfl (by repeat (first | exact .nil | (apply RV.tmp; exact (by repeat' constructor)) | (apply RV.cell; exact rfl; exact (by repeat' constructor); exact rfl; exact rfl; exact (by repeat' constructor)))) ?_
    intro w' S2
    exact ⟨a, rfl, Sat.drop S2 _ (.cons _ (.cons _ (.cons _ (.cons _ (List.Sublist.refl _)))))⟩
  · rintro D1 _ pre _ W hf
    exact hf.elim
end Go.Proofs.Ytnndkdcciojpiaa.Rl
