/- States of measurements: the walk of the iterator. No statement of the seat is proved here. -/
import Derived.Test.YtnndkdcciojpiaaWf
namespace Go.Proofs.Ytnndkdcciojpiaa.Rl
set_option linter.unusedVariables false
set_option linter.unusedSimpArgs false
open Go Go.RowKit Go.Maps
theorem q_endM1 {P : Program} {f : Fm} {w w0 : World} {M : List Nat} {h : List HO} {fn : Func} {R : Value → World → Prop} {rs : List ResultVar} {vs : List Value} {D1 : Nat} {F : HO → List HO} (S : Sat w0 M h w) (hh : RepF h (.pr D1 (Just (.deferred (some [])))) F) (hf : fn.results = rs.toArray) (hr : RV P f (F (.pr D1 (fun _ => True))) rs vs)
    (hR : ∀ w', Sat w0 M (F (.pr D1 (fun _ => True))) w' → R (pack vs) w') : retQM P fn R .normal [mark D1] f w := q_retM1 S hh hf hr hR
abbrev stC (x : Int × Int × Int) : List Value := [.int .i64 x.1, ckV x.2]
set_option maxRecDepth 100000 in
theorem e_states : Ent Try.prog 27 := fun _ _ => rfl
set_option maxRecDepth 100000 in
theorem e_states1 : Ent Try.prog 46 := fun _ _ => rfl
set_option maxRecDepth 8000 in
set_option maxHeartbeats 16000000 in
theorem states_it {w0 : World} {M : List Nat} {b1 c : Nat} {A : Option Addr} {l : List Ev} (O : Old w0 M A 4 l.length (fun i => evC (l.getD i ev0))) (ho : ∀ i, i < l.length → (l.getD i ev0).ok) (hl : l.length ≤ 4096) :
    Iter Try.prog 46 [.pointer (some ⟨b1, 0, none⟩)] stC (stL l) w0 M [.cl b1 23 [.slice A l.length c]] := by
  intro l' J Jx hY h W h0 S
  refine calls_of_cwM (args := [.func (.yield l') #[] #[], .pointer (some ⟨b1, 0, none⟩)]) Try.func46 rfl rfl ?_
  replace S : Sat w0 M (_ :: h) W := S
  (repeat' (first | apply cw_seq | apply cw_region | apply wl_nil | apply cw_block | (apply x_makeMapV; assumption; exact rfl; exact rfl; exact rfl; intro _ _ _) | (apply x_calln; assumption; exact rfl; exact rfl; exact rfl; exact e_Backward; (exact (by repeat' constructor)); exact (Backward_c _ _ _ _); intro _ _ _) | (apply x_load; assumption; exact rfl; exact rfl; exact rfl; (exact (by repeat' constructor)); exact rfl; exact rfl; (exact (by repeat' constructor))) | (apply x_box; assumption; exact rfl; exact rfl; (exact (by repeat' constructor)); (exact (by repeat' constructor)); intro _ _ _) | (apply x_alloc; assumption; exact rfl; exact rfl; exact rfl; (exact (by repeat' constructor)); intro _ _ _) | (apply x_store; assumption; exact rfl; exact rfl; (exact (by repeat' constructor)); (exact (by repeat' constructor)); exact rfl; exact rfl; exact rfl; (exact (by repeat' constructor)); intro _ _)))
  rename_i b2 _ _ bM _ _ b3 _ _ _ _ bB w4 S4
  replace S4 : Sat w0 M ([.cl bB 23 [.slice A l.length c]] ++ ([.cl b3 92 [.map (some bM)], .pr bM (MapV Try.prog 9 0 (mF l 0)), .cl b2 91 [.func (.yield l') #[] #[]], .cl b1 23 [.slice A l.length c]] ++ h)) w4 := S4
  refine cw_range (hi := [.cl bB 23 [.slice A l.length c]]) (h := [.cl b3 92 [.map (some bM)], .pr bM (MapV Try.prog 9 0 (mF l 0)), .cl b2 91 [.func (.yield l') #[] #[]], .cl b1 23 [.slice A l.length c]] ++ h) S4 rfl e_Backward1 (fun _ => rfl) rfl (back_it rfl O (by omega))
    (fun pre h' => ∃ c1 hh, c1 ≤ pre.length ∧ J ((stL l).take pre.length) hh ∧ h' = [.cl b3 92 [.map (some bM)], .pr bM (MapV Try.prog 9 c1 (mF l pre.length)), .cl b2 91 [.func (.yield l') #[] #[]], .cl b1 23 [.slice A l.length c]] ++ hh)
    (fun cd pre h' => cd = .ret ∧ ∃ c1 hh, Jx ((stL l).take pre.length) hh ∧ h' = [.cl b3 92 [.map (some bM)], .pr bM (MapV Try.prog 9 c1 (mF l pre.length)), .cl b2 91 [.func (.yield l') #[] #[]], .cl b1 23 [.slice A l.length c]] ++ hh) ⟨0, h, Nat.le_refl _, h0, rfl⟩ ?_ ?_ ?_
  all_goals clear S4 S
  · rintro l2 pre x rest fr _ W hx ⟨c1, hh, hc1, hJ, rfl⟩ S1
    replace S1 : Sat w0 M (_ :: _ :: _ :: _ :: (hh ++ fr)) W := S1
    have hlen : pre.length < l.length := by
      have h1 := congrArg List.length hx
      rw [bwE_len] at h1
      simp only [List.length_append, List.length_cons] at h1
      omega
    have hxi : x = (((l.length - 1 - pre.length : Nat) : Int), l.getD (l.length - 1 - pre.length) ev0) := by
      have h1 := bwE_at hlen
      rw [hx, List.getD_eq_getElem?_getD, List.getElem?_append_right (Nat.le_refl _), Nat.sub_self] at h1
      exact h1
    subst hxi
    obtain ⟨d, hd⟩ : ∃ d, pre.length = d := ⟨_, rfl⟩
    have hd2 : ∀ y : Int × Ev, (pre ++ [y]).length = d + 1 := fun y => by simp [hd]
    rw [hd] at hlen hc1 hJ S1
    rw [hd]
    have hok := ho (l.length - 1 - d) (by omega)
    (repeat' (first | apply cw_seq | apply cw_region | apply wl_nil | (apply x_assign; exact rfl; exact rfl; (exact (by repeat' constructor))) | (apply x_alloc; assumption; exact rfl; exact rfl; exact rfl; (exact (by repeat' constructor)); intro _ _ _) | (apply x_store; assumption; exact rfl; exact rfl; (exact (by repeat' constructor)); (exact (by repeat' constructor)); exact rfl; exact rfl; exact rfl; (exact (by repeat' constructor)); intro _ _)))
    rename_i b5 _ _ w5 S5
    refine ⟨_ :: _ :: _ :: _ :: _ :: hh, S5, fun W2 fr' S2 => ?_⟩
    have S3 : Sat w0 M (_ :: _ :: _ :: _ :: _ :: (fr' ++ hh)) W2 := S2.perm' (.cons _ (.cons _ (.cons _ (.cons _ (.cons _ List.perm_append_comm)))))
    replace S3 : Sat w0 M (.cl b5 37 (evC (l.getD (l.length - 1 - d) ev0)) :: _ :: _ :: _ :: _ :: (fr' ++ hh)) W2 := S3
    clear S1 S5 S2
    have hdl : d < (stL l).length := by rw [stL_len]; exact hlen
    have hYn : ∀ {a s : Int}, ckF l d = (a, s) → ∀ fr h W, J ((stL l).take d) h → Sat w0 M (fr ++ h) W → YieldR Try.prog l' [.int .i64 ((l.length - 1 - d : Nat) : Int), .agg #[.int .i64 a, .int .i64 s]] W (fun b W' => ∃ h', Sat w0 M (fr ++ h') W' ∧ ((b = true ∧ J ((stL l).take (d + 1)) h') ∨ (b = false ∧ Jx ((stL l).take (d + 1)) h'))) := by
      intro a s has fr h W hj hs
      have := hY _ _ _ fr h W (take_splD (d := (0, 0, 0)) hdl) hj hs
      rw [← take_sucD (d := (0, 0, 0)) hdl, stL_at hlen, has] at this
      exact this
    by_cases hk1 : (l.getD (l.length - 1 - d) ev0).k = 1
    · have hck := ckF_other (l := l) (d := d) (by omega)
      have hmp : mF l (d + 1) = putV (mF l d) (keyL (l.getD (l.length - 1 - d) ev0).g) (.agg #[.int .i64 ((l.length - 1 - d : Nat) : Int), .int .i64 2]) := by rw [mF_put (.inl hk1), hk1]; rfl
      (repeat' (first | apply cw_seq | apply cw_region | apply wl_nil | apply cw_block | apply cw_skip | apply cw_ret | (apply x_putV; assumption; exact rfl; exact rfl; exact kS; exact rfl; exact rfl; (exact (by repeat' constructor)); (exact (by repeat' constructor)); (exact (by unfold maxLen; omega)); exact keyS hok.hg; intro _ _) | (apply x_yield; exact rfl; exact rfl; exact rfl; (exact (by repeat' constructor)); exact hYn hck (_ :: _ :: _ :: _ :: _ :: _ :: fr') _ _ hJ (by assumption); rintro _ w7 ⟨h7, S7, ⟨rfl, hJ7⟩ | ⟨rfl, hJ7⟩⟩ <;> replace S7 : Sat w0 M (_ :: _ :: _ :: _ :: _ :: _ :: (fr' ++ h7)) w7 := S7) | (apply x_move; exact rfl; exact rfl; (exact (by repeat' constructor))) | (apply x_assign; exact rfl; exact rfl; (exact (by repeat' constructor))) | (apply x_fieldB; exact rfl; exact rfl; exact rfl; exact rfl; (constructor)) | (apply x_load; assumption; exact rfl; exact rfl; exact rfl; (exact (by repeat' constructor)); exact rfl; exact rfl; (exact (by repeat' constructor))) | (apply x_bin; exact rfl; exact rfl; exact rfl; (first | exact .z (.wrap (by omega)) | exact (by repeat' constructor))) | (apply x_un; exact rfl; exact rfl; exact rfl; (first | exact .z (.wrap (by omega)) | exact (by repeat' constructor))) | (apply x_alloc; assumption; exact rfl; exact rfl; exact rfl; (exact (by repeat' constructor)); intro _ _ _) | (apply x_store; assumption; exact rfl; exact rfl; (exact (by repeat' constructor)); (exact (by repeat' constructor)); exact rfl; exact rfl; exact rfl; (exact (by repeat' constructor)); intro _ _) | (apply x_build; exact rfl; exact rfl; exact rfl; (exact (by repeat' constructor))) | (apply cw_true; exact rfl) | (apply cw_false; exact rfl) | (apply x_dec; exact rfl; all_goals (intro _; try omega))))
      all_goals first
        | (exfalso; omega)
        | skip
      · have S8 := Sat.drop S7 (_ :: _ :: _ :: _ :: (fr' ++ h7)) (.cons _ (.cons _ (List.Sublist.refl _)))
        refine ⟨_, ⟨c1 + 1, h7, by rw [hd2]; omega, by rw [hd2]; exact hJ7, rfl⟩, ?_⟩
        rw [hd2, hmp]
        exact S8.perm' (.cons _ (.cons _ (.cons _ (.cons _ List.perm_append_comm))))
      · have S8 := Sat.drop S7 (_ :: _ :: _ :: _ :: (fr' ++ h7)) (.cons _ (.cons _ (List.Sublist.refl _)))
        refine ⟨_, ⟨rfl, c1 + 1, h7, by rw [hd2]; exact hJ7, rfl⟩, ?_⟩
        rw [hd2, hmp]
        exact S8.perm' (.cons _ (.cons _ (.cons _ (.cons _ List.perm_append_comm))))
    · by_cases hk2 : (l.getD (l.length - 1 - d) ev0).k = 2
      · have hck := ckF_other (l := l) (d := d) (by omega)
        have hmp : mF l (d + 1) = putV (mF l d) (keyL (l.getD (l.length - 1 - d) ev0).g) (.agg #[.int .i64 ((l.length - 1 - d : Nat) : Int), .int .i64 3]) := by rw [mF_put (.inr hk2), hk2]; rfl
        (repeat' (first | apply cw_seq | apply cw_region | apply wl_nil | apply cw_block | apply cw_skip | apply cw_ret | (apply x_putV; assumption; exact rfl; exact rfl; exact kS; exact rfl; exact rfl; (exact (by repeat' constructor)); (exact (by repeat' constructor)); (exact (by unfold maxLen; omega)); exact keyS hok.hg; intro _ _) | (apply x_yield; exact rfl; exact rfl; exact rfl; (exact (by repeat' constructor)); exact hYn hck (_ :: _ :: _ :: _ :: _ :: _ :: fr') _ _ hJ (by assumption); rintro _ w7 ⟨h7, S7, ⟨rfl, hJ7⟩ | ⟨rfl, hJ7⟩⟩ <;> replace S7 : Sat w0 M (_ :: _ :: _ :: _ :: _ :: _ :: (fr' ++ h7)) w7 := S7) | (apply x_move; exact rfl; exact rfl; (exact (by repeat' constructor))) | (apply x_assign; exact rfl; exact rfl; (exact (by repeat' constructor))) | (apply x_fieldB; exact rfl; exact rfl; exact rfl; exact rfl; (constructor)) | (apply x_load; assumption; exact rfl; exact rfl; exact rfl; (exact (by repeat' constructor)); exact rfl; exact rfl; (exact (by repeat' constructor))) | (apply x_bin; exact rfl; exact rfl; exact rfl; (first | exact .z (.wrap (by omega)) | exact (by repeat' constructor))) | (apply x_un; exact rfl; exact rfl; exact rfl; (first | exact .z (.wrap (by omega)) | exact (by repeat' constructor))) | (apply x_alloc; assumption; exact rfl; exact rfl; exact rfl; (exact (by repeat' constructor)); intro _ _ _) | (apply x_store; assumption; exact rfl; exact rfl; (exact (by repeat' constructor)); (exact (by repeat' constructor)); exact rfl; exact rfl; exact rfl; (exact (by repeat' constructor)); intro _ _) | (apply x_build; exact rfl; exact rfl; exact rfl; (exact (by repeat' constructor))) | (apply cw_true; exact rfl) | (apply cw_false; exact rfl) | (apply x_dec; exact rfl; all_goals (intro _; try omega))))
        all_goals first
          | (exfalso; omega)
          | skip
        · have S8 := Sat.drop S7 (_ :: _ :: _ :: _ :: (fr' ++ h7)) (.cons _ (.cons _ (List.Sublist.refl _)))
          refine ⟨_, ⟨c1 + 1, h7, by rw [hd2]; omega, by rw [hd2]; exact hJ7, rfl⟩, ?_⟩
          rw [hd2, hmp]
          exact S8.perm' (.cons _ (.cons _ (.cons _ (.cons _ List.perm_append_comm))))
        · have S8 := Sat.drop S7 (_ :: _ :: _ :: _ :: (fr' ++ h7)) (.cons _ (.cons _ (List.Sublist.refl _)))
          refine ⟨_, ⟨rfl, c1 + 1, h7, by rw [hd2]; exact hJ7, rfl⟩, ?_⟩
          rw [hd2, hmp]
          exact S8.perm' (.cons _ (.cons _ (.cons _ (.cons _ List.perm_append_comm))))
      · have hmp : mF l (d + 1) = mF l d := mF_skip (by omega)
        by_cases hk0 : (l.getD (l.length - 1 - d) ev0).k = 0
        · cases hT : tF l d (keyL (l.getD (l.length - 1 - d) ev0).g) with
          | none =>
            have hck := ckF_none hk0 hT
            have hv : (mF l d (keyL (l.getD (l.length - 1 - d) ev0).g)).getD (.agg #[.int .i64 0, .int .i64 0]) = .agg #[.int .i64 0, .int .i64 0] := by unfold mF; rw [hT]; rfl
            have hs : (mF l d (keyL (l.getD (l.length - 1 - d) ev0).g)).isSome = false := by unfold mF; rw [hT]; rfl
            (repeat' (first | apply cw_seq | apply cw_region | apply wl_nil | apply cw_block | apply cw_skip | apply cw_ret | (apply x_lookVok; exact rfl; exact rfl; exact rfl; exact kS; exact rfl; exact rfl; exact Sat.prAt (by assumption) (by exact (by repeat' constructor)); exact keyS hok.hg; exact trivial; exact hv; exact hs) | (apply x_yield; exact rfl; exact rfl; exact rfl; (exact (by repeat' constructor)); exact hYn hck (_ :: _ :: _ :: _ :: _ :: _ :: _ :: fr') _ _ hJ (by assumption); rintro _ w7 ⟨h7, S7, ⟨rfl, hJ7⟩ | ⟨rfl, hJ7⟩⟩ <;> replace S7 : Sat w0 M (_ :: _ :: _ :: _ :: _ :: _ :: _ :: (fr' ++ h7)) w7 := S7) | (apply x_move; exact rfl; exact rfl; (exact (by repeat' constructor))) | (apply x_assign; exact rfl; exact rfl; (exact (by repeat' constructor))) | (apply x_fieldB; exact rfl; exact rfl; exact rfl; exact rfl; (constructor)) | (apply x_load; assumption; exact rfl; exact rfl; exact rfl; (exact (by repeat' constructor)); exact rfl; exact rfl; (exact (by repeat' constructor))) | (apply x_bin; exact rfl; exact rfl; exact rfl; (first | exact .z (.wrap (by omega)) | exact (by repeat' constructor))) | (apply x_un; exact rfl; exact rfl; exact rfl; (first | exact .z (.wrap (by omega)) | exact (by repeat' constructor))) | (apply x_alloc; assumption; exact rfl; exact rfl; exact rfl; (exact (by repeat' constructor)); intro _ _ _) | (apply x_store; assumption; exact rfl; exact rfl; (exact (by repeat' constructor)); (exact (by repeat' constructor)); exact rfl; exact rfl; exact rfl; (exact (by repeat' constructor)); intro _ _) | (apply x_build; exact rfl; exact rfl; exact rfl; (exact (by repeat' constructor))) | (apply x_extract; exact rfl; exact rfl; exact rfl; (exact (by repeat' constructor))) | (apply cw_true; exact rfl) | (apply cw_false; exact rfl) | (apply x_dec; exact rfl; all_goals (intro _; try omega))))
            all_goals first
              | (exfalso; omega)
              | skip
            · have S8 := Sat.drop S7 (_ :: _ :: _ :: _ :: (fr' ++ h7)) (.cons _ (.cons _ (.cons _ (List.Sublist.refl _))))
              refine ⟨_, ⟨c1, h7, by rw [hd2]; omega, by rw [hd2]; exact hJ7, rfl⟩, ?_⟩
              rw [hd2, hmp]
              exact S8.perm' (.cons _ (.cons _ (.cons _ (.cons _ List.perm_append_comm))))
            · have S8 := Sat.drop S7 (_ :: _ :: _ :: _ :: (fr' ++ h7)) (.cons _ (.cons _ (.cons _ (List.Sublist.refl _))))
              refine ⟨_, ⟨rfl, c1, h7, by rw [hd2]; exact hJ7, rfl⟩, ?_⟩
              rw [hd2, hmp]
              exact S8.perm' (.cons _ (.cons _ (.cons _ (.cons _ List.perm_append_comm))))
          | some x =>
            obtain ⟨a, s⟩ := x
            have hck := ckF_some hk0 hT
            have hv : (mF l d (keyL (l.getD (l.length - 1 - d) ev0).g)).getD (.agg #[.int .i64 0, .int .i64 0]) = .agg #[.int .i64 a, .int .i64 s] := by unfold mF; rw [hT]; rfl
            have hs : (mF l d (keyL (l.getD (l.length - 1 - d) ev0).g)).isSome = true := by unfold mF; rw [hT]; rfl
            (repeat' (first | apply cw_seq | apply cw_region | apply wl_nil | apply cw_block | apply cw_skip | apply cw_ret | (apply x_lookVok; exact rfl; exact rfl; exact rfl; exact kS; exact rfl; exact rfl; exact Sat.prAt (by assumption) (by exact (by repeat' constructor)); exact keyS hok.hg; exact trivial; exact hv; exact hs) | (apply x_yield; exact rfl; exact rfl; exact rfl; (exact (by repeat' constructor)); exact hYn hck (_ :: _ :: _ :: _ :: _ :: _ :: _ :: fr') _ _ hJ (by assumption); rintro _ w7 ⟨h7, S7, ⟨rfl, hJ7⟩ | ⟨rfl, hJ7⟩⟩ <;> replace S7 : Sat w0 M (_ :: _ :: _ :: _ :: _ :: _ :: _ :: (fr' ++ h7)) w7 := S7) | (apply x_move; exact rfl; exact rfl; (exact (by repeat' constructor))) | (apply x_assign; exact rfl; exact rfl; (exact (by repeat' constructor))) | (apply x_fieldB; exact rfl; exact rfl; exact rfl; exact rfl; (constructor)) | (apply x_load; assumption; exact rfl; exact rfl; exact rfl; (exact (by repeat' constructor)); exact rfl; exact rfl; (exact (by repeat' constructor))) | (apply x_bin; exact rfl; exact rfl; exact rfl; (first | exact .z (.wrap (by omega)) | exact (by repeat' constructor))) | (apply x_un; exact rfl; exact rfl; exact rfl; (first | exact .z (.wrap (by omega)) | exact (by repeat' constructor))) | (apply x_alloc; assumption; exact rfl; exact rfl; exact rfl; (exact (by repeat' constructor)); intro _ _ _) | (apply x_store; assumption; exact rfl; exact rfl; (exact (by repeat' constructor)); (exact (by repeat' constructor)); exact rfl; exact rfl; exact rfl; (exact (by repeat' constructor)); intro _ _) | (apply x_build; exact rfl; exact rfl; exact rfl; (exact (by repeat' constructor))) | (apply x_extract; exact rfl; exact rfl; exact rfl; (exact (by repeat' constructor))) | (apply cw_true; exact rfl) | (apply cw_false; exact rfl) | (apply x_dec; exact rfl; all_goals (intro _; try omega))))
            all_goals first
              | (exfalso; omega)
              | skip
            · have S8 := Sat.drop S7 (_ :: _ :: _ :: _ :: (fr' ++ h7)) (.cons _ (.cons _ (.cons _ (List.Sublist.refl _))))
              refine ⟨_, ⟨c1, h7, by rw [hd2]; omega, by rw [hd2]; exact hJ7, rfl⟩, ?_⟩
              rw [hd2, hmp]
              exact S8.perm' (.cons _ (.cons _ (.cons _ (.cons _ List.perm_append_comm))))
            · have S8 := Sat.drop S7 (_ :: _ :: _ :: _ :: (fr' ++ h7)) (.cons _ (.cons _ (.cons _ (List.Sublist.refl _))))
              refine ⟨_, ⟨rfl, c1, h7, by rw [hd2]; exact hJ7, rfl⟩, ?_⟩
              rw [hd2, hmp]
              exact S8.perm' (.cons _ (.cons _ (.cons _ (.cons _ List.perm_append_comm))))
        · have hck := ckF_other (l := l) (d := d) hk0
          (repeat' (first | apply cw_seq | apply cw_region | apply wl_nil | apply cw_block | apply cw_skip | apply cw_ret | (apply x_yield; exact rfl; exact rfl; exact rfl; (exact (by repeat' constructor)); exact hYn hck (_ :: _ :: _ :: _ :: _ :: _ :: fr') _ _ hJ (by assumption); rintro _ w7 ⟨h7, S7, ⟨rfl, hJ7⟩ | ⟨rfl, hJ7⟩⟩ <;> replace S7 : Sat w0 M (_ :: _ :: _ :: _ :: _ :: _ :: (fr' ++ h7)) w7 := S7) | (apply x_move; exact rfl; exact rfl; (exact (by repeat' constructor))) | (apply x_assign; exact rfl; exact rfl; (exact (by repeat' constructor))) | (apply x_fieldB; exact rfl; exact rfl; exact rfl; exact rfl; (constructor)) | (apply x_load; assumption; exact rfl; exact rfl; exact rfl; (exact (by repeat' constructor)); exact rfl; exact rfl; (exact (by repeat' constructor))) | (apply x_bin; exact rfl; exact rfl; exact rfl; (first | exact .z (.wrap (by omega)) | exact (by repeat' constructor))) | (apply x_un; exact rfl; exact rfl; exact rfl; (first | exact .z (.wrap (by omega)) | exact (by repeat' constructor))) | (apply x_alloc; assumption; exact rfl; exact rfl; exact rfl; (exact (by repeat' constructor)); intro _ _ _) | (apply x_store; assumption; exact rfl; exact rfl; (exact (by repeat' constructor)); (exact (by repeat' constructor)); exact rfl; exact rfl; exact rfl; (exact (by repeat' constructor)); intro _ _) | (apply x_build; exact rfl; exact rfl; exact rfl; (exact (by repeat' constructor))) | (apply cw_true; exact rfl) | (apply cw_false; exact rfl) | (apply x_dec; exact rfl; all_goals (intro _; try omega))))
          all_goals first
            | (exfalso; omega)
            | skip
          · have S8 := Sat.drop S7 (_ :: _ :: _ :: _ :: (fr' ++ h7)) (.cons _ (.cons _ (List.Sublist.refl _)))
            refine ⟨_, ⟨c1, h7, by rw [hd2]; omega, by rw [hd2]; exact hJ7, rfl⟩, ?_⟩
            rw [hd2, hmp]
            exact S8.perm' (.cons _ (.cons _ (.cons _ (.cons _ List.perm_append_comm))))
          · have S8 := Sat.drop S7 (_ :: _ :: _ :: _ :: (fr' ++ h7)) (.cons _ (.cons _ (List.Sublist.refl _)))
            refine ⟨_, ⟨rfl, c1, h7, by rw [hd2]; exact hJ7, rfl⟩, ?_⟩
            rw [hd2, hmp]
            exact S8.perm' (.cons _ (.cons _ (.cons _ (.cons _ List.perm_append_comm))))
  · rintro D1 _ W ⟨c1, hh, hc1, hJ, rfl⟩ S1
    replace S1 : Sat w0 M (_ :: _ :: _ :: _ :: _ :: hh) W := S1
    (repeat' (first | apply cw_seq | apply cw_region | apply wl_nil | apply cw_block | apply cw_skip | apply cw_exit | apply cw_ret | (apply x_move; exact rfl; exact rfl; (exact (by repeat' constructor))) | (apply x_assign; exact rfl; exact rfl; (exact (by repeat' constructor))) | (apply x_fieldB; exact rfl; exact rfl; exact rfl; exact rfl; (constructor)) | (apply x_load; assumption; exact rfl; exact rfl; exact rfl; (exact (by repeat' constructor)); exact rfl; exact rfl; (exact (by repeat' constructor))) | (apply x_eqStr; exact rfl; exact rfl; exact rfl; exact rfl) | (apply x_bin; exact rfl; exact rfl; exact rfl; (first | exact .z (.wrap (by omega)) | exact (by repeat' constructor))) | (apply x_un; exact rfl; exact rfl; exact rfl; (first | exact .z (.wrap (by omega)) | exact (by repeat' constructor))) | (apply x_box; assumption; exact rfl; exact rfl; (exact (by repeat' constructor)); (exact (by repeat' constructor)); intro _ _ _) | (apply x_alloc; assumption; exact rfl; exact rfl; exact rfl; (exact (by repeat' constructor)); intro _ _ _) | (apply x_store; assumption; exact rfl; exact rfl; (exact (by repeat' constructor)); (exact (by repeat' constructor)); exact rfl; exact rfl; exact rfl; (exact (by repeat' constructor)); intro _ _) | (apply x_build; exact rfl; exact rfl; exact rfl; (exact (by repeat' constructor))) | (apply x_extract; exact rfl; exact rfl; exact rfl; (exact (by repeat' constructor))) | (apply x_fieldE; exact rfl; exact rfl; exact rfl; exact rfl; (constructor)) | (apply x_loadB; assumption; exact rfl; exact rfl; exact rfl; assumption; exact rfl; exact rfl; (exact (by repeat' constructor))) | (apply x_loadR; exact rfl; exact rfl; exact rfl; (first | exact Old.now (by assumption) (by assumption) | exact Sat.rdpr (by assumption) (by exact (by repeat' constructor)) | exact Sat.rd (by assumption) (by exact (by repeat' constructor))); (first | omega | exact size_pos (by assumption) | assumption); exact rfl; exact rfl; (exact (by repeat' constructor))) | (apply cw_true; exact rfl) | (apply cw_false; exact rfl) | (apply x_ndec; exact rfl; with_reducible exact rfl; all_goals (intro _; try omega)) | (apply x_dec; exact rfl; all_goals (intro _; try omega)) | (apply cw_ne; exact rfl; all_goals (intro _; try omega)) | (apply cw_eq; exact rfl; all_goals (intro _; try omega)) | (apply cw_not; exact rfl; all_goals (intro _; try omega)) | (apply cw_cond; exact rfl; all_goals (intro _; try omega))))
    refine q_endM1 (by assumption) (by exact (by repeat' constructor)) rfl .nil ?_
    intro w' S'
    refine ⟨hh, Sat.drop S' _ (.cons _ (.cons _ (.cons _ (.cons _ (.cons _ (List.Sublist.refl _)))))), .inl ?_⟩
    rw [bwE_len, List.take_of_length_le (by rw [stL_len]; exact Nat.le_refl _)] at hJ
    exact hJ
  · rintro D1 _ pre _ W ⟨rfl, c1, hh, hJ, rfl⟩ hpre S1
    replace S1 : Sat w0 M (_ :: _ :: _ :: _ :: _ :: hh) W := S1
    (repeat' (first | apply cw_ret))
    refine q_retM1 (by assumption) (by exact (by repeat' constructor)) rfl .nil ?_
    intro w' S'
    exact ⟨hh, Sat.drop S' _ (.cons _ (.cons _ (.cons _ (.cons _ (.cons _ (List.Sublist.refl _)))))), .inr ⟨_, List.take_prefix _ _, hJ⟩⟩
end Go.Proofs.Ytnndkdcciojpiaa.Rl
