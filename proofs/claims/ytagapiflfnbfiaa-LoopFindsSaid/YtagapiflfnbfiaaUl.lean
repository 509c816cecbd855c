/- Shortest chains and all chains against the reference: the law walked. No statement of the seat is proved here. -/
import Derived.Test.YtagapiflfnbfiaaUk
namespace Go.Proofs.Ytagapiflfnbfiaa
set_option linter.unusedVariables false
set_option linter.unusedSimpArgs false
open Go Go.RowKit
theorem oqH_rd {q : OQ} {h : List HO} {w0 w : World} {M : List Nat} (S : Sat w0 M h w) (hs : ∀ o ∈ oqH q, o ∈ h) : Rd w q.A 1 q.rs.length (fun i => orV (q.rs.getD i or0)) ∧ ∀ i, i < q.rs.length → Rd w (q.rs.getD i or0).A 2 (q.rs.getD i or0).xs.length (fun j => lkC ((q.rs.getD i or0).xs.getD j lk0)) := by
  refine ⟨Sat.rdmapN (en := orV) or0 S (hasOf (hs _ (List.mem_cons_self ..))) rfl, fun i hi => ?_⟩
  have hm := getD_mem or0 hi
  exact Sat.rdmapN (en := lkC) lk0 S (hasOf (hs (orH (q.rs.getD i or0)) (List.mem_cons_of_mem _ (List.mem_map_of_mem hm)))) rfl
theorem few_ask {l : List Dm} {ax : Int} {fr to : ByteArray} (h : fewP l) : askE l ax fr to = 0 → l.length ≤ 6 := fun he => by
  have hg := askE_given he
  rcases h.2 with h1 | h1 | h1
  · exact h1
  · have := givenE_len hg
    omega
  · exact absurd hg h1.2
theorem rFew_y (A : Option Addr) (cA : Nat) (l : List Dm) (hl : l.length ≤ 9223372036854775807) (ho : ∀ i, i < l.length → (dat l i).ok) (h : fewP l) (w : World) (R : Rd w A 5 l.length (fun i => dmC (l.getD i dm0))) : Calls Try.prog 10 #[.slice A l.length cA] w (RetP (Val (.bool true) w)) := val_of (rFew24_c A cA l hl ho w R) (by rw [fewB_yes h])
theorem rFew_n (A : Option Addr) (cA : Nat) (l : List Dm) (hl : l.length ≤ 9223372036854775807) (ho : ∀ i, i < l.length → (dat l i).ok) (h : ¬ fewP l) (w : World) (R : Rd w A 5 l.length (fun i => dmC (l.getD i dm0))) : Calls Try.prog 10 #[.slice A l.length cA] w (RetP (Val (.bool false) w)) := val_of (rFew24_c A cA l hl ho w R) (by rw [fewB_no h])
theorem findS_len {l : List Dm} (ax : Int) (fr to : ByteArray) : (findS l ax fr to).1.length ≤ 1001 := by
  unfold findS
  split
  · rename_i h
    split
    · exact shS_len (nlk_ok l ax allU (givenE_len (askE_given h))) fr to
    · exact Nat.zero_le _
  · exact Nat.zero_le _
theorem allS_len {l : List Dm} (ax : Int) (fr to : ByteArray) : (allS l ax fr to).1.length ≤ 16384 ∧ ∀ c ∈ (allS l ax fr to).1, c.length ≤ 512 := by
  by_cases he : askE l ax fr to = 0
  · rw [allS_eq he]
    split
    · rename_i hP
      refine ⟨hP, fun c hc => ?_⟩
      have h1 := gp_len (pthA_iff.1 hc)
      have h2 := nlk_len (l := l) (ax := ax) (use := allU) l.length
      have h3 := givenE_len (askE_given he)
      have h4 : (netL l ax).length ≤ 2 * l.length := h2
      omega
    · exact ⟨Nat.zero_le _, fun c hc => by cases hc⟩
  · have : allS l ax fr to = ([], askE l ax fr to) := if_neg he
    rw [this]
    exact ⟨Nat.zero_le _, fun c hc => by cases hc⟩
set_option maxRecDepth 100000 in
theorem e_lawFinds : Ent Try.prog 4 := fun _ _ => rfl
set_option maxRecDepth 8000 in
set_option maxHeartbeats 20000000 in
theorem lawFinds_c (A : Option Addr) (cA : Nat) (l : List Dm) (hl : l.length ≤ 9223372036854775807) (ho : ∀ i, i < l.length → (dat l i).ok) (ax : Int) (fr to : ByteArray) (hfr : fr.size ≤ 9223372036854775807) (hto : to.size ≤ 9223372036854775807) (w : World) (R : Rd w A 5 l.length (fun i => dmC (l.getD i dm0))) : Calls Try.prog 4 #[.slice A l.length cA, .agg #[.int .i64 ax, .string fr, .string to]] w (RetP (Val (.bool true) w)) := by
  refine calls_of_cw (args := [.slice A l.length cA, .agg #[.int .i64 ax, .string fr, .string to]]) Try.func4 rfl rfl ?_
  have S := Sat.start [] w
  have O := R.old
  by_cases hfw : fewP l
  · have h6 := few_ask (ax := ax) (fr := fr) (to := to) hfw
    have hfl := findS_len (l := l) ax fr to
    obtain ⟨hal, hax⟩ := allS_len (l := l) ax fr to
    (repeat' (first | apply cw_seq | apply cw_region | apply wl_nil | apply cw_skip | apply cw_ret | (apply x_callv; assumption; exact rfl; exact rfl; exact rfl; exact e_rFew24; (exact (by repeat' constructor)); with_reducible exact (rFew_y A cA l hl ho hfw _ (Old.now O (by assumption))); intro _ _ _) | (apply x_callv; assumption; exact rfl; exact rfl; exact rfl; exact e_awake; (exact (by repeat' constructor)); with_reducible exact (awake_c _); intro _ _ _) | (apply x_callrowE (m := (findS l ax fr to).1.length); assumption; exact rfl; exact rfl; exact rfl; exact e_Find; (exact (by repeat' constructor)); with_reducible exact (Find_c A cA l hl ho ax fr to hfr hto _ (Old.now O (by assumption))); exact (List.length_map _); intro _ _ _ _) | (apply x_callrowE (m := (findS l ax fr to).1.length); assumption; exact rfl; exact rfl; exact rfl; exact e_rFind; (exact (by repeat' constructor)); with_reducible exact (rFind_c A cA l hl ho ax fr to hfr hto h6 _ (Old.now O (by assumption))); exact (List.length_map _); intro _ _ _ _) | (apply x_callH; assumption; exact rfl; exact rfl; exact rfl; exact e_All; (exact (by repeat' constructor)); (with_reducible exact All_c A cA l hl ho ax fr to hfr hto _ (Old.now O (by assumption))); rintro ⟨q1, hq1⟩ w1 S1; (replace S1 : Sat w [] (_ :: _ :: _ :: oqH q1) w1 := S1.perm' List.perm_append_comm); dsimp only) | (apply x_callH; assumption; exact rfl; exact rfl; exact rfl; exact e_rAll; (exact (by repeat' constructor)); (with_reducible exact rAll_c A cA l hl ho ax fr to hfr hto h6 _ (Old.now O (by assumption))); rintro ⟨q2, hq2⟩ w3 S3; (replace S3 : Sat w [] (_ :: _ :: _ :: (oqH q1 ++ oqHr q2)) w3 := S3.perm' List.perm_append_comm); dsimp only) | (apply x_not; exact rfl; exact rfl) | (apply x_move; exact rfl; exact rfl; (exact (by repeat' constructor))) | (apply x_assign; exact rfl; exact rfl; (exact (by repeat' constructor))) | (apply x_fieldB; exact rfl; exact rfl; exact rfl; exact rfl; (constructor)) | (apply x_load; assumption; exact rfl; exact rfl; exact rfl; (exact (by repeat' constructor)); exact rfl; exact rfl; (exact (by repeat' constructor))) | (apply x_bin; exact rfl; exact rfl; exact rfl; (first | exact .z (.wrap (by omega)) | exact (by repeat' constructor))) | (apply x_pick; exact rfl; exact rfl; exact rfl; (exact (by repeat' constructor))) | (apply x_un; exact rfl; exact rfl; exact rfl; (first | exact .z (.wrap (by omega)) | exact (by repeat' constructor))) | (apply x_box; assumption; exact rfl; exact rfl; (exact (by repeat' constructor)); (exact (by repeat' constructor)); intro _ _ _) | (apply x_extract; exact rfl; exact rfl; exact rfl; (exact (by repeat' constructor))) | (apply x_builtin; exact rfl; exact rfl; exact (fun _ => rfl); (exact (by repeat' constructor))) | (apply cw_true; exact rfl) | (apply x_dec; exact rfl; all_goals (intro _; try omega)) | (apply x_gdec; exact rfl; exact rfl; all_goals (intro _; try omega))))
    all_goals first
      | (exfalso; omega)
      | ((first | refine q_retS (by assumption) rfl (by repeat (first | exact .nil | (apply RV.tmp; exact (by repeat' constructor)) | (apply RV.cell; exact rfl; exact (by repeat' constructor); exact rfl; exact rfl; exact (by repeat' constructor)))) ?_ | (simp only [thenQ, blockQ]; refine q_retS (by assumption) rfl (by repeat (first | exact .nil | (apply RV.tmp; exact (by repeat' constructor)) | (apply RV.cell; exact rfl; exact (by repeat' constructor); exact rfl; exact rfl; exact (by repeat' constructor)))) ?_))
         exact ⟨rfl, Sat.keeps (by assumption)⟩)
      | skip
    have hq1l : q1.rs.length ≤ 20000000 := by rw [← List.length_map (f := OR.xs), hq1]; omega
    have hq1x : ∀ r ∈ q1.rs, r.xs.length ≤ 1000000 := fun r hr => Nat.le_trans (hax _ (by rw [← hq1]; exact List.mem_map_of_mem hr)) (by decide)
    have hq3l : ∀ {q : OQ}, q.rs.map OR.xs = q1.rs.map OR.xs → q.rs.length ≤ 9223372036854775807 := fun {q} h => by
      have := congrArg List.length h
      simp at this
      omega
    have hq3x : ∀ {q : OQ}, q.rs.map OR.xs = q1.rs.map OR.xs → ∀ r ∈ q.rs, r.xs.length ≤ 9223372036854775807 := fun {q} h r hr => by
      have := hax r.xs (by rw [← hq1, ← h]; exact List.mem_map_of_mem hr)
      omega
    (repeat' (first | apply wl_nil | apply cw_ret | (apply x_callv; assumption; exact rfl; exact rfl; exact rfl; exact e_awake; (exact (by repeat' constructor)); with_reducible exact (awake_c _); intro _ _ _) | (apply x_callrowE (m := (findS l ax fr to).1.length); assumption; exact rfl; exact rfl; exact rfl; exact e_own; (exact (by repeat' constructor)); with_reducible exact (own_c _ _ (findS l ax fr to).1 (Nat.le_trans hfl (by decide)) (Nat.le_trans (Nat.mul_le_mul_right 16 hfl) (by decide)) _ (Sat.rdmapN lk0 (by assumption) (by exact (by repeat' constructor)) rfl)); exact (List.length_map _); intro _ _ _ _) | (apply x_callv; assumption; exact rfl; exact rfl; exact rfl; exact e_rSame; (exact (by repeat' constructor)); (with_reducible refine rSame_c _ _ _ _ (findS l ax fr to).1 (Nat.le_trans hfl (by decide)) _ ?_ ?_); exact (Sat.rdmapN lk0 (by assumption) (by exact (by repeat' constructor)) rfl); exact (Sat.rdmapN lk0 (by assumption) (by exact (by repeat' constructor)) rfl); intro _ _ _) | (apply x_callH; assumption; exact rfl; exact rfl; exact rfl; exact e_lall; (exact (by repeat' constructor)); (with_reducible refine lall_c q1.A q1.c q1.rs ?_ ?_ _ ?_ ?_); exact hq1l; exact hq1x; exact (oqH_rd (q := q1) (by assumption) (fun o ho => by simp [ho])).1; exact (oqH_rd (q := q1) (by assumption) (fun o ho => by simp [ho])).2; rintro ⟨q3, hq3⟩ w5 S5; dsimp only) | (apply x_callv; assumption; exact rfl; exact rfl; exact rfl; exact e_rSameAll; (exact (by repeat' constructor)); (with_reducible refine rSameAll_c q3.A q2.A q3.c q2.c q3.rs q2.rs ?_ ?_ ?_ _ ?_ ?_ ?_ ?_); exact hq3.trans (hq1.trans hq2.symm); exact hq3l hq3; exact hq3x hq3; exact (oqr_rd (q := q3) (by assumption) (fun o ho => by simp [ho])).1; exact (oqr_rd (q := q2) (by assumption) (fun o ho => by simp [ho])).1; exact (oqr_rd (q := q3) (by assumption) (fun o ho => by simp [ho])).2; exact (oqr_rd (q := q2) (by assumption) (fun o ho => by simp [ho])).2; intro _ _ _) | (apply x_move; exact rfl; exact rfl; (exact (by repeat' constructor))) | (apply x_assign; exact rfl; exact rfl; (exact (by repeat' constructor))) | (apply x_bin; exact rfl; exact rfl; exact rfl; (first | exact .z (.wrap (by omega)) | exact (by repeat' constructor))) | (apply x_pick; exact rfl; exact rfl; exact rfl; (exact (by repeat' constructor))) | (apply x_gdec; exact rfl; exact rfl; all_goals (intro _; try omega))))
    all_goals first
      | (exfalso; simp_all; done)
      | skip
    all_goals (first | refine q_retS (by assumption) rfl (by repeat (first | exact .nil | (apply RV.tmp; exact (by repeat' constructor)) | (apply RV.cell; exact rfl; exact (by repeat' constructor); exact rfl; exact rfl; exact (by repeat' constructor)))) ?_ | (simp only [thenQ, blockQ]; refine q_retS (by assumption) rfl (by repeat (first | exact .nil | (apply RV.tmp; exact (by repeat' constructor)) | (apply RV.cell; exact rfl; exact (by repeat' constructor); exact rfl; exact rfl; exact (by repeat' constructor)))) ?_))
    all_goals exact ⟨rfl, Sat.keeps (by assumption)⟩
  · (repeat' (first | apply cw_seq | apply cw_region | apply wl_nil | apply cw_ret | (apply x_callv; assumption; exact rfl; exact rfl; exact rfl; exact e_rFew24; (exact (by repeat' constructor)); with_reducible exact (rFew_n A cA l hl ho hfw _ (Old.now O (by assumption))); intro _ _ _) | (apply x_callv; assumption; exact rfl; exact rfl; exact rfl; exact e_awake; (exact (by repeat' constructor)); with_reducible exact (awake_c _); intro _ _ _) | (apply x_not; exact rfl; exact rfl) | (apply x_move; exact rfl; exact rfl; (exact (by repeat' constructor))) | (apply x_assign; exact rfl; exact rfl; (exact (by repeat' constructor))) | (apply x_pick; exact rfl; exact rfl; exact rfl; (exact (by repeat' constructor))) | (apply x_un; exact rfl; exact rfl; exact rfl; (first | exact .z (.wrap (by omega)) | exact (by repeat' constructor))) | (apply x_box; assumption; exact rfl; exact rfl; (exact (by repeat' constructor)); (exact (by repeat' constructor)); intro _ _ _) | (apply cw_true; exact rfl)))
    all_goals (first | refine q_retS (by assumption) rfl (by repeat (first | exact .nil | (apply RV.tmp; exact (by repeat' constructor)) | (apply RV.cell; exact rfl; exact (by repeat' constructor); exact rfl; exact rfl; exact (by repeat' constructor)))) ?_ | (simp only [thenQ, blockQ]; refine q_retS (by assumption) rfl (by repeat (first | exact .nil | (apply RV.tmp; exact (by repeat' constructor)) | (apply RV.cell; exact rfl; exact (by repeat' constructor); exact rfl; exact rfl; exact (by repeat' constructor)))) ?_))
    all_goals exact ⟨rfl, Sat.keeps (by assumption)⟩
end Go.Proofs.Ytagapiflfnbfiaa
