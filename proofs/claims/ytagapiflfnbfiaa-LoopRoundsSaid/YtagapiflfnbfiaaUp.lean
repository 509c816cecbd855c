/- Loops against the reference: the law walked. No statement of the seat is proved here. -/
import Derived.Test.YtagapiflfnbfiaaUo
namespace Go.Proofs.Ytagapiflfnbfiaa
set_option linter.unusedVariables false
set_option linter.unusedSimpArgs false
open Go Go.RowKit
theorem oqP_rd {q : OQ} {h : List HO} {w0 w : World} {M : List Nat} (S : Sat w0 M h w) (hs : ∀ o ∈ oqH q, o ∈ h) : Rd w q.A 1 q.rs.length (fun i => orV (q.rs.getD i or0)) ∧ ∀ i, i < q.rs.length → Rd w (q.rs.getD i or0).A 2 (q.rs.getD i or0).xs.length (fun j => lkC ((q.rs.getD i or0).xs.getD j lk0)) := by
  refine ⟨Sat.rdmapN (en := orV) or0 S (hasOf (hs _ (List.mem_cons_self ..))) rfl, fun i hi => ?_⟩
  have hm := getD_mem or0 hi
  exact Sat.rdmapN (en := lkC) lk0 S (hasOf (hs (orH (q.rs.getD i or0)) (List.mem_cons_of_mem _ (List.mem_map_of_mem hm)))) rfl
theorem rFewP_y (A : Option Addr) (cA : Nat) (l : List Dm) (hl : l.length ≤ 9223372036854775807) (ho : ∀ i, i < l.length → (dat l i).ok) (h : fewP l) (w : World) (R : Rd w A 5 l.length (fun i => dmC (l.getD i dm0))) : Calls Try.prog 10 #[.slice A l.length cA] w (RetP (Val (.bool true) w)) := val_of (rFew24_c A cA l hl ho w R) (by rw [fewB_yes h])
theorem rFewP_n (A : Option Addr) (cA : Nat) (l : List Dm) (hl : l.length ≤ 9223372036854775807) (ho : ∀ i, i < l.length → (dat l i).ok) (h : ¬ fewP l) (w : World) (R : Rd w A 5 l.length (fun i => dmC (l.getD i dm0))) : Calls Try.prog 10 #[.slice A l.length cA] w (RetP (Val (.bool false) w)) := val_of (rFew24_c A cA l hl ho w R) (by rw [fewB_no h])
theorem lopS_len {l : List Dm} : (lopS l).1.length ≤ 256 ∧ ∀ c ∈ (lopS l).1, c.length ≤ 1002 := by
  unfold lopS
  by_cases hg : givenE l = 0
  · have hL := givenE_len hg
    rw [if_pos hg]
    refine ⟨?_, fun c hc => ?_⟩
    · rw [List.length_map]
      have := (forS_len (l := l) l.length).2.1
      omega
    · obtain ⟨i, _, rfl⟩ := List.mem_map.1 hc
      have h3 : (ringS l i).length ≤ 1001 := shS_len (nlk_ok l _ _ hL) _ _
      rw [List.length_cons]
      omega
  · rw [if_neg hg]
    exact ⟨Nat.zero_le _, fun c hc => by cases hc⟩
theorem few_given {l : List Dm} (h : fewP l) : givenE l = 0 → l.length ≤ 6 := fun hg => by
  rcases h.2 with h1 | h1 | h1
  · exact h1
  · have := givenE_len hg
    omega
  · exact absurd hg h1.2
set_option maxRecDepth 100000 in
theorem e_lawRounds : Ent Try.prog 5 := fun _ _ => rfl
set_option maxRecDepth 8000 in
set_option maxHeartbeats 20000000 in
theorem lawRounds_c (A : Option Addr) (cA : Nat) (l : List Dm) (hl : l.length ≤ 9223372036854775807) (ho : ∀ i, i < l.length → (dat l i).ok) (w : World) (R : Rd w A 5 l.length (fun i => dmC (l.getD i dm0))) : Calls Try.prog 5 #[.slice A l.length cA] w (RetP (Val (.bool true) w)) := by
  refine calls_of_cw (args := [.slice A l.length cA]) Try.func5 rfl rfl ?_
  have S := Sat.start [] w
  have O := R.old
  by_cases hfw : fewP l
  · have h6 := few_given hfw
    obtain ⟨hal, hax⟩ := lopS_len (l := l)
    (repeat' (first | apply cw_seq | apply cw_region | apply wl_nil | apply cw_skip | (apply x_callv; assumption; exact rfl; exact rfl; exact rfl; exact e_rFew24; (exact (by repeat' constructor)); with_reducible exact (rFewP_y A cA l hl ho hfw _ (Old.now O (by assumption))); intro _ _ _) | (apply x_callH; assumption; exact rfl; exact rfl; exact rfl; exact e_Loops; (exact (by repeat' constructor)); (with_reducible exact Loops_c A cA l hl ho _ (Old.now O (by assumption))); rintro ⟨q1, hq1⟩ w1 S1; dsimp only) | (apply x_callH; assumption; exact rfl; exact rfl; exact rfl; exact e_rLoops; (exact (by repeat' constructor)); (with_reducible exact rLoops_c A cA l hl ho h6 _ (Old.now O (by assumption))); rintro ⟨q2, hq2⟩ w3 S3; dsimp only) | (apply x_move; exact rfl; exact rfl; (exact (by repeat' constructor))) | (apply x_assign; exact rfl; exact rfl; (exact (by repeat' constructor))) | (apply x_un; exact rfl; exact rfl; exact rfl; (first | exact .z (.wrap (by omega)) | exact (by repeat' constructor))) | (apply x_extract; exact rfl; exact rfl; exact rfl; (exact (by repeat' constructor))) | (apply cw_false; exact rfl)))
    have hq1l : q1.rs.length ≤ 20000000 := by rw [← List.length_map (f := OR.xs), hq1]; omega
    have hq1x : ∀ r ∈ q1.rs, r.xs.length ≤ 1000000 := fun r hr => Nat.le_trans (hax _ (by rw [← hq1]; exact List.mem_map_of_mem hr)) (by decide)
    have hq3l : ∀ {q : OQ}, q.rs.map OR.xs = q1.rs.map OR.xs → q.rs.length ≤ 9223372036854775807 := fun {q} h => by
      have := congrArg List.length h
      simp at this
      omega
    have hq3x : ∀ {q : OQ}, q.rs.map OR.xs = q1.rs.map OR.xs → ∀ r ∈ q.rs, r.xs.length ≤ 9223372036854775807 := fun {q} h r hr => by
      have := hax r.xs (by rw [← hq1, ← h]; exact List.mem_map_of_mem hr)
      omega
    (repeat' (first | apply wl_nil | apply cw_ret | (apply x_callv; assumption; exact rfl; exact rfl; exact rfl; exact e_awake; (exact (by repeat' constructor)); with_reducible exact (awake_c _); intro _ _ _) | (apply x_callH; assumption; exact rfl; exact rfl; exact rfl; exact e_lall; (exact (by repeat' constructor)); (with_reducible refine lall_c q1.A q1.c q1.rs ?_ ?_ _ ?_ ?_); exact hq1l; exact hq1x; exact (oqP_rd (q := q1) (by assumption) (fun o ho => by simp [ho])).1; exact (oqP_rd (q := q1) (by assumption) (fun o ho => by simp [ho])).2; rintro ⟨q3, hq3⟩ w5 S5; dsimp only) | (apply x_callv; assumption; exact rfl; exact rfl; exact rfl; exact e_rSameAll; (exact (by repeat' constructor)); (with_reducible refine rSameAll_c q3.A q2.A q3.c q2.c q3.rs q2.rs ?_ ?_ ?_ _ ?_ ?_ ?_ ?_); exact hq3.trans (hq1.trans hq2.symm); exact hq3l hq3; exact hq3x hq3; exact (oqr_rd (q := q3) (by assumption) (fun o ho => by simp [ho])).1; exact (oqr_rd (q := q2) (by assumption) (fun o ho => by simp [ho])).1; exact (oqr_rd (q := q3) (by assumption) (fun o ho => by simp [ho])).2; exact (oqr_rd (q := q2) (by assumption) (fun o ho => by simp [ho])).2; intro _ _ _) | (apply x_move; exact rfl; exact rfl; (exact (by repeat' constructor))) | (apply x_assign; exact rfl; exact rfl; (exact (by repeat' constructor))) | (apply x_bin; exact rfl; exact rfl; exact rfl; (first | exact .z (.wrap (by omega)) | exact (by repeat' constructor))) | (apply x_pick; exact rfl; exact rfl; exact rfl; (exact (by repeat' constructor))) | (apply x_gdec; exact rfl; exact rfl; all_goals (intro _; try omega))))
    all_goals first
      | (exfalso; simp_all; done)
      | skip
    all_goals (first | refine q_retS (by assumption) rfl (by repeat (first | exact .nil | (apply RV.tmp; exact (by repeat' constructor)) | (apply RV.cell; exact rfl; exact (by repeat' constructor); exact rfl; exact rfl; exact (by repeat' constructor)))) ?_ | (simp only [thenQ, blockQ]; refine q_retS (by assumption) rfl (by repeat (first | exact .nil | (apply RV.tmp; exact (by repeat' constructor)) | (apply RV.cell; exact rfl; exact (by repeat' constructor); exact rfl; exact rfl; exact (by repeat' constructor)))) ?_))
    all_goals exact ⟨rfl, Sat.keeps (by assumption)⟩
  · (repeat' (first | apply cw_seq | apply cw_region | apply wl_nil | apply cw_ret | (apply x_callv; assumption; exact rfl; exact rfl; exact rfl; exact e_rFew24; (exact (by repeat' constructor)); with_reducible exact (rFewP_n A cA l hl ho hfw _ (Old.now O (by assumption))); intro _ _ _) | (apply x_callv; assumption; exact rfl; exact rfl; exact rfl; exact e_awake; (exact (by repeat' constructor)); with_reducible exact (awake_c _); intro _ _ _) | (apply x_move; exact rfl; exact rfl; (exact (by repeat' constructor))) | (apply x_assign; exact rfl; exact rfl; (exact (by repeat' constructor))) | (apply x_un; exact rfl; exact rfl; exact rfl; (first | exact .z (.wrap (by omega)) | exact (by repeat' constructor))) | (apply cw_true; exact rfl)))
    all_goals (first | refine q_retS (by assumption) rfl (by repeat (first | exact .nil | (apply RV.tmp; exact (by repeat' constructor)) | (apply RV.cell; exact rfl; exact (by repeat' constructor); exact rfl; exact rfl; exact (by repeat' constructor)))) ?_ | (simp only [thenQ, blockQ]; refine q_retS (by assumption) rfl (by repeat (first | exact .nil | (apply RV.tmp; exact (by repeat' constructor)) | (apply RV.cell; exact rfl; exact (by repeat' constructor); exact rfl; exact rfl; exact (by repeat' constructor)))) ?_))
    all_goals exact ⟨rfl, Sat.keeps (by assumption)⟩
end Go.Proofs.Ytagapiflfnbfiaa
