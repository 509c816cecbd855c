/- Fronts against the reference: the law walked. No statement of the seat is proved here. -/
import Derived.Test.YtecmgjhnfgeldaaV17
import Derived.Test.YtecmgjhnfgeldaaV15
namespace Go.Proofs.Ytecmgjhnfgeldaa.Al
set_option linter.unusedVariables false
set_option linter.unusedSimpArgs false
open Go Go.RowKit
set_option maxRecDepth 100000 in
theorem e_rSamePairs : Ent Try.prog 19 := fun _ _ => rfl
set_option maxRecDepth 4000 in
set_option maxHeartbeats 2000000 in
theorem rSamePairs_c (A B : Option Addr) (c c' : Nat) (xs : List Pr2) (hx : xs.length ≤ 9223372036854775807) (w : World) (R1 : Rd w A 2 xs.length (fun i => prC (xs.getD i (0, 0)))) (R2 : Rd w B 2 xs.length (fun i => prC (xs.getD i (0, 0)))) : Calls Try.prog 19 #[.slice A xs.length c, .slice B xs.length c'] w (RetP (Val (.bool true) w)) := by
  refine calls_of_cw (args := [.slice A xs.length c, .slice B xs.length c']) Try.func19 rfl rfl ?_
  have S := Sat.start [] w
  have O1 := (R1).old
  have O2 := (R2).old
  (repeat' (first | apply cw_seq | apply cw_region | apply wl_nil | apply cw_block | apply cw_skip | (apply x_move; exact rfl; exact rfl; (exact (by repeat' constructor))) | (apply x_assign; exact rfl; exact rfl; (exact (by repeat' constructor))) | (apply x_bin; exact rfl; exact rfl; exact rfl; (first | exact .z (.wrap (by omega)) | exact (by repeat' constructor))) | (apply x_builtin; exact rfl; exact rfl; exact (fun _ => rfl); (exact (by repeat' constructor))) | (apply cw_ne; exact rfl; all_goals (intro _; try omega))))
  refine cw_loop [4, 5, 11, 12, 13, 14, 15, 16, 17, 18, 19, 20, 21, 22, 23, 24, 25] [5] (fun us wr => ∃ k : Nat, k ≤ xs.length ∧ us = [.int .i64 k] ∧ Sat w [] [] wr) (fun us _ => xs.length - (intOf (us.getD 0 undef)).toNat) ?_ ?_
  · exact ⟨0, by omega, rfl, S⟩
  clear S
  rintro g' us wr ⟨k, hk, rfl, Sr⟩
  by_cases hlt : k < xs.length
  · (repeat' (first | apply cw_seq | apply cw_region | apply wl_nil | apply cw_block | apply cw_skip | (apply y_neArr2; exact rfl; exact rfl; exact rfl; exact arr2_P; kernel_rfl; exact eqc_y rfl) | (apply cw_draw (id := 6) [(0, 0), (1, 0), (2, 0), (3, 0), (4, 0), (5, 0), (6, 0), (7, 0), (8, 0)]; assumption; exact mixed; kernel_rfl) | (apply x_move; exact rfl; exact rfl; (exact (by repeat' constructor))) | (apply x_assign; exact rfl; exact rfl; (exact (by repeat' constructor))) | (apply x_bin; exact rfl; exact rfl; exact rfl; (first | exact .z (.wrap (by omega)) | exact (by repeat' constructor))) | (apply x_builtin; exact rfl; exact rfl; exact (fun _ => rfl); (exact (by repeat' constructor))) | (apply y_move; exact rfl; (exact (by repeat' constructor))) | (apply y_index; exact rfl; exact rfl; exact rfl; exact rfl; (constructor); (first | omega | exact size_pos (by assumption) | assumption); (first | exact rfl | assumption | exact Rd.some_ (by assumption) (by omega) | exact Rd.some_ (Old.rd (by assumption)) (by omega) | exact (Sat.rd (by assumption) (by exact (by repeat' constructor))).some_ (by omega))) | (apply y_loadR; exact rfl; exact rfl; assumption; (first | omega | exact size_pos (by assumption) | assumption); exact rfl; exact rfl; (exact (by repeat' constructor))) | (apply y_nil; intro _ _) | (apply cw_false; exact rfl) | (apply x_dec; exact rfl; all_goals (intro _; try omega))))
    all_goals first
      | (exfalso; simp_all; done)
      | (refine ⟨rfl, (by repeat (first | exact Agree.updl rfl (Agree.mask _ _ _) | refine Agree.upd rfl ?_)), ⟨k + 1, hlt, rfl, by assumption⟩, ?_⟩
         show xs.length - (k + 1 : Int).toNat < xs.length - (k : Int).toNat
         omega)
  · (repeat' (first | apply cw_seq | apply cw_region | apply wl_nil | apply cw_exit | apply cw_ret | (apply x_move; exact rfl; exact rfl; (exact (by repeat' constructor))) | (apply x_assign; exact rfl; exact rfl; (exact (by repeat' constructor))) | (apply x_bin; exact rfl; exact rfl; exact rfl; (first | exact .z (.wrap (by omega)) | exact (by repeat' constructor))) | (apply x_builtin; exact rfl; exact rfl; exact (fun _ => rfl); (exact (by repeat' constructor))) | (apply x_dec; exact rfl; all_goals (intro _; try omega))))
    (first | refine q_retS (by assumption) rfl (by repeat (first | exact .nil | (apply RV.tmp; exact (by repeat' constructor)) | (apply RV.cell; exact rfl; exact (by repeat' constructor); exact rfl; exact rfl; exact (by repeat' constructor)))) ?_ | (simp only [thenQ, blockQ]; refine q_retS (by assumption) rfl (by repeat (first | exact .nil | (apply RV.tmp; exact (by repeat' constructor)) | (apply RV.cell; exact rfl; exact (by repeat' constructor); exact rfl; exact rfl; exact (by repeat' constructor)))) ?_))
    exact ⟨rfl, Sat.keeps (by assumption)⟩
theorem rSamePairs_m {A B : Option Addr} {c c' m m' : Nat} {w : World} (xs : List Pr2) (hm : m = xs.length) (hm' : m' = xs.length) (hx : xs.length ≤ 9223372036854775807) (R1 : Rd w A 2 xs.length (fun i => prC (xs.getD i (0, 0)))) (R2 : Rd w B 2 xs.length (fun i => prC (xs.getD i (0, 0)))) :
    Calls Try.prog 19 #[.slice A m c, .slice B m' c'] w (RetP (Val (.bool true) w)) := by subst hm; subst hm'; exact rSamePairs_c A B c c' xs hx w R1 R2
theorem Front_z {F : List Pr2} {e : Int} (m : Int) (B : Option Addr) (cB : Nat) (ps : List Pt) (hp : ps.length ≤ 9223372036854775807) (hcs : ∀ i, i < ps.length → (pat ps i).cs.length ≤ 9223372036854775807) (hN : chkE m ps = 0 → prodN ps ≤ 20000) (hv : frtL m ps = (F, e)) (w : World) (R : Rd w B 2 ps.length (fun i => ptC (ps.getD i pt0))) (R2 : ∀ i, i < ps.length → Rd w (pat ps i).A 2 (pat ps i).cs.length (fun j => chC ((pat ps i).cs.getD j ch0))) : Calls Try.prog 17 #[.agg #[.int .i64 m, .slice B ps.length cB]] w (RetP (RowR (fun v => .tuple #[v, .int .i64 e]) 51 2 (F.map prC) w)) := by
  have := FrontT_c m B cB ps hp hcs hN w R R2
  rw [hv] at this
  exact this
theorem frtL_same {qs ps : List Pt} (h : qs.map Pt.pl = ps.map Pt.pl) (m : Int) : frtL m qs = frtL m ps := by
  unfold frtL
  rw [chkE_same h, frF_same h]
section
variable {w w0 : World} {M : List Nat} {h : List HO} {ps : List Pt}
theorem rFront_y {F : List Pr2} {e : Int} (m : Int) {q : OQ ps} (hp : ps.length ≤ 9223372036854775807) (hcs : ∀ i, i < ps.length → (pat ps i).cs.length ≤ 9223372036854775807) (S : Sat w0 M h w) (hm : ∀ o ∈ oqH q, o ∈ h) (hf : FewT m ps) (hv : frtL m ps = (F, e)) : Calls Try.prog 18 #[oqV m q] w (RetP (RowR (fun v => .tuple #[v, .int .i64 e]) 51 2 (F.map prC) w)) := by
  have := rFront_c m q.A q.c q.qs (q_len q hp) (q_cs q hcs) (q_few q hf) w (oq_rd S hm).1 (oq_rd S hm).2
  rw [frtL_same q.pl, hv] at this
  exact this
end
theorem frt_len {m : Int} {ps : List Pt} {F : List Pr2} {e : Int} (h : frtL m ps = (F, e)) : F.length ≤ 16384 := by
  by_cases hck : chkE m ps = 0
  · by_cases hb : 16384 < (frF ps).length
    · rw [frtL_12 hck hb] at h
      injection h with h
      rw [← h]; exact Nat.zero_le _
    · rw [frtL_0 hck hb] at h
      injection h with h
      rw [← h]; omega
  · rw [frtL_e hck] at h
    injection h with h
    rw [← h]; exact Nat.zero_le _
set_option maxRecDepth 100000 in
theorem e_lawFronts : Ent Try.prog 4 := fun _ _ => rfl
set_option maxRecDepth 8000 in
set_option maxHeartbeats 8000000 in
theorem lawFronts_c (m : Int) (B : Option Addr) (cB : Nat) (ps : List Pt) (hp : ps.length ≤ 9223372036854775807) (hcs : ∀ i, i < ps.length → (pat ps i).cs.length ≤ 9223372036854775807) (hz : ps.length * 32 ≤ reachBytes) (hcz : ∀ i, i < ps.length → (pat ps i).cs.length * 16 ≤ reachBytes) (w : World) (R : Rd w B 2 ps.length (fun i => ptC (ps.getD i pt0))) (R2 : ∀ i, i < ps.length → Rd w (pat ps i).A 2 (pat ps i).cs.length (fun j => chC ((pat ps i).cs.getD j ch0))) : Calls Try.prog 4 #[.agg #[.int .i64 m, .slice B ps.length cB]] w (RetP (Val (.bool true) w)) := by
  refine calls_of_cw (args := [.agg #[.int .i64 m, .slice B ps.length cB]]) Try.func4 rfl rfl ?_
  have S := Sat.start [] w
  have O := R.old
  by_cases hf : FewT m ps
  · obtain ⟨F, e, hv⟩ : ∃ F e, frtL m ps = (F, e) := ⟨_, _, rfl⟩
    have hl := frt_len hv
    (repeat' (first | apply cw_seq | apply cw_region | apply wl_nil | apply cw_skip | apply cw_ret | (apply x_callT; assumption; exact rfl; exact rfl; exact rfl; exact e_own; (exact (by repeat' constructor)); (with_reducible exact own_c m B cB ps hz hcz _ (R.old.now (by assumption)) (fun i hi => (R2 i hi).old.now (by assumption))); intro _ _ _) | (apply x_callv; assumption; exact rfl; exact rfl; exact rfl; exact e_rFew; (exact (by repeat' constructor)); (with_reducible apply rFew_y); (exact hp; exact hcs; assumption; exact (fun o ho => by simp only [List.append_eq, List.mem_append, List.mem_cons]; simp only [ho, true_or, or_true]); exact hf); intro _ _ _) | (apply x_callrowE (m := F.length); assumption; exact rfl; exact rfl; exact rfl; exact e_FrontT; (exact (by repeat' constructor)); (with_reducible exact (Front_z m B cB ps hp hcs (fun hc => Nat.le_trans (hf.few hc) (by decide)) hv _ (R.old.now (by assumption)) (fun i hi => (R2 i hi).old.now (by assumption)))); exact List.length_map _; intro _ _ _ _) | (apply x_callrowE (m := F.length); assumption; exact rfl; exact rfl; exact rfl; exact e_rFront; (exact (by repeat' constructor)); (with_reducible apply rFront_y); exact hp; exact hcs; assumption; exact (fun o ho => by simp only [List.append_eq, List.mem_append, List.mem_cons]; simp only [ho, true_or, or_true]); exact hf; exact hv; exact List.length_map _; intro _ _ _ _) | (apply x_callv; assumption; exact rfl; exact rfl; exact rfl; exact e_awake; (exact (by repeat' constructor)); with_reducible exact (awake_c _); intro _ _ _) | (apply x_callv; assumption; exact rfl; exact rfl; exact rfl; exact e_rSamePairs; (exact (by repeat' constructor)); (with_reducible apply rSamePairs_m F); (exact rfl; exact rfl; exact (Nat.le_trans hl (by decide)); exact (Sat.rdmapN ((0 : Int), (0 : Int)) (by assumption) (by exact (by repeat' constructor)) rfl); exact (Sat.rdmapN ((0 : Int), (0 : Int)) (by assumption) (by exact (by repeat' constructor)) rfl)); intro _ _ _) | (apply x_move; exact rfl; exact rfl; (exact (by repeat' constructor))) | (apply x_assign; exact rfl; exact rfl; (exact (by repeat' constructor))) | (apply x_load; assumption; exact rfl; exact rfl; exact rfl; (exact (by repeat' constructor)); exact rfl; exact rfl; (exact (by repeat' constructor))) | (apply x_bin; exact rfl; exact rfl; exact rfl; (first | exact .z (.wrap (by omega)) | exact (by repeat' constructor))) | (apply x_pick; exact rfl; exact rfl; exact rfl; (exact (by repeat' constructor))) | (apply x_un; exact rfl; exact rfl; exact rfl; (first | exact .z (.wrap (by omega)) | exact (by repeat' constructor))) | (apply x_box; assumption; exact rfl; exact rfl; (exact (by repeat' constructor)); (exact (by repeat' constructor)); intro _ _ _) | (apply x_extract; exact rfl; exact rfl; exact rfl; (exact (by repeat' constructor))) | (apply cw_false; exact rfl) | (apply x_gdec; exact rfl; exact rfl; all_goals (intro _; try omega))))
    (all_goals (first | refine q_retS (by assumption) rfl (by repeat (first | exact .nil | (apply RV.tmp; exact (by repeat' constructor)) | (apply RV.cell; exact rfl; exact (by repeat' constructor); exact rfl; exact rfl; exact (by repeat' constructor)))) ?_ | (simp only [thenQ, blockQ]; refine q_retS (by assumption) rfl (by repeat (first | exact .nil | (apply RV.tmp; exact (by repeat' constructor)) | (apply RV.cell; exact rfl; exact (by repeat' constructor); exact rfl; exact rfl; exact (by repeat' constructor)))) ?_))); (all_goals refine ⟨?_, Sat.keeps (by assumption)⟩); (all_goals first | rfl | (simp [pack]; done) | (exfalso; simp_all; done))
  · (repeat' (first | apply cw_seq | apply cw_region | apply wl_nil | apply cw_ret | (apply x_callT; assumption; exact rfl; exact rfl; exact rfl; exact e_own; (exact (by repeat' constructor)); (with_reducible exact own_c m B cB ps hz hcz _ (R.old.now (by assumption)) (fun i hi => (R2 i hi).old.now (by assumption))); intro _ _ _) | (apply x_callv; assumption; exact rfl; exact rfl; exact rfl; exact e_rFew; (exact (by repeat' constructor)); (with_reducible apply rFew_n); (exact hp; exact hcs; assumption; exact (fun o ho => by simp only [List.append_eq, List.mem_append, List.mem_cons]; simp only [ho, true_or, or_true]); exact hf); intro _ _ _) | (apply x_callv; assumption; exact rfl; exact rfl; exact rfl; exact e_awake; (exact (by repeat' constructor)); with_reducible exact (awake_c _); intro _ _ _) | (apply x_assign; exact rfl; exact rfl; (exact (by repeat' constructor))) | (apply x_load; assumption; exact rfl; exact rfl; exact rfl; (exact (by repeat' constructor)); exact rfl; exact rfl; (exact (by repeat' constructor))) | (apply x_un; exact rfl; exact rfl; exact rfl; (first | exact .z (.wrap (by omega)) | exact (by repeat' constructor))) | (apply x_box; assumption; exact rfl; exact rfl; (exact (by repeat' constructor)); (exact (by repeat' constructor)); intro _ _ _) | (apply cw_true; exact rfl)))
    (all_goals (first | refine q_retS (by assumption) rfl (by repeat (first | exact .nil | (apply RV.tmp; exact (by repeat' constructor)) | (apply RV.cell; exact rfl; exact (by repeat' constructor); exact rfl; exact rfl; exact (by repeat' constructor)))) ?_ | (simp only [thenQ, blockQ]; refine q_retS (by assumption) rfl (by repeat (first | exact .nil | (apply RV.tmp; exact (by repeat' constructor)) | (apply RV.cell; exact rfl; exact (by repeat' constructor); exact rfl; exact rfl; exact (by repeat' constructor)))) ?_))); (all_goals refine ⟨?_, Sat.keeps (by assumption)⟩); (all_goals first | rfl | (simp [pack]; done) | (exfalso; simp_all; done))
theorem lawFronts_t (t : Tk) (w : World) (h : t.ok w) : Calls Try.prog 4 #[tkV t] w (RetP (Val (.bool true) w)) :=
  lawFronts_c t.m t.B t.cB t.ps h.hp h.hcs h.hz h.hcz w h.R h.R2
end Go.Proofs.Ytecmgjhnfgeldaa.Al
