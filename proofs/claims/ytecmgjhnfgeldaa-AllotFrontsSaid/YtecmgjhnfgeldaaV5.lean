/- Tasks of choices as those of the reference. No statement of the seat is proved here. -/
import Derived.Test.YtecmgjhnfgeldaaVv
import Derived.Test.YtecmgjhnfgeldaaEngP
import Derived.Test.YtecmgjhnfgeldaaVe
namespace Go.Proofs.Ytecmgjhnfgeldaa.Al
set_option linter.unusedVariables false
set_option linter.unusedSimpArgs false
open Go Go.RowKit
def qH (q : Pt) : HO := .rw 0 (.slice q.A q.cs.length q.cA) 71 2 (q.cs.map chC)
structure OQ (ps : List Pt) where
  A : Option Addr
  c : Nat
  qs : List Pt
  pl : qs.map Pt.pl = ps.map Pt.pl
abbrev oqV (m : Int) {ps : List Pt} (q : OQ ps) : Value := .agg #[.int .i64 m, .slice q.A q.qs.length q.c]
def oqH {ps : List Pt} (q : OQ ps) : List HO := .rw 0 (.slice q.A q.qs.length q.c) 68 2 (q.qs.map ptC) :: q.qs.map qH
theorem OQ.len {ps : List Pt} (q : OQ ps) : q.qs.length = ps.length := by
  have := congrArg List.length q.pl
  simpa using this
set_option maxRecDepth 100000 in
theorem e_own : Ent Try.prog 12 := fun _ _ => rfl
set_option maxRecDepth 8000 in
set_option maxHeartbeats 8000000 in
theorem own_c (m : Int) (B : Option Addr) (cB : Nat) (ps : List Pt) (hz : ps.length * 32 ≤ reachBytes) (hcz : ∀ i, i < ps.length → (pat ps i).cs.length * 16 ≤ reachBytes) (w : World) (R : Rd w B 2 ps.length (fun i => ptC (ps.getD i pt0))) (R2 : ∀ i, i < ps.length → Rd w (pat ps i).A 2 (pat ps i).cs.length (fun j => chC ((pat ps i).cs.getD j ch0))) : Calls Try.prog 12 #[.agg #[.int .i64 m, .slice B ps.length cB]] w (RetP fun v w' => ∃ q : OQ ps, v = oqV m q ∧ Sat w [] (oqH q) w') := by
  refine calls_of_cw (args := [.agg #[.int .i64 m, .slice B ps.length cB]]) Try.func12 rfl rfl ?_
  have S := Sat.start [] w
  have O := R.old
  have hrb : reachBytes ≤ 140737488355328 := by decide
  have hp9 : ps.length ≤ 9223372036854775807 := by omega
  (repeat' (first | apply cw_seq | apply cw_region | apply wl_nil | apply cw_block | (apply x_move; exact rfl; exact rfl; (exact (by repeat' constructor))) | (apply x_fieldB; exact rfl; exact rfl; exact rfl; exact rfl; (constructor)) | (apply x_load; assumption; exact rfl; exact rfl; exact rfl; (exact (by repeat' constructor)); exact rfl; exact rfl; (exact (by repeat' constructor))) | (apply x_box; assumption; exact rfl; exact rfl; (exact (by repeat' constructor)); (exact (by repeat' constructor)); intro _ _ _) | (apply x_alloc; assumption; exact rfl; exact rfl; exact rfl; (exact (by repeat' constructor)); intro _ _ _) | (apply x_store; assumption; exact rfl; exact rfl; (exact (by repeat' constructor)); (exact (by repeat' constructor)); exact rfl; exact rfl; exact rfl; (exact (by repeat' constructor)); intro _ _) | (apply x_build; exact rfl; exact rfl; exact rfl; (exact (by repeat' constructor))) | (apply x_builtin; exact rfl; exact rfl; exact (fun _ => rfl); (exact (by repeat' constructor)))))
  rename_i b1 _ _ b2 _ _ b3 _ _ w1 S1
  refine cw_loop [5, 6, 8, 15, 16, 17, 18, 19, 20, 21, 22, 23, 24, 25, 26, 27, 28, 29, 30, 31, 32, 33, 34, 35, 36, 37, 38, 39, 40, 41, 42] [15] (fun us wr => ∃ (i : Nat) (A' : Option Addr) (c' : Nat) (qs : List Pt), i ≤ ps.length ∧ us = [.int .i64 i] ∧ qs.length = i ∧ qs.map Pt.pl = (ps.take i).map Pt.pl ∧ Sat w [] (.rw 0 (.slice A' i c') 68 2 (qs.map ptC) :: .cl b3 28 [.int .i64 m, .slice A' i c'] :: .cl b2 28 [.int .i64 0, .slice none 0 0] :: .cl b1 24 [.int .i64 m, .slice B ps.length cB] :: qs.map qH) wr) (fun us _ => ps.length - (intOf (us.getD 0 undef)).toNat) ?_ ?_
  · exact ⟨0, none, 0, [], Nat.zero_le _, rfl, rfl, rfl, S1.addNil _ _⟩
  clear S S1
  rintro g us wr ⟨i, A', c', qs, hi, rfl, hql, hqs, Sr⟩
  by_cases hlt : i < ps.length
  · have O3 : Old w [] (ps.getD i pt0).A 2 (ps.getD i pt0).cs.length (fun j => chC ((ps.getD i pt0).cs.getD j ch0)) := (R2 i hlt).old
    have hcz' : (ps.getD i pt0).cs.length * 16 ≤ reachBytes := hcz i hlt
    have hc9 : (ps.getD i pt0).cs.length ≤ 9223372036854775807 := by omega
    (repeat' (first | apply cw_seq | apply cw_region | apply wl_nil | apply cw_block | apply cw_skip | (apply x_move; exact rfl; exact rfl; (exact (by repeat' constructor))) | (apply x_fieldB; exact rfl; exact rfl; exact rfl; exact rfl; (constructor)) | (apply x_load; assumption; exact rfl; exact rfl; exact rfl; (exact (by repeat' constructor)); exact rfl; exact rfl; (exact (by repeat' constructor))) | (apply x_bin; exact rfl; exact rfl; exact rfl; (first | exact .z (.wrap (by omega)) | exact (by repeat' constructor))) | (apply x_alloc; assumption; exact rfl; exact rfl; exact rfl; (exact (by repeat' constructor)); intro _ _ _) | (apply x_store; assumption; exact rfl; exact rfl; (exact (by repeat' constructor)); (exact (by repeat' constructor)); exact rfl; exact rfl; exact rfl; (exact (by repeat' constructor)); intro _ _) | (apply x_build; exact rfl; exact rfl; exact rfl; (exact (by repeat' constructor))) | (apply x_builtin; exact rfl; exact rfl; exact (fun _ => rfl); (exact (by repeat' constructor))) | (apply x_index; exact rfl; exact rfl; exact rfl; exact rfl; exact rfl; (constructor); (first | omega | exact size_pos (by assumption) | assumption); (first | exact rfl | assumption | exact Rd.some_ (by assumption) (by omega) | exact Rd.some_ (Old.rd (by assumption)) (by omega) | exact (Sat.rd (by assumption) (by exact (by repeat' constructor))).some_ (by omega))) | (apply x_loadR; exact rfl; exact rfl; exact rfl; (first | exact Old.now (by assumption) (by assumption) | exact Sat.rdpr (by assumption) (by exact (by repeat' constructor)) | exact Sat.rd (by assumption) (by exact (by repeat' constructor))); (first | omega | exact size_pos (by assumption) | assumption); exact rfl; exact rfl; (exact (by repeat' constructor))) | (apply x_dec; exact rfl; all_goals (intro _; try omega))))
    rename_i b5 _ _ _ _ b6 _ _ w5 S5
    refine cw_loop [8, 25, 26, 27, 28, 29, 30, 31, 32, 33, 34, 35] [25] (fun us wr => ∃ (j : Nat) (A2 : Option Addr) (c2 : Nat), j ≤ (ps.getD i pt0).cs.length ∧ us = [.int .i64 j] ∧ Sat w [] (.rw 0 (.slice A2 j c2) 71 2 (((ps.getD i pt0).cs.take j).map chC) :: .cl b6 68 [.int .i64 (ps.getD i pt0).wt, .slice A2 j c2] :: .cl b5 63 (ptC (ps.getD i pt0)) :: .rw 0 (.slice A' i c') 68 2 (qs.map ptC) :: .cl b3 28 [.int .i64 m, .slice A' i c'] :: .cl b2 28 [.int .i64 0, .slice none 0 0] :: .cl b1 24 [.int .i64 m, .slice B ps.length cB] :: qs.map qH) wr) (fun us _ => (ps.getD i pt0).cs.length - (intOf (us.getD 0 undef)).toNat) ?_ ?_
    · exact ⟨0, none, 0, Nat.zero_le _, rfl, S5.addNil _ _⟩
    clear Sr S5
    rintro g2 us wr2 ⟨j, A2, c2, hj, rfl, Sj⟩
    by_cases hlj : j < (ps.getD i pt0).cs.length
    · have hkl : (((ps.getD i pt0).cs.take j).map chC).length = j := by rw [List.length_map, List.length_take]; omega
      have hb : ((((ps.getD i pt0).cs.take j).map chC).length + 1) * 16 ≤ reachBytes := Nat.le_trans (Nat.mul_le_mul_right 16 (by omega)) hcz'
      (repeat' (first | apply cw_seq | apply cw_region | apply wl_nil | apply cw_block | apply cw_skip | (apply x_append1B; assumption; exact rfl; exact rfl; exact rfl; exact rfl; exact rfl; (exact (by repeat' constructor)); (exact (by repeat' constructor)); exact rfl; exact rfl; exact rfl; exact hb; intro _ _ _ _) | (apply x_move; exact rfl; exact rfl; (exact (by repeat' constructor))) | (apply x_fieldB; exact rfl; exact rfl; exact rfl; exact rfl; (constructor)) | (apply x_load; assumption; exact rfl; exact rfl; exact rfl; (exact (by repeat' constructor)); exact rfl; exact rfl; (exact (by repeat' constructor))) | (apply x_bin; exact rfl; exact rfl; exact rfl; (first | exact .z (.wrap (by omega)) | exact (by repeat' constructor))) | (apply x_alloc; assumption; exact rfl; exact rfl; exact rfl; (exact (by repeat' constructor)); intro _ _ _) | (apply x_store; assumption; exact rfl; exact rfl; (exact (by repeat' constructor)); (exact (by repeat' constructor)); exact rfl; exact rfl; exact rfl; (exact (by repeat' constructor)); intro _ _) | (apply x_buildSlice; assumption; exact rfl; exact rfl; exact rfl; (exact (by repeat' constructor)); intro _ _ _) | (apply x_index; exact rfl; exact rfl; exact rfl; exact rfl; exact rfl; (constructor); (first | omega | exact size_pos (by assumption) | assumption); (first | exact rfl | assumption | exact Rd.some_ (by assumption) (by omega) | exact Rd.some_ (Old.rd (by assumption)) (by omega) | exact (Sat.rd (by assumption) (by exact (by repeat' constructor))).some_ (by omega))) | (apply x_loadR; exact rfl; exact rfl; exact rfl; (first | exact Old.now (by assumption) (by assumption) | exact Sat.rdpr (by assumption) (by exact (by repeat' constructor)) | exact Sat.rd (by assumption) (by exact (by repeat' constructor))); (first | omega | exact size_pos (by assumption) | assumption); exact rfl; exact rfl; (exact (by repeat' constructor))) | (apply x_dec; exact rfl; all_goals (intro _; try omega))))
      rename_i g1 cap1 _ _ w6 S6
      have hk2 : (((ps.getD i pt0).cs.take j).map chC).length + 1 = j + 1 := by omega
      rw [hk2] at S6
      refine ⟨rfl, (by repeat (first | exact Agree.updl rfl (Agree.mask _ _ _) | refine Agree.upd rfl ?_)), ⟨j + 1, some ⟨g1, 0, none⟩, cap1, hlj, rfl, ?_⟩, ?_⟩
      · rw [take_suc (d := ch0) hlj, List.map_append]
        exact Sat.drop2 S6
      · show (ps.getD i pt0).cs.length - (j + 1 : Int).toNat < (ps.getD i pt0).cs.length - (j : Int).toNat
        omega
    · have e : j = (ps.getD i pt0).cs.length := by omega
      subst e
      have hkl : (qs.map ptC).length = i := by rw [List.length_map]; exact hql
      have hb : ((qs.map ptC).length + 1) * 32 ≤ reachBytes := Nat.le_trans (Nat.mul_le_mul_right 32 (by omega)) hz
      (repeat' (first | apply cw_seq | apply cw_region | apply wl_nil | apply cw_exit | (apply x_append1B; assumption; exact rfl; exact rfl; exact rfl; exact rfl; exact rfl; (exact (by repeat' constructor)); (exact (by repeat' constructor)); exact rfl; exact rfl; exact rfl; exact hb; intro _ _ _ _) | (apply x_move; exact rfl; exact rfl; (exact (by repeat' constructor))) | (apply x_fieldB; exact rfl; exact rfl; exact rfl; exact rfl; (constructor)) | (apply x_load; assumption; exact rfl; exact rfl; exact rfl; (exact (by repeat' constructor)); exact rfl; exact rfl; (exact (by repeat' constructor))) | (apply x_bin; exact rfl; exact rfl; exact rfl; (first | exact .z (.wrap (by omega)) | exact (by repeat' constructor))) | (apply x_store; assumption; exact rfl; exact rfl; (exact (by repeat' constructor)); (exact (by repeat' constructor)); exact rfl; exact rfl; exact rfl; (exact (by repeat' constructor)); intro _ _) | (apply x_buildSlice; assumption; exact rfl; exact rfl; exact rfl; (exact (by repeat' constructor)); intro _ _ _) | (apply x_dec; exact rfl; all_goals (intro _; try omega))))
      rename_i g1 cap1 _ _ w6 S6
      have hk2 : (qs.map ptC).length + 1 = i + 1 := by omega
      rw [hk2, List.take_length] at S6
      refine ⟨rfl, (by repeat (first | exact Agree.updl rfl (Agree.mask _ _ _) | refine Agree.upd rfl ?_ | refine Agree.updl rfl ?_ | refine Agree.maskIn rfl ?_)), ⟨i + 1, some ⟨g1, 0, none⟩, cap1, qs ++ [⟨(ps.getD i pt0).wt, A2, c2, (ps.getD i pt0).cs⟩], hlt, rfl, ?_, ?_, ?_⟩, ?_⟩
      · simp [hql]
      · rw [List.map_append, hqs, take_suc (d := pt0) hlt, List.map_append]
        rfl
      · rw [List.map_append, List.map_append]
        have S7 : Sat w [] (qH ⟨(ps.getD i pt0).wt, A2, c2, (ps.getD i pt0).cs⟩ :: .rw 0 (.slice (some ⟨g1, 0, none⟩) (i + 1) cap1) 68 2 (qs.map ptC ++ [ptC ⟨(ps.getD i pt0).wt, A2, c2, (ps.getD i pt0).cs⟩]) :: .cl b3 28 [.int .i64 m, .slice (some ⟨g1, 0, none⟩) (i + 1) cap1] :: .cl b2 28 [.int .i64 0, .slice none 0 0] :: .cl b1 24 [.int .i64 m, .slice B ps.length cB] :: qs.map qH) w6 :=
          Sat.drop S6 _ (.cons _ (.cons_cons _ (.cons _ (.cons _ (List.Sublist.refl _)))))
        exact S7.perm' (List.perm_append_comm (l₁ := [_]))
      · show ps.length - (i + 1 : Int).toNat < ps.length - (i : Int).toNat
        omega
  · have e : i = ps.length := by omega
    subst e
    (repeat' (first | apply cw_seq | apply cw_region | apply wl_nil | apply cw_exit | apply cw_ret | (apply x_load; assumption; exact rfl; exact rfl; exact rfl; (exact (by repeat' constructor)); exact rfl; exact rfl; (exact (by repeat' constructor))) | (apply x_bin; exact rfl; exact rfl; exact rfl; (first | exact .z (.wrap (by omega)) | exact (by repeat' constructor))) | (apply x_store; assumption; exact rfl; exact rfl; (exact (by repeat' constructor)); (exact (by repeat' constructor)); exact rfl; exact rfl; exact rfl; (exact (by repeat' constructor)); intro _ _) | (apply x_dec; exact rfl; all_goals (intro _; try omega))))
    (first | refine q_retS (by assumption) rfl (by repeat (first | exact .nil | (apply RV.tmp; exact (by repeat' constructor)) | (apply RV.cell; exact rfl; exact (by repeat' constructor); exact rfl; exact rfl; exact (by repeat' constructor)))) ?_ | (simp only [thenQ, blockQ]; refine q_retS (by assumption) rfl (by repeat (first | exact .nil | (apply RV.tmp; exact (by repeat' constructor)) | (apply RV.cell; exact rfl; exact (by repeat' constructor); exact rfl; exact rfl; exact (by repeat' constructor)))) ?_))
    rename_i w2 S2
    rw [List.take_length] at hqs
    rw [← hql] at S2 ⊢
    exact ⟨⟨A', c', qs, hqs⟩, rfl, Sat.drop S2 _ (.cons_cons _ (.cons _ (.cons _ (.cons _ (List.Sublist.refl _)))))⟩
end Go.Proofs.Ytecmgjhnfgeldaa.Al
