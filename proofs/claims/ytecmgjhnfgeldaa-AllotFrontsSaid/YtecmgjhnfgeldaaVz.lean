/- All picks, by the reference: the walk. No statement of the seat is proved here. -/
import Derived.Test.YtecmgjhnfgeldaaVy
namespace Go.Proofs.Ytecmgjhnfgeldaa.Al
set_option linter.unusedVariables false
set_option linter.unusedSimpArgs false
open Go Go.RowKit
structure PQ (ps : List Pt) where
  A : Option Addr
  c : Nat
  rs : List IR
  xs : rs.map IR.xs = pkI ps ps.length
def pqV {ps : List Pt} (q : PQ ps) : Value := .slice q.A q.rs.length q.c
def pqH {ps : List Pt} (q : PQ ps) : List HO := .rw 0 (.slice q.A q.rs.length q.c) 31 1 (q.rs.map irV) :: q.rs.map irH
theorem is_rowI {r r' : IR} (h : r = r') : Is (.slice r.A r.xs.length r.c) (.slice r'.A r'.xs.length r'.c) := by subst h; exact .z .any
theorem sl_nilI {r : IR} (h : r.xs.length = 0) (A : Option Addr) (c : Nat) : (.slice A r.xs.length c : Value) = .slice A 0 c := by rw [h]
theorem hasOf2 {o : HO} {h : List HO} (hm : o ∈ h) : Has h o := hasOf hm
theorem pkC_len1 : ∀ c : Int, (pkC c).length = 1 := fun _ => rfl
theorem ext_len (l : List Int) (n : Nat) : (extI l n).length = n := by simp [extI]
theorem ext_flat {l : List IR} {k n : Nat} (h : k ≤ l.length) : ((l.take k).flatMap fun r => extI r.xs n).length = k * n := by
  rw [List.length_flatMap]
  simp only [ext_len]
  rw [List.map_const', List.sum_replicate_nat, List.length_take, Nat.min_eq_left h]
theorem pkI_mem {ps : List Pt} {i : Nat} {l : List Int} (h : l ∈ pkI ps i) : l.length ≤ i := by
  obtain ⟨x, hx, rfl⟩ := List.mem_map.1 h
  have := picks_len hx
  rw [List.length_map, List.length_take] at this
  rw [List.length_map]
  omega
theorem ir_fin {w w0 : World} {M : List Nat} {r2 : IR} {b c d : HO} {nrs : List IR} {Y : List HO} (S : Sat w0 M (irH r2 :: b :: c :: d :: (nrs.map irH ++ Y)) w) : Sat w0 M (b :: c :: d :: ((nrs ++ [r2]).map irH ++ Y)) w := by
  rw [List.map_append, List.append_assoc]
  exact S.perm' (List.perm_middle (l₁ := b :: c :: d :: nrs.map irH)).symm
theorem ir_row {r : IR} {c : Int} {g cap : Nat} : irH ⟨some ⟨g, 0, none⟩, cap, r.xs ++ [c]⟩ = .rw 0 (.slice (some ⟨g, 0, none⟩) ((r.xs.map pkC).length + 1) cap) 3 1 (r.xs.map pkC ++ [pkC c]) := by
  unfold irH
  rw [List.length_append, List.map_append, List.length_map]
  rfl
theorem ir_rows {r : IR} {c : Int} {g cap g2 cap2 : Nat} {nrs : List IR} : HO.rw 0 (.slice (some ⟨g2, 0, none⟩) (nrs ++ [(⟨some ⟨g, 0, none⟩, cap, r.xs ++ [c]⟩ : IR)]).length cap2) 31 1 ((nrs ++ [(⟨some ⟨g, 0, none⟩, cap, r.xs ++ [c]⟩ : IR)]).map irV) = .rw 0 (.slice (some ⟨g2, 0, none⟩) ((nrs.map irV).length + 1) cap2) 31 1 (nrs.map irV ++ [[.slice (some ⟨g, 0, none⟩) ((r.xs.map pkC).length + 1) cap]]) := by
  rw [List.length_append, List.map_append, List.length_map, List.length_map]
  show HO.rw 0 _ _ 1 (_ ++ [[Value.slice _ (r.xs ++ [c]).length _]]) = _
  rw [List.length_append]
  rfl
set_option maxRecDepth 100000 in
theorem e_rPicks : Ent Try.prog 37 := fun _ _ => rfl
set_option maxRecDepth 8000 in
set_option maxHeartbeats 8000000 in
theorem rPicks_c (m : Int) (B : Option Addr) (cB : Nat) (ps : List Pt) (ho : OkT m ps) (hN : prodN ps ≤ 20000) (w : World) (R : Rd w B 2 ps.length (fun i => ptC (ps.getD i pt0))) (R2 : ∀ i, i < ps.length → Rd w (pat ps i).A 2 (pat ps i).cs.length (fun j => chC ((pat ps i).cs.getD j ch0))) : Calls Try.prog 37 #[.agg #[.int .i64 m, .slice B ps.length cB]] w (RetP fun v w' => ∃ q : PQ ps, v = pqV q ∧ Sat w [] (pqH q) w') := by
  refine calls_of_cw (args := [.agg #[.int .i64 m, .slice B ps.length cB]]) Try.func37 rfl rfl ?_
  have S := Sat.start [] w
  have O := R.old
  have hn := ho.n16
  (repeat' (first | apply cw_seq | apply cw_region | apply wl_nil | apply cw_block | (apply x_assign; exact rfl; exact rfl; (exact (by repeat' constructor))) | (apply x_box; assumption; exact rfl; exact rfl; (exact (by repeat' constructor)); (exact (by repeat' constructor)); intro _ _ _) | (apply x_buildSlice; assumption; exact rfl; exact rfl; exact rfl; (exact (by repeat' constructor)); intro _ _ _)))
  rename_i bT _ _ bO w1 S1
  replace S1 := clRowV (xs := [ir0].map irV) (size := 1) S1 .head (by simp [irV]) (by decide)
  replace S1 := S1.addNil 3 1
  refine cw_loop [3, 4, 5, 6, 7, 9, 10, 11, 12, 13, 14, 15, 16, 17, 18, 19, 20, 21, 22, 23, 24, 25, 26, 27, 28, 29, 30, 31, 32, 33, 34, 35, 36, 37, 38, 39, 40, 41, 42, 43, 44, 45] [3, 4] (fun us wr => ∃ (i : Nat) (oA : Option Addr) (oc : Nat) (ors : List IR), i ≤ ps.length ∧ us = [.slice oA ors.length oc, .int .i64 i] ∧ ors.map IR.xs = pkI ps i ∧ Sat w [] (.cl bT 28 [.int .i64 m, .slice B ps.length cB] :: .rw 0 (.slice oA ors.length oc) 31 1 (ors.map irV) :: ors.map irH) wr) (fun us _ => ps.length - (intOf (us.getD 1 undef)).toNat) ?_ ?_
  · exact ⟨0, some ⟨bO, 0, none⟩, 1, [ir0], Nat.zero_le _, rfl, rfl, Sat.perm' S1 (List.Perm.trans (.cons _ (List.Perm.swap _ _ _)) (List.Perm.trans (List.Perm.swap _ _ _) (.cons _ (List.Perm.swap _ _ _))))⟩
  clear S1 S
  rintro g us wr ⟨i, oA, oc, ors, hi, rfl, hors, Sr⟩
  by_cases hlt : i < ps.length
  · have hop := ho.pt i hlt
    have horl : ors.length ≤ 20000 := by have := pkI_few ho hN i; rw [← hors, List.length_map] at this; exact this
    have hcn := hop.n16
    have O3 : Old w [] (ps.getD i pt0).A 2 (ps.getD i pt0).cs.length (fun j => chC ((ps.getD i pt0).cs.getD j ch0)) := (R2 i hlt).old
    (repeat' (first | apply cw_seq | apply cw_region | apply wl_nil | apply cw_block | apply cw_skip | (apply x_move; exact rfl; exact rfl; (exact (by repeat' constructor))) | (apply x_assign; exact rfl; exact rfl; (exact (by repeat' constructor))) | (apply x_fieldB; exact rfl; exact rfl; exact rfl; exact rfl; (constructor)) | (apply x_load; assumption; exact rfl; exact rfl; exact rfl; (exact (by repeat' constructor)); exact rfl; exact rfl; (exact (by repeat' constructor))) | (apply x_bin; exact rfl; exact rfl; exact rfl; (first | exact .z (.wrap (by omega)) | exact (by repeat' constructor))) | (apply x_builtin; exact rfl; exact rfl; exact (fun _ => rfl); (exact (by repeat' constructor))) | (apply x_dec; exact rfl; all_goals (intro _; try omega))))
    refine cw_loop [5, 6, 7, 16, 17, 18, 19, 20, 21, 22, 23, 24, 25, 26, 27, 28, 29, 30, 31, 32, 33, 34, 35, 36, 37, 38, 39, 40, 41, 42, 43, 44] [5, 6] (fun us wr => ∃ (k : Nat) (nA : Option Addr) (nc : Nat) (nrs : List IR), k ≤ ors.length ∧ us = [.slice nA nrs.length nc, .int .i64 k] ∧ nrs.map IR.xs = (ors.take k).flatMap (fun r => extI r.xs (ps.getD i pt0).cs.length) ∧ Sat w [] (.rw 0 (.slice nA nrs.length nc) 31 1 (nrs.map irV) :: .cl bT 28 [.int .i64 m, .slice B ps.length cB] :: .rw 0 (.slice oA ors.length oc) 31 1 (ors.map irV) :: (nrs.map irH ++ ors.map irH)) wr) (fun us _ => ors.length - (intOf (us.getD 1 undef)).toNat) ?_ ?_
    · exact ⟨0, none, 0, [], Nat.zero_le _, rfl, rfl, Sr.addNil _ _⟩
    clear Sr
    rintro g1 us1 wr1 ⟨k, nA, nc, nrs, hk, rfl, hnr, Sr⟩
    by_cases hkl : k < ors.length
    · (repeat' (first | apply cw_seq | apply cw_region | apply wl_nil | apply cw_block | apply cw_skip | (apply x_move; exact rfl; exact rfl; (exact (by repeat' constructor))) | (apply x_assign; exact rfl; exact rfl; (exact (by repeat' constructor))) | (apply x_bin; exact rfl; exact rfl; exact rfl; (first | exact .z (.wrap (by omega)) | exact (by repeat' constructor))) | (apply x_builtin; exact rfl; exact rfl; exact (fun _ => rfl); (exact (by repeat' constructor))) | (apply x_dec; exact rfl; all_goals (intro _; try omega))))
      refine cw_loop [5, 7, 22, 23, 24, 25, 26, 27, 28, 29, 30, 31, 32, 33, 34, 35, 36, 37, 38, 39, 40, 41, 42, 43, 44] [5, 7] (fun us wr => ∃ (c : Nat) (nA : Option Addr) (nc : Nat) (nrs : List IR), c ≤ (ps.getD i pt0).cs.length ∧ us = [.slice nA nrs.length nc, .int .i64 c] ∧ nrs.map IR.xs = (ors.take k).flatMap (fun r => extI r.xs (ps.getD i pt0).cs.length) ++ extI (ors.getD k ir0).xs c ∧ Sat w [] (.rw 0 (.slice nA nrs.length nc) 31 1 (nrs.map irV) :: .cl bT 28 [.int .i64 m, .slice B ps.length cB] :: .rw 0 (.slice oA ors.length oc) 31 1 (ors.map irV) :: (nrs.map irH ++ ors.map irH)) wr) (fun us _ => (ps.getD i pt0).cs.length - (intOf (us.getD 1 undef)).toNat) ?_ ?_
      · exact ⟨0, nA, nc, nrs, Nat.zero_le _, rfl, by rw [hnr]; simp [extI], Sr⟩
      clear Sr hnr
      rintro g2 us2 wr2 ⟨c, nA, nc, nrs, hc, rfl, hnr, Sr⟩
      by_cases hcl : c < (ps.getD i pt0).cs.length
      · obtain ⟨r, hr⟩ : ∃ r, ors.getD k ir0 = r := ⟨_, rfl⟩
        rw [hr] at hnr
        have hrm : irH r ∈ ors.map irH := by rw [← hr]; exact List.mem_map_of_mem (getD_mem ir0 hkl)
        have hnl9 : (nrs.map irV).length < 1000000000 := by
          have h1 := congrArg List.length hnr
          rw [List.length_map, List.length_append, ext_flat hk, ext_len] at h1
          have h2 := pkI_few ho hN (i + 1)
          rw [pkI_suc hlt, ← hors, List.flatMap_map] at h2
          have h3 := ext_flat (l := ors) (n := (ps.getD i pt0).cs.length) (Nat.le_refl _)
          rw [List.take_length] at h3
          rw [h3] at h2
          have h4 : (k + 1) * (ps.getD i pt0).cs.length ≤ ors.length * (ps.getD i pt0).cs.length := Nat.mul_le_mul_right _ hkl
          rw [Nat.succ_mul] at h4
          rw [List.length_map]
          omega
        have h9 : r.xs.length < 1000000000 := by
          have h1 : r.xs ∈ pkI ps i := by rw [← hors, ← hr]; exact List.mem_map_of_mem (getD_mem ir0 hkl)
          have h2 := pkI_mem h1
          omega
        by_cases hr0 : r.xs.length = 0
        · (repeat' (first | apply cw_seq | apply cw_region | apply wl_nil | apply cw_block | apply cw_skip | (apply x_loadR; exact rfl; exact rfl; exact rfl; exact Sat.rdmapN (l := ors) (en := irV) ir0 (by assumption) (by exact (by repeat' constructor)) rfl; exact hkl; exact rfl; exact rfl; exact is_rowI hr) | (apply x_append0b; exact rfl; exact rfl; exact rfl; exact rfl; (first | exact rfl | exact sl_nilI hr0 _ _); exact Nat.le_refl _) | (apply x_append1; assumption; exact rfl; exact rfl; exact rfl; exact rfl; exact rfl; (exact (by repeat' constructor)); (exact (by repeat' constructor)); exact rfl; exact rfl; exact rfl; (exact (by decide)); intro _ _ _ _) | (apply x_buildSlice0; assumption; exact rfl; exact rfl; exact rfl; intro _ _ _ _ _) | (apply x_append1; assumption; exact rfl; exact rfl; exact rfl; exact rfl; exact rfl; (exact (by repeat' constructor)); (exact (by repeat' constructor)); exact rfl; exact rfl; exact rfl; (first | assumption | omega | (simp; omega)); intro _ _ _ _) | (apply x_move; exact rfl; exact rfl; (exact (by repeat' constructor))) | (apply x_assign; exact rfl; exact rfl; (exact (by repeat' constructor))) | (apply x_fieldB; exact rfl; exact rfl; exact rfl; exact rfl; (constructor)) | (apply x_load; assumption; exact rfl; exact rfl; exact rfl; (exact (by repeat' constructor)); exact rfl; exact rfl; (exact (by repeat' constructor))) | (apply x_bin; exact rfl; exact rfl; exact rfl; (first | exact .z (.wrap (by omega)) | exact (by repeat' constructor))) | (apply x_builtin; exact rfl; exact rfl; exact (fun _ => rfl); (exact (by repeat' constructor))) | (apply x_buildSlice; assumption; exact rfl; exact rfl; exact rfl; (exact (by repeat' constructor)); intro _ _ _) | (apply x_fieldE; exact rfl; exact rfl; exact rfl; exact rfl; (constructor)) | (apply x_index; exact rfl; exact rfl; exact rfl; exact rfl; exact rfl; (constructor); (first | omega | exact size_pos (by assumption) | assumption); (first | exact rfl | assumption | exact Rd.some_ (by assumption) (by omega) | exact Rd.some_ (Old.rd (by assumption)) (by omega) | exact (Sat.rd (by assumption) (by exact (by repeat' constructor))).some_ (by omega))) | (apply x_loadR; exact rfl; exact rfl; exact rfl; (first | exact Old.now (by assumption) (by assumption) | exact Sat.rdpr (by assumption) (by exact (by repeat' constructor)) | exact Sat.rd (by assumption) (by exact (by repeat' constructor))); (first | omega | exact size_pos (by assumption) | assumption); exact rfl; exact rfl; (exact (by repeat' constructor))) | (apply x_dec; exact rfl; all_goals (intro _; try omega))))
          have hx0 : r.xs = [] := List.length_eq_zero_iff.1 hr0
          rename_i g1 cap1 _ _ _ _ _ g2 cap2 w6 S6
          have S7 : Sat w [] (irH ⟨some ⟨g1, 0, none⟩, cap1, r.xs ++ [(c : Int)]⟩ :: .rw 0 (.slice (some ⟨g2, 0, none⟩) (nrs ++ [(⟨some ⟨g1, 0, none⟩, cap1, r.xs ++ [(c : Int)]⟩ : IR)]).length cap2) 31 1 ((nrs ++ [(⟨some ⟨g1, 0, none⟩, cap1, r.xs ++ [(c : Int)]⟩ : IR)]).map irV) :: .cl bT 28 [.int .i64 m, .slice B ps.length cB] :: .rw 0 (.slice oA ors.length oc) 31 1 (ors.map irV) :: (nrs.map irH ++ ors.map irH)) w6 := by
            rw [ir_row, ir_rows]
            rw [hx0]
            exact Sat.drop S6 _ (.cons _ (.cons _ (List.Sublist.refl _)))
          refine ⟨rfl, (by repeat (first | exact Agree.updl rfl (Agree.mask _ _ _) | refine Agree.upd rfl ?_)), ⟨c + 1, some ⟨g2, 0, none⟩, cap2, nrs ++ [⟨some ⟨g1, 0, none⟩, cap1, r.xs ++ [(c : Int)]⟩], hcl, ?_, ?_, ir_fin S7⟩, ?_⟩
          · show [Value.slice _ ((nrs.map irV).length + 1) _, _] = _
            rw [List.length_append, List.length_map]
            rfl
          · rw [List.map_append, hnr, hr, extI_suc, List.append_assoc]
            rfl
          · show (ps.getD i pt0).cs.length - (c + 1 : Int).toNat < (ps.getD i pt0).cs.length - (c : Int).toNat
            omega
        · (repeat' (first | apply cw_seq | apply cw_region | apply wl_nil | apply cw_block | apply cw_skip | (apply x_loadR; exact rfl; exact rfl; exact rfl; exact Sat.rdmapN (l := ors) (en := irV) ir0 (by assumption) (by exact (by repeat' constructor)) rfl; exact hkl; exact rfl; exact rfl; exact is_rowI hr) | (apply x_appendAllB (l := r.xs) (en := pkC) (0 : Int) pkC_len1 (Sat.rdmapN (0 : Int) (by assumption) (hasOf (by repeat (first | exact List.mem_append_right _ hrm | apply List.mem_cons_of_mem))) rfl) h9 (by omega); assumption; exact rfl; exact rfl; exact rfl; exact rfl; exact rfl; exact .inr ⟨_, rfl⟩; exact rfl; intro _ _ _ _ _) | (apply x_append1; assumption; exact rfl; exact rfl; exact rfl; exact rfl; exact rfl; (exact (by repeat' constructor)); (exact (by repeat' constructor)); exact rfl; exact rfl; exact rfl; (exact (by rw [List.length_map]; exact h9)); intro _ _ _ _) | (apply x_buildSlice0; assumption; exact rfl; exact rfl; exact rfl; intro _ _ _ _ _) | (apply x_append1; assumption; exact rfl; exact rfl; exact rfl; exact rfl; exact rfl; (exact (by repeat' constructor)); (exact (by repeat' constructor)); exact rfl; exact rfl; exact rfl; (first | assumption | omega | (simp; omega)); intro _ _ _ _) | (apply x_move; exact rfl; exact rfl; (exact (by repeat' constructor))) | (apply x_assign; exact rfl; exact rfl; (exact (by repeat' constructor))) | (apply x_fieldB; exact rfl; exact rfl; exact rfl; exact rfl; (constructor)) | (apply x_load; assumption; exact rfl; exact rfl; exact rfl; (exact (by repeat' constructor)); exact rfl; exact rfl; (exact (by repeat' constructor))) | (apply x_bin; exact rfl; exact rfl; exact rfl; (first | exact .z (.wrap (by omega)) | exact (by repeat' constructor))) | (apply x_builtin; exact rfl; exact rfl; exact (fun _ => rfl); (exact (by repeat' constructor))) | (apply x_buildSlice; assumption; exact rfl; exact rfl; exact rfl; (exact (by repeat' constructor)); intro _ _ _) | (apply x_fieldE; exact rfl; exact rfl; exact rfl; exact rfl; (constructor)) | (apply x_index; exact rfl; exact rfl; exact rfl; exact rfl; exact rfl; (constructor); (first | omega | exact size_pos (by assumption) | assumption); (first | exact rfl | assumption | exact Rd.some_ (by assumption) (by omega) | exact Rd.some_ (Old.rd (by assumption)) (by omega) | exact (Sat.rd (by assumption) (by exact (by repeat' constructor))).some_ (by omega))) | (apply x_loadR; exact rfl; exact rfl; exact rfl; (first | exact Old.now (by assumption) (by assumption) | exact Sat.rdpr (by assumption) (by exact (by repeat' constructor)) | exact Sat.rd (by assumption) (by exact (by repeat' constructor))); (first | omega | exact size_pos (by assumption) | assumption); exact rfl; exact rfl; (exact (by repeat' constructor))) | (apply x_dec; exact rfl; all_goals (intro _; try omega))))
          rename_i g1 cap1 _ _ _ _ _ g2 cap2 w6 S6
          have S7 : Sat w [] (irH ⟨some ⟨g1, 0, none⟩, cap1, r.xs ++ [(c : Int)]⟩ :: .rw 0 (.slice (some ⟨g2, 0, none⟩) (nrs ++ [(⟨some ⟨g1, 0, none⟩, cap1, r.xs ++ [(c : Int)]⟩ : IR)]).length cap2) 31 1 ((nrs ++ [(⟨some ⟨g1, 0, none⟩, cap1, r.xs ++ [(c : Int)]⟩ : IR)]).map irV) :: .cl bT 28 [.int .i64 m, .slice B ps.length cB] :: .rw 0 (.slice oA ors.length oc) 31 1 (ors.map irV) :: (nrs.map irH ++ ors.map irH)) w6 := by
            rw [ir_row, ir_rows]
            exact Sat.drop S6 _ (.cons _ (.cons _ (.cons_cons _ (.cons _ (List.Sublist.refl _)))))
          refine ⟨rfl, (by repeat (first | exact Agree.updl rfl (Agree.mask _ _ _) | refine Agree.upd rfl ?_)), ⟨c + 1, some ⟨g2, 0, none⟩, cap2, nrs ++ [⟨some ⟨g1, 0, none⟩, cap1, r.xs ++ [(c : Int)]⟩], hcl, ?_, ?_, ir_fin S7⟩, ?_⟩
          · show [Value.slice _ ((nrs.map irV).length + 1) _, _] = _
            rw [List.length_append, List.length_map]
            rfl
          · rw [List.map_append, hnr, hr, extI_suc, List.append_assoc]
            rfl
          · show (ps.getD i pt0).cs.length - (c + 1 : Int).toNat < (ps.getD i pt0).cs.length - (c : Int).toNat
            omega
      · have ec : c = (ps.getD i pt0).cs.length := by omega
        subst ec
        (repeat' (first | apply cw_seq | apply cw_region | apply wl_nil | apply cw_exit | (apply x_move; exact rfl; exact rfl; (exact (by repeat' constructor))) | (apply x_assign; exact rfl; exact rfl; (exact (by repeat' constructor))) | (apply x_fieldB; exact rfl; exact rfl; exact rfl; exact rfl; (constructor)) | (apply x_load; assumption; exact rfl; exact rfl; exact rfl; (exact (by repeat' constructor)); exact rfl; exact rfl; (exact (by repeat' constructor))) | (apply x_bin; exact rfl; exact rfl; exact rfl; (first | exact .z (.wrap (by omega)) | exact (by repeat' constructor))) | (apply x_builtin; exact rfl; exact rfl; exact (fun _ => rfl); (exact (by repeat' constructor))) | (apply x_fieldE; exact rfl; exact rfl; exact rfl; exact rfl; (constructor)) | (apply x_index; exact rfl; exact rfl; exact rfl; exact rfl; exact rfl; (constructor); (first | omega | exact size_pos (by assumption) | assumption); (first | exact rfl | assumption | exact Rd.some_ (by assumption) (by omega) | exact Rd.some_ (Old.rd (by assumption)) (by omega) | exact (Sat.rd (by assumption) (by exact (by repeat' constructor))).some_ (by omega))) | (apply x_loadR; exact rfl; exact rfl; exact rfl; (first | exact Old.now (by assumption) (by assumption) | exact Sat.rdpr (by assumption) (by exact (by repeat' constructor)) | exact Sat.rd (by assumption) (by exact (by repeat' constructor))); (first | omega | exact size_pos (by assumption) | assumption); exact rfl; exact rfl; (exact (by repeat' constructor))) | (apply x_dec; exact rfl; all_goals (intro _; try omega))))
        refine ⟨rfl, (by repeat (first | exact Agree.updl rfl (Agree.mask _ _ _) | refine Agree.upd rfl ?_ | refine Agree.updl rfl ?_ | refine Agree.maskIn rfl ?_)), ⟨k + 1, nA, nc, nrs, hkl, rfl, ?_, Sr⟩, ?_⟩
        · rw [hnr, take_suc (d := ir0) hkl, List.flatMap_append, List.flatMap_cons, List.flatMap_nil, List.append_nil]
        · show ors.length - (k + 1 : Int).toNat < ors.length - (k : Int).toNat
          omega
    · have ek : k = ors.length := by omega
      subst ek
      (repeat' (first | apply cw_seq | apply cw_region | apply wl_nil | apply cw_exit | (apply x_move; exact rfl; exact rfl; (exact (by repeat' constructor))) | (apply x_assign; exact rfl; exact rfl; (exact (by repeat' constructor))) | (apply x_bin; exact rfl; exact rfl; exact rfl; (first | exact .z (.wrap (by omega)) | exact (by repeat' constructor))) | (apply x_builtin; exact rfl; exact rfl; exact (fun _ => rfl); (exact (by repeat' constructor))) | (apply x_dec; exact rfl; all_goals (intro _; try omega))))
      refine ⟨rfl, (by repeat (first | exact Agree.updl rfl (Agree.mask _ _ _) | refine Agree.upd rfl ?_ | refine Agree.updl rfl ?_ | refine Agree.maskIn rfl ?_)), ⟨i + 1, nA, nc, nrs, hlt, rfl, ?_, ?_⟩, ?_⟩
      · rw [hnr, pkI_suc hlt, ← hors, List.take_length, List.flatMap_map]
      · exact (Sat.drop Sr (.rw 0 (.slice nA nrs.length nc) 31 1 (nrs.map irV) :: .cl bT 28 [.int .i64 m, .slice B ps.length cB] :: nrs.map irH) (.cons_cons _ (.cons_cons _ (.cons _ (List.sublist_append_left _ _))))).perm' (List.Perm.swap _ _ _)
      · show ps.length - (i + 1 : Int).toNat < ps.length - (i : Int).toNat
        omega
  · have ei : i = ps.length := by omega
    subst ei
    (repeat' (first | apply cw_seq | apply cw_region | apply wl_nil | apply cw_exit | apply cw_ret | (apply x_move; exact rfl; exact rfl; (exact (by repeat' constructor))) | (apply x_assign; exact rfl; exact rfl; (exact (by repeat' constructor))) | (apply x_fieldB; exact rfl; exact rfl; exact rfl; exact rfl; (constructor)) | (apply x_load; assumption; exact rfl; exact rfl; exact rfl; (exact (by repeat' constructor)); exact rfl; exact rfl; (exact (by repeat' constructor))) | (apply x_bin; exact rfl; exact rfl; exact rfl; (first | exact .z (.wrap (by omega)) | exact (by repeat' constructor))) | (apply x_builtin; exact rfl; exact rfl; exact (fun _ => rfl); (exact (by repeat' constructor))) | (apply x_dec; exact rfl; all_goals (intro _; try omega))))
    (first | refine q_retS (by assumption) rfl (by repeat (first | exact .nil | (apply RV.tmp; exact (by repeat' constructor)) | (apply RV.cell; exact rfl; exact (by repeat' constructor); exact rfl; exact rfl; exact (by repeat' constructor)))) ?_ | (simp only [thenQ, blockQ]; refine q_retS (by assumption) rfl (by repeat (first | exact .nil | (apply RV.tmp; exact (by repeat' constructor)) | (apply RV.cell; exact rfl; exact (by repeat' constructor); exact rfl; exact rfl; exact (by repeat' constructor)))) ?_))
    exact ⟨⟨oA, oc, ors, hors⟩, rfl, Sat.drop1 Sr⟩
end Go.Proofs.Ytecmgjhnfgeldaa.Al
