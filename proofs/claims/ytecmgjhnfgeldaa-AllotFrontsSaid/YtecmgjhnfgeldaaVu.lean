/- The front of a task, what more width is worth: by the program. No statement of the seat is proved here. -/
import Derived.Test.YtecmgjhnfgeldaaVt
namespace Go.Proofs.Ytecmgjhnfgeldaa.Al
set_option linter.unusedVariables false
set_option linter.unusedSimpArgs false
open Go Go.RowKit
/-- what fronts gives -/
structure FQ (ps : List Pt) where
  g : Nat
  r : PR
  sf : List PR
  len : sf.length = ps.length
  hr : r.xs = frF ps
  hs : ∀ k, k < ps.length → (sf.getD k pr0).xs = frF (ps.drop (k + 1))
def fqV {ps : List Pt} (q : FQ ps) : Value := .slice (some ⟨q.g, 0, none⟩) (ps.length + 1) (ps.length + 1)
def fqH {ps : List Pt} (q : FQ ps) : List HO := .rw 0 (.slice (some ⟨q.g, 0, none⟩) (ps.length + 1) (ps.length + 1)) 39 1 ((q.r :: q.sf).map prV) :: .rw 0 (.slice q.r.A q.r.xs.length q.r.c) 51 2 (q.r.xs.map prC) :: q.sf.map prH
theorem is_rowL {l : List PR} {i : Nat} {r : PR} (h : l.getD i pr0 = r) : Is (.slice (l.getD i pr0).A (l.getD i pr0).xs.length (l.getD i pr0).c) (.slice r.A r.xs.length r.c) := by
  rw [h]
  exact .z .slice
theorem fronts_x (m : Int) (B : Option Addr) (cB : Nat) (ps : List Pt) (ho : OkT m ps) (hN : prodN ps ≤ 20000)
    (w : World) (R : Rd w B 2 ps.length (fun i => ptC (ps.getD i pt0))) (R2 : ∀ i, i < ps.length → Rd w (pat ps i).A 2 (pat ps i).cs.length (fun j => chC ((pat ps i).cs.getD j ch0))) :
    Calls Try.prog 33 #[.slice B ps.length cB] w (RetP fun v w' => ∃ q : FQ ps, v = fqV q ∧ Sat w [] (fqH q) w') := by
  refine (fronts_c m B cB ps ho hN w R R2).mono ?_
  rintro e w' ⟨v, rfl, g, c, sf, hl, hs, rfl, S⟩
  match sf, hl with
  | r :: sf, hl =>
  refine ⟨_, rfl, ⟨g, r, sf, by simpa using hl, hs 0 (by omega), fun k hk => hs (k + 1) (by omega)⟩, rfl, S⟩
noncomputable def frtL (m : Int) (ps : List Pt) : List Pr2 × Int := if ¬ chkE m ps = 0 then ([], chkE m ps) else if 16384 < (frF ps).length then ([], 12) else (frF ps, 0)
theorem frtL_e {m : Int} {ps : List Pt} (h : ¬ chkE m ps = 0) : frtL m ps = ([], chkE m ps) := if_pos h
theorem frtL_12 {m : Int} {ps : List Pt} (h : chkE m ps = 0) (h2 : 16384 < (frF ps).length) : frtL m ps = ([], 12) := (if_neg (not_not_intro h)).trans (if_pos h2)
theorem frtL_0 {m : Int} {ps : List Pt} (h : chkE m ps = 0) (h2 : ¬ 16384 < (frF ps).length) : frtL m ps = (frF ps, 0) := (if_neg (not_not_intro h)).trans (if_neg h2)
set_option maxRecDepth 100000 in
theorem e_FrontT : Ent Try.prog 17 := fun _ _ => rfl
set_option maxRecDepth 8000 in
set_option maxHeartbeats 4000000 in
theorem FrontT_c (m : Int) (B : Option Addr) (cB : Nat) (ps : List Pt) (hp : ps.length ≤ 9223372036854775807) (hcs : ∀ i, i < ps.length → (pat ps i).cs.length ≤ 9223372036854775807) (hN : chkE m ps = 0 → prodN ps ≤ 20000) (w : World) (R : Rd w B 2 ps.length (fun i => ptC (ps.getD i pt0))) (R2 : ∀ i, i < ps.length → Rd w (pat ps i).A 2 (pat ps i).cs.length (fun j => chC ((pat ps i).cs.getD j ch0))) : Calls Try.prog 17 #[.agg #[.int .i64 m, .slice B ps.length cB]] w (RetP (RowR (fun v => .tuple #[v, .int .i64 (frtL m ps).2]) 51 2 ((frtL m ps).1.map prC) w)) := by
  refine calls_of_cw (args := [.agg #[.int .i64 m, .slice B ps.length cB]]) Try.func17 rfl rfl ?_
  have S := Sat.start [] w
  have O := R.old
  by_cases hck : chkE m ps = 0
  · have ho := chkE_ok hck
    have hn := ho.n16
    (repeat' (first | apply cw_seq | apply cw_region | apply wl_nil | apply cw_skip | apply cw_ret | (apply x_callv; assumption; exact rfl; exact rfl; exact rfl; exact e_CheckT; (exact (by repeat' constructor)); with_reducible exact (CheckT_c m B cB ps hp hcs _ (R.old.now (by assumption)) (fun i hi => (R2 i hi).old.now (by assumption))); intro _ _ _) | (apply x_callC (bd := []) (hc := []) (hc' := fqH) (V := fqV) (fr := _); assumption; exact rfl; exact rfl; exact rfl; exact e_fronts; (exact (by repeat' constructor)); exact List.Perm.refl _; exact (fun Sc => fronts_x m B cB ps ho (hN hck) _ (R.old.now (by assumption)) (fun i hi => (R2 i hi).old.now (by assumption))); rintro ⟨g, r, sf, hlen, hr, hs⟩ w5 S5; replace S5 : Sat w [] (.rw 0 (.slice (some ⟨g, 0, none⟩) (ps.length + 1) (ps.length + 1)) 39 1 ((r :: sf).map prV) :: .rw 0 (.slice r.A r.xs.length r.c) 51 2 (r.xs.map prC) :: (sf.map prH ++ _)) w5 := S5; dsimp only [fqV]) | (apply x_move; exact rfl; exact rfl; (exact (by repeat' constructor))) | (apply x_assign; exact rfl; exact rfl; (exact (by repeat' constructor))) | (apply x_fieldB; exact rfl; exact rfl; exact rfl; exact rfl; (constructor)) | (apply x_load; assumption; exact rfl; exact rfl; exact rfl; (exact (by repeat' constructor)); exact rfl; exact rfl; (exact (by repeat' constructor))) | (apply x_bin; exact rfl; exact rfl; exact rfl; (first | exact .z (.wrap (by omega)) | exact (by repeat' constructor))) | (apply x_box; assumption; exact rfl; exact rfl; (exact (by repeat' constructor)); (exact (by repeat' constructor)); intro _ _ _) | (apply x_builtin; exact rfl; exact rfl; exact (fun _ => rfl); (exact (by repeat' constructor))) | (apply x_indexK; exact rfl; exact rfl; exact rfl; exact rfl; exact rfl; (constructor); (constructor); (first | assumption | omega | decide); (first | omega | exact size_pos (by assumption) | assumption); (first | exact rfl | assumption | exact Rd.some_ (by assumption) (by omega) | exact Rd.some_ (Old.rd (by assumption)) (by omega) | exact (Sat.rd (by assumption) (by exact (by repeat' constructor))).some_ (by omega))) | (apply x_loadR; exact rfl; exact rfl; exact rfl; (first | exact Old.now (by assumption) (by assumption) | exact Sat.rdpr (by assumption) (by exact (by repeat' constructor)) | exact Sat.rd (by assumption) (by exact (by repeat' constructor))); (first | omega | exact size_pos (by assumption) | assumption); exact rfl; exact rfl; (exact (by repeat' constructor))) | (apply x_dec; exact rfl; all_goals (intro _; try omega)) | (apply cw_ne; exact rfl; all_goals (intro _; try omega))))
    all_goals first
      | exact absurd hck (by assumption)
      | skip
    · rw [frtL_12 hck (by rw [← hr]; omega)]
      simp only [thenQ]
      refine q_retS (by assumption) rfl (by repeat (first | exact .nil | (apply RV.tmp; exact (by repeat' constructor)) | (apply RV.cell; exact rfl; exact (by repeat' constructor); exact rfl; exact rfl; exact (by repeat' constructor)))) ?_
      exact rowR_nil (V := fun v => .tuple #[v, .int .i64 12]) rfl (Sat.keeps (by assumption))
    · rw [frtL_0 hck (by rw [← hr]; omega), ← hr]
      refine q_retS (by assumption) rfl (by repeat (first | exact .nil | (apply RV.tmp; exact (by repeat' constructor)) | (apply RV.cell; exact rfl; exact (by repeat' constructor); exact rfl; exact rfl; exact (by repeat' constructor)))) ?_
      exact rowR_n (V := fun v => .tuple #[v, .int .i64 0]) (List.length_map _).symm S5 (.tail .head)
  · rw [frtL_e hck]
    (repeat' (first | apply cw_seq | apply cw_region | apply wl_nil | apply cw_ret | (apply x_callv; assumption; exact rfl; exact rfl; exact rfl; exact e_CheckT; (exact (by repeat' constructor)); with_reducible exact (CheckT_c m B cB ps hp hcs _ (R.old.now (by assumption)) (fun i hi => (R2 i hi).old.now (by assumption))); intro _ _ _) | (apply x_move; exact rfl; exact rfl; (exact (by repeat' constructor))) | (apply x_assign; exact rfl; exact rfl; (exact (by repeat' constructor))) | (apply x_load; assumption; exact rfl; exact rfl; exact rfl; (exact (by repeat' constructor)); exact rfl; exact rfl; (exact (by repeat' constructor))) | (apply x_bin; exact rfl; exact rfl; exact rfl; (first | exact .z (.wrap (by omega)) | exact (by repeat' constructor))) | (apply x_box; assumption; exact rfl; exact rfl; (exact (by repeat' constructor)); (exact (by repeat' constructor)); intro _ _ _) | (apply cw_ne; exact rfl; all_goals (intro _; try omega))))
    all_goals first
      | exact absurd (by assumption) hck
      | skip
    simp only [thenQ]
    refine q_retS (by assumption) rfl (by repeat (first | exact .nil | (apply RV.tmp; exact (by repeat' constructor)) | (apply RV.cell; exact rfl; exact (by repeat' constructor); exact rfl; exact rfl; exact (by repeat' constructor)))) ?_
    exact rowR_nil (V := fun v => .tuple #[v, .int .i64 (chkE m ps)]) rfl (Sat.keeps (by assumption))
def wthV (m : Int) (ps : List Pt) (k : Int) : Int × Int := if ¬ chkE m ps = 0 then (0, chkE m ps) else if k < 0 ∨ 1048576 - m < k then (0, 2) else match chpS (frF ps) m with
  | none => (0, 6)
  | some a => match chpS (frF ps) (m + k) with
    | none => (a - 0, 0)
    | some b => (a - b, 0)
theorem wthV_e {m : Int} {ps : List Pt} {k : Int} (h : ¬ chkE m ps = 0) : wthV m ps k = (0, chkE m ps) := if_pos h
theorem wthV_2 {m : Int} {ps : List Pt} {k : Int} (h : chkE m ps = 0) (h2 : k < 0 ∨ 1048576 - m < k) : wthV m ps k = (0, 2) := (if_neg (not_not_intro h)).trans (if_pos h2)
theorem wthV_6 {m : Int} {ps : List Pt} {k : Int} (h : chkE m ps = 0) (h2 : ¬ (k < 0 ∨ 1048576 - m < k)) (h3 : chpS (frF ps) m = none) : wthV m ps k = (0, 6) := by
  rw [wthV, if_neg (not_not_intro h), if_neg h2, h3]
theorem wthV_n {m : Int} {ps : List Pt} {k a : Int} (h : chkE m ps = 0) (h2 : ¬ (k < 0 ∨ 1048576 - m < k)) (h3 : chpS (frF ps) m = some a) (h4 : chpS (frF ps) (m + k) = none) : wthV m ps k = (a - 0, 0) := by
  rw [wthV, if_neg (not_not_intro h), if_neg h2]
  simp only [h3, h4]
theorem wthV_s {m : Int} {ps : List Pt} {k a b : Int} (h : chkE m ps = 0) (h2 : ¬ (k < 0 ∨ 1048576 - m < k)) (h3 : chpS (frF ps) m = some a) (h4 : chpS (frF ps) (m + k) = some b) : wthV m ps k = (a - b, 0) := by
  rw [wthV, if_neg (not_not_intro h), if_neg h2]
  simp only [h3, h4]
theorem chp_le {m t a : Int} {ps : List Pt} (ho : OkT m ps) (h : chpS (frF ps) t = some a) : 0 ≤ a ∧ a ≤ 100000000 := by
  obtain ⟨⟨s, hs, _, rfl⟩, _⟩ := (chp_some (frF_front ps)).1 h
  have := sums_le ps ho.all s hs
  have := ho.n16
  omega
theorem cheapest_s (A : Option Addr) (cA : Nat) (F : List Pr2) (hF : F.length ≤ 1000000) (hA : Asc F) (m : Int) {a : Int} (h : chpS F m = some a) (w : World) (R : Rd w A 2 F.length (fun i => prC (F.getD i (0, 0)))) : Calls Try.prog 34 #[.slice A F.length cA, .int .i64 m] w (RetP (Val (.tuple #[.int .i64 a, .bool true]) w)) := by
  have := cheapest_c A cA F hF hA m w R
  rw [chpV, h] at this
  exact this
theorem cheapest_n (A : Option Addr) (cA : Nat) (F : List Pr2) (hF : F.length ≤ 1000000) (hA : Asc F) (m : Int) (h : chpS F m = none) (w : World) (R : Rd w A 2 F.length (fun i => prC (F.getD i (0, 0)))) : Calls Try.prog 34 #[.slice A F.length cA, .int .i64 m] w (RetP (Val (.tuple #[.int .i64 0, .bool false]) w)) := by
  have := cheapest_c A cA F hF hA m w R
  rw [chpV, h] at this
  exact this
set_option maxRecDepth 100000 in
theorem e_WorthT : Ent Try.prog 20 := fun _ _ => rfl
set_option maxRecDepth 8000 in
set_option maxHeartbeats 8000000 in
theorem WorthT_c (m : Int) (B : Option Addr) (cB : Nat) (ps : List Pt) (hp : ps.length ≤ 9223372036854775807) (hcs : ∀ i, i < ps.length → (pat ps i).cs.length ≤ 9223372036854775807) (hN : chkE m ps = 0 → prodN ps ≤ 20000) (k : Int) (w : World) (R : Rd w B 2 ps.length (fun i => ptC (ps.getD i pt0))) (R2 : ∀ i, i < ps.length → Rd w (pat ps i).A 2 (pat ps i).cs.length (fun j => chC ((pat ps i).cs.getD j ch0))) : Calls Try.prog 20 #[.agg #[.int .i64 m, .slice B ps.length cB], .int .i64 k] w (RetP (Val (.tuple #[.int .i64 (wthV m ps k).1, .int .i64 (wthV m ps k).2]) w)) := by
  refine calls_of_cw (args := [.agg #[.int .i64 m, .slice B ps.length cB], .int .i64 k]) Try.func20 rfl rfl ?_
  have S := Sat.start [] w
  have O := R.old
  by_cases hck : chkE m ps = 0
  · have ho := chkE_ok hck
    have hn := ho.n16
    have hm0 := ho.m0
    have hm1 := ho.m1
    have hfl : (frF ps).length ≤ 1000000 := by have := frF_few ho (hN hck) 0; rw [List.drop_zero] at this; omega
    by_cases hk : k < 0 ∨ 1048576 - m < k
    · rw [wthV_2 hck hk]
      (repeat' (first | apply cw_seq | apply cw_region | apply wl_nil | apply cw_skip | apply cw_ret | (apply x_callv; assumption; exact rfl; exact rfl; exact rfl; exact e_CheckT; (exact (by repeat' constructor)); with_reducible exact (CheckT_c m B cB ps hp hcs _ (R.old.now (by assumption)) (fun i hi => (R2 i hi).old.now (by assumption))); intro _ _ _) | (apply x_gdec; exact rfl; exact rfl; all_goals (intro _; try omega)) | (apply x_not; exact rfl; exact rfl) | (apply x_move; exact rfl; exact rfl; (exact (by repeat' constructor))) | (apply x_assign; exact rfl; exact rfl; (exact (by repeat' constructor))) | (apply x_fieldB; exact rfl; exact rfl; exact rfl; exact rfl; (constructor)) | (apply x_load; assumption; exact rfl; exact rfl; exact rfl; (exact (by repeat' constructor)); exact rfl; exact rfl; (exact (by repeat' constructor))) | (apply x_bin; exact rfl; exact rfl; exact rfl; (first | exact .z (.wrap (by omega)) | exact (by repeat' constructor))) | (apply x_pick; exact rfl; exact rfl; exact rfl; (exact (by repeat' constructor))) | (apply x_box; assumption; exact rfl; exact rfl; (exact (by repeat' constructor)); (exact (by repeat' constructor)); intro _ _ _) | (apply cw_true; exact rfl) | (apply x_dec; exact rfl; all_goals (intro _; try omega)) | (apply cw_ne; exact rfl; all_goals (intro _; try omega))))
      all_goals first
        | (exfalso; omega)
        | exact absurd hck (by assumption)
        | ((first | refine q_retS (by assumption) rfl (by repeat (first | exact .nil | (apply RV.tmp; exact (by repeat' constructor)) | (apply RV.cell; exact rfl; exact (by repeat' constructor); exact rfl; exact rfl; exact (by repeat' constructor)))) ?_ | (simp only [thenQ, blockQ]; refine q_retS (by assumption) rfl (by repeat (first | exact .nil | (apply RV.tmp; exact (by repeat' constructor)) | (apply RV.cell; exact rfl; exact (by repeat' constructor); exact rfl; exact rfl; exact (by repeat' constructor)))) ?_))
           exact ⟨rfl, Sat.keeps (by assumption)⟩)
    cases h1 : chpS (frF ps) m with
    | none =>
      rw [wthV_6 hck hk h1]
      (repeat' (first | apply cw_seq | apply cw_region | apply wl_nil | apply cw_skip | apply cw_ret | (apply x_callv; assumption; exact rfl; exact rfl; exact rfl; exact e_CheckT; (exact (by repeat' constructor)); with_reducible exact (CheckT_c m B cB ps hp hcs _ (R.old.now (by assumption)) (fun i hi => (R2 i hi).old.now (by assumption))); intro _ _ _) | (apply x_gdec; exact rfl; exact rfl; all_goals (intro _; try omega)) | (apply x_callC (bd := []) (hc := []) (hc' := fqH) (V := fqV) (fr := _); assumption; exact rfl; exact rfl; exact rfl; exact e_fronts; (exact (by repeat' constructor)); exact List.Perm.refl _; exact (fun Sc => fronts_x m B cB ps ho (hN hck) _ (R.old.now (by assumption)) (fun i hi => (R2 i hi).old.now (by assumption))); rintro ⟨g, r, sf, hlen, hr, hs⟩ w5 S5; replace S5 : Sat w [] (.rw 0 (.slice (some ⟨g, 0, none⟩) (ps.length + 1) (ps.length + 1)) 39 1 ((r :: sf).map prV) :: .rw 0 (.slice r.A r.xs.length r.c) 51 2 (r.xs.map prC) :: (sf.map prH ++ [.cl _ 24 [.int .i64 m, .slice B ps.length cB]])) w5 := S5; replace S5 := Sat.perm' S5 (List.Perm.symm (List.perm_append_comm (l₁ := [.cl _ 24 [.int .i64 m, .slice B ps.length cB]]) (l₂ := .rw 0 (.slice (some ⟨g, 0, none⟩) (ps.length + 1) (ps.length + 1)) 39 1 ((r :: sf).map prV) :: .rw 0 (.slice r.A r.xs.length r.c) 51 2 (r.xs.map prC) :: sf.map prH))); replace S5 : Sat w [] (_ :: _ :: _ :: sf.map prH) w5 := S5; dsimp only [fqV]) | (apply x_callv; assumption; exact rfl; exact rfl; exact rfl; exact e_cheapest; (exact (by repeat' constructor)); with_reducible exact (cheapest_n r.A r.c r.xs (by rw [hr]; exact hfl) (by rw [hr]; exact (frF_front ps).asc) m (by rw [hr]; exact h1) _ (Sat.rdmapN ((0 : Int), (0 : Int)) (by assumption) (by exact (by repeat' constructor)) rfl)); intro _ _ _) | (apply x_move; exact rfl; exact rfl; (exact (by repeat' constructor))) | (apply x_assign; exact rfl; exact rfl; (exact (by repeat' constructor))) | (apply x_fieldB; exact rfl; exact rfl; exact rfl; exact rfl; (constructor)) | (apply x_load; assumption; exact rfl; exact rfl; exact rfl; (exact (by repeat' constructor)); exact rfl; exact rfl; (exact (by repeat' constructor))) | (apply x_bin; exact rfl; exact rfl; exact rfl; (first | exact .z (.wrap (by omega)) | exact (by repeat' constructor))) | (apply x_pick; exact rfl; exact rfl; exact rfl; (exact (by repeat' constructor))) | (apply x_un; exact rfl; exact rfl; exact rfl; (first | exact .z (.wrap (by omega)) | exact (by repeat' constructor))) | (apply x_box; assumption; exact rfl; exact rfl; (exact (by repeat' constructor)); (exact (by repeat' constructor)); intro _ _ _) | (apply x_extract; exact rfl; exact rfl; exact rfl; (exact (by repeat' constructor))) | (apply x_indexK; exact rfl; exact rfl; exact rfl; exact rfl; exact rfl; (constructor); (constructor); (first | assumption | omega | decide); (first | omega | exact size_pos (by assumption) | assumption); (first | exact rfl | assumption | exact Rd.some_ (by assumption) (by omega) | exact Rd.some_ (Old.rd (by assumption)) (by omega) | exact (Sat.rd (by assumption) (by exact (by repeat' constructor))).some_ (by omega))) | (apply x_loadR; exact rfl; exact rfl; exact rfl; (first | exact Old.now (by assumption) (by assumption) | exact Sat.rdpr (by assumption) (by exact (by repeat' constructor)) | exact Sat.rd (by assumption) (by exact (by repeat' constructor))); (first | omega | exact size_pos (by assumption) | assumption); exact rfl; exact rfl; (exact (by repeat' constructor))) | (apply cw_true; exact rfl) | (apply x_dec; exact rfl; all_goals (intro _; try omega)) | (apply cw_ne; exact rfl; all_goals (intro _; try omega))))
      all_goals first
        | (exfalso; omega)
        | exact absurd hck (by assumption)
        | ((first | refine q_retS (by assumption) rfl (by repeat (first | exact .nil | (apply RV.tmp; exact (by repeat' constructor)) | (apply RV.cell; exact rfl; exact (by repeat' constructor); exact rfl; exact rfl; exact (by repeat' constructor)))) ?_ | (simp only [thenQ, blockQ]; refine q_retS (by assumption) rfl (by repeat (first | exact .nil | (apply RV.tmp; exact (by repeat' constructor)) | (apply RV.cell; exact rfl; exact (by repeat' constructor); exact rfl; exact rfl; exact (by repeat' constructor)))) ?_))
           exact ⟨rfl, Sat.keeps (by assumption)⟩)
    | some a =>
      have ha := chp_le ho h1
      cases h4 : chpS (frF ps) (m + k) with
      | none =>
        rw [wthV_n hck hk h1 h4]
        (repeat' (first | apply cw_seq | apply cw_region | apply wl_nil | apply cw_skip | apply cw_ret | (apply x_callv; assumption; exact rfl; exact rfl; exact rfl; exact e_CheckT; (exact (by repeat' constructor)); with_reducible exact (CheckT_c m B cB ps hp hcs _ (R.old.now (by assumption)) (fun i hi => (R2 i hi).old.now (by assumption))); intro _ _ _) | (apply x_gdec; exact rfl; exact rfl; all_goals (intro _; try omega)) | (apply x_callC (bd := []) (hc := []) (hc' := fqH) (V := fqV) (fr := _); assumption; exact rfl; exact rfl; exact rfl; exact e_fronts; (exact (by repeat' constructor)); exact List.Perm.refl _; exact (fun Sc => fronts_x m B cB ps ho (hN hck) _ (R.old.now (by assumption)) (fun i hi => (R2 i hi).old.now (by assumption))); rintro ⟨g, r, sf, hlen, hr, hs⟩ w5 S5; replace S5 : Sat w [] (.rw 0 (.slice (some ⟨g, 0, none⟩) (ps.length + 1) (ps.length + 1)) 39 1 ((r :: sf).map prV) :: .rw 0 (.slice r.A r.xs.length r.c) 51 2 (r.xs.map prC) :: (sf.map prH ++ [.cl _ 24 [.int .i64 m, .slice B ps.length cB]])) w5 := S5; replace S5 := Sat.perm' S5 (List.Perm.symm (List.perm_append_comm (l₁ := [.cl _ 24 [.int .i64 m, .slice B ps.length cB]]) (l₂ := .rw 0 (.slice (some ⟨g, 0, none⟩) (ps.length + 1) (ps.length + 1)) 39 1 ((r :: sf).map prV) :: .rw 0 (.slice r.A r.xs.length r.c) 51 2 (r.xs.map prC) :: sf.map prH))); replace S5 : Sat w [] (_ :: _ :: _ :: sf.map prH) w5 := S5; dsimp only [fqV]) | (apply x_callv; assumption; exact rfl; exact rfl; exact rfl; exact e_cheapest; (exact (by repeat' constructor)); with_reducible exact (cheapest_s r.A r.c r.xs (by rw [hr]; exact hfl) (by rw [hr]; exact (frF_front ps).asc) m (by rw [hr]; exact h1) _ (Sat.rdmapN ((0 : Int), (0 : Int)) (by assumption) (by exact (by repeat' constructor)) rfl)); intro _ _ _) | (apply x_callv; assumption; exact rfl; exact rfl; exact rfl; exact e_cheapest; (exact (by repeat' constructor)); with_reducible exact (cheapest_n r.A r.c r.xs (by rw [hr]; exact hfl) (by rw [hr]; exact (frF_front ps).asc) (m + k) (by rw [hr]; exact h4) _ (Sat.rdmapN ((0 : Int), (0 : Int)) (by assumption) (by exact (by repeat' constructor)) rfl)); intro _ _ _) | (apply x_move; exact rfl; exact rfl; (exact (by repeat' constructor))) | (apply x_assign; exact rfl; exact rfl; (exact (by repeat' constructor))) | (apply x_fieldB; exact rfl; exact rfl; exact rfl; exact rfl; (constructor)) | (apply x_load; assumption; exact rfl; exact rfl; exact rfl; (exact (by repeat' constructor)); exact rfl; exact rfl; (exact (by repeat' constructor))) | (apply x_bin; exact rfl; exact rfl; exact rfl; (first | exact .z (.wrap (by omega)) | exact (by repeat' constructor))) | (apply x_pick; exact rfl; exact rfl; exact rfl; (exact (by repeat' constructor))) | (apply x_un; exact rfl; exact rfl; exact rfl; (first | exact .z (.wrap (by omega)) | exact (by repeat' constructor))) | (apply x_box; assumption; exact rfl; exact rfl; (exact (by repeat' constructor)); (exact (by repeat' constructor)); intro _ _ _) | (apply x_extract; exact rfl; exact rfl; exact rfl; (exact (by repeat' constructor))) | (apply x_indexK; exact rfl; exact rfl; exact rfl; exact rfl; exact rfl; (constructor); (constructor); (first | assumption | omega | decide); (first | omega | exact size_pos (by assumption) | assumption); (first | exact rfl | assumption | exact Rd.some_ (by assumption) (by omega) | exact Rd.some_ (Old.rd (by assumption)) (by omega) | exact (Sat.rd (by assumption) (by exact (by repeat' constructor))).some_ (by omega))) | (apply x_loadR; exact rfl; exact rfl; exact rfl; (first | exact Old.now (by assumption) (by assumption) | exact Sat.rdpr (by assumption) (by exact (by repeat' constructor)) | exact Sat.rd (by assumption) (by exact (by repeat' constructor))); (first | omega | exact size_pos (by assumption) | assumption); exact rfl; exact rfl; (exact (by repeat' constructor))) | (apply cw_false; exact rfl) | (apply x_dec; exact rfl; all_goals (intro _; try omega)) | (apply cw_ne; exact rfl; all_goals (intro _; try omega))))
        all_goals first
          | (exfalso; omega)
          | exact absurd hck (by assumption)
          | ((first | refine q_retS (by assumption) rfl (by repeat (first | exact .nil | (apply RV.tmp; exact (by repeat' constructor)) | (apply RV.cell; exact rfl; exact (by repeat' constructor); exact rfl; exact rfl; exact (by repeat' constructor)))) ?_ | (simp only [thenQ, blockQ]; refine q_retS (by assumption) rfl (by repeat (first | exact .nil | (apply RV.tmp; exact (by repeat' constructor)) | (apply RV.cell; exact rfl; exact (by repeat' constructor); exact rfl; exact rfl; exact (by repeat' constructor)))) ?_))
             exact ⟨rfl, Sat.keeps (by assumption)⟩)
      | some b =>
        have hb := chp_le ho h4
        rw [wthV_s hck hk h1 h4]
        (repeat' (first | apply cw_seq | apply cw_region | apply wl_nil | apply cw_skip | apply cw_ret | (apply x_callv; assumption; exact rfl; exact rfl; exact rfl; exact e_CheckT; (exact (by repeat' constructor)); with_reducible exact (CheckT_c m B cB ps hp hcs _ (R.old.now (by assumption)) (fun i hi => (R2 i hi).old.now (by assumption))); intro _ _ _) | (apply x_gdec; exact rfl; exact rfl; all_goals (intro _; try omega)) | (apply x_callC (bd := []) (hc := []) (hc' := fqH) (V := fqV) (fr := _); assumption; exact rfl; exact rfl; exact rfl; exact e_fronts; (exact (by repeat' constructor)); exact List.Perm.refl _; exact (fun Sc => fronts_x m B cB ps ho (hN hck) _ (R.old.now (by assumption)) (fun i hi => (R2 i hi).old.now (by assumption))); rintro ⟨g, r, sf, hlen, hr, hs⟩ w5 S5; replace S5 : Sat w [] (.rw 0 (.slice (some ⟨g, 0, none⟩) (ps.length + 1) (ps.length + 1)) 39 1 ((r :: sf).map prV) :: .rw 0 (.slice r.A r.xs.length r.c) 51 2 (r.xs.map prC) :: (sf.map prH ++ [.cl _ 24 [.int .i64 m, .slice B ps.length cB]])) w5 := S5; replace S5 := Sat.perm' S5 (List.Perm.symm (List.perm_append_comm (l₁ := [.cl _ 24 [.int .i64 m, .slice B ps.length cB]]) (l₂ := .rw 0 (.slice (some ⟨g, 0, none⟩) (ps.length + 1) (ps.length + 1)) 39 1 ((r :: sf).map prV) :: .rw 0 (.slice r.A r.xs.length r.c) 51 2 (r.xs.map prC) :: sf.map prH))); replace S5 : Sat w [] (_ :: _ :: _ :: sf.map prH) w5 := S5; dsimp only [fqV]) | (apply x_callv; assumption; exact rfl; exact rfl; exact rfl; exact e_cheapest; (exact (by repeat' constructor)); with_reducible exact (cheapest_s r.A r.c r.xs (by rw [hr]; exact hfl) (by rw [hr]; exact (frF_front ps).asc) m (by rw [hr]; exact h1) _ (Sat.rdmapN ((0 : Int), (0 : Int)) (by assumption) (by exact (by repeat' constructor)) rfl)); intro _ _ _) | (apply x_callv; assumption; exact rfl; exact rfl; exact rfl; exact e_cheapest; (exact (by repeat' constructor)); with_reducible exact (cheapest_s r.A r.c r.xs (by rw [hr]; exact hfl) (by rw [hr]; exact (frF_front ps).asc) (m + k) (by rw [hr]; exact h4) _ (Sat.rdmapN ((0 : Int), (0 : Int)) (by assumption) (by exact (by repeat' constructor)) rfl)); intro _ _ _) | (apply x_move; exact rfl; exact rfl; (exact (by repeat' constructor))) | (apply x_assign; exact rfl; exact rfl; (exact (by repeat' constructor))) | (apply x_fieldB; exact rfl; exact rfl; exact rfl; exact rfl; (constructor)) | (apply x_load; assumption; exact rfl; exact rfl; exact rfl; (exact (by repeat' constructor)); exact rfl; exact rfl; (exact (by repeat' constructor))) | (apply x_bin; exact rfl; exact rfl; exact rfl; (first | exact .z (.wrap (by omega)) | exact (by repeat' constructor))) | (apply x_pick; exact rfl; exact rfl; exact rfl; (exact (by repeat' constructor))) | (apply x_un; exact rfl; exact rfl; exact rfl; (first | exact .z (.wrap (by omega)) | exact (by repeat' constructor))) | (apply x_box; assumption; exact rfl; exact rfl; (exact (by repeat' constructor)); (exact (by repeat' constructor)); intro _ _ _) | (apply x_extract; exact rfl; exact rfl; exact rfl; (exact (by repeat' constructor))) | (apply x_indexK; exact rfl; exact rfl; exact rfl; exact rfl; exact rfl; (constructor); (constructor); (first | assumption | omega | decide); (first | omega | exact size_pos (by assumption) | assumption); (first | exact rfl | assumption | exact Rd.some_ (by assumption) (by omega) | exact Rd.some_ (Old.rd (by assumption)) (by omega) | exact (Sat.rd (by assumption) (by exact (by repeat' constructor))).some_ (by omega))) | (apply x_loadR; exact rfl; exact rfl; exact rfl; (first | exact Old.now (by assumption) (by assumption) | exact Sat.rdpr (by assumption) (by exact (by repeat' constructor)) | exact Sat.rd (by assumption) (by exact (by repeat' constructor))); (first | omega | exact size_pos (by assumption) | assumption); exact rfl; exact rfl; (exact (by repeat' constructor))) | (apply cw_false; exact rfl) | (apply x_dec; exact rfl; all_goals (intro _; try omega)) | (apply cw_ne; exact rfl; all_goals (intro _; try omega))))
        all_goals first
          | (exfalso; omega)
          | exact absurd hck (by assumption)
          | ((first | refine q_retS (by assumption) rfl (by repeat (first | exact .nil | (apply RV.tmp; exact (by repeat' constructor)) | (apply RV.cell; exact rfl; exact (by repeat' constructor); exact rfl; exact rfl; exact (by repeat' constructor)))) ?_ | (simp only [thenQ, blockQ]; refine q_retS (by assumption) rfl (by repeat (first | exact .nil | (apply RV.tmp; exact (by repeat' constructor)) | (apply RV.cell; exact rfl; exact (by repeat' constructor); exact rfl; exact rfl; exact (by repeat' constructor)))) ?_))
             exact ⟨rfl, Sat.keeps (by assumption)⟩)
  · rw [wthV_e hck]
    (repeat' (first | apply cw_seq | apply cw_region | apply wl_nil | apply cw_ret | (apply x_callv; assumption; exact rfl; exact rfl; exact rfl; exact e_CheckT; (exact (by repeat' constructor)); with_reducible exact (CheckT_c m B cB ps hp hcs _ (R.old.now (by assumption)) (fun i hi => (R2 i hi).old.now (by assumption))); intro _ _ _) | (apply x_move; exact rfl; exact rfl; (exact (by repeat' constructor))) | (apply x_assign; exact rfl; exact rfl; (exact (by repeat' constructor))) | (apply x_load; assumption; exact rfl; exact rfl; exact rfl; (exact (by repeat' constructor)); exact rfl; exact rfl; (exact (by repeat' constructor))) | (apply x_bin; exact rfl; exact rfl; exact rfl; (first | exact .z (.wrap (by omega)) | exact (by repeat' constructor))) | (apply x_box; assumption; exact rfl; exact rfl; (exact (by repeat' constructor)); (exact (by repeat' constructor)); intro _ _ _) | (apply cw_ne; exact rfl; all_goals (intro _; try omega))))
    all_goals first
      | exact absurd (by assumption) hck
      | ((first | refine q_retS (by assumption) rfl (by repeat (first | exact .nil | (apply RV.tmp; exact (by repeat' constructor)) | (apply RV.cell; exact rfl; exact (by repeat' constructor); exact rfl; exact rfl; exact (by repeat' constructor)))) ?_ | (simp only [thenQ, blockQ]; refine q_retS (by assumption) rfl (by repeat (first | exact .nil | (apply RV.tmp; exact (by repeat' constructor)) | (apply RV.cell; exact rfl; exact (by repeat' constructor); exact rfl; exact rfl; exact (by repeat' constructor)))) ?_))
         exact ⟨rfl, Sat.keeps (by assumption)⟩)
end Go.Proofs.Ytecmgjhnfgeldaa.Al
