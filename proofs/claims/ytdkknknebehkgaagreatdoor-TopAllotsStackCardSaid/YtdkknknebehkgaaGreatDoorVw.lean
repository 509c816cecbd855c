/- The solution of a task, by the program. No statement of the seat is proved here. -/
import Derived.Test.YtdkknknebehkgaaGreatDoorVv
namespace Go.Proofs.YtdkknknebehkgaaGreatDoor.Al
set_option linter.unusedVariables false
set_option linter.unusedSimpArgs false
open Go Go.RowKit
section
variable {P : Program} {ro : Option Nat} {n : Nat} {Q : Post} {D : List Deferred} {f : Fm} {w w0 : World} {M : List Nat} {h : List HO}
variable {ops : Array Oper} {rest : List Oper} {d ty : Nat} {ps : String} {af : Array Edge} {gd : Option (Nat × Bool)} {x y : Operand}
theorem x_makeSlice0 {T e size bytes m : Nat} (S : Sat w0 M h w) (hg : want ops f ⟨some d, .makeSlice T x y, ty, ps, af, gd⟩ = true) (hdn : Nat.blt d n = true) (hk : apk P T = some (e, size, bytes))
    (hx : fev f x = .int .i64 0) (hy : fev f y = .int .i64 (m : Int)) (hb : Nat.ble bytes 100000 = true) (hm : m ≤ 1000000)
    (k : ∀ g w', Sat w0 M (.rw 0 (.slice (some ⟨g, 0, none⟩) 0 m) e size [] :: h) w' → WL P ro n ops Q rest D (upd f d (.slice (some ⟨g, 0, none⟩) 0 m)) w') : WL P ro n ops Q (⟨some d, .makeSlice T x y, ty, ps, af, gd⟩ :: rest) D f w := by
  obtain ⟨hu, i, zv, hi, hzz, h1, h2, h3, h4⟩ := apk_parts hk
  have hby := Nat.le_of_ble_eq_true hb
  have hbm : i.bytes * m ≤ 281474976710656 := by
    rw [h2]; exact Nat.le_trans (Nat.mul_le_mul hby hm) (by decide)
  obtain ⟨w', hrun, hown, hgr⟩ := run_make_own (P := P) (w := w) 0 T e i zv size hu hi hzz h1 .i64 .i64 m hbm (by simp [maxLen]; omega) (Nat.zero_le _)
  refine wl_run (v := .slice (some ⟨w.heap.size, 0, none⟩) 0 m) (w' := w') hg hdn ?_ (k w.heap.size _ ?_)
  · unfold execOp
    simp only [hx, hy, Sem.run_bind, hrun, Result.andThen_ok, Sem.run_pure]
  · refine S.add hgr ⟨fun b hb => ?_, (fun c hc => by cases hc), hown⟩ (fun b hb => ?_)
    · have e1 : w.heap.size = b := by injection hb
      exact .inl (by have := S.le; omega)
    · have e1 : w.heap.size = b := by injection hb
      omega
end
theorem castS {w0 w : World} {M : List Nat} {h h' : List HO} (e : h = h') (S : Sat w0 M h w) : Sat w0 M h' w := e ▸ S
noncomputable def slvL (m : Int) (ps : List Pt) : List Int × Int × Int := if ¬ chkE m ps = 0 then ([], 0, chkE m ps) else match chpS (frF ps) m with
  | none => ([], 0, 6)
  | some c => ((srchP (ps.map Pt.pl) m c).map fun (k : Nat) => (k : Int), c, 0)
theorem slvL_e {m : Int} {ps : List Pt} (h : ¬ chkE m ps = 0) : slvL m ps = ([], 0, chkE m ps) := if_pos h
theorem slvL_n {m : Int} {ps : List Pt} (h : chkE m ps = 0) (h1 : chpS (frF ps) m = none) : slvL m ps = ([], 0, 6) := by
  rw [slvL, if_neg (not_not_intro h)]
  simp only [h1]
theorem slvL_s {m c : Int} {ps : List Pt} (h : chkE m ps = 0) (h1 : chpS (frF ps) m = some c) : slvL m ps = ((srchP (ps.map Pt.pl) m c).map fun (k : Nat) => (k : Int), c, 0) := by
  rw [slvL, if_neg (not_not_intro h)]
  simp only [h1]
set_option maxRecDepth 100000 in
theorem e_SolveT : Ent Tryz.prog 7 := fun _ _ => rfl
set_option maxRecDepth 8000 in
set_option maxHeartbeats 8000000 in
theorem SolveT_c (m : Int) (B : Option Addr) (cB : Nat) (ps : List Pt) (hp : ps.length ≤ 9223372036854775807) (hcs : ∀ i, i < ps.length → (pat ps i).cs.length ≤ 9223372036854775807) (hN : chkE m ps = 0 → prodN ps ≤ 20000) (w : World) (R : Rd w B 2 ps.length (fun i => ptC (ps.getD i pt0))) (R2 : ∀ i, i < ps.length → Rd w (pat ps i).A 2 (pat ps i).cs.length (fun j => chC ((pat ps i).cs.getD j ch0))) : Calls Tryz.prog 7 #[.agg #[.int .i64 m, .slice B ps.length cB]] w (RetP (RowR (fun v => .tuple #[v, .int .i64 (slvL m ps).2.1, .int .i64 (slvL m ps).2.2]) 3 1 ((slvL m ps).1.map pkC) w)) := by
  refine calls_of_cw (args := [.agg #[.int .i64 m, .slice B ps.length cB]]) Tryz.func7 rfl rfl ?_
  have S := Sat.start [] w
  have O := R.old
  by_cases hck : chkE m ps = 0
  · have ho := chkE_ok hck
    have hn := ho.n16
    have hfl : (frF ps).length ≤ 1000000 := by have := frF_few ho (hN hck) 0; rw [List.drop_zero] at this; omega
    have hN' := hN hck
    cases h1 : chpS (frF ps) m with
    | none =>
      rw [slvL_n hck h1]
      (repeat' (first | apply cw_seq | apply cw_region | apply wl_nil | apply cw_skip | apply cw_ret | (apply x_callv; assumption; exact rfl; exact rfl; exact rfl; exact e_CheckT; (exact (by repeat' constructor)); with_reducible exact (CheckT_c m B cB ps hp hcs _ (R.old.now (by assumption)) (fun i hi => (R2 i hi).old.now (by assumption))); intro _ _ _) | (apply x_callC (bd := []) (hc := []) (hc' := fqH) (V := fqV) (fr := _); assumption; exact rfl; exact rfl; exact rfl; exact e_fronts; (exact (by repeat' constructor)); exact List.Perm.refl _; exact (fun Sc => fronts_x m B cB ps ho (hN hck) _ (R.old.now (by assumption)) (fun i hi => (R2 i hi).old.now (by assumption))); rintro ⟨g, r, sf, hlen, hr, hs⟩ w5 S5; replace S5 : Sat w [] (.rw 0 (.slice (some ⟨g, 0, none⟩) (ps.length + 1) (ps.length + 1)) 61 1 ((r :: sf).map prV) :: .rw 0 (.slice r.A r.xs.length r.c) 87 2 (r.xs.map prC) :: (sf.map prH ++ [.cl _ 24 [.int .i64 m, .slice B ps.length cB]])) w5 := S5; replace S5 := Sat.perm' S5 (List.Perm.symm (List.perm_append_comm (l₁ := [.cl _ 24 [.int .i64 m, .slice B ps.length cB]]) (l₂ := .rw 0 (.slice (some ⟨g, 0, none⟩) (ps.length + 1) (ps.length + 1)) 61 1 ((r :: sf).map prV) :: .rw 0 (.slice r.A r.xs.length r.c) 87 2 (r.xs.map prC) :: sf.map prH))); replace S5 : Sat w [] (_ :: _ :: _ :: sf.map prH) w5 := S5; dsimp only [fqV]) | (apply z2_callv; exact rfl; exact rfl; exact e_cheapest; (exact (by repeat' constructor)); with_reducible exact (fun _ _ => cheapest_n r.A r.c r.xs (by rw [hr]; exact hfl) (by rw [hr]; exact (frF_front ps).asc) m (by rw [hr]; exact h1) _ (Sat.rdmapN ((0 : Int), (0 : Int)) (by assumption) (by exact (by repeat' constructor)) rfl))) | (apply cw_draw (id := 5) [(0, 0), (1, 0), (2, 0), (3, 0), (4, 0), (5, 2), (6, 0), (7, 0), (8, 0), (9, 0), (10, 0)]; assumption; exact mixed; kernel_rfl) | (apply x_move; exact rfl; exact rfl; (exact (by repeat' constructor))) | (apply x_assign; exact rfl; exact rfl; (exact (by repeat' constructor))) | (apply x_fieldB; exact rfl; exact rfl; exact rfl; exact rfl; (constructor)) | (apply x_load; assumption; exact rfl; exact rfl; exact rfl; (exact (by repeat' constructor)); exact rfl; exact rfl; (exact (by repeat' constructor))) | (apply x_bin; exact rfl; exact rfl; exact rfl; (first | exact .z (.wrap (by omega)) | exact (by repeat' constructor))) | (apply x_un; exact rfl; exact rfl; exact rfl; (first | exact .z (.wrap (by omega)) | exact (by repeat' constructor))) | (apply x_box; assumption; exact rfl; exact rfl; (exact (by repeat' constructor)); (exact (by repeat' constructor)); intro _ _ _) | (apply x_alloc; assumption; exact rfl; exact rfl; exact rfl; (exact (by repeat' constructor)); intro _ _ _) | (apply x_store; assumption; exact rfl; exact rfl; (exact (by repeat' constructor)); (exact (by repeat' constructor)); exact rfl; exact rfl; exact rfl; (exact (by repeat' constructor)); intro _ _) | (apply y_loadRow; exact rfl; exact rfl; (exact (by repeat' constructor)); (first | omega | exact size_pos (by assumption) | assumption); exact rfl; exact rfl; (exact (by repeat' constructor))) | (apply y_move; exact rfl; (exact (by repeat' constructor))) | (apply y_assign; exact rfl; (exact (by repeat' constructor))) | (apply y_fieldB; exact rfl; exact rfl; exact rfl; (constructor)) | (apply y_load; exact rfl; exact rfl; (exact (by repeat' constructor)); exact rfl; exact rfl; (exact (by repeat' constructor))) | (apply y_extract; exact rfl; exact (fun _ => rfl); (exact (by repeat' constructor))) | (apply y_indexK; exact rfl; exact rfl; exact rfl; exact rfl; (constructor); (constructor); (first | assumption | omega | decide); (first | omega | exact size_pos (by assumption) | assumption); (first | exact rfl | assumption | exact Rd.some_ (by assumption) (by omega) | exact Rd.some_ (Old.rd (by assumption)) (by omega) | exact (Sat.rd (by assumption) (by exact (by repeat' constructor))).some_ (by omega))) | (apply y_nil; intro _ _) | (apply cw_true; exact rfl) | (apply cw_ne; exact rfl; all_goals (intro _; try omega))))
      all_goals first
        | (exfalso; omega)
        | exact absurd hck (by assumption)
        | skip
      simp only [thenQ]
      refine q_retS (by assumption) rfl (by repeat (first | exact .nil | (apply RV.tmp; exact (by repeat' constructor)) | (apply RV.cell; exact rfl; exact (by repeat' constructor); exact rfl; exact rfl; exact (by repeat' constructor)))) ?_
      exact rowR_nil (V := fun v => .tuple #[v, .int .i64 0, .int .i64 6]) rfl (Sat.keeps (by assumption))
    | some a =>
      rw [slvL_s hck h1]
      (repeat' (first | apply cw_seq | apply cw_region | apply wl_nil | apply cw_skip | (apply x_callv; assumption; exact rfl; exact rfl; exact rfl; exact e_CheckT; (exact (by repeat' constructor)); with_reducible exact (CheckT_c m B cB ps hp hcs _ (R.old.now (by assumption)) (fun i hi => (R2 i hi).old.now (by assumption))); intro _ _ _) | (apply x_callC (bd := []) (hc := []) (hc' := fqH) (V := fqV) (fr := _); assumption; exact rfl; exact rfl; exact rfl; exact e_fronts; (exact (by repeat' constructor)); exact List.Perm.refl _; exact (fun Sc => fronts_x m B cB ps ho (hN hck) _ (R.old.now (by assumption)) (fun i hi => (R2 i hi).old.now (by assumption))); rintro ⟨g, r, sf, hlen, hr, hs⟩ w5 S5; replace S5 : Sat w [] (.rw 0 (.slice (some ⟨g, 0, none⟩) (ps.length + 1) (ps.length + 1)) 61 1 ((r :: sf).map prV) :: .rw 0 (.slice r.A r.xs.length r.c) 87 2 (r.xs.map prC) :: (sf.map prH ++ [.cl _ 24 [.int .i64 m, .slice B ps.length cB]])) w5 := S5; replace S5 := Sat.perm' S5 (List.Perm.symm (List.perm_append_comm (l₁ := [.cl _ 24 [.int .i64 m, .slice B ps.length cB]]) (l₂ := .rw 0 (.slice (some ⟨g, 0, none⟩) (ps.length + 1) (ps.length + 1)) 61 1 ((r :: sf).map prV) :: .rw 0 (.slice r.A r.xs.length r.c) 87 2 (r.xs.map prC) :: sf.map prH))); replace S5 : Sat w [] (_ :: _ :: _ :: sf.map prH) w5 := S5; dsimp only [fqV]) | (apply z2_callv; exact rfl; exact rfl; exact e_cheapest; (exact (by repeat' constructor)); with_reducible exact (fun _ _ => cheapest_s r.A r.c r.xs (by rw [hr]; exact hfl) (by rw [hr]; exact (frF_front ps).asc) m (by rw [hr]; exact h1) _ (Sat.rdmapN ((0 : Int), (0 : Int)) (by assumption) (by exact (by repeat' constructor)) rfl))) | (apply x_makeSlice0 (m := ps.length); assumption; exact rfl; exact rfl; exact rfl; exact rfl; exact rfl; exact rfl; omega; intro gP _ _) | (apply cw_draw (id := 5) [(0, 0), (1, 0), (2, 0), (3, 0), (4, 0), (5, 2), (6, 0), (7, 0), (8, 0), (9, 0), (10, 0)]; assumption; exact mixed; kernel_rfl) | (apply x_move; exact rfl; exact rfl; (exact (by repeat' constructor))) | (apply x_assign; exact rfl; exact rfl; (exact (by repeat' constructor))) | (apply x_fieldB; exact rfl; exact rfl; exact rfl; exact rfl; (constructor)) | (apply x_load; assumption; exact rfl; exact rfl; exact rfl; (exact (by repeat' constructor)); exact rfl; exact rfl; (exact (by repeat' constructor))) | (apply x_bin; exact rfl; exact rfl; exact rfl; (first | exact .z (.wrap (by omega)) | exact (by repeat' constructor))) | (apply x_un; exact rfl; exact rfl; exact rfl; (first | exact .z (.wrap (by omega)) | exact (by repeat' constructor))) | (apply x_box; assumption; exact rfl; exact rfl; (exact (by repeat' constructor)); (exact (by repeat' constructor)); intro _ _ _) | (apply x_alloc; assumption; exact rfl; exact rfl; exact rfl; (exact (by repeat' constructor)); intro _ _ _) | (apply x_store; assumption; exact rfl; exact rfl; (exact (by repeat' constructor)); (exact (by repeat' constructor)); exact rfl; exact rfl; exact rfl; (exact (by repeat' constructor)); intro _ _) | (apply x_builtin; exact rfl; exact rfl; exact (fun _ => rfl); (exact (by repeat' constructor))) | (apply x_makeFunc; exact rfl; exact rfl; (exact (by repeat' constructor))) | (apply y_loadRow; exact rfl; exact rfl; (exact (by repeat' constructor)); (first | omega | exact size_pos (by assumption) | assumption); exact rfl; exact rfl; (exact (by repeat' constructor))) | (apply y_move; exact rfl; (exact (by repeat' constructor))) | (apply y_assign; exact rfl; (exact (by repeat' constructor))) | (apply y_fieldB; exact rfl; exact rfl; exact rfl; (constructor)) | (apply y_load; exact rfl; exact rfl; (exact (by repeat' constructor)); exact rfl; exact rfl; (exact (by repeat' constructor))) | (apply y_extract; exact rfl; exact (fun _ => rfl); (exact (by repeat' constructor))) | (apply y_indexK; exact rfl; exact rfl; exact rfl; exact rfl; (constructor); (constructor); (first | assumption | omega | decide); (first | omega | exact size_pos (by assumption) | assumption); (first | exact rfl | assumption | exact Rd.some_ (by assumption) (by omega) | exact Rd.some_ (Old.rd (by assumption)) (by omega) | exact (Sat.rd (by assumption) (by exact (by repeat' constructor))).some_ (by omega))) | (apply y_nil; intro _ _) | (apply cw_false; exact rfl) | (apply cw_ne; exact rfl; all_goals (intro _; try omega))))
      all_goals first
        | (exfalso; omega)
        | exact absurd hck (by assumption)
        | skip
      rename_i S9
      have hp := Sat.perm' S9 ((List.Perm.swap _ _ _).trans (.cons _ ((List.Perm.swap _ _ _).trans (.cons _ ((List.Perm.swap _ _ _).trans ((List.Perm.cons _ (List.Perm.swap _ _ _)).trans ((List.Perm.swap _ _ _).trans (.cons _ (.cons _ (.refl _))))))))))
      have hac := chp_low ho 0 h1
      refine x_call rfl rfl rfl e_Solve1 (by exact (by repeat' constructor)) (Solve1_c m B cB ps ho hN' _ _ _ _ ⟨g, r, sf, hlen, hr, hs⟩ w [] [] O (fun i hi => (R2 i hi).old) ps.length [] m a (some ⟨gP, 0, none⟩) ps.length _ (Nat.zero_add _) ⟨ho.m0, ho.m1⟩ hac.2 (castS (List.append_nil _).symm hp)) ?_
      rintro v w10 ⟨Ap2, cp2, rfl, S12⟩
      rw [List.nil_append] at S12
      replace S12 : Sat w [] (_ :: _ :: _) w10 := S12
      (repeat' (first | apply cw_seq | apply cw_region | apply wl_nil | apply cw_ret | (apply x_move; exact rfl; exact rfl; (exact (by repeat' constructor))) | (apply x_assign; exact rfl; exact rfl; (exact (by repeat' constructor))) | (apply x_load; assumption; exact rfl; exact rfl; exact rfl; (exact (by repeat' constructor)); exact rfl; exact rfl; (exact (by repeat' constructor)))))
      (first | refine q_retS (by assumption) rfl (by repeat (first | exact .nil | (apply RV.tmp; exact (by repeat' constructor)) | (apply RV.cell; exact rfl; exact (by repeat' constructor); exact rfl; exact rfl; exact (by repeat' constructor)))) ?_ | (simp only [thenQ, blockQ]; refine q_retS (by assumption) rfl (by repeat (first | exact .nil | (apply RV.tmp; exact (by repeat' constructor)) | (apply RV.cell; exact rfl; exact (by repeat' constructor); exact rfl; exact rfl; exact (by repeat' constructor)))) ?_))
      exact rowR_n (V := fun v => .tuple #[v, .int .i64 a, .int .i64 0]) (List.length_map _).symm S12 (.tail .head)
  · rw [slvL_e hck]
    (repeat' (first | apply cw_seq | apply cw_region | apply wl_nil | apply cw_ret | (apply x_callv; assumption; exact rfl; exact rfl; exact rfl; exact e_CheckT; (exact (by repeat' constructor)); with_reducible exact (CheckT_c m B cB ps hp hcs _ (R.old.now (by assumption)) (fun i hi => (R2 i hi).old.now (by assumption))); intro _ _ _) | (apply x_move; exact rfl; exact rfl; (exact (by repeat' constructor))) | (apply x_assign; exact rfl; exact rfl; (exact (by repeat' constructor))) | (apply x_load; assumption; exact rfl; exact rfl; exact rfl; (exact (by repeat' constructor)); exact rfl; exact rfl; (exact (by repeat' constructor))) | (apply x_bin; exact rfl; exact rfl; exact rfl; (first | exact .z (.wrap (by omega)) | exact (by repeat' constructor))) | (apply x_box; assumption; exact rfl; exact rfl; (exact (by repeat' constructor)); (exact (by repeat' constructor)); intro _ _ _) | (apply cw_ne; exact rfl; all_goals (intro _; try omega))))
    all_goals first
      | exact absurd (by assumption) hck
      | skip
    simp only [thenQ]
    refine q_retS (by assumption) rfl (by repeat (first | exact .nil | (apply RV.tmp; exact (by repeat' constructor)) | (apply RV.cell; exact rfl; exact (by repeat' constructor); exact rfl; exact rfl; exact (by repeat' constructor)))) ?_
    exact rowR_nil (V := fun v => .tuple #[v, .int .i64 0, .int .i64 (chkE m ps)]) rfl (Sat.keeps (by assumption))
end Go.Proofs.YtdkknknebehkgaaGreatDoor.Al
