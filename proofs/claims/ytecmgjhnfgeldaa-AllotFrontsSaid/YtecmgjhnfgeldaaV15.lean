/- Few picks; solutions and worths against the reference: the laws walked. No statement of the seat is proved here. -/
import Derived.Test.YtecmgjhnfgeldaaV14
import Derived.Test.YtecmgjhnfgeldaaV7
namespace Go.Proofs.Ytecmgjhnfgeldaa.Al
set_option linter.unusedVariables false
set_option linter.unusedSimpArgs false
open Go Go.RowKit
structure FewT (m : Int) (ps : List Pt) : Prop where
  n40 : ps.length ≤ 40
  c40 : ∀ i, i < ps.length → (ps.getD i pt0).cs.length ≤ 40
  few : chkE m ps = 0 → prodN ps ≤ 300
set_option maxRecDepth 100000 in
theorem e_rFew : Ent Try.prog 11 := fun _ _ => rfl
set_option maxRecDepth 8000 in
set_option maxHeartbeats 8000000 in
theorem rFew_c (m : Int) (B : Option Addr) (cB : Nat) (ps : List Pt) (hp : ps.length ≤ 9223372036854775807) (hcs : ∀ i, i < ps.length → (pat ps i).cs.length ≤ 9223372036854775807) (w : World) (R : Rd w B 2 ps.length (fun i => ptC (ps.getD i pt0))) (R2 : ∀ i, i < ps.length → Rd w (pat ps i).A 2 (pat ps i).cs.length (fun j => chC ((pat ps i).cs.getD j ch0))) : Calls Try.prog 11 #[.agg #[.int .i64 m, .slice B ps.length cB]] w (RetP (Val (.bool (@decide (FewT m ps) (Classical.propDecidable _))) w)) := by
  refine calls_of_cw (args := [.agg #[.int .i64 m, .slice B ps.length cB]]) Try.func11 rfl rfl ?_
  have S := Sat.start [] w
  have O := R.old
  have hno : ¬ FewT m ps → @decide (FewT m ps) (Classical.propDecidable _) = false := fun h => by simp [h]
  have hyes : FewT m ps → @decide (FewT m ps) (Classical.propDecidable _) = true := fun h => by simp [h]
  by_cases h40 : ps.length ≤ 40
  · (repeat' (first | apply cw_seq | apply cw_region | apply wl_nil | apply cw_block | apply cw_skip | (apply x_assign; exact rfl; exact rfl; (exact (by repeat' constructor))) | (apply x_fieldB; exact rfl; exact rfl; exact rfl; exact rfl; (constructor)) | (apply x_load; assumption; exact rfl; exact rfl; exact rfl; (exact (by repeat' constructor)); exact rfl; exact rfl; (exact (by repeat' constructor))) | (apply x_bin; exact rfl; exact rfl; exact rfl; (first | exact .z (.wrap (by omega)) | exact (by repeat' constructor))) | (apply x_box; assumption; exact rfl; exact rfl; (exact (by repeat' constructor)); (exact (by repeat' constructor)); intro _ _ _) | (apply x_builtin; exact rfl; exact rfl; exact (fun _ => rfl); (exact (by repeat' constructor))) | (apply x_dec; exact rfl; all_goals (intro _; try omega))))
    all_goals first
      | (exfalso; omega)
      | skip
    rename_i b1 w1 S1 _
    refine cw_loop [2, 3, 10, 11, 12, 13, 14, 15, 16, 17, 18, 19, 20, 21, 22, 23, 24] [3] (fun us wr => ∃ i : Nat, i ≤ ps.length ∧ us = [.int .i64 i] ∧ (∀ j, j < i → (ps.getD j pt0).cs.length ≤ 40) ∧ Sat w [] [.cl b1 28 [.int .i64 m, .slice B ps.length cB]] wr) (fun us _ => ps.length - (intOf (us.getD 0 undef)).toNat) ?_ ?_
    · exact ⟨0, Nat.zero_le _, rfl, fun j hj => absurd hj (Nat.not_lt_zero _), S1⟩
    clear S S1
    rintro g us wr ⟨i, hi, rfl, hall, Sr⟩
    by_cases hlt : i < ps.length
    · have hcl : (ps.getD i pt0).cs.length ≤ 9223372036854775807 := hcs i hlt
      by_cases hc : (ps.getD i pt0).cs.length ≤ 40
      · (repeat' (first | apply cw_seq | apply cw_region | apply wl_nil | apply cw_block | apply cw_skip | (apply x_move; exact rfl; exact rfl; (exact (by repeat' constructor))) | (apply x_assign; exact rfl; exact rfl; (exact (by repeat' constructor))) | (apply x_fieldB; exact rfl; exact rfl; exact rfl; exact rfl; (constructor)) | (apply x_load; assumption; exact rfl; exact rfl; exact rfl; (exact (by repeat' constructor)); exact rfl; exact rfl; (exact (by repeat' constructor))) | (apply x_bin; exact rfl; exact rfl; exact rfl; (first | exact .z (.wrap (by omega)) | exact (by repeat' constructor))) | (apply x_builtin; exact rfl; exact rfl; exact (fun _ => rfl); (exact (by repeat' constructor))) | (apply x_fieldE; exact rfl; exact rfl; exact rfl; exact rfl; (constructor)) | (apply x_index; exact rfl; exact rfl; exact rfl; exact rfl; exact rfl; (constructor); (first | omega | exact size_pos (by assumption) | assumption); (first | exact rfl | assumption | exact Rd.some_ (by assumption) (by omega) | exact Rd.some_ (Old.rd (by assumption)) (by omega) | exact (Sat.rd (by assumption) (by exact (by repeat' constructor))).some_ (by omega))) | (apply x_loadR; exact rfl; exact rfl; exact rfl; (first | exact Old.now (by assumption) (by assumption) | exact Sat.rdpr (by assumption) (by exact (by repeat' constructor)) | exact Sat.rd (by assumption) (by exact (by repeat' constructor))); (first | omega | exact size_pos (by assumption) | assumption); exact rfl; exact rfl; (exact (by repeat' constructor))) | (apply x_dec; exact rfl; all_goals (intro _; try omega))))
        all_goals first
          | (exfalso; omega)
          | skip
        refine ⟨rfl, (by repeat (first | exact Agree.updl rfl (Agree.mask _ _ _) | refine Agree.upd rfl ?_)), ⟨i + 1, hlt, rfl, fun j hj => ?_, by assumption⟩, ?_⟩
        · rcases Nat.lt_succ_iff_lt_or_eq.1 hj with hj | rfl
          · exact hall j hj
          · exact hc
        · show ps.length - (i + 1 : Int).toNat < ps.length - (i : Int).toNat
          omega
      · rw [hno fun h => hc (h.c40 i hlt)]
        (repeat' (first | apply cw_seq | apply cw_region | apply wl_nil | apply cw_block | apply cw_skip | apply cw_ret | (apply x_move; exact rfl; exact rfl; (exact (by repeat' constructor))) | (apply x_assign; exact rfl; exact rfl; (exact (by repeat' constructor))) | (apply x_fieldB; exact rfl; exact rfl; exact rfl; exact rfl; (constructor)) | (apply x_load; assumption; exact rfl; exact rfl; exact rfl; (exact (by repeat' constructor)); exact rfl; exact rfl; (exact (by repeat' constructor))) | (apply x_bin; exact rfl; exact rfl; exact rfl; (first | exact .z (.wrap (by omega)) | exact (by repeat' constructor))) | (apply x_builtin; exact rfl; exact rfl; exact (fun _ => rfl); (exact (by repeat' constructor))) | (apply x_fieldE; exact rfl; exact rfl; exact rfl; exact rfl; (constructor)) | (apply x_index; exact rfl; exact rfl; exact rfl; exact rfl; exact rfl; (constructor); (first | omega | exact size_pos (by assumption) | assumption); (first | exact rfl | assumption | exact Rd.some_ (by assumption) (by omega) | exact Rd.some_ (Old.rd (by assumption)) (by omega) | exact (Sat.rd (by assumption) (by exact (by repeat' constructor))).some_ (by omega))) | (apply x_loadR; exact rfl; exact rfl; exact rfl; (first | exact Old.now (by assumption) (by assumption) | exact Sat.rdpr (by assumption) (by exact (by repeat' constructor)) | exact Sat.rd (by assumption) (by exact (by repeat' constructor))); (first | omega | exact size_pos (by assumption) | assumption); exact rfl; exact rfl; (exact (by repeat' constructor))) | (apply x_dec; exact rfl; all_goals (intro _; try omega))))
        all_goals first
          | (exfalso; omega)
          | ((first | refine q_retS (by assumption) rfl (by repeat (first | exact .nil | (apply RV.tmp; exact (by repeat' constructor)) | (apply RV.cell; exact rfl; exact (by repeat' constructor); exact rfl; exact rfl; exact (by repeat' constructor)))) ?_ | (simp only [thenQ, blockQ]; refine q_retS (by assumption) rfl (by repeat (first | exact .nil | (apply RV.tmp; exact (by repeat' constructor)) | (apply RV.cell; exact rfl; exact (by repeat' constructor); exact rfl; exact rfl; exact (by repeat' constructor)))) ?_))
             exact ⟨rfl, Sat.keeps (by assumption)⟩)
    · have ei : i = ps.length := by omega
      subst ei
      by_cases hck : chkE m ps = 0
      · have ho := chkE_ok hck
        (repeat' (first | apply cw_seq | apply cw_region | apply wl_nil | apply cw_block | apply cw_skip | apply cw_exit | (apply x_callv; assumption; exact rfl; exact rfl; exact rfl; exact e_rCheckT; (exact (by repeat' constructor)); with_reducible exact (rCheckT_c m B cB ps hp hcs _ (R.old.now (by assumption)) (fun i hi => (R2 i hi).old.now (by assumption))); intro _ _ _) | (apply x_move; exact rfl; exact rfl; (exact (by repeat' constructor))) | (apply x_assign; exact rfl; exact rfl; (exact (by repeat' constructor))) | (apply x_fieldB; exact rfl; exact rfl; exact rfl; exact rfl; (constructor)) | (apply x_load; assumption; exact rfl; exact rfl; exact rfl; (exact (by repeat' constructor)); exact rfl; exact rfl; (exact (by repeat' constructor))) | (apply x_bin; exact rfl; exact rfl; exact rfl; (first | exact .z (.wrap (by omega)) | exact (by repeat' constructor))) | (apply x_builtin; exact rfl; exact rfl; exact (fun _ => rfl); (exact (by repeat' constructor))) | (apply x_dec; exact rfl; all_goals (intro _; try omega)) | (apply cw_ne; exact rfl; all_goals (intro _; try omega))))
        all_goals first
          | (exfalso; omega)
          | exact absurd hck (by assumption)
          | skip
        rename_i w3 _ S3 _
        refine cw_loop [2, 4, 5, 28, 29, 30, 31, 32, 33, 34, 35, 36, 37, 38, 39, 40, 41, 42, 43, 44, 45] [4, 5] (fun us wr => ∃ (i : Nat) (z : Int), i ≤ ps.length ∧ us = [.int .i64 z, .int .i64 i] ∧ z = prodN (ps.take i) ∧ z ≤ 300 ∧ Sat w [] [.cl b1 28 [.int .i64 m, .slice B ps.length cB]] wr) (fun us _ => ps.length - (intOf (us.getD 1 undef)).toNat) ?_ ?_
        · exact ⟨0, 1, Nat.zero_le _, rfl, rfl, by decide, S3⟩
        clear S3 Sr
        rintro g2 us2 wr2 ⟨i, z, hi, rfl, hzp, hz3, Sr⟩
        by_cases hlt2 : i < ps.length
        · have hc16 := (ho.pt i hlt2).n16
          have hnx : ((prodN (ps.take (i + 1)) : Nat) : Int) = z * ((ps.getD i pt0).cs.length : Int) := by
            rw [take_suc (d := pt0) hlt2, prodN_snoc, hzp]; exact Int.natCast_mul _ _
          have hb2 : 0 ≤ z * ((ps.getD i pt0).cs.length : Int) ∧ z * ((ps.getD i pt0).cs.length : Int) ≤ 300 * 16 := ⟨by omega, Int.mul_le_mul hz3 (by omega) (by omega) (by decide)⟩
          by_cases hzz : z * ((ps.getD i pt0).cs.length : Int) ≤ 300
          · (repeat' (first | apply cw_seq | apply cw_region | apply wl_nil | apply cw_block | apply cw_skip | (apply x_move; exact rfl; exact rfl; (exact (by repeat' constructor))) | (apply x_assign; exact rfl; exact rfl; (exact (by repeat' constructor))) | (apply x_fieldB; exact rfl; exact rfl; exact rfl; exact rfl; (constructor)) | (apply x_load; assumption; exact rfl; exact rfl; exact rfl; (exact (by repeat' constructor)); exact rfl; exact rfl; (exact (by repeat' constructor))) | (apply x_bin; exact rfl; exact rfl; exact rfl; (first | exact .z (.wrap (by omega)) | exact (by repeat' constructor))) | (apply x_builtin; exact rfl; exact rfl; exact (fun _ => rfl); (exact (by repeat' constructor))) | (apply x_fieldE; exact rfl; exact rfl; exact rfl; exact rfl; (constructor)) | (apply x_index; exact rfl; exact rfl; exact rfl; exact rfl; exact rfl; (constructor); (first | omega | exact size_pos (by assumption) | assumption); (first | exact rfl | assumption | exact Rd.some_ (by assumption) (by omega) | exact Rd.some_ (Old.rd (by assumption)) (by omega) | exact (Sat.rd (by assumption) (by exact (by repeat' constructor))).some_ (by omega))) | (apply x_loadR; exact rfl; exact rfl; exact rfl; (first | exact Old.now (by assumption) (by assumption) | exact Sat.rdpr (by assumption) (by exact (by repeat' constructor)) | exact Sat.rd (by assumption) (by exact (by repeat' constructor))); (first | omega | exact size_pos (by assumption) | assumption); exact rfl; exact rfl; (exact (by repeat' constructor))) | (apply x_dec; exact rfl; all_goals (intro _; try omega))))
            all_goals first
              | (exfalso; omega)
              | skip
            refine ⟨rfl, (by repeat (first | exact Agree.updl rfl (Agree.mask _ _ _) | refine Agree.upd rfl ?_)), ⟨i + 1, _, hlt2, rfl, hnx.symm, hzz, by assumption⟩, ?_⟩
            show ps.length - (i + 1 : Int).toNat < ps.length - (i : Int).toNat
            omega
          · rw [hno fun h => by
              have h1 := h.few hck
              have h2 := prodN_take (k := i + 1) ho.all
              omega]
            (repeat' (first | apply cw_seq | apply cw_region | apply wl_nil | apply cw_block | apply cw_skip | apply cw_ret | (apply x_move; exact rfl; exact rfl; (exact (by repeat' constructor))) | (apply x_assign; exact rfl; exact rfl; (exact (by repeat' constructor))) | (apply x_fieldB; exact rfl; exact rfl; exact rfl; exact rfl; (constructor)) | (apply x_load; assumption; exact rfl; exact rfl; exact rfl; (exact (by repeat' constructor)); exact rfl; exact rfl; (exact (by repeat' constructor))) | (apply x_bin; exact rfl; exact rfl; exact rfl; (first | exact .z (.wrap (by omega)) | exact (by repeat' constructor))) | (apply x_builtin; exact rfl; exact rfl; exact (fun _ => rfl); (exact (by repeat' constructor))) | (apply x_fieldE; exact rfl; exact rfl; exact rfl; exact rfl; (constructor)) | (apply x_index; exact rfl; exact rfl; exact rfl; exact rfl; exact rfl; (constructor); (first | omega | exact size_pos (by assumption) | assumption); (first | exact rfl | assumption | exact Rd.some_ (by assumption) (by omega) | exact Rd.some_ (Old.rd (by assumption)) (by omega) | exact (Sat.rd (by assumption) (by exact (by repeat' constructor))).some_ (by omega))) | (apply x_loadR; exact rfl; exact rfl; exact rfl; (first | exact Old.now (by assumption) (by assumption) | exact Sat.rdpr (by assumption) (by exact (by repeat' constructor)) | exact Sat.rd (by assumption) (by exact (by repeat' constructor))); (first | omega | exact size_pos (by assumption) | assumption); exact rfl; exact rfl; (exact (by repeat' constructor))) | (apply x_dec; exact rfl; all_goals (intro _; try omega))))
            all_goals first
          | (exfalso; omega)
          | ((first | refine q_retS (by assumption) rfl (by repeat (first | exact .nil | (apply RV.tmp; exact (by repeat' constructor)) | (apply RV.cell; exact rfl; exact (by repeat' constructor); exact rfl; exact rfl; exact (by repeat' constructor)))) ?_ | (simp only [thenQ, blockQ]; refine q_retS (by assumption) rfl (by repeat (first | exact .nil | (apply RV.tmp; exact (by repeat' constructor)) | (apply RV.cell; exact rfl; exact (by repeat' constructor); exact rfl; exact rfl; exact (by repeat' constructor)))) ?_))
             exact ⟨rfl, Sat.keeps (by assumption)⟩)
        · have ei : i = ps.length := by omega
          subst ei
          rw [List.take_length] at hzp
          rw [hyes ⟨h40, hall, fun _ => by omega⟩]
          (repeat' (first | apply cw_seq | apply cw_region | apply wl_nil | apply cw_exit | apply cw_ret | (apply x_move; exact rfl; exact rfl; (exact (by repeat' constructor))) | (apply x_assign; exact rfl; exact rfl; (exact (by repeat' constructor))) | (apply x_fieldB; exact rfl; exact rfl; exact rfl; exact rfl; (constructor)) | (apply x_load; assumption; exact rfl; exact rfl; exact rfl; (exact (by repeat' constructor)); exact rfl; exact rfl; (exact (by repeat' constructor))) | (apply x_bin; exact rfl; exact rfl; exact rfl; (first | exact .z (.wrap (by omega)) | exact (by repeat' constructor))) | (apply x_builtin; exact rfl; exact rfl; exact (fun _ => rfl); (exact (by repeat' constructor))) | (apply x_dec; exact rfl; all_goals (intro _; try omega))))
          all_goals first
          | (exfalso; omega)
          | ((first | refine q_retS (by assumption) rfl (by repeat (first | exact .nil | (apply RV.tmp; exact (by repeat' constructor)) | (apply RV.cell; exact rfl; exact (by repeat' constructor); exact rfl; exact rfl; exact (by repeat' constructor)))) ?_ | (simp only [thenQ, blockQ]; refine q_retS (by assumption) rfl (by repeat (first | exact .nil | (apply RV.tmp; exact (by repeat' constructor)) | (apply RV.cell; exact rfl; exact (by repeat' constructor); exact rfl; exact rfl; exact (by repeat' constructor)))) ?_))
             exact ⟨rfl, Sat.keeps (by assumption)⟩)
      · rw [hyes ⟨h40, hall, fun h => absurd h hck⟩]
        (repeat' (first | apply cw_seq | apply cw_region | apply wl_nil | apply cw_exit | apply cw_ret | (apply x_callv; assumption; exact rfl; exact rfl; exact rfl; exact e_rCheckT; (exact (by repeat' constructor)); with_reducible exact (rCheckT_c m B cB ps hp hcs _ (R.old.now (by assumption)) (fun i hi => (R2 i hi).old.now (by assumption))); intro _ _ _) | (apply x_move; exact rfl; exact rfl; (exact (by repeat' constructor))) | (apply x_assign; exact rfl; exact rfl; (exact (by repeat' constructor))) | (apply x_fieldB; exact rfl; exact rfl; exact rfl; exact rfl; (constructor)) | (apply x_load; assumption; exact rfl; exact rfl; exact rfl; (exact (by repeat' constructor)); exact rfl; exact rfl; (exact (by repeat' constructor))) | (apply x_bin; exact rfl; exact rfl; exact rfl; (first | exact .z (.wrap (by omega)) | exact (by repeat' constructor))) | (apply x_builtin; exact rfl; exact rfl; exact (fun _ => rfl); (exact (by repeat' constructor))) | (apply x_dec; exact rfl; all_goals (intro _; try omega)) | (apply cw_ne; exact rfl; all_goals (intro _; try omega))))
        all_goals first
          | (exfalso; omega)
          | exact absurd (by assumption) hck
          | ((first | refine q_retS (by assumption) rfl (by repeat (first | exact .nil | (apply RV.tmp; exact (by repeat' constructor)) | (apply RV.cell; exact rfl; exact (by repeat' constructor); exact rfl; exact rfl; exact (by repeat' constructor)))) ?_ | (simp only [thenQ, blockQ]; refine q_retS (by assumption) rfl (by repeat (first | exact .nil | (apply RV.tmp; exact (by repeat' constructor)) | (apply RV.cell; exact rfl; exact (by repeat' constructor); exact rfl; exact rfl; exact (by repeat' constructor)))) ?_))
             exact ⟨rfl, Sat.keeps (by assumption)⟩)
  · rw [hno fun h => h40 h.n40]
    (repeat' (first | apply cw_seq | apply cw_region | apply wl_nil | apply cw_ret | (apply x_assign; exact rfl; exact rfl; (exact (by repeat' constructor))) | (apply x_fieldB; exact rfl; exact rfl; exact rfl; exact rfl; (constructor)) | (apply x_load; assumption; exact rfl; exact rfl; exact rfl; (exact (by repeat' constructor)); exact rfl; exact rfl; (exact (by repeat' constructor))) | (apply x_bin; exact rfl; exact rfl; exact rfl; (first | exact .z (.wrap (by omega)) | exact (by repeat' constructor))) | (apply x_box; assumption; exact rfl; exact rfl; (exact (by repeat' constructor)); (exact (by repeat' constructor)); intro _ _ _) | (apply x_builtin; exact rfl; exact rfl; exact (fun _ => rfl); (exact (by repeat' constructor))) | (apply x_dec; exact rfl; all_goals (intro _; try omega))))
    all_goals first
          | (exfalso; omega)
          | ((first | refine q_retS (by assumption) rfl (by repeat (first | exact .nil | (apply RV.tmp; exact (by repeat' constructor)) | (apply RV.cell; exact rfl; exact (by repeat' constructor); exact rfl; exact rfl; exact (by repeat' constructor)))) ?_ | (simp only [thenQ, blockQ]; refine q_retS (by assumption) rfl (by repeat (first | exact .nil | (apply RV.tmp; exact (by repeat' constructor)) | (apply RV.cell; exact rfl; exact (by repeat' constructor); exact rfl; exact rfl; exact (by repeat' constructor)))) ?_))
             exact ⟨rfl, Sat.keeps (by assumption)⟩)
/-! ### copied tasks -/
theorem frF_same : ∀ {qs ps : List Pt}, qs.map Pt.pl = ps.map Pt.pl → frF qs = frF ps
  | [], [], _ => rfl
  | [], _ :: _, h => by simp at h
  | _ :: _, [], h => by simp at h
  | q :: qs, p :: ps, h => by
    rw [List.map_cons, List.map_cons] at h
    injection h with h1 h2
    rw [frF, frF, frF_same h2, show q.cs = p.cs from congrArg Prod.snd h1, show q.wt = p.wt from congrArg Prod.fst h1]
theorem slvL_same {qs ps : List Pt} (h : qs.map Pt.pl = ps.map Pt.pl) (m : Int) : slvL m qs = slvL m ps := by
  unfold slvL
  rw [chkE_same h, frF_same h, h]
theorem wthV_same {qs ps : List Pt} (h : qs.map Pt.pl = ps.map Pt.pl) (m k : Int) : wthV m qs k = wthV m ps k := by
  unfold wthV
  rw [chkE_same h, frF_same h]
theorem few_same {qs ps : List Pt} (h : qs.map Pt.pl = ps.map Pt.pl) (m : Int) : FewT m qs ↔ FewT m ps := by
  have hl := same_len h
  constructor
  · rintro ⟨h1, h2, h3⟩
    exact ⟨by omega, fun i hi => by rw [← (same_at h i).2]; exact h2 i (by omega), fun hc => by rw [← prodN_same h]; exact h3 (by rw [chkE_same h]; exact hc)⟩
  · rintro ⟨h1, h2, h3⟩
    exact ⟨by omega, fun i hi => by rw [(same_at h i).2]; exact h2 i (by omega), fun hc => by rw [prodN_same h]; exact h3 (by rw [← chkE_same h]; exact hc)⟩
section
variable {w w0 : World} {M : List Nat} {h : List HO} {ps : List Pt}
theorem rFew_y (m : Int) {q : OQ ps} (hp : ps.length ≤ 9223372036854775807) (hcs : ∀ i, i < ps.length → (pat ps i).cs.length ≤ 9223372036854775807) (S : Sat w0 M h w) (hm : ∀ o ∈ oqH q, o ∈ h) (hf : FewT m ps) : Calls Try.prog 11 #[oqV m q] w (RetP (Val (.bool true) w)) :=
  val_ofA (rFew_c m q.A q.c q.qs (q_len q hp) (q_cs q hcs) w (oq_rd S hm).1 (oq_rd S hm).2) (congrArg Value.bool (by simp [few_same q.pl, hf]))
theorem rFew_n (m : Int) {q : OQ ps} (hp : ps.length ≤ 9223372036854775807) (hcs : ∀ i, i < ps.length → (pat ps i).cs.length ≤ 9223372036854775807) (S : Sat w0 M h w) (hm : ∀ o ∈ oqH q, o ∈ h) (hf : ¬ FewT m ps) : Calls Try.prog 11 #[oqV m q] w (RetP (Val (.bool false) w)) :=
  val_ofA (rFew_c m q.A q.c q.qs (q_len q hp) (q_cs q hcs) w (oq_rd S hm).1 (oq_rd S hm).2) (congrArg Value.bool (by simp [few_same q.pl, hf]))
theorem q_few {m : Int} (q : OQ ps) (hf : FewT m ps) : chkE m q.qs = 0 → prodN q.qs ≤ 20000 := fun hc => by
  have := hf.few (by rw [← chkE_same q.pl]; exact hc)
  rw [prodN_same q.pl]
  omega
theorem rSolve_y {l : List Int} {c e : Int} (m : Int) {q : OQ ps} (hp : ps.length ≤ 9223372036854775807) (hcs : ∀ i, i < ps.length → (pat ps i).cs.length ≤ 9223372036854775807) (S : Sat w0 M h w) (hm : ∀ o ∈ oqH q, o ∈ h) (hf : FewT m ps) (hv : slvL m ps = (l, c, e)) : Calls Try.prog 15 #[oqV m q] w (RetP (RowR (fun v => .tuple #[v, .int .i64 c, .int .i64 e]) 3 1 (l.map pkC) w)) := by
  have := rSolve_c m q.A q.c q.qs (q_len q hp) (q_cs q hcs) (q_few q hf) w (oq_rd S hm).1 (oq_rd S hm).2
  rw [slvL_same q.pl, hv] at this
  exact this
theorem rWorth_y {x y : Int} (m : Int) {q : OQ ps} (hp : ps.length ≤ 9223372036854775807) (hcs : ∀ i, i < ps.length → (pat ps i).cs.length ≤ 9223372036854775807) (S : Sat w0 M h w) (hm : ∀ o ∈ oqH q, o ∈ h) (hf : FewT m ps) (k : Int) (hv : wthV m ps k = (x, y)) : Calls Try.prog 21 #[oqV m q, .int .i64 k] w (RetP (Val (.tuple #[.int .i64 x, .int .i64 y]) w)) := by
  have := rWorth_c m q.A q.c q.qs (q_len q hp) (q_cs q hcs) (q_few q hf) k w (oq_rd S hm).1 (oq_rd S hm).2
  rw [wthV_same q.pl, hv] at this
  exact this
end
theorem slv_len {m : Int} {ps : List Pt} {l : List Int} {c e : Int} (h : slvL m ps = (l, c, e)) : l.length ≤ 16 := by
  by_cases hck : chkE m ps = 0
  · have hn := (chkE_ok hck).n16
    rcases slv_cases hck with ⟨_, h2⟩ | ⟨l', c', _, h2, hs⟩
    · rw [h] at h2
      injection h2 with h2
      rw [h2]; exact Nat.zero_le _
    · rw [h] at h2
      injection h2 with h2
      rw [h2, hs.len]; omega
  · rw [slvL_e hck] at h
    injection h with h
    rw [← h]; exact Nat.zero_le _
set_option maxRecDepth 100000 in
theorem e_lawSolves : Ent Try.prog 3 := fun _ _ => rfl
set_option maxRecDepth 8000 in
set_option maxHeartbeats 8000000 in
theorem lawSolves_c (m : Int) (B : Option Addr) (cB : Nat) (ps : List Pt) (hp : ps.length ≤ 9223372036854775807) (hcs : ∀ i, i < ps.length → (pat ps i).cs.length ≤ 9223372036854775807) (hz : ps.length * 32 ≤ reachBytes) (hcz : ∀ i, i < ps.length → (pat ps i).cs.length * 16 ≤ reachBytes) (w : World) (R : Rd w B 2 ps.length (fun i => ptC (ps.getD i pt0))) (R2 : ∀ i, i < ps.length → Rd w (pat ps i).A 2 (pat ps i).cs.length (fun j => chC ((pat ps i).cs.getD j ch0))) : Calls Try.prog 3 #[.agg #[.int .i64 m, .slice B ps.length cB]] w (RetP (Val (.bool true) w)) := by
  refine calls_of_cw (args := [.agg #[.int .i64 m, .slice B ps.length cB]]) Try.func3 rfl rfl ?_
  have S := Sat.start [] w
  have O := R.old
  by_cases hf : FewT m ps
  · obtain ⟨l, c, e, hv⟩ : ∃ l c e, slvL m ps = (l, c, e) := ⟨_, _, _, rfl⟩
    have hl := slv_len hv
    (repeat' (first | apply cw_seq | apply cw_region | apply wl_nil | apply cw_skip | apply cw_ret | (apply x_callT; assumption; exact rfl; exact rfl; exact rfl; exact e_own; (exact (by repeat' constructor)); (with_reducible exact own_c m B cB ps hz hcz _ (R.old.now (by assumption)) (fun i hi => (R2 i hi).old.now (by assumption))); intro _ _ _) | (apply x_callv; assumption; exact rfl; exact rfl; exact rfl; exact e_rFew; (exact (by repeat' constructor)); (with_reducible apply rFew_y); (exact hp; exact hcs; assumption; exact (fun o ho => by simp only [List.append_eq, List.mem_append, List.mem_cons]; simp only [ho, true_or, or_true]); exact hf); intro _ _ _) | (apply x_callrowE (m := l.length); assumption; exact rfl; exact rfl; exact rfl; exact e_SolveT; (exact (by repeat' constructor)); (with_reducible exact (Solve_y m B cB ps hp hcs (fun hc => Nat.le_trans (hf.few hc) (by decide)) hv _ (R.old.now (by assumption)) (fun i hi => (R2 i hi).old.now (by assumption)))); exact List.length_map _; intro _ _ _ _) | (apply x_callrowE (m := l.length); assumption; exact rfl; exact rfl; exact rfl; exact e_rSolve; (exact (by repeat' constructor)); (with_reducible apply rSolve_y); exact hp; exact hcs; assumption; exact (fun o ho => by simp only [List.append_eq, List.mem_append, List.mem_cons]; simp only [ho, true_or, or_true]); exact hf; exact hv; exact List.length_map _; intro _ _ _ _) | (apply x_callv; assumption; exact rfl; exact rfl; exact rfl; exact e_awake; (exact (by repeat' constructor)); with_reducible exact (awake_c _); intro _ _ _) | (apply x_callv; assumption; exact rfl; exact rfl; exact rfl; exact e_EqualI; (exact (by repeat' constructor)); (with_reducible apply EqualI_m l); (exact rfl; exact (Nat.le_trans hl (by decide)); exact (Sat.rdmapN (0 : Int) (by assumption) (by exact (by repeat' constructor)) rfl); exact (Sat.rdmapN (0 : Int) (by assumption) (by exact (by repeat' constructor)) rfl)); intro _ _ _) | (apply x_move; exact rfl; exact rfl; (exact (by repeat' constructor))) | (apply x_assign; exact rfl; exact rfl; (exact (by repeat' constructor))) | (apply x_load; assumption; exact rfl; exact rfl; exact rfl; (exact (by repeat' constructor)); exact rfl; exact rfl; (exact (by repeat' constructor))) | (apply x_bin; exact rfl; exact rfl; exact rfl; (first | exact .z (.wrap (by omega)) | exact (by repeat' constructor))) | (apply x_pick; exact rfl; exact rfl; exact rfl; (exact (by repeat' constructor))) | (apply x_un; exact rfl; exact rfl; exact rfl; (first | exact .z (.wrap (by omega)) | exact (by repeat' constructor))) | (apply x_box; assumption; exact rfl; exact rfl; (exact (by repeat' constructor)); (exact (by repeat' constructor)); intro _ _ _) | (apply x_extract; exact rfl; exact rfl; exact rfl; (exact (by repeat' constructor))) | (apply cw_false; exact rfl) | (apply x_gdec; exact rfl; exact rfl; all_goals (intro _; try omega))))
    (all_goals (first | refine q_retS (by assumption) rfl (by repeat (first | exact .nil | (apply RV.tmp; exact (by repeat' constructor)) | (apply RV.cell; exact rfl; exact (by repeat' constructor); exact rfl; exact rfl; exact (by repeat' constructor)))) ?_ | (simp only [thenQ, blockQ]; refine q_retS (by assumption) rfl (by repeat (first | exact .nil | (apply RV.tmp; exact (by repeat' constructor)) | (apply RV.cell; exact rfl; exact (by repeat' constructor); exact rfl; exact rfl; exact (by repeat' constructor)))) ?_))); (all_goals refine ⟨?_, Sat.keeps (by assumption)⟩); (all_goals first | rfl | (simp [pack]; done) | (exfalso; simp_all; done))
  · (repeat' (first | apply cw_seq | apply cw_region | apply wl_nil | apply cw_ret | (apply x_callT; assumption; exact rfl; exact rfl; exact rfl; exact e_own; (exact (by repeat' constructor)); (with_reducible exact own_c m B cB ps hz hcz _ (R.old.now (by assumption)) (fun i hi => (R2 i hi).old.now (by assumption))); intro _ _ _) | (apply x_callv; assumption; exact rfl; exact rfl; exact rfl; exact e_rFew; (exact (by repeat' constructor)); (with_reducible apply rFew_n); (exact hp; exact hcs; assumption; exact (fun o ho => by simp only [List.append_eq, List.mem_append, List.mem_cons]; simp only [ho, true_or, or_true]); exact hf); intro _ _ _) | (apply x_callv; assumption; exact rfl; exact rfl; exact rfl; exact e_awake; (exact (by repeat' constructor)); with_reducible exact (awake_c _); intro _ _ _) | (apply x_assign; exact rfl; exact rfl; (exact (by repeat' constructor))) | (apply x_load; assumption; exact rfl; exact rfl; exact rfl; (exact (by repeat' constructor)); exact rfl; exact rfl; (exact (by repeat' constructor))) | (apply x_un; exact rfl; exact rfl; exact rfl; (first | exact .z (.wrap (by omega)) | exact (by repeat' constructor))) | (apply x_box; assumption; exact rfl; exact rfl; (exact (by repeat' constructor)); (exact (by repeat' constructor)); intro _ _ _) | (apply cw_true; exact rfl)))
    (all_goals (first | refine q_retS (by assumption) rfl (by repeat (first | exact .nil | (apply RV.tmp; exact (by repeat' constructor)) | (apply RV.cell; exact rfl; exact (by repeat' constructor); exact rfl; exact rfl; exact (by repeat' constructor)))) ?_ | (simp only [thenQ, blockQ]; refine q_retS (by assumption) rfl (by repeat (first | exact .nil | (apply RV.tmp; exact (by repeat' constructor)) | (apply RV.cell; exact rfl; exact (by repeat' constructor); exact rfl; exact rfl; exact (by repeat' constructor)))) ?_))); (all_goals refine ⟨?_, Sat.keeps (by assumption)⟩); (all_goals first | rfl | (simp [pack]; done) | (exfalso; simp_all; done))
theorem lawSolves_t (t : Tk) (w : World) (h : t.ok w) : Calls Try.prog 3 #[tkV t] w (RetP (Val (.bool true) w)) :=
  lawSolves_c t.m t.B t.cB t.ps h.hp h.hcs h.hz h.hcz w h.R h.R2
set_option maxRecDepth 100000 in
theorem e_lawWorths : Ent Try.prog 5 := fun _ _ => rfl
set_option maxRecDepth 8000 in
set_option maxHeartbeats 8000000 in
theorem lawWorths_c (m : Int) (B : Option Addr) (cB : Nat) (ps : List Pt) (hp : ps.length ≤ 9223372036854775807) (hcs : ∀ i, i < ps.length → (pat ps i).cs.length ≤ 9223372036854775807) (hz : ps.length * 32 ≤ reachBytes) (hcz : ∀ i, i < ps.length → (pat ps i).cs.length * 16 ≤ reachBytes) (k : Int) (w : World) (R : Rd w B 2 ps.length (fun i => ptC (ps.getD i pt0))) (R2 : ∀ i, i < ps.length → Rd w (pat ps i).A 2 (pat ps i).cs.length (fun j => chC ((pat ps i).cs.getD j ch0))) : Calls Try.prog 5 #[.agg #[.int .i64 m, .slice B ps.length cB], .int .i64 k] w (RetP (Val (.bool true) w)) := by
  refine calls_of_cw (args := [.agg #[.int .i64 m, .slice B ps.length cB], .int .i64 k]) Try.func5 rfl rfl ?_
  have S := Sat.start [] w
  have O := R.old
  by_cases hf : FewT m ps
  · obtain ⟨x, y, hv⟩ : ∃ x y, wthV m ps k = (x, y) := ⟨_, _, rfl⟩
    (repeat' (first | apply cw_seq | apply cw_region | apply wl_nil | apply cw_skip | apply cw_ret | (apply x_callT; assumption; exact rfl; exact rfl; exact rfl; exact e_own; (exact (by repeat' constructor)); (with_reducible exact own_c m B cB ps hz hcz _ (R.old.now (by assumption)) (fun i hi => (R2 i hi).old.now (by assumption))); intro _ _ _) | (apply x_callv; assumption; exact rfl; exact rfl; exact rfl; exact e_rFew; (exact (by repeat' constructor)); (with_reducible apply rFew_y); (exact hp; exact hcs; assumption; exact (fun o ho => by simp only [List.append_eq, List.mem_append, List.mem_cons]; simp only [ho, true_or, or_true]); exact hf); intro _ _ _) | (apply x_callv; assumption; exact rfl; exact rfl; exact rfl; exact e_WorthT; (exact (by repeat' constructor)); with_reducible exact (Worth_y m B cB ps hp hcs (fun hc => Nat.le_trans (hf.few hc) (by decide)) k hv _ (R.old.now (by assumption)) (fun i hi => (R2 i hi).old.now (by assumption))); intro _ _ _) | (apply x_callv; assumption; exact rfl; exact rfl; exact rfl; exact e_rWorth; (exact (by repeat' constructor)); (with_reducible apply rWorth_y); (exact hp; exact hcs; assumption; exact (fun o ho => by simp only [List.append_eq, List.mem_append, List.mem_cons]; simp only [ho, true_or, or_true]); exact hf; exact hv); intro _ _ _) | (apply x_callv; assumption; exact rfl; exact rfl; exact rfl; exact e_awake; (exact (by repeat' constructor)); with_reducible exact (awake_c _); intro _ _ _) | (apply x_move; exact rfl; exact rfl; (exact (by repeat' constructor))) | (apply x_assign; exact rfl; exact rfl; (exact (by repeat' constructor))) | (apply x_load; assumption; exact rfl; exact rfl; exact rfl; (exact (by repeat' constructor)); exact rfl; exact rfl; (exact (by repeat' constructor))) | (apply x_bin; exact rfl; exact rfl; exact rfl; (first | exact .z (.wrap (by omega)) | exact (by repeat' constructor))) | (apply x_pick; exact rfl; exact rfl; exact rfl; (exact (by repeat' constructor))) | (apply x_un; exact rfl; exact rfl; exact rfl; (first | exact .z (.wrap (by omega)) | exact (by repeat' constructor))) | (apply x_box; assumption; exact rfl; exact rfl; (exact (by repeat' constructor)); (exact (by repeat' constructor)); intro _ _ _) | (apply x_extract; exact rfl; exact rfl; exact rfl; (exact (by repeat' constructor))) | (apply cw_false; exact rfl) | (apply x_gdec; exact rfl; exact rfl; all_goals (intro _; try omega))))
    (all_goals (first | refine q_retS (by assumption) rfl (by repeat (first | exact .nil | (apply RV.tmp; exact (by repeat' constructor)) | (apply RV.cell; exact rfl; exact (by repeat' constructor); exact rfl; exact rfl; exact (by repeat' constructor)))) ?_ | (simp only [thenQ, blockQ]; refine q_retS (by assumption) rfl (by repeat (first | exact .nil | (apply RV.tmp; exact (by repeat' constructor)) | (apply RV.cell; exact rfl; exact (by repeat' constructor); exact rfl; exact rfl; exact (by repeat' constructor)))) ?_))); (all_goals refine ⟨?_, Sat.keeps (by assumption)⟩); (all_goals first | rfl | (simp [pack]; done) | (exfalso; simp_all; done))
  · (repeat' (first | apply cw_seq | apply cw_region | apply wl_nil | apply cw_ret | (apply x_callT; assumption; exact rfl; exact rfl; exact rfl; exact e_own; (exact (by repeat' constructor)); (with_reducible exact own_c m B cB ps hz hcz _ (R.old.now (by assumption)) (fun i hi => (R2 i hi).old.now (by assumption))); intro _ _ _) | (apply x_callv; assumption; exact rfl; exact rfl; exact rfl; exact e_rFew; (exact (by repeat' constructor)); (with_reducible apply rFew_n); (exact hp; exact hcs; assumption; exact (fun o ho => by simp only [List.append_eq, List.mem_append, List.mem_cons]; simp only [ho, true_or, or_true]); exact hf); intro _ _ _) | (apply x_callv; assumption; exact rfl; exact rfl; exact rfl; exact e_awake; (exact (by repeat' constructor)); with_reducible exact (awake_c _); intro _ _ _) | (apply x_assign; exact rfl; exact rfl; (exact (by repeat' constructor))) | (apply x_load; assumption; exact rfl; exact rfl; exact rfl; (exact (by repeat' constructor)); exact rfl; exact rfl; (exact (by repeat' constructor))) | (apply x_un; exact rfl; exact rfl; exact rfl; (first | exact .z (.wrap (by omega)) | exact (by repeat' constructor))) | (apply x_box; assumption; exact rfl; exact rfl; (exact (by repeat' constructor)); (exact (by repeat' constructor)); intro _ _ _) | (apply cw_true; exact rfl)))
    (all_goals (first | refine q_retS (by assumption) rfl (by repeat (first | exact .nil | (apply RV.tmp; exact (by repeat' constructor)) | (apply RV.cell; exact rfl; exact (by repeat' constructor); exact rfl; exact rfl; exact (by repeat' constructor)))) ?_ | (simp only [thenQ, blockQ]; refine q_retS (by assumption) rfl (by repeat (first | exact .nil | (apply RV.tmp; exact (by repeat' constructor)) | (apply RV.cell; exact rfl; exact (by repeat' constructor); exact rfl; exact rfl; exact (by repeat' constructor)))) ?_))); (all_goals refine ⟨?_, Sat.keeps (by assumption)⟩); (all_goals first | rfl | (simp [pack]; done) | (exfalso; simp_all; done))
theorem lawWorths_t (t : Tk) (k : Int) (w : World) (h : t.ok w) : Calls Try.prog 5 #[tkV t, .int .i64 k] w (RetP (Val (.bool true) w)) :=
  lawWorths_c t.m t.B t.cB t.ps h.hp h.hcs h.hz h.hcz k w h.R h.R2
end Go.Proofs.Ytecmgjhnfgeldaa.Al
