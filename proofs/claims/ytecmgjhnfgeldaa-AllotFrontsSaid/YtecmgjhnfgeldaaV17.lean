/- The reference's front: the walk. No statement of the seat is proved here. -/
import Derived.Test.YtecmgjhnfgeldaaV16
import Derived.Test.YtecmgjhnfgeldaaVu
namespace Go.Proofs.Ytecmgjhnfgeldaa.Al
set_option linter.unusedVariables false
set_option linter.unusedSimpArgs false
open Go Go.RowKit
/-- the sums of all picks -/
def sumL (ps : List Pt) : List Pr2 := (pkA ps).map fun l => (wS ps l l.length, cS ps l l.length)
theorem sumL_len (ps : List Pt) : (sumL ps).length = (pkA ps).length := List.length_map _
theorem sumL_at {ps : List Pt} {k : Nat} (h : k < (pkA ps).length) : (sumL ps).getD k (0, 0) = (wA ps k, cA' ps k) := by
  unfold sumL wA cA'
  simp [List.getD_eq_getElem?_getD, h]
theorem sumL_mem {ps : List Pt} {x : Pr2} : x ∈ sumsP (ps.map Pt.pl) ↔ x ∈ sumL ps := by
  unfold sumL
  rw [sums_picks, pkA_eq, List.mem_map]
  constructor
  · rintro ⟨l, hl, rfl⟩
    have hk := (picks_ok.1 hl).1
    refine ⟨toI l, List.mem_map_of_mem hl, ?_⟩
    rw [toI_len, (wgt_S hk).1, (wgt_S hk).2]
  · rintro ⟨l', hl', rfl⟩
    obtain ⟨l, hl, rfl⟩ := List.mem_map.1 hl'
    have hk := (picks_ok.1 hl).1
    refine ⟨l, hl, ?_⟩
    rw [toI_len, (wgt_S hk).1, (wgt_S hk).2]
theorem sumL_front (ps : List Pt) : IsFront (frF ps) (sumL ps) := front_perm (frF_front ps) fun _ => sumL_mem
theorem dec_no {p : Prop} (h : ¬ p) : @decide p (Classical.propDecidable p) = false := by simp [h]
theorem dec_yes {p : Prop} (h : p) : @decide p (Classical.propDecidable p) = true := by simp [h]
set_option maxRecDepth 100000 in
theorem e_rFront : Ent Try.prog 18 := fun _ _ => rfl
set_option maxRecDepth 8000 in
set_option maxHeartbeats 16000000 in
theorem rFront_c (m : Int) (B : Option Addr) (cB : Nat) (ps : List Pt) (hp : ps.length ≤ 9223372036854775807) (hcs : ∀ i, i < ps.length → (pat ps i).cs.length ≤ 9223372036854775807) (hN : chkE m ps = 0 → prodN ps ≤ 20000) (w : World) (R : Rd w B 2 ps.length (fun i => ptC (ps.getD i pt0))) (R2 : ∀ i, i < ps.length → Rd w (pat ps i).A 2 (pat ps i).cs.length (fun j => chC ((pat ps i).cs.getD j ch0))) : Calls Try.prog 18 #[.agg #[.int .i64 m, .slice B ps.length cB]] w (RetP (RowR (fun v => .tuple #[v, .int .i64 (frtL m ps).2]) 51 2 ((frtL m ps).1.map prC) w)) := by
  refine calls_of_cw (args := [.agg #[.int .i64 m, .slice B ps.length cB]]) Try.func18 rfl rfl ?_
  have S := Sat.start [] w
  have O := R.old
  by_cases hck : chkE m ps = 0
  · have ho := chkE_ok hck
    have hN' := hN hck
    have hn := ho.n16
    have hn1 := ho.n1
    have hfr := sumL_front ps
    (repeat' (first | apply cw_seq | apply cw_region | apply wl_nil | apply cw_block | apply cw_skip | (apply x_callv; assumption; exact rfl; exact rfl; exact rfl; exact e_rCheckT; (exact (by repeat' constructor)); with_reducible exact (rCheckT_c m B cB ps hp hcs _ (R.old.now (by assumption)) (fun i hi => (R2 i hi).old.now (by assumption))); intro _ _ _) | (apply x_callT; assumption; exact rfl; exact rfl; exact rfl; exact e_rPicks; (exact (by repeat' constructor)); (with_reducible exact rPicks_c m B cB ps ho hN' _ (R.old.now (by assumption)) (fun i hi => (R2 i hi).old.now (by assumption))); intro q _ _) | (apply x_move; exact rfl; exact rfl; (exact (by repeat' constructor))) | (apply x_assign; exact rfl; exact rfl; (exact (by repeat' constructor))) | (apply x_load; assumption; exact rfl; exact rfl; exact rfl; (exact (by repeat' constructor)); exact rfl; exact rfl; (exact (by repeat' constructor))) | (apply x_bin; exact rfl; exact rfl; exact rfl; (first | exact .z (.wrap (by omega)) | exact (by repeat' constructor))) | (apply x_box; assumption; exact rfl; exact rfl; (exact (by repeat' constructor)); (exact (by repeat' constructor)); intro _ _ _) | (apply cw_ne; exact rfl; all_goals (intro _; try omega))))
    all_goals first
      | (exfalso; omega)
      | exact absurd hck (by assumption)
      | skip
    rename_i b1 _ _ _ _ _ _ w2 S2
    have hql := pq_len q
    have hsl := sumL_len ps
    have hq9 : (pkA ps).length ≤ 20000 := pkI_few ho hN' ps.length
    refine cw_loop [5, 7, 8, 9, 20, 21, 22, 23, 24, 25, 26, 27, 28, 29, 30, 31, 32, 33, 34, 35, 36, 37, 38, 39, 40] [5, 7] (fun us wr => ∃ (i : Nat) (A5 : Option Addr) (c5 : Nat), i ≤ (sumL ps).length ∧ us = [.slice A5 i c5, .int .i64 i] ∧ Sat w [] (.rw 0 (.slice A5 i c5) 51 2 (((sumL ps).take i).map prC) :: .cl b1 28 [.int .i64 m, .slice B ps.length cB] :: .rw 0 (.slice q.A q.rs.length q.c) 31 1 (q.rs.map irV) :: q.rs.map irH) wr) (fun us _ => (sumL ps).length - (intOf (us.getD 1 undef)).toNat) ?_ ?_
    · exact ⟨0, none, 0, Nat.zero_le _, rfl, S2.addNil _ _⟩
    clear S2
    rintro g us wr ⟨i, A5, c5, hi, rfl, Sr⟩
    by_cases hlt : i < (sumL ps).length
    · have hltq : i < q.rs.length := by omega
      obtain ⟨r, hr⟩ : ∃ r, q.rs.getD i ir0 = r := ⟨_, rfl⟩
      have hrx : r.xs = (pkA ps).getD i [] := by rw [← hr]; exact pq_at q
      obtain ⟨hx1, hx2⟩ := pkA_ok (ps := ps) (k := i) (by omega)
      have hsi := sumL_at (ps := ps) (k := i) (by omega)
      have hwk : wS ps r.xs r.xs.length = ((sumL ps).getD i (0, 0)).1 := by rw [hrx, hsi]
      have hck' : cS ps r.xs r.xs.length = ((sumL ps).getD i (0, 0)).2 := by rw [hrx, hsi]
      rw [← hrx] at hx1 hx2
      have hrm : irH r ∈ q.rs.map irH := by rw [← hr]; exact List.mem_map_of_mem (getD_mem ir0 hltq)
      have hkl : (((sumL ps).take i).map prC).length = i := by rw [List.length_map, List.length_take]; omega
      have hb9 : (((sumL ps).take i).map prC).length < 1000000000 := by omega
      have hck := hck'
      (repeat' (first | apply cw_seq | apply cw_region | apply wl_nil | apply cw_block | apply cw_skip | (apply y_loadRowM (l := q.rs) (en := irV) ir0; exact rfl; exact rfl; (exact (by repeat' constructor)); exact rfl; exact hltq; exact rfl; exact rfl; exact is_rowI hr) | (apply z2_callv; exact rfl; exact rfl; exact e_rWeighed; (exact (by repeat' constructor)); intro _ Sx; (with_reducible refine rWeighed_y ho r hx1 hx2 hwk hck _ (R.old.now Sx) (fun i hi => (R2 i hi).old.now Sx) ?_); exact Sat.rdmapN (0 : Int) Sx (hasOf (List.mem_cons_of_mem _ (List.mem_cons_of_mem _ (List.mem_cons_of_mem _ hrm)))) rfl) | (apply cw_draw (id := 9) [(0, 0), (1, 0), (2, 0), (3, 0), (4, 0), (5, 2), (6, 0), (7, 0), (8, 0), (9, 0), (10, 0)]; assumption; exact mixed; kernel_rfl) | (apply x_append1; assumption; exact rfl; exact rfl; exact rfl; exact rfl; exact rfl; (exact (by repeat' constructor)); (exact (by repeat' constructor)); exact rfl; exact rfl; exact rfl; (first | assumption | omega | (simp; omega)); intro _ _ _ _) | (apply x_move; exact rfl; exact rfl; (exact (by repeat' constructor))) | (apply x_assign; exact rfl; exact rfl; (exact (by repeat' constructor))) | (apply x_bin; exact rfl; exact rfl; exact rfl; (first | exact .z (.wrap (by omega)) | exact (by repeat' constructor))) | (apply x_build; exact rfl; exact rfl; exact rfl; (exact (by repeat' constructor))) | (apply x_builtin; exact rfl; exact rfl; exact (fun _ => rfl); (exact (by repeat' constructor))) | (apply x_buildSlice; assumption; exact rfl; exact rfl; exact rfl; (exact (by repeat' constructor)); intro _ _ _) | (apply y_move; exact rfl; (exact (by repeat' constructor))) | (apply y_assign; exact rfl; (exact (by repeat' constructor))) | (apply y_load; exact rfl; exact rfl; (exact (by repeat' constructor)); exact rfl; exact rfl; (exact (by repeat' constructor))) | (apply y_extract; exact rfl; exact (fun _ => rfl); (exact (by repeat' constructor))) | (apply y_index; exact rfl; exact rfl; exact rfl; exact rfl; (constructor); (first | omega | exact size_pos (by assumption) | assumption); (first | exact rfl | assumption | exact Rd.some_ (by assumption) (by omega) | exact Rd.some_ (Old.rd (by assumption)) (by omega) | exact (Sat.rd (by assumption) (by exact (by repeat' constructor))).some_ (by omega))) | (apply y_nil; intro _ _) | (apply x_dec; exact rfl; all_goals (intro _; try omega))))
      all_goals first
        | (exfalso; omega)
        | skip
      rename_i g1 cap1 w6 S6
      rw [hkl] at S6
      refine ⟨rfl, (by repeat (first | exact Agree.updl rfl (Agree.mask _ _ _) | refine Agree.upd rfl ?_ | refine Agree.updl rfl ?_ | refine Agree.maskIn rfl ?_)), ⟨i + 1, some ⟨g1, 0, none⟩, cap1, hlt, ?_, ?_⟩, ?_⟩
      · show [Value.slice _ ((((sumL ps).take i).map prC).length + 1) _, _] = _
        rw [hkl]
        rfl
      · rw [take_suc (d := ((0, 0) : Pr2)) hlt, List.map_append]
        exact Sat.drop1 S6
      · show (sumL ps).length - (i + 1 : Int).toNat < (sumL ps).length - (i : Int).toNat
        omega
    · have ei : i = (sumL ps).length := by omega
      subst ei
      rw [List.take_length] at Sr
      (repeat' (first | apply cw_seq | apply cw_region | apply wl_nil | apply cw_block | apply cw_exit | (apply x_move; exact rfl; exact rfl; (exact (by repeat' constructor))) | (apply x_assign; exact rfl; exact rfl; (exact (by repeat' constructor))) | (apply x_bin; exact rfl; exact rfl; exact rfl; (first | exact .z (.wrap (by omega)) | exact (by repeat' constructor))) | (apply x_builtin; exact rfl; exact rfl; exact (fun _ => rfl); (exact (by repeat' constructor))) | (apply x_dec; exact rfl; all_goals (intro _; try omega))))
      replace Sr := Sr.drop (.rw 0 (.slice A5 (sumL ps).length c5) 51 2 ((sumL ps).map prC) :: [.cl b1 28 [.int .i64 m, .slice B ps.length cB]]) (.cons_cons _ (.cons_cons _ (List.nil_sublist _)))
      refine cw_loop [10, 11, 12, 41, 42, 43, 44, 45, 46, 47, 48, 49, 50, 51, 52, 53, 54, 55, 56, 57, 58, 59, 60, 61, 62, 63, 64, 65, 66, 67, 68, 69, 70, 71, 72, 73, 74, 75, 76, 77, 78, 79, 80, 81, 82, 83, 84, 85, 86, 87, 88, 89, 90, 91, 92, 93, 94, 95, 96, 97, 98, 99, 100, 101] [10, 11] (fun us wr => ∃ (k : Nat) (oA : Option Addr) (oc : Nat) (os : List Pr2), k ≤ (sumL ps).length ∧ us = [.slice oA os.length oc, .int .i64 k] ∧ InsOk (frF ps) (sumL ps) k os ∧ Sat w [] [.rw 0 (.slice oA os.length oc) 51 2 (os.map prC), .rw 0 (.slice A5 (sumL ps).length c5) 51 2 ((sumL ps).map prC), .cl b1 28 [.int .i64 m, .slice B ps.length cB]] wr) (fun us _ => (sumL ps).length - (intOf (us.getD 1 undef)).toNat) ?_ ?_
      · exact ⟨0, none, 0, [], Nat.zero_le _, rfl, ⟨List.Pairwise.nil, fun x => by simp⟩, Sr.addNil _ _⟩
      clear Sr
      rintro g us wr ⟨k, oA, oc, os, hk, rfl, hio, Sr⟩
      have hol : os.length ≤ 20000 := by
        have h1 := (asc_nodup hio.asc).length_le_of_subset (l₂ := sumL ps) fun x hx => List.mem_of_mem_take ((hio.mem x).1 hx).1
        omega
      by_cases hlt : k < (sumL ps).length
      · obtain ⟨x, hx⟩ : ∃ x, (sumL ps).getD k (0, 0) = x := ⟨_, rfl⟩
        have hxm : x ∈ sumL ps := by rw [← hx]; exact getD_memP hlt
        by_cases hxF : x ∈ frF ps
        · have hbt : @decide (btn (sumL ps) ((sumL ps).getD k (0, 0))) (Classical.propDecidable _) = false := by
            exact dec_no fun h => by rw [hx] at h; exact (btn_front hfr hxm).1 h hxF
          (repeat' (first | apply cw_seq | apply cw_region | apply wl_nil | apply cw_block | apply cw_skip | (apply x_loadR; exact rfl; exact rfl; exact rfl; exact Sat.rdmapN ((0 : Int), (0 : Int)) (by assumption) (by exact (by repeat' constructor)) rfl; (first | omega | exact size_pos (by assumption) | assumption); exact rfl; exact rfl; (exact (by repeat' constructor))) | (apply x_callv; assumption; exact rfl; exact rfl; exact rfl; exact e_rBeaten; (exact (by repeat' constructor)); (with_reducible apply rBeaten_y (sumL ps)); exact rfl; (exact (by omega)); exact hbt; exact (Sat.rdmapN ((0 : Int), (0 : Int)) (by assumption) (by exact (by repeat' constructor)) rfl); intro _ _ _) | (apply x_move; exact rfl; exact rfl; (exact (by repeat' constructor))) | (apply x_assign; exact rfl; exact rfl; (exact (by repeat' constructor))) | (apply x_bin; exact rfl; exact rfl; exact rfl; (first | exact .z (.wrap (by omega)) | exact (by repeat' constructor))) | (apply x_builtin; exact rfl; exact rfl; exact (fun _ => rfl); (exact (by repeat' constructor))) | (apply x_index; exact rfl; exact rfl; exact rfl; exact rfl; exact rfl; (constructor); (first | omega | exact size_pos (by assumption) | assumption); (first | exact rfl | assumption | exact Rd.some_ (by assumption) (by omega) | exact Rd.some_ (Old.rd (by assumption)) (by omega) | exact (Sat.rd (by assumption) (by exact (by repeat' constructor))).some_ (by omega))) | (apply cw_false; exact rfl) | (apply x_dec; exact rfl; all_goals (intro _; try omega))))
          refine cw_loop [12, 53, 54, 55, 56, 57, 58, 59, 60, 61, 62, 63, 64, 65, 66, 67, 68, 69, 70, 71] [12] (fun us wr => ∃ a : Nat, a ≤ os.length ∧ us = [.int .i64 a] ∧ (∀ i, i < a → (os.getD i (0, 0)).1 < ((sumL ps).getD k (0, 0)).1) ∧ Sat w [] [.rw 0 (.slice oA os.length oc) 51 2 (os.map prC), .rw 0 (.slice A5 (sumL ps).length c5) 51 2 ((sumL ps).map prC), .cl b1 28 [.int .i64 m, .slice B ps.length cB]] wr) (fun us _ => os.length - (intOf (us.getD 0 undef)).toNat) ?_ ?_
          · exact ⟨0, Nat.zero_le _, rfl, fun i hi => absurd hi (Nat.not_lt_zero _), by assumption⟩
          clear Sr
          rintro g1 us1 wr1 ⟨a, ha, rfl, hbe, Sr⟩
          have hac : a ≤ oc := Nat.le_trans ha (Sr.rowCap .head)
          have hta : a = (os.take a).length := by rw [List.length_take]; omega
          have hRT : ∀ {h : List HO} {w' : World} (Sx : Sat w [] h w') (hh : Has h (.rw 0 (.slice oA os.length oc) 51 2 (os.map prC))), Rd w' oA 2 (os.take a).length (fun i => prC ((os.take a).getD i (0, 0))) := fun {h w'} Sx hh => by
            refine ((Sat.rdmapN (l := os) (en := prC) ((0 : Int), (0 : Int)) Sx hh rfl).take (by omega)).congr fun i hi => ?_
            have hi' : i < a := by omega
            simp [List.getD_eq_getElem?_getD, List.getElem?_take, hi']
          have hRD : ∀ {h : List HO} {w' : World} (Sx : Sat w [] h w') (hh : Has h (.rw 0 (.slice oA os.length oc) 51 2 (os.map prC))), Rd w' (sub oA a 2 oc) 2 (os.drop a).length (fun i => prC ((os.drop a).getD i (0, 0))) := fun {h w'} Sx hh => by
            have h1 := (Sat.rdmapN (l := os) (en := prC) ((0 : Int), (0 : Int)) Sx hh rfl).drop ha (Sx.rowCap hh)
            rw [List.length_drop]
            refine h1.congr fun i hi => ?_
            simp [List.getD_eq_getElem?_getD]
          have hxk : (sumL ps).getD k (0, 0) ∈ frF ps := by rw [hx]; exact hxF
          by_cases hgo : a < os.length ∧ (os.getD a (0, 0)).1 < ((sumL ps).getD k (0, 0)).1
          · obtain ⟨hal, hlt1⟩ := hgo
            (repeat' (first | apply cw_seq | apply cw_region | apply wl_nil | apply cw_block | apply cw_skip | (apply y_loadRowM ((0 : Int), (0 : Int)); exact rfl; exact rfl; (exact (by repeat' constructor)); exact rfl; (first | omega | exact size_pos (by assumption) | assumption); exact rfl; exact rfl; (exact (by repeat' constructor))) | (apply y_indexArrE; exact rfl; exact rfl; exact rfl; exact rfl; decide; decide; (constructor)) | (apply cw_draw (id := 17) [(0, 0), (1, 0), (2, 0), (3, 0), (4, 0), (5, 0), (6, 0), (7, 0), (8, 0), (9, 0), (10, 0), (11, 0), (12, 0), (13, 0), (14, 0), (15, 0), (16, 0)]; assumption; exact mixed; kernel_rfl) | (apply x_move; exact rfl; exact rfl; (exact (by repeat' constructor))) | (apply x_assign; exact rfl; exact rfl; (exact (by repeat' constructor))) | (apply x_bin; exact rfl; exact rfl; exact rfl; (first | exact .z (.wrap (by omega)) | exact (by repeat' constructor))) | (apply y_move; exact rfl; (exact (by repeat' constructor))) | (apply y_bin; exact rfl; exact (fun _ => rfl); (first | exact .z (.wrap (by omega)) | exact (by repeat' constructor))) | (apply y_pick; exact rfl; exact rfl; (exact (by repeat' constructor))) | (apply y_builtin; exact rfl; exact (fun _ _ => rfl); (exact (by repeat' constructor))) | (apply y_index; exact rfl; exact rfl; exact rfl; exact rfl; (constructor); (first | omega | exact size_pos (by assumption) | assumption); (first | exact rfl | assumption | exact Rd.some_ (by assumption) (by omega) | exact Rd.some_ (Old.rd (by assumption)) (by omega) | exact (Sat.rd (by assumption) (by exact (by repeat' constructor))).some_ (by omega))) | (apply y_nil; intro _ _) | (apply y_gdec; exact rfl; exact rfl; all_goals (intro _; try omega)) | (apply x_dec; exact rfl; all_goals (intro _; try omega))))
            all_goals first
              | (exfalso; omega)
              | skip
            refine ⟨rfl, (by repeat (first | exact Agree.updl rfl (Agree.mask _ _ _) | refine Agree.upd rfl ?_)), ⟨a + 1, hal, rfl, fun i hi => ?_, by assumption⟩, ?_⟩
            · rcases Nat.lt_succ_iff_lt_or_eq.1 hi with hi | rfl
              · exact hbe i hi
              · exact hlt1
            · show os.length - (a + 1 : Int).toNat < os.length - (a : Int).toNat
              omega
          · have fin : ∀ (A' : Option Addr) (cap n : Nat) (xs : List (List Value)) (w' : World), Sat w [] (.rw 0 (.slice A' n cap) 51 2 xs :: [.rw 0 (.slice A5 (sumL ps).length c5) 51 2 ((sumL ps).map prC), .cl b1 28 [.int .i64 m, .slice B ps.length cB]]) w' → n = (os.take a ++ (sumL ps).getD k (0, 0) :: os.drop a).length → xs = (os.take a ++ (sumL ps).getD k (0, 0) :: os.drop a).map prC → (a < os.length → ¬ os.getD a (0, 0) = (sumL ps).getD k (0, 0)) →
                ∃ (k' : Nat) (oA : Option Addr) (oc : Nat) (os : List Pr2), k' ≤ (sumL ps).length ∧ ([.slice A' n cap, .int .i64 ((k : Int) + 1)] : List Value) = [.slice oA os.length oc, .int .i64 k'] ∧ InsOk (frF ps) (sumL ps) k' os ∧ Sat w [] [.rw 0 (.slice oA os.length oc) 51 2 (os.map prC), .rw 0 (.slice A5 (sumL ps).length c5) 51 2 ((sumL ps).map prC), .cl b1 28 [.int .i64 m, .slice B ps.length cB]] w' := fun A' cap n xs w' Sx hn hx' h1 => by
              subst hn
              subst hx'
              exact ⟨k + 1, A', cap, _, hlt, rfl, ins_put hfr.asc hlt hio hxk ha hbe fun h => ⟨fun h2 => hgo ⟨h, h2⟩, h1 h⟩, Sx⟩
            by_cases heq : a < os.length ∧ os.getD a (0, 0) = (sumL ps).getD k (0, 0)
            · obtain ⟨hal, heq⟩ := heq
              have hnlt : ¬ (os.getD a (0, 0)).1 < ((sumL ps).getD k (0, 0)).1 := fun h => hgo ⟨hal, h⟩
              (repeat' (first | apply cw_seq | apply cw_region | apply wl_nil | apply cw_skip | apply cw_exit | (apply y_loadRowM ((0 : Int), (0 : Int)); exact rfl; exact rfl; (exact (by repeat' constructor)); exact rfl; (first | omega | exact size_pos (by assumption) | assumption); exact rfl; exact rfl; (exact (by repeat' constructor))) | (apply y_indexArrE; exact rfl; exact rfl; exact rfl; exact rfl; decide; decide; (constructor)) | (apply y_neArr2; exact rfl; exact rfl; exact rfl; exact arr2_P; kernel_rfl; exact eqc_y heq) | (apply cw_draw (id := 17) [(0, 0), (1, 0), (2, 0), (3, 0), (4, 0), (5, 0), (6, 0), (7, 0), (8, 0), (9, 0), (10, 0), (11, 0), (12, 0), (13, 0), (14, 0), (15, 0), (16, 0)]; assumption; exact mixed; kernel_rfl) | (apply cw_draw (id := 19) [(0, 0), (1, 0), (2, 0), (3, 0), (4, 0), (5, 0), (6, 0), (7, 0), (8, 0), (9, 0), (10, 0), (11, 0), (12, 0), (13, 0), (14, 0)]; assumption; exact mixed; kernel_rfl) | (apply x_move; exact rfl; exact rfl; (exact (by repeat' constructor))) | (apply x_assign; exact rfl; exact rfl; (exact (by repeat' constructor))) | (apply x_bin; exact rfl; exact rfl; exact rfl; (first | exact .z (.wrap (by omega)) | exact (by repeat' constructor))) | (apply y_move; exact rfl; (exact (by repeat' constructor))) | (apply y_bin; exact rfl; exact (fun _ => rfl); (first | exact .z (.wrap (by omega)) | exact (by repeat' constructor))) | (apply y_pick; exact rfl; exact rfl; (exact (by repeat' constructor))) | (apply y_builtin; exact rfl; exact (fun _ _ => rfl); (exact (by repeat' constructor))) | (apply y_index; exact rfl; exact rfl; exact rfl; exact rfl; (constructor); (first | omega | exact size_pos (by assumption) | assumption); (first | exact rfl | assumption | exact Rd.some_ (by assumption) (by omega) | exact Rd.some_ (Old.rd (by assumption)) (by omega) | exact (Sat.rd (by assumption) (by exact (by repeat' constructor))).some_ (by omega))) | (apply y_nil; intro _ _) | (apply y_gdec; exact rfl; exact rfl; all_goals (intro _; try omega)) | (apply cw_false; exact rfl) | (apply x_dec; exact rfl; all_goals (intro _; try omega))))
              all_goals first
                | (exfalso; omega)
                | skip
              refine ⟨rfl, (by repeat (first | exact Agree.updl rfl (Agree.mask _ _ _) | refine Agree.upd rfl ?_ | refine Agree.updl rfl ?_ | refine Agree.maskIn rfl ?_)), ⟨k + 1, oA, oc, os, hlt, rfl, ins_skip hlt hio (.inr (by rw [← heq]; exact getD_memP hal)), by assumption⟩, ?_⟩
              show (sumL ps).length - ((k : Int) + 1).toNat < (sumL ps).length - (k : Int).toNat
              omega
            · have hnq : a < os.length → ¬ os.getD a (0, 0) = (sumL ps).getD k (0, 0) := fun h h2 => heq ⟨h, h2⟩
              have hnlt : a < os.length → ¬ (os.getD a (0, 0)).1 < ((sumL ps).getD k (0, 0)).1 := fun h h2 => hgo ⟨h, h2⟩
              by_cases ha0 : a = 0
              · subst ha0
                by_cases hl0 : os.length = 0
                · obtain hos0 : os = [] := List.length_eq_zero_iff.1 hl0
                  (repeat' (first | apply cw_seq | apply cw_region | apply wl_nil | apply cw_exit | (apply y_loadRowM ((0 : Int), (0 : Int)); exact rfl; exact rfl; (exact (by repeat' constructor)); exact rfl; (first | omega | exact size_pos (by assumption) | assumption); exact rfl; exact rfl; (exact (by repeat' constructor))) | (apply y_sliceHiS hta hac; exact rfl; exact rfl; exact rfl; exact rfl) | (apply y_sliceLoS rfl (show os.length - 0 = 0 by omega) ha; exact rfl; exact rfl; exact rfl; exact rfl) | (apply z1_append0; exact rfl; exact rfl; exact rfl; exact rfl; exact Nat.le_refl _) | (apply z2_appendOne; exact rfl; exact rfl; exact rfl; exact rfl; (exact (by repeat' constructor)); exact rfl; exact rfl; intro _ _) | (apply z2_append0R (by exact (by repeat' constructor)); exact rfl; exact rfl; exact rfl; exact rfl) | (apply cw_draw (id := 17) [(0, 0), (1, 0), (2, 0), (3, 0), (4, 0), (5, 0), (6, 0), (7, 0), (8, 0), (9, 0), (10, 0), (11, 0), (12, 0), (13, 0), (14, 0), (15, 0), (16, 0)]; assumption; exact mixed; kernel_rfl) | (apply cw_draw (id := 19) [(0, 0), (1, 0), (2, 0), (3, 0), (4, 0), (5, 0), (6, 0), (7, 0), (8, 0), (9, 0), (10, 0), (11, 0), (12, 0), (13, 0), (14, 0)]; assumption; exact mixed; kernel_rfl) | (apply cw_draw (id := 20) [(1, 0), (2, 0), (3, 0), (5, 0), (6, 0), (7, 0), (8, 0), (11, 0), (12, 0), (13, 3), (0, 4), (4, 1), (9, 4), (10, 2), (14, 2), (15, 0)]; assumption; exact mixed; kernel_rfl) | (apply x_move; exact rfl; exact rfl; (exact (by repeat' constructor))) | (apply x_assign; exact rfl; exact rfl; (exact (by repeat' constructor))) | (apply x_bin; exact rfl; exact rfl; exact rfl; (first | exact .z (.wrap (by omega)) | exact (by repeat' constructor))) | (apply y_not; exact rfl) | (apply y_move; exact rfl; (exact (by repeat' constructor))) | (apply y_assign; exact rfl; (exact (by repeat' constructor))) | (apply y_bin; exact rfl; exact (fun _ => rfl); (first | exact .z (.wrap (by omega)) | exact (by repeat' constructor))) | (apply y_pick; exact rfl; exact rfl; (exact (by repeat' constructor))) | (apply y_builtin; exact rfl; exact (fun _ _ => rfl); (exact (by repeat' constructor))) | (apply y_index; exact rfl; exact rfl; exact rfl; exact rfl; (constructor); (first | omega | exact size_pos (by assumption) | assumption); (first | exact rfl | assumption | exact Rd.some_ (by assumption) (by omega) | exact Rd.some_ (Old.rd (by assumption)) (by omega) | exact (Sat.rd (by assumption) (by exact (by repeat' constructor))).some_ (by omega))) | (apply z3_buildSlice0; exact rfl; intro _) | (apply z3_buildSlice; exact rfl; (exact (by repeat' constructor)); intro _) | (apply PV.up3) | (apply y_nil; intro _ _) | (apply y_gdec; exact rfl; exact rfl; all_goals (intro _; try omega)) | (apply cw_true; exact rfl) | (apply cw_false; exact rfl)))
                  all_goals first
                    | (exfalso; omega)
                    | skip
                  rename_i g3 c3 w7 S7
                  refine ⟨rfl, (by repeat (first | exact Agree.updl rfl (Agree.mask _ _ _) | refine Agree.upd rfl ?_ | refine Agree.updl rfl ?_ | refine Agree.maskIn rfl ?_)), fin (some ⟨g3, 0, none⟩) c3 1 _ w7 (Sat.drop S7 _ (.cons_cons _ (.cons _ (.cons _ (.cons _ (List.Sublist.refl _)))))) (by simp [hos0]) (by first | (simp [hos0]; done) | (simp [hos0]; rfl)) hnq, ?_⟩
                  show (sumL ps).length - ((k : Int) + 1).toNat < (sumL ps).length - (k : Int).toNat
                  omega
                · have hal : 0 < os.length := by omega
                  have hq1 := hnq hal
                  have hq2 := hnlt hal
                  obtain ⟨ad, had⟩ : ∃ ad, sub oA 0 2 oc = some ad := Option.isSome_iff_exists.1 ((hRD Sr .head).some_ (by rw [List.length_drop]; omega))
                  (repeat' (first | apply cw_seq | apply cw_region | apply wl_nil | apply cw_exit | (apply y_loadRowM ((0 : Int), (0 : Int)); exact rfl; exact rfl; (exact (by repeat' constructor)); exact rfl; (first | omega | exact size_pos (by assumption) | assumption); exact rfl; exact rfl; (exact (by repeat' constructor))) | (apply y_indexArrE; exact rfl; exact rfl; exact rfl; exact rfl; decide; decide; (constructor)) | (apply y_neArr2; exact rfl; exact rfl; exact rfl; exact arr2_P; kernel_rfl; exact eqc_n hq1) | (apply y_sliceHiS hta hac; exact rfl; exact rfl; exact rfl; exact rfl) | (apply y_sliceLoS had List.length_drop.symm ha; exact rfl; exact rfl; exact rfl; exact rfl) | (apply z1_append0; exact rfl; exact rfl; exact rfl; exact rfl; exact Nat.le_refl _) | (apply z2_appendOne; exact rfl; exact rfl; exact rfl; exact rfl; (exact (by repeat' constructor)); exact rfl; exact rfl; intro _ _) | (apply z2_appendNL (l := os.drop _) (en := prC) ((0 : Int), (0 : Int)) (fun _ => rfl) (fun _ => rfl) (fun _ Sx => had ▸ hRD Sx (by exact (by repeat' constructor))); exact rfl; exact rfl; exact rfl; (exact (by repeat' constructor)); exact rfl; exact rfl; (simp; omega); intro _ _) | (apply cw_draw (id := 17) [(0, 0), (1, 0), (2, 0), (3, 0), (4, 0), (5, 0), (6, 0), (7, 0), (8, 0), (9, 0), (10, 0), (11, 0), (12, 0), (13, 0), (14, 0), (15, 0), (16, 0)]; assumption; exact mixed; kernel_rfl) | (apply cw_draw (id := 19) [(0, 0), (1, 0), (2, 0), (3, 0), (4, 0), (5, 0), (6, 0), (7, 0), (8, 0), (9, 0), (10, 0), (11, 0), (12, 0), (13, 0), (14, 0)]; assumption; exact mixed; kernel_rfl) | (apply cw_draw (id := 20) [(1, 0), (2, 0), (3, 0), (5, 0), (6, 0), (7, 0), (8, 0), (11, 0), (12, 0), (13, 3), (0, 4), (4, 1), (9, 4), (10, 2), (14, 2), (15, 0)]; assumption; exact mixed; kernel_rfl) | (apply x_move; exact rfl; exact rfl; (exact (by repeat' constructor))) | (apply x_assign; exact rfl; exact rfl; (exact (by repeat' constructor))) | (apply x_bin; exact rfl; exact rfl; exact rfl; (first | exact .z (.wrap (by omega)) | exact (by repeat' constructor))) | (apply y_move; exact rfl; (exact (by repeat' constructor))) | (apply y_assign; exact rfl; (exact (by repeat' constructor))) | (apply y_bin; exact rfl; exact (fun _ => rfl); (first | exact .z (.wrap (by omega)) | exact (by repeat' constructor))) | (apply y_pick; exact rfl; exact rfl; (exact (by repeat' constructor))) | (apply y_builtin; exact rfl; exact (fun _ _ => rfl); (exact (by repeat' constructor))) | (apply y_index; exact rfl; exact rfl; exact rfl; exact rfl; (constructor); (first | omega | exact size_pos (by assumption) | assumption); (first | exact rfl | assumption | exact Rd.some_ (by assumption) (by omega) | exact Rd.some_ (Old.rd (by assumption)) (by omega) | exact (Sat.rd (by assumption) (by exact (by repeat' constructor))).some_ (by omega))) | (apply z3_buildSlice0; exact rfl; intro _) | (apply z3_buildSlice; exact rfl; (exact (by repeat' constructor)); intro _) | (apply PV.up3) | (apply y_nil; intro _ _) | (apply y_gdec; exact rfl; exact rfl; all_goals (intro _; try omega)) | (apply cw_true; exact rfl) | (apply x_dec; exact rfl; all_goals (intro _; try omega))))
                  all_goals first
                    | (exfalso; omega)
                    | skip
                  rename_i A3 c3 w7 S7
                  refine ⟨rfl, (by repeat (first | exact Agree.updl rfl (Agree.mask _ _ _) | refine Agree.upd rfl ?_ | refine Agree.updl rfl ?_ | refine Agree.maskIn rfl ?_)), fin A3 c3 _ _ w7 (Sat.drop S7 _ (.cons_cons _ (.cons _ (.cons _ (.cons _ (List.Sublist.refl _)))))) (by first | (simp; done) | (simp; omega)) (by first | (simp; done) | (simp; rfl)) hnq, ?_⟩
                  show (sumL ps).length - ((k : Int) + 1).toNat < (sumL ps).length - (k : Int).toNat
                  omega
              · by_cases hl0 : os.length = a
                · (repeat' (first | apply cw_seq | apply cw_region | apply wl_nil | apply cw_exit | (apply y_loadRowM ((0 : Int), (0 : Int)); exact rfl; exact rfl; (exact (by repeat' constructor)); exact rfl; (first | omega | exact size_pos (by assumption) | assumption); exact rfl; exact rfl; (exact (by repeat' constructor))) | (apply y_sliceHiS hta hac; exact rfl; exact rfl; exact rfl; exact rfl) | (apply y_sliceLoS rfl (show os.length - a = 0 by omega) ha; exact rfl; exact rfl; exact rfl; exact rfl) | (apply z1_appendAll (l := os.take _) (en := prC) ((0 : Int), (0 : Int)) (fun _ => rfl) (fun _ Sx => hRT Sx (by exact (by repeat' constructor))) (by omega) (by omega); exact rfl; exact rfl; exact rfl; exact rfl; (exact .inr ⟨_, rfl⟩); exact rfl; intro _ _ _) | (apply z2_append0R (by exact (by repeat' constructor)); exact rfl; exact rfl; exact rfl; exact rfl) | (apply cw_draw (id := 17) [(0, 0), (1, 0), (2, 0), (3, 0), (4, 0), (5, 0), (6, 0), (7, 0), (8, 0), (9, 0), (10, 0), (11, 0), (12, 0), (13, 0), (14, 0), (15, 0), (16, 0)]; assumption; exact mixed; kernel_rfl) | (apply cw_draw (id := 19) [(0, 0), (1, 0), (2, 0), (3, 0), (4, 0), (5, 0), (6, 0), (7, 0), (8, 0), (9, 0), (10, 0), (11, 0), (12, 0), (13, 0), (14, 0)]; assumption; exact mixed; kernel_rfl) | (apply cw_draw (id := 20) [(1, 0), (2, 0), (3, 0), (5, 0), (6, 0), (7, 0), (8, 0), (11, 0), (12, 0), (13, 3), (0, 4), (4, 1), (9, 4), (10, 2), (14, 2), (15, 0)]; assumption; exact mixed; kernel_rfl) | (apply x_move; exact rfl; exact rfl; (exact (by repeat' constructor))) | (apply x_assign; exact rfl; exact rfl; (exact (by repeat' constructor))) | (apply x_bin; exact rfl; exact rfl; exact rfl; (first | exact .z (.wrap (by omega)) | exact (by repeat' constructor))) | (apply z2_append1; exact rfl; exact rfl; exact rfl; exact rfl; exact (by repeat' constructor); exact (by repeat' constructor); exact rfl; exact rfl; exact rfl; (first | assumption | omega | (simp; omega)); intro _ _) | (apply y_not; exact rfl) | (apply y_move; exact rfl; (exact (by repeat' constructor))) | (apply y_assign; exact rfl; (exact (by repeat' constructor))) | (apply y_bin; exact rfl; exact (fun _ => rfl); (first | exact .z (.wrap (by omega)) | exact (by repeat' constructor))) | (apply y_pick; exact rfl; exact rfl; (exact (by repeat' constructor))) | (apply y_builtin; exact rfl; exact (fun _ _ => rfl); (exact (by repeat' constructor))) | (apply y_index; exact rfl; exact rfl; exact rfl; exact rfl; (constructor); (first | omega | exact size_pos (by assumption) | assumption); (first | exact rfl | assumption | exact Rd.some_ (by assumption) (by omega) | exact Rd.some_ (Old.rd (by assumption)) (by omega) | exact (Sat.rd (by assumption) (by exact (by repeat' constructor))).some_ (by omega))) | (apply z3_buildSlice0; exact rfl; intro _) | (apply z3_buildSlice; exact rfl; (exact (by repeat' constructor)); intro _) | (apply PV.up3) | (apply y_nil; intro _ _) | (apply y_gdec; exact rfl; exact rfl; all_goals (intro _; try omega)) | (apply cw_true; exact rfl) | (apply cw_false; exact rfl)))
                  all_goals first
                    | (exfalso; omega)
                    | skip
                  rename_i g3 c3 w7 S7
                  refine ⟨rfl, (by repeat (first | exact Agree.updl rfl (Agree.mask _ _ _) | refine Agree.upd rfl ?_ | refine Agree.updl rfl ?_ | refine Agree.maskIn rfl ?_)), fin (some ⟨g3, 0, none⟩) c3 _ _ w7 (Sat.drop S7 _ (.cons _ (.cons_cons _ (.cons _ (.cons _ (List.Sublist.refl _)))))) (by first | (simp; done) | (simp; omega)) (by rw [List.map_append, List.map_cons, List.drop_of_length_le (by omega)]; rfl) hnq, ?_⟩
                  show (sumL ps).length - ((k : Int) + 1).toNat < (sumL ps).length - (k : Int).toNat
                  omega
                · have hal : a < os.length := by omega
                  have hq1 := hnq hal
                  have hq2 := hnlt hal
                  obtain ⟨ad, had⟩ : ∃ ad, sub oA a 2 oc = some ad := Option.isSome_iff_exists.1 ((hRD Sr .head).some_ (by rw [List.length_drop]; omega))
                  (repeat' (first | apply cw_seq | apply cw_region | apply wl_nil | apply cw_exit | (apply y_loadRowM ((0 : Int), (0 : Int)); exact rfl; exact rfl; (exact (by repeat' constructor)); exact rfl; (first | omega | exact size_pos (by assumption) | assumption); exact rfl; exact rfl; (exact (by repeat' constructor))) | (apply y_indexArrE; exact rfl; exact rfl; exact rfl; exact rfl; decide; decide; (constructor)) | (apply y_neArr2; exact rfl; exact rfl; exact rfl; exact arr2_P; kernel_rfl; exact eqc_n hq1) | (apply y_sliceHiS hta hac; exact rfl; exact rfl; exact rfl; exact rfl) | (apply y_sliceLoS had List.length_drop.symm ha; exact rfl; exact rfl; exact rfl; exact rfl) | (apply z1_appendAll (l := os.take _) (en := prC) ((0 : Int), (0 : Int)) (fun _ => rfl) (fun _ Sx => hRT Sx (by exact (by repeat' constructor))) (by omega) (by omega); exact rfl; exact rfl; exact rfl; exact rfl; (exact .inr ⟨_, rfl⟩); exact rfl; intro _ _ _) | (apply z2_appendNL (l := os.drop _) (en := prC) ((0 : Int), (0 : Int)) (fun _ => rfl) (fun _ => rfl) (fun _ Sx => had ▸ hRD Sx (by exact (by repeat' constructor))); exact rfl; exact rfl; exact rfl; (exact (by repeat' constructor)); exact rfl; exact rfl; (simp; omega); intro _ _) | (apply cw_draw (id := 17) [(0, 0), (1, 0), (2, 0), (3, 0), (4, 0), (5, 0), (6, 0), (7, 0), (8, 0), (9, 0), (10, 0), (11, 0), (12, 0), (13, 0), (14, 0), (15, 0), (16, 0)]; assumption; exact mixed; kernel_rfl) | (apply cw_draw (id := 19) [(0, 0), (1, 0), (2, 0), (3, 0), (4, 0), (5, 0), (6, 0), (7, 0), (8, 0), (9, 0), (10, 0), (11, 0), (12, 0), (13, 0), (14, 0)]; assumption; exact mixed; kernel_rfl) | (apply cw_draw (id := 20) [(1, 0), (2, 0), (3, 0), (5, 0), (6, 0), (7, 0), (8, 0), (11, 0), (12, 0), (13, 3), (0, 4), (4, 1), (9, 4), (10, 2), (14, 2), (15, 0)]; assumption; exact mixed; kernel_rfl) | (apply x_move; exact rfl; exact rfl; (exact (by repeat' constructor))) | (apply x_assign; exact rfl; exact rfl; (exact (by repeat' constructor))) | (apply x_bin; exact rfl; exact rfl; exact rfl; (first | exact .z (.wrap (by omega)) | exact (by repeat' constructor))) | (apply z2_append1; exact rfl; exact rfl; exact rfl; exact rfl; exact (by repeat' constructor); exact (by repeat' constructor); exact rfl; exact rfl; exact rfl; (first | assumption | omega | (simp; omega)); intro _ _) | (apply y_move; exact rfl; (exact (by repeat' constructor))) | (apply y_assign; exact rfl; (exact (by repeat' constructor))) | (apply y_bin; exact rfl; exact (fun _ => rfl); (first | exact .z (.wrap (by omega)) | exact (by repeat' constructor))) | (apply y_pick; exact rfl; exact rfl; (exact (by repeat' constructor))) | (apply y_builtin; exact rfl; exact (fun _ _ => rfl); (exact (by repeat' constructor))) | (apply y_index; exact rfl; exact rfl; exact rfl; exact rfl; (constructor); (first | omega | exact size_pos (by assumption) | assumption); (first | exact rfl | assumption | exact Rd.some_ (by assumption) (by omega) | exact Rd.some_ (Old.rd (by assumption)) (by omega) | exact (Sat.rd (by assumption) (by exact (by repeat' constructor))).some_ (by omega))) | (apply z3_buildSlice0; exact rfl; intro _) | (apply z3_buildSlice; exact rfl; (exact (by repeat' constructor)); intro _) | (apply PV.up3) | (apply y_nil; intro _ _) | (apply y_gdec; exact rfl; exact rfl; all_goals (intro _; try omega)) | (apply cw_true; exact rfl) | (apply x_dec; exact rfl; all_goals (intro _; try omega))))
                  all_goals first
                    | (exfalso; omega)
                    | skip
                  rename_i A3 c3 w7 S7
                  refine ⟨rfl, (by repeat (first | exact Agree.updl rfl (Agree.mask _ _ _) | refine Agree.upd rfl ?_ | refine Agree.updl rfl ?_ | refine Agree.maskIn rfl ?_)), fin A3 c3 _ _ w7 (Sat.drop S7 _ (.cons _ (.cons_cons _ (.cons _ (.cons _ (List.Sublist.refl _)))))) (by first | (simp; done) | (simp; omega)) (by first | (simp; done) | (simp; rfl)) hnq, ?_⟩
                  show (sumL ps).length - ((k : Int) + 1).toNat < (sumL ps).length - (k : Int).toNat
                  omega
        · have hbt : @decide (btn (sumL ps) ((sumL ps).getD k (0, 0))) (Classical.propDecidable _) = true := by
            exact dec_yes (by rw [hx]; exact (btn_front hfr hxm).2 hxF)
          (repeat' (first | apply cw_seq | apply cw_region | apply wl_nil | apply cw_block | apply cw_skip | apply cw_exit | (apply x_loadR; exact rfl; exact rfl; exact rfl; exact Sat.rdmapN ((0 : Int), (0 : Int)) (by assumption) (by exact (by repeat' constructor)) rfl; (first | omega | exact size_pos (by assumption) | assumption); exact rfl; exact rfl; (exact (by repeat' constructor))) | (apply x_callv; assumption; exact rfl; exact rfl; exact rfl; exact e_rBeaten; (exact (by repeat' constructor)); (with_reducible apply rBeaten_y (sumL ps)); exact rfl; (exact (by omega)); exact hbt; exact (Sat.rdmapN ((0 : Int), (0 : Int)) (by assumption) (by exact (by repeat' constructor)) rfl); intro _ _ _) | (apply x_move; exact rfl; exact rfl; (exact (by repeat' constructor))) | (apply x_assign; exact rfl; exact rfl; (exact (by repeat' constructor))) | (apply x_bin; exact rfl; exact rfl; exact rfl; (first | exact .z (.wrap (by omega)) | exact (by repeat' constructor))) | (apply x_builtin; exact rfl; exact rfl; exact (fun _ => rfl); (exact (by repeat' constructor))) | (apply x_index; exact rfl; exact rfl; exact rfl; exact rfl; exact rfl; (constructor); (first | omega | exact size_pos (by assumption) | assumption); (first | exact rfl | assumption | exact Rd.some_ (by assumption) (by omega) | exact Rd.some_ (Old.rd (by assumption)) (by omega) | exact (Sat.rd (by assumption) (by exact (by repeat' constructor))).some_ (by omega))) | (apply cw_true; exact rfl) | (apply x_dec; exact rfl; all_goals (intro _; try omega))))
          refine ⟨rfl, (by repeat (first | exact Agree.updl rfl (Agree.mask _ _ _) | refine Agree.upd rfl ?_ | refine Agree.updl rfl ?_ | refine Agree.maskIn rfl ?_)), ⟨k + 1, oA, oc, os, hlt, rfl, ins_skip hlt hio (.inl (by rw [hx]; exact hxF)), by assumption⟩, ?_⟩
          show (sumL ps).length - (k + 1 : Int).toNat < (sumL ps).length - (k : Int).toNat
          omega
      · have ek : k = (sumL ps).length := by omega
        subst ek
        have hoF := ins_end hfr hio
        subst hoF
        by_cases hbig : 16384 < (frF ps).length
        · rw [frtL_12 hck hbig]
          (repeat' (first | apply cw_seq | apply cw_region | apply wl_nil | apply cw_exit | apply cw_ret | (apply x_move; exact rfl; exact rfl; (exact (by repeat' constructor))) | (apply x_assign; exact rfl; exact rfl; (exact (by repeat' constructor))) | (apply x_bin; exact rfl; exact rfl; exact rfl; (first | exact .z (.wrap (by omega)) | exact (by repeat' constructor))) | (apply x_builtin; exact rfl; exact rfl; exact (fun _ => rfl); (exact (by repeat' constructor))) | (apply x_dec; exact rfl; all_goals (intro _; try omega))))
          all_goals first
            | (exfalso; omega)
            | skip
          (first | refine q_retS (by assumption) rfl (by repeat (first | exact .nil | (apply RV.tmp; exact (by repeat' constructor)) | (apply RV.cell; exact rfl; exact (by repeat' constructor); exact rfl; exact rfl; exact (by repeat' constructor)))) ?_ | (simp only [thenQ, blockQ]; refine q_retS (by assumption) rfl (by repeat (first | exact .nil | (apply RV.tmp; exact (by repeat' constructor)) | (apply RV.cell; exact rfl; exact (by repeat' constructor); exact rfl; exact rfl; exact (by repeat' constructor)))) ?_))
          exact rowR_nil (V := fun v => .tuple #[v, .int .i64 12]) rfl (Sat.keeps (by assumption))
        · rw [frtL_0 hck hbig]
          (repeat' (first | apply cw_seq | apply cw_region | apply wl_nil | apply cw_skip | apply cw_exit | apply cw_ret | (apply x_move; exact rfl; exact rfl; (exact (by repeat' constructor))) | (apply x_assign; exact rfl; exact rfl; (exact (by repeat' constructor))) | (apply x_bin; exact rfl; exact rfl; exact rfl; (first | exact .z (.wrap (by omega)) | exact (by repeat' constructor))) | (apply x_builtin; exact rfl; exact rfl; exact (fun _ => rfl); (exact (by repeat' constructor))) | (apply x_dec; exact rfl; all_goals (intro _; try omega))))
          all_goals first
            | (exfalso; omega)
            | skip
          (first | refine q_retS (by assumption) rfl (by repeat (first | exact .nil | (apply RV.tmp; exact (by repeat' constructor)) | (apply RV.cell; exact rfl; exact (by repeat' constructor); exact rfl; exact rfl; exact (by repeat' constructor)))) ?_ | (simp only [thenQ, blockQ]; refine q_retS (by assumption) rfl (by repeat (first | exact .nil | (apply RV.tmp; exact (by repeat' constructor)) | (apply RV.cell; exact rfl; exact (by repeat' constructor); exact rfl; exact rfl; exact (by repeat' constructor)))) ?_))
          exact rowR_n (V := fun v => .tuple #[v, .int .i64 0]) (List.length_map _).symm (by assumption) .head
  · rw [frtL_e hck]
    (repeat' (first | apply cw_seq | apply cw_region | apply wl_nil | apply cw_ret | (apply x_callv; assumption; exact rfl; exact rfl; exact rfl; exact e_rCheckT; (exact (by repeat' constructor)); with_reducible exact (rCheckT_c m B cB ps hp hcs _ (R.old.now (by assumption)) (fun i hi => (R2 i hi).old.now (by assumption))); intro _ _ _) | (apply x_move; exact rfl; exact rfl; (exact (by repeat' constructor))) | (apply x_assign; exact rfl; exact rfl; (exact (by repeat' constructor))) | (apply x_load; assumption; exact rfl; exact rfl; exact rfl; (exact (by repeat' constructor)); exact rfl; exact rfl; (exact (by repeat' constructor))) | (apply x_bin; exact rfl; exact rfl; exact rfl; (first | exact .z (.wrap (by omega)) | exact (by repeat' constructor))) | (apply x_box; assumption; exact rfl; exact rfl; (exact (by repeat' constructor)); (exact (by repeat' constructor)); intro _ _ _) | (apply cw_ne; exact rfl; all_goals (intro _; try omega))))
    all_goals first
      | (exfalso; omega)
      | exact absurd (by assumption) hck
      | skip
    (first | refine q_retS (by assumption) rfl (by repeat (first | exact .nil | (apply RV.tmp; exact (by repeat' constructor)) | (apply RV.cell; exact rfl; exact (by repeat' constructor); exact rfl; exact rfl; exact (by repeat' constructor)))) ?_ | (simp only [thenQ, blockQ]; refine q_retS (by assumption) rfl (by repeat (first | exact .nil | (apply RV.tmp; exact (by repeat' constructor)) | (apply RV.cell; exact rfl; exact (by repeat' constructor); exact rfl; exact rfl; exact (by repeat' constructor)))) ?_))
    exact rowR_nil (V := fun v => .tuple #[v, .int .i64 (chkE m ps)]) rfl (Sat.keeps (by assumption))
end Go.Proofs.Ytecmgjhnfgeldaa.Al
