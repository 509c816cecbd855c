/- The reference's best pick: the walk. No statement of the seat is proved here. -/
import Derived.Test.YtecmgjhnfgeldaaV12
namespace Go.Proofs.Ytecmgjhnfgeldaa.Al
set_option linter.unusedVariables false
set_option linter.unusedSimpArgs false
open Go Go.RowKit
theorem pq_at {ps : List Pt} (q : PQ ps) {k : Nat} : (q.rs.getD k ir0).xs = (pkA ps).getD k [] := by
  have h := q.xs
  unfold pkA
  rw [← h]
  simp only [List.getD_eq_getElem?_getD, List.getElem?_map]
  cases q.rs[k]? <;> rfl
theorem pq_len {ps : List Pt} (q : PQ ps) : q.rs.length = (pkA ps).length := by
  have h := congrArg List.length q.xs
  rwa [List.length_map] at h
theorem irA {w w0 : World} {M : List Nat} {h : List HO} {r : IR} (S : Sat w0 M h w) (hh : Has h (irH r)) (hp : 0 < r.xs.length) : ∃ a, r.A = some a := by
  rcases (S.ok _ hh.mem).2.2.2 with ⟨hv, h0⟩ | ⟨g, cap, cur, hv, _⟩
  · injection hv with h1 h2 h3; omega
  · injection hv with h1 h2 h3; exact ⟨_, h1⟩
theorem rWeighed_y {m wk ck : Int} {B : Option Addr} {cB : Nat} {ps : List Pt} (ho : OkT m ps) (r : IR) (hle : r.xs.length = ps.length) (hall : okL ps r.xs r.xs.length) (h1 : wS ps r.xs r.xs.length = wk) (h2 : cS ps r.xs r.xs.length = ck) (w : World) (R : Rd w B 2 ps.length (fun i => ptC (ps.getD i pt0))) (R2 : ∀ i, i < ps.length → Rd w (pat ps i).A 2 (pat ps i).cs.length (fun j => chC ((pat ps i).cs.getD j ch0))) (R3 : Rd w r.A 1 r.xs.length (fun i => pkC (r.xs.getD i 0))) :
    Calls Try.prog 38 #[.agg #[.int .i64 m, .slice B ps.length cB], .slice r.A r.xs.length r.c] w (RetP (Val (.tuple #[.int .i64 wk, .int .i64 ck]) w)) := by
  have hn := ho.n16
  have := rWeighed_c m B cB ps (by omega) (fun i hi => by have := (ho.pt i hi).n16; show (ps.getD i pt0).cs.length ≤ _; omega) r.A r.c r.xs (by omega) ho (by omega) hall w R R2 R3
  rw [h1, h2] at this
  exact this
def BOk (m : Int) (ps : List Pt) (q : PQ ps) (k : Nat) (bv : Value) (z : Int) : Prop :=
  (bF m (wA ps) (cA' ps) k = none ∧ bv = .slice none 0 0 ∧ z = 0) ∨ ∃ j a, bF m (wA ps) (cA' ps) k = some j ∧ (q.rs.getD j ir0).A = some a ∧ bv = .slice (some a) (q.rs.getD j ir0).xs.length (q.rs.getD j ir0).c ∧ z = cA' ps j
set_option maxRecDepth 100000 in
theorem e_rBest : Ent Try.prog 36 := fun _ _ => rfl
set_option maxRecDepth 8000 in
set_option maxHeartbeats 8000000 in
theorem rBest_c (m : Int) (B : Option Addr) (cB : Nat) (ps : List Pt) (ho : OkT m ps) (hN : prodN ps ≤ 20000) (mo : Int) (w : World) (R : Rd w B 2 ps.length (fun i => ptC (ps.getD i pt0))) (R2 : ∀ i, i < ps.length → Rd w (pat ps i).A 2 (pat ps i).cs.length (fun j => chC ((pat ps i).cs.getD j ch0))) : Calls Try.prog 36 #[.agg #[.int .i64 m, .slice B ps.length cB], .int .i64 mo] w (RetP fun v w' => ∃ q : PQ ps, Sat w [] (pqH q) w' ∧ ∃ bv z, BOk mo ps q (pkA ps).length bv z ∧ v = .tuple #[bv, .int .i64 z, .bool (bF mo (wA ps) (cA' ps) (pkA ps).length).isSome]) := by
  refine calls_of_cw (args := [.agg #[.int .i64 m, .slice B ps.length cB], .int .i64 mo]) Try.func36 rfl rfl ?_
  have S := Sat.start [] w
  have hn := ho.n16
  have hn1 := ho.n1
  (repeat' (first | apply cw_seq | apply cw_region | apply wl_nil | apply cw_block | (apply x_callT; assumption; exact rfl; exact rfl; exact rfl; exact e_rPicks; (exact (by repeat' constructor)); (with_reducible exact rPicks_c m B cB ps ho hN _ (R.old.now (by assumption)) (fun i hi => (R2 i hi).old.now (by assumption))); intro q _ _) | (apply x_assign; exact rfl; exact rfl; (exact (by repeat' constructor))) | (apply x_load; assumption; exact rfl; exact rfl; exact rfl; (exact (by repeat' constructor)); exact rfl; exact rfl; (exact (by repeat' constructor))) | (apply x_box; assumption; exact rfl; exact rfl; (exact (by repeat' constructor)); (exact (by repeat' constructor)); intro _ _ _)))
  rename_i b2 _ _ w2 S2
  have hql := pq_len q
  have hq9 : (pkA ps).length ≤ 20000 := pkI_few ho hN ps.length
  refine cw_loop [7, 8, 10, 11, 12, 15, 16, 17, 18, 19, 20, 21, 22, 23, 24, 25, 26, 27, 28, 29, 30, 31, 32, 33, 34, 35, 36, 37, 38, 39, 40, 41, 42, 43, 44, 45, 46] [7, 8, 10] (fun us wr => ∃ (k : Nat) (bv : Value) (z : Int), k ≤ q.rs.length ∧ us = [bv, .int .i64 z, .int .i64 k] ∧ BOk mo ps q k bv z ∧ Sat w [] (.cl b2 28 [.int .i64 m, .slice B ps.length cB] :: .rw 0 (.slice q.A q.rs.length q.c) 31 1 (q.rs.map irV) :: q.rs.map irH) wr) (fun us _ => q.rs.length - (intOf (us.getD 2 undef)).toNat) ?_ ?_
  · exact ⟨0, .slice none 0 0, 0, Nat.zero_le _, rfl, .inl ⟨rfl, rfl, rfl⟩, S2⟩
  clear S2
  rintro g us wr ⟨k, bv, z, hk, rfl, hb, Sr⟩
  by_cases hlt : k < q.rs.length
  · obtain ⟨r, hr⟩ : ∃ r, q.rs.getD k ir0 = r := ⟨_, rfl⟩
    have hrx : r.xs = (pkA ps).getD k [] := by rw [← hr]; exact pq_at q
    obtain ⟨hx1, hx2⟩ := pkA_ok (ps := ps) (k := k) (by omega)
    have hxw : wS ps r.xs r.xs.length = wA ps k := by rw [hrx]
    have hxc : cS ps r.xs r.xs.length = cA' ps k := by rw [hrx]
    rw [← hrx] at hx1 hx2
    have hrm : irH r ∈ q.rs.map irH := by rw [← hr]; exact List.mem_map_of_mem (getD_mem ir0 hlt)
    obtain ⟨ra, hra⟩ := irA Sr (hasOf (List.mem_cons_of_mem _ (List.mem_cons_of_mem _ hrm))) (by omega)
    obtain ⟨wk, hwk⟩ : ∃ z, wA ps k = z := ⟨_, rfl⟩
    obtain ⟨ck, hck⟩ : ∃ z, cA' ps k = z := ⟨_, rfl⟩
    have hnew : BOk mo ps q (k + 1) (.slice r.A r.xs.length r.c) ck ∨ True := .inr trivial
    have hcase : ((bv = .slice none 0 0 ∧ z = 0) ∧ ((wk ≤ mo ∧ bF mo (wA ps) (cA' ps) (k + 1) = some k) ∨ (¬ wk ≤ mo ∧ bF mo (wA ps) (cA' ps) (k + 1) = none))) ∨ (∃ j a, ((q.rs.getD j ir0).A = some a ∧ bv = .slice (some a) (q.rs.getD j ir0).xs.length (q.rs.getD j ir0).c ∧ z = cA' ps j) ∧ ((wk ≤ mo ∧ ck < z ∧ bF mo (wA ps) (cA' ps) (k + 1) = some k) ∨ (wk ≤ mo ∧ ¬ ck < z ∧ bF mo (wA ps) (cA' ps) (k + 1) = some j) ∨ (¬ wk ≤ mo ∧ bF mo (wA ps) (cA' ps) (k + 1) = some j))) := by
      rcases hb with ⟨h1, h2, h3⟩ | ⟨j, a, h1, h2, h3, h4⟩
      · refine .inl ⟨⟨h2, h3⟩, ?_⟩
        rw [bF, h1]
        dsimp only
        rw [hwk]
        by_cases hw : wk ≤ mo
        · exact .inl ⟨hw, if_pos hw⟩
        · exact .inr ⟨hw, if_neg hw⟩
      · refine .inr ⟨j, a, ⟨h2, h3, h4⟩, ?_⟩
        rw [bF, h1]
        dsimp only
        rw [hwk, hck, h4]
        by_cases hw : wk ≤ mo
        · by_cases hc : ck < cA' ps j
          · exact .inl ⟨hw, hc, if_pos ⟨hw, hc⟩⟩
          · exact .inr (.inl ⟨hw, hc, if_neg fun h => hc h.2⟩)
        · exact .inr (.inr ⟨hw, if_neg fun h => hw h.1⟩)
    clear hb hnew
    have hnk : bF mo (wA ps) (cA' ps) (k + 1) = some k → BOk mo ps q (k + 1) (.slice r.A r.xs.length r.c) ck := fun h => .inr ⟨k, ra, h, by rw [hr]; exact hra, by rw [hr, hra], hck.symm⟩
    rcases hcase with ⟨⟨rfl, rfl⟩, ⟨h1, h2⟩ | ⟨h1, h2⟩⟩ | ⟨j, a, ⟨hja, rfl, rfl⟩, ⟨h1, h3, h2⟩ | ⟨h1, h3, h2⟩ | ⟨h1, h2⟩⟩
    all_goals
      (repeat' (first | apply cw_seq | apply cw_region | apply wl_nil | apply cw_block | apply cw_skip | (apply y_loadRowM (l := q.rs) (en := irV) ir0; exact rfl; exact rfl; (exact (by repeat' constructor)); exact rfl; exact hlt; exact rfl; exact rfl; exact is_rowI hr) | (apply x_loadR; exact rfl; exact rfl; exact rfl; exact Sat.rdmapN (l := q.rs) (en := irV) ir0 (by assumption) (by exact (by repeat' constructor)) rfl; exact hlt; exact rfl; exact rfl; exact is_rowI hr) | (apply z2_callv; exact rfl; exact rfl; exact e_rWeighed; (exact (by repeat' constructor)); intro _ Sx; (with_reducible refine rWeighed_y ho r hx1 hx2 (hxw.trans hwk) (hxc.trans hck) _ (R.old.now Sx) (fun i hi => (R2 i hi).old.now Sx) ?_); exact Sat.rdmapN (0 : Int) Sx (hasOf (List.mem_cons_of_mem _ (List.mem_cons_of_mem _ hrm))) rfl) | (apply cw_draw (id := 7) [(0, 0), (1, 0), (2, 0), (3, 0), (4, 0), (5, 2), (6, 0), (7, 0), (8, 0), (9, 0), (10, 0)]; assumption; exact mixed; kernel_rfl) | (apply x_not; exact rfl; exact rfl) | (apply x_move; exact rfl; exact rfl; (exact (by repeat' constructor))) | (apply x_assign; exact rfl; exact rfl; (exact (by repeat' constructor))) | (apply x_bin; exact rfl; exact rfl; exact rfl; (first | exact .z (.wrap (by omega)) | exact (by repeat' constructor))) | (apply x_pick; exact rfl; exact rfl; exact rfl; (exact (by repeat' constructor))) | (apply x_builtin; exact rfl; exact rfl; exact (fun _ => rfl); (exact (by repeat' constructor))) | (apply x_index; exact rfl; exact rfl; exact rfl; exact rfl; exact rfl; (constructor); (first | omega | exact size_pos (by assumption) | assumption); (first | exact rfl | assumption | exact Rd.some_ (by assumption) (by omega) | exact Rd.some_ (Old.rd (by assumption)) (by omega) | exact (Sat.rd (by assumption) (by exact (by repeat' constructor))).some_ (by omega))) | (apply y_move; exact rfl; (exact (by repeat' constructor))) | (apply y_assign; exact rfl; (exact (by repeat' constructor))) | (apply y_load; exact rfl; exact rfl; (exact (by repeat' constructor)); exact rfl; exact rfl; (exact (by repeat' constructor))) | (apply y_extract; exact rfl; exact (fun _ => rfl); (exact (by repeat' constructor))) | (apply y_index; exact rfl; exact rfl; exact rfl; exact rfl; (constructor); (first | omega | exact size_pos (by assumption) | assumption); (first | exact rfl | assumption | exact Rd.some_ (by assumption) (by omega) | exact Rd.some_ (Old.rd (by assumption)) (by omega) | exact (Sat.rd (by assumption) (by exact (by repeat' constructor))).some_ (by omega))) | (apply y_nil; intro _ _) | (apply cw_true; exact rfl) | (apply cw_false; exact rfl) | (apply x_dec; exact rfl; all_goals (intro _; try omega)) | (apply x_gdec; exact rfl; exact rfl; all_goals (intro _; try omega))))
    all_goals first
      | (exfalso; omega)
      | skip
    all_goals first
      | (refine ⟨rfl, (by repeat (first | exact Agree.updl rfl (Agree.mask _ _ _) | refine Agree.upd rfl ?_ | refine Agree.updl rfl ?_ | refine Agree.maskIn rfl ?_)), ⟨k + 1, _, _, hlt, rfl, hnk h2, by assumption⟩, ?_⟩
         show q.rs.length - (k + 1 : Int).toNat < q.rs.length - (k : Int).toNat
         omega)
      | (refine ⟨rfl, (by repeat (first | exact Agree.updl rfl (Agree.mask _ _ _) | refine Agree.upd rfl ?_ | refine Agree.updl rfl ?_ | refine Agree.maskIn rfl ?_)), ⟨k + 1, _, _, hlt, rfl, .inl ⟨h2, rfl, rfl⟩, by assumption⟩, ?_⟩
         show q.rs.length - (k + 1 : Int).toNat < q.rs.length - (k : Int).toNat
         omega)
      | (refine ⟨rfl, (by repeat (first | exact Agree.updl rfl (Agree.mask _ _ _) | refine Agree.upd rfl ?_ | refine Agree.updl rfl ?_ | refine Agree.maskIn rfl ?_)), ⟨k + 1, _, _, hlt, rfl, .inr ⟨j, a, h2, hja, rfl, rfl⟩, by assumption⟩, ?_⟩
         show q.rs.length - (k + 1 : Int).toNat < q.rs.length - (k : Int).toNat
         omega)
  · have ek : k = q.rs.length := by omega
    subst ek
    rw [hql] at hb
    rcases hb with ⟨h1, rfl, rfl⟩ | ⟨j, a, h1, h2, rfl, rfl⟩
    all_goals
      rw [h1]
      (repeat' (first | apply cw_seq | apply cw_region | apply wl_nil | apply cw_exit | apply cw_ret | (apply x_move; exact rfl; exact rfl; (exact (by repeat' constructor))) | (apply x_assign; exact rfl; exact rfl; (exact (by repeat' constructor))) | (apply x_bin; exact rfl; exact rfl; exact rfl; (first | exact .z (.wrap (by omega)) | exact (by repeat' constructor))) | (apply x_builtin; exact rfl; exact rfl; exact (fun _ => rfl); (exact (by repeat' constructor))) | (apply x_dec; exact rfl; all_goals (intro _; try omega))))
      (first | refine q_retS (by assumption) rfl (by repeat (first | exact .nil | (apply RV.tmp; exact (by repeat' constructor)) | (apply RV.cell; exact rfl; exact (by repeat' constructor); exact rfl; exact rfl; exact (by repeat' constructor)))) ?_ | (simp only [thenQ, blockQ]; refine q_retS (by assumption) rfl (by repeat (first | exact .nil | (apply RV.tmp; exact (by repeat' constructor)) | (apply RV.cell; exact rfl; exact (by repeat' constructor); exact rfl; exact rfl; exact (by repeat' constructor)))) ?_))
    · exact ⟨q, Sat.drop1 (by assumption), _, _, .inl ⟨h1, rfl, rfl⟩, rfl⟩
    · exact ⟨q, Sat.drop1 (by assumption), _, _, .inr ⟨j, a, h1, h2, rfl, rfl⟩, rfl⟩
theorem rBest_n (m : Int) (B : Option Addr) (cB : Nat) (ps : List Pt) (ho : OkT m ps) (hN : prodN ps ≤ 20000) (mo : Int) (h : chpS (frF ps) mo = none) (w : World) (R : Rd w B 2 ps.length (fun i => ptC (ps.getD i pt0))) (R2 : ∀ i, i < ps.length → Rd w (pat ps i).A 2 (pat ps i).cs.length (fun j => chC ((pat ps i).cs.getD j ch0))) : Calls Try.prog 36 #[.agg #[.int .i64 m, .slice B ps.length cB], .int .i64 mo] w (RetP (Val (.tuple #[.slice none 0 0, .int .i64 0, .bool false]) w)) := by
  refine (rBest_c m B cB ps ho hN mo w R R2).mono ?_
  rintro e w' ⟨v, rfl, q, S, bv, z, hb, rfl⟩
  rcases bF_ok (m := mo) (W := wA ps) (C := cA' ps) (pkA ps).length with ⟨h1, h2⟩ | ⟨j, h1, h2⟩
  · rcases hb with ⟨_, rfl, rfl⟩ | ⟨j, a, h3, _⟩
    · exact ⟨_, rfl, by rw [h1]; rfl, Sat.keeps S⟩
    · rw [h1] at h3; cases h3
  · rw [(best_some h2).1] at h; cases h
theorem rBest_s (m : Int) (B : Option Addr) (cB : Nat) (ps : List Pt) (ho : OkT m ps) (hN : prodN ps ≤ 20000) (mo : Int) {c : Int} (h : chpS (frF ps) mo = some c) (w : World) (R : Rd w B 2 ps.length (fun i => ptC (ps.getD i pt0))) (R2 : ∀ i, i < ps.length → Rd w (pat ps i).A 2 (pat ps i).cs.length (fun j => chC ((pat ps i).cs.getD j ch0))) : Calls Try.prog 36 #[.agg #[.int .i64 m, .slice B ps.length cB], .int .i64 mo] w (RetP (RowR (fun v => .tuple #[v, .int .i64 c, .bool true]) 3 1 ((toI (srchP (ps.map Pt.pl) mo c)).map pkC) w)) := by
  refine (rBest_c m B cB ps ho hN mo w R R2).mono ?_
  rintro e w' ⟨v, rfl, q, S, bv, z, hb, rfl⟩
  rcases bF_ok (m := mo) (W := wA ps) (C := cA' ps) (pkA ps).length with ⟨h1, h2⟩ | ⟨j, h1, h2⟩
  · rw [best_none h2] at h; cases h
  · obtain ⟨h3, h4⟩ := best_some h2
    rw [h] at h3
    injection h3 with h3
    subst h3
    rcases hb with ⟨h5, _⟩ | ⟨j', a, h5, h6, rfl, rfl⟩
    · rw [h1] at h5; cases h5
    · rw [h1] at h5
      injection h5 with h5
      subst h5
      refine ⟨_, rfl, ?_⟩
      rw [h1, ← h4, ← pq_at q]
      have hj := h2.lt
      rw [← pq_len q] at hj
      have hm : irH (q.rs.getD j ir0) ∈ pqH q := List.mem_cons_of_mem _ (List.mem_map_of_mem (getD_mem ir0 hj))
      have e : irH (q.rs.getD j ir0) = .rw 0 (.slice (some a) (q.rs.getD j ir0).xs.length (q.rs.getD j ir0).c) 3 1 ((q.rs.getD j ir0).xs.map pkC) := by unfold irH; rw [h6]
      rw [e] at hm
      exact rowR_n (V := fun v => .tuple #[v, .int .i64 (cA' ps j), .bool true]) (List.length_map _).symm S (hasOf hm)
end Go.Proofs.Ytecmgjhnfgeldaa.Al
