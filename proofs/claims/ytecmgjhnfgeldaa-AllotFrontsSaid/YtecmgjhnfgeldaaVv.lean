/- The first choices that keep the width and the cost: the program's inner search. No statement of the seat is proved here. -/
import Derived.Test.YtecmgjhnfgeldaaVu
namespace Go.Proofs.Ytecmgjhnfgeldaa.Al
set_option linter.unusedVariables false
set_option linter.unusedSimpArgs false
open Go Go.RowKit

/-- a choice keeps what is left -/
def cndS (ps : List Pt) (i : Nat) (wd c : Int) (j : Nat) : Prop := chpS (frF (ps.drop (i + 1))) (wd - (ps.getD i pt0).wt * ((ps.getD i pt0).cs.getD j ch0).w) = some (c - ((ps.getD i pt0).cs.getD j ch0).c)
theorem srch_hit {ps : List Pt} {i k : Nat} {wd c : Int} (hi : i < ps.length) (hk : k < (ps.getD i pt0).cs.length) (hno : ∀ j, j < k → ¬ cndS ps i wd c j) (h : cndS ps i wd c k) :
    srchP ((ps.drop i).map Pt.pl) wd c = k :: srchP ((ps.drop (i + 1)).map Pt.pl) (wd - (ps.getD i pt0).wt * ((ps.getD i pt0).cs.getD k ch0).w) (c - ((ps.getD i pt0).cs.getD k ch0).c) := by
  rw [drop_cons hi, List.map_cons, srchP]
  have hf : (List.range (ps.getD i pt0).pl.2.length).find? (fun k => @decide (leastP ((ps.drop (i + 1)).map Pt.pl) (wd - (ps.getD i pt0).pl.1 * ((ps.getD i pt0).pl.2.getD k ch0).w) = some (c - ((ps.getD i pt0).pl.2.getD k ch0).c)) (Classical.propDecidable _)) = some k := by
    rw [List.find?_range_eq_some]
    refine ⟨?_, List.mem_range.2 hk, fun j hj => ?_⟩
    · rw [@decide_eq_true_iff _ (Classical.propDecidable _), ← chp_least (frF_front _)]
      exact h
    · rw [Bool.not_eq_true', @decide_eq_false_iff_not _ (Classical.propDecidable _), ← chp_least (frF_front _)]
      exact hno j hj
  rw [hf]
theorem srch_none {ps : List Pt} {i : Nat} {wd c : Int} (hi : i < ps.length) (hno : ∀ j, j < (ps.getD i pt0).cs.length → ¬ cndS ps i wd c j) : srchP ((ps.drop i).map Pt.pl) wd c = [] := by
  rw [drop_cons hi, List.map_cons, srchP]
  have hf : (List.range (ps.getD i pt0).pl.2.length).find? (fun k => @decide (leastP ((ps.drop (i + 1)).map Pt.pl) (wd - (ps.getD i pt0).pl.1 * ((ps.getD i pt0).pl.2.getD k ch0).w) = some (c - ((ps.getD i pt0).pl.2.getD k ch0).c)) (Classical.propDecidable _)) = none := by
    rw [List.find?_eq_none]
    intro j hj
    rw [@decide_eq_true_iff _ (Classical.propDecidable _), ← chp_least (frF_front _)]
    exact hno j (List.mem_range.1 hj)
  rw [hf]
theorem hasOf {o : HO} : ∀ {h : List HO}, o ∈ h → Has h o
  | [], hm => by cases hm
  | x :: h, hm => by
    by_cases e : o = x
    · subst e; exact .head
    · exact .tail (hasOf (by rcases List.mem_cons.1 hm with e2 | e2; exact absurd e2 e; exact e2))
theorem chp_low {m t a : Int} {ps : List Pt} (ho : OkT m ps) (k : Nat) (h : chpS (frF (ps.drop k)) t = some a) : 0 ≤ t ∧ 0 ≤ a ∧ a ≤ 100000000 := by
  obtain ⟨⟨s, hs, hst, rfl⟩, _⟩ := (chp_some (frF_front _)).1 h
  have := sums_le (ps.drop k) (fun p hp => ho.all p (List.mem_of_mem_drop hp)) s hs
  have hl : (ps.drop k).length ≤ 16 := by have := ho.n16; rw [List.length_drop]; omega
  omega
/-- what the search holds -/
def sBox (bP bT bL bS : Nat) (m : Int) (B : Option Addr) (cB : Nat) (ps : List Pt) (q : FQ ps) (Ap : Option Addr) (cp : Nat) (l : List Int) : List HO :=
  .cl bP 31 [.slice Ap l.length cp] :: .rw 0 (.slice Ap l.length cp) 3 1 (l.map pkC) :: .cl bT 24 [.int .i64 m, .slice B ps.length cB] :: .cl bL 73 [fqV q] :: .cl bS 77 [.func (.func 35) #[] #[.pointer (some ⟨bP, 0, none⟩), .pointer (some ⟨bT, 0, none⟩), .pointer (some ⟨bL, 0, none⟩), .pointer (some ⟨bS, 0, none⟩)]] :: fqH q
set_option maxRecDepth 100000 in
theorem e_Solve1 : Ent Try.prog 35 := fun _ _ => rfl
set_option maxRecDepth 8000 in
set_option maxHeartbeats 8000000 in
theorem Solve1_c (m : Int) (B : Option Addr) (cB : Nat) (ps : List Pt) (ho : OkT m ps) (hN : prodN ps ≤ 20000) (bP bT bL bS : Nat) (q : FQ ps) (w0 : World) (M : List Nat) (fr : List HO)
    (O : Old w0 M B 2 ps.length (fun i => ptC (ps.getD i pt0))) (O2 : ∀ i, i < ps.length → Old w0 M (pat ps i).A 2 (pat ps i).cs.length (fun j => chC ((pat ps i).cs.getD j ch0))) :
    ∀ (d : Nat) (l : List Int) (wd c : Int) (Ap : Option Addr) (cp : Nat) (w : World), l.length + d = ps.length → (0 ≤ wd ∧ wd ≤ 1048576) → (0 ≤ c ∧ c ≤ 100000000) → Sat w0 M (sBox bP bT bL bS m B cB ps q Ap cp l ++ fr) w →
    Calls Try.prog 35 #[.int .i64 wd, .int .i64 c, .pointer (some ⟨bP, 0, none⟩), .pointer (some ⟨bT, 0, none⟩), .pointer (some ⟨bL, 0, none⟩), .pointer (some ⟨bS, 0, none⟩)] w (RetP fun v w' => ∃ (Ap' : Option Addr) (cp' : Nat), v = .tuple #[] ∧ Sat w0 M (sBox bP bT bL bS m B cB ps q Ap' cp' (l ++ ((srchP ((ps.drop l.length).map Pt.pl) wd c).map fun (k : Nat) => (k : Int))) ++ fr) w') := by
  obtain ⟨g, r, sf, hlen, hr, hs⟩ := q
  intro d
  induction d with
  | zero =>
    intro l wd c Ap cp w hd hwd hc S
    refine calls_of_cw (args := [.int .i64 wd, .int .i64 c, .pointer (some ⟨bP, 0, none⟩), .pointer (some ⟨bT, 0, none⟩), .pointer (some ⟨bL, 0, none⟩), .pointer (some ⟨bS, 0, none⟩)]) Try.func35 rfl rfl ?_
    replace S : Sat w0 M (_ :: _ :: _ :: _ :: _ :: _ :: _ :: (sf.map prH ++ fr)) w := S
    have e : (srchP ((ps.drop l.length).map Pt.pl) wd c).map (fun (k : Nat) => (k : Int)) = [] := by
      rw [show l.length = ps.length by omega, List.drop_length]
      rfl
    rw [e, List.append_nil]
    (repeat' (first | apply cw_seq | apply cw_region | apply wl_nil | apply cw_ret | (apply x_move; exact rfl; exact rfl; (exact (by repeat' constructor))) | (apply x_assign; exact rfl; exact rfl; (exact (by repeat' constructor))) | (apply x_fieldB; exact rfl; exact rfl; exact rfl; exact rfl; (constructor)) | (apply x_load; assumption; exact rfl; exact rfl; exact rfl; (exact (by repeat' constructor)); exact rfl; exact rfl; (exact (by repeat' constructor))) | (apply x_bin; exact rfl; exact rfl; exact rfl; (first | exact .z (.wrap (by omega)) | exact (by repeat' constructor))) | (apply x_builtin; exact rfl; exact rfl; exact (fun _ => rfl); (exact (by repeat' constructor))) | (apply x_dec; exact rfl; all_goals (intro _; try omega))))
    all_goals first
      | (exfalso; omega)
      | skip
    simp only [thenQ]
    first | (apply q_ret0; exact rfl) | (apply q_end0; exact rfl)
    exact ⟨Ap, cp, rfl, S⟩
  | succ d ih =>
    intro l wd c Ap cp w hd hwd hc S
    have hil : l.length < ps.length := by omega
    have hn := ho.n16
    refine calls_of_cw (args := [.int .i64 wd, .int .i64 c, .pointer (some ⟨bP, 0, none⟩), .pointer (some ⟨bT, 0, none⟩), .pointer (some ⟨bL, 0, none⟩), .pointer (some ⟨bS, 0, none⟩)]) Try.func35 rfl rfl ?_
    replace S : Sat w0 M (_ :: _ :: _ :: _ :: _ :: _ :: _ :: (sf.map prH ++ fr)) w := S
    have hop := ho.pt l.length hil
    have hcn := hop.n16
    have O3 : Old w0 M (ps.getD l.length pt0).A 2 (ps.getD l.length pt0).cs.length (fun j => chC ((ps.getD l.length pt0).cs.getD j ch0)) := O2 _ hil
    (repeat' (first | apply cw_seq | apply cw_region | apply wl_nil | apply cw_block | apply cw_skip | (apply x_move; exact rfl; exact rfl; (exact (by repeat' constructor))) | (apply x_assign; exact rfl; exact rfl; (exact (by repeat' constructor))) | (apply x_fieldB; exact rfl; exact rfl; exact rfl; exact rfl; (constructor)) | (apply x_load; assumption; exact rfl; exact rfl; exact rfl; (exact (by repeat' constructor)); exact rfl; exact rfl; (exact (by repeat' constructor))) | (apply x_bin; exact rfl; exact rfl; exact rfl; (first | exact .z (.wrap (by omega)) | exact (by repeat' constructor))) | (apply x_alloc; assumption; exact rfl; exact rfl; exact rfl; (exact (by repeat' constructor)); intro _ _ _) | (apply x_store; assumption; exact rfl; exact rfl; (exact (by repeat' constructor)); (exact (by repeat' constructor)); exact rfl; exact rfl; exact rfl; (exact (by repeat' constructor)); intro _ _) | (apply x_builtin; exact rfl; exact rfl; exact (fun _ => rfl); (exact (by repeat' constructor))) | (apply x_index; exact rfl; exact rfl; exact rfl; exact rfl; exact rfl; (constructor); (first | omega | exact size_pos (by assumption) | assumption); (first | exact rfl | assumption | exact Rd.some_ (by assumption) (by omega) | exact Rd.some_ (Old.rd (by assumption)) (by omega) | exact (Sat.rd (by assumption) (by exact (by repeat' constructor))).some_ (by omega))) | (apply x_loadR; exact rfl; exact rfl; exact rfl; (first | exact Old.now (by assumption) (by assumption) | exact Sat.rdpr (by assumption) (by exact (by repeat' constructor)) | exact Sat.rd (by assumption) (by exact (by repeat' constructor))); (first | omega | exact size_pos (by assumption) | assumption); exact rfl; exact rfl; (exact (by repeat' constructor))) | (apply x_dec; exact rfl; all_goals (intro _; try omega))))
    all_goals first
      | (exfalso; omega)
      | skip
    rename_i b9 _ _ w5 S5
    refine cw_loop [10, 11, 12, 13, 14, 30, 31, 32, 33, 34, 35, 36, 37, 38, 39, 40, 41, 42, 43, 44, 45, 46, 47, 48, 49, 50, 51, 52, 53, 54, 55, 56, 57, 58, 59, 60, 61, 62, 63, 64, 65, 66, 67, 68, 69] [30] (fun us wr => ∃ j : Nat, j ≤ (ps.getD l.length pt0).cs.length ∧ us = [.int .i64 j] ∧ (∀ j', j' < j → ¬ cndS ps l.length wd c j') ∧ Sat w0 M (.cl b9 63 (ptC (ps.getD l.length pt0)) :: (sBox bP bT bL bS m B cB ps ⟨g, r, sf, hlen, hr, hs⟩ Ap cp l ++ fr)) wr) (fun us _ => (ps.getD l.length pt0).cs.length - (intOf (us.getD 0 undef)).toNat) ?_ ?_
    · exact ⟨0, by omega, rfl, fun j' h => by omega, S5⟩
    clear S S5
    rintro g2 us2 wr2 ⟨j, hj, rfl, hno, Sj⟩
    replace Sj : Sat w0 M (_ :: _ :: _ :: _ :: _ :: _ :: _ :: _ :: (sf.map prH ++ fr)) wr2 := Sj
    by_cases hlj : j < (ps.getD l.length pt0).cs.length
    · have hcj := hop.cw j hlj
      have hpr := prod_le hop.w1 hop.w16 hcj.1.1 hcj.1.2
      obtain ⟨ρ, hρ⟩ : ∃ ρ, sf.getD l.length pr0 = ρ := ⟨_, rfl⟩
      have hρx : ρ.xs = frF (ps.drop (l.length + 1)) := by rw [← hρ]; exact hs _ hil
      have hρm : prH ρ ∈ sf.map prH := by rw [← hρ]; exact List.mem_map_of_mem (getD_mem pr0 (by omega))
      have hgt : (r :: sf).getD (l.length + 1) pr0 = ρ := hρ
      have hl1 : ps.length + 1 = (r :: sf).length := by rw [List.length_cons, hlen]
      have hfl : (frF (ps.drop (l.length + 1))).length ≤ 1000000 := by have := frF_few ho hN (l.length + 1); omega
      cases h1 : chpS (frF (ps.drop (l.length + 1))) (wd - (ps.getD l.length pt0).wt * ((ps.getD l.length pt0).cs.getD j ch0).w) with
      | none =>
        have hn1 : ¬ cndS ps l.length wd c j := fun h => by rw [cndS, h1] at h; cases h
        (repeat' (first | apply cw_seq | apply cw_region | apply wl_nil | apply cw_block | apply cw_skip | (apply x_bin; exact rfl; exact rfl; exact rfl; exact is_suc (by omega)) | (apply x_loadR; exact rfl; exact rfl; exact rfl; exact Sat.rdmapN (l := r :: sf) (en := prV) pr0 (by assumption) (by exact (by repeat' constructor)) hl1; (exact (by simp only [List.length_cons]; omega)); exact rfl; exact rfl; exact is_rowL hgt) | (apply x_callv; assumption; exact rfl; exact rfl; exact rfl; exact e_cheapest; (exact (by repeat' constructor)); with_reducible exact (cheapest_n ρ.A ρ.c ρ.xs (by rw [hρx]; exact hfl) (by rw [hρx]; exact (frF_front _).asc) _ (by rw [hρx]; exact h1) _ (Sat.rdmapN ((0 : Int), (0 : Int)) (by assumption) (hasOf (o := prH ρ) (by simp only [List.mem_cons, List.mem_append]; repeat (first | exact Or.inl hρm | refine Or.inr ?_))) rfl)); intro _ _ _) | (apply x_not; exact rfl; exact rfl) | (apply x_move; exact rfl; exact rfl; (exact (by repeat' constructor))) | (apply x_assign; exact rfl; exact rfl; (exact (by repeat' constructor))) | (apply x_fieldB; exact rfl; exact rfl; exact rfl; exact rfl; (constructor)) | (apply x_load; assumption; exact rfl; exact rfl; exact rfl; (exact (by repeat' constructor)); exact rfl; exact rfl; (exact (by repeat' constructor))) | (apply x_bin; exact rfl; exact rfl; exact rfl; (first | exact .z (.wrap (by omega)) | exact (by repeat' constructor))) | (apply x_pick; exact rfl; exact rfl; exact rfl; (exact (by repeat' constructor))) | (apply x_alloc; assumption; exact rfl; exact rfl; exact rfl; (exact (by repeat' constructor)); intro _ _ _) | (apply x_store; assumption; exact rfl; exact rfl; (exact (by repeat' constructor)); (exact (by repeat' constructor)); exact rfl; exact rfl; exact rfl; (exact (by repeat' constructor)); intro _ _) | (apply x_extract; exact rfl; exact rfl; exact rfl; (exact (by repeat' constructor))) | (apply x_index; exact rfl; exact rfl; exact rfl; exact rfl; exact rfl; (constructor); (first | omega | exact size_pos (by assumption) | assumption); (first | exact rfl | assumption | exact Rd.some_ (by assumption) (by omega) | exact Rd.some_ (Old.rd (by assumption)) (by omega) | exact (Sat.rd (by assumption) (by exact (by repeat' constructor))).some_ (by omega))) | (apply x_loadR; exact rfl; exact rfl; exact rfl; (first | exact Old.now (by assumption) (by assumption) | exact Sat.rdpr (by assumption) (by exact (by repeat' constructor)) | exact Sat.rd (by assumption) (by exact (by repeat' constructor))); (first | omega | exact size_pos (by assumption) | assumption); exact rfl; exact rfl; (exact (by repeat' constructor))) | (apply cw_false; exact rfl) | (apply x_dec; exact rfl; all_goals (intro _; try omega))))
        all_goals first
          | (exfalso; omega)
          | (refine ⟨rfl, (by repeat (first | exact Agree.updl rfl (Agree.mask _ _ _) | refine Agree.upd rfl ?_)), ⟨j + 1, hlj, rfl, fun j' h => by rcases Nat.lt_succ_iff_lt_or_eq.1 h with h | rfl; exact hno j' h; exact hn1, Sat.drop1 (by assumption)⟩, ?_⟩
             show (ps.getD l.length pt0).cs.length - (j + 1 : Int).toNat < (ps.getD l.length pt0).cs.length - (j : Int).toNat
             omega)
      | some a =>
        obtain ⟨ht0, ha0, ha1⟩ := chp_low ho (l.length + 1) h1
        by_cases he : a + ((ps.getD l.length pt0).cs.getD j ch0).c = c
        · have hl9 : (l.map pkC).length < 1000000000 := by rw [List.length_map]; omega
          (repeat' (first | apply cw_seq | apply cw_region | apply wl_nil | apply cw_block | apply cw_skip | (apply x_bin; exact rfl; exact rfl; exact rfl; exact is_suc (by omega)) | (apply x_loadR; exact rfl; exact rfl; exact rfl; exact Sat.rdmapN (l := r :: sf) (en := prV) pr0 (by assumption) (by exact (by repeat' constructor)) hl1; (exact (by simp only [List.length_cons]; omega)); exact rfl; exact rfl; exact is_rowL hgt) | (apply x_callv; assumption; exact rfl; exact rfl; exact rfl; exact e_cheapest; (exact (by repeat' constructor)); with_reducible exact (cheapest_s ρ.A ρ.c ρ.xs (by rw [hρx]; exact hfl) (by rw [hρx]; exact (frF_front _).asc) _ (by rw [hρx]; exact h1) _ (Sat.rdmapN ((0 : Int), (0 : Int)) (by assumption) (hasOf (o := prH ρ) (by simp only [List.mem_cons, List.mem_append]; repeat (first | exact Or.inl hρm | refine Or.inr ?_))) rfl)); intro _ _ _) | (apply x_append1; assumption; exact rfl; exact rfl; exact rfl; exact rfl; exact rfl; (exact (by repeat' constructor)); (exact (by repeat' constructor)); exact rfl; exact rfl; exact rfl; (first | assumption | omega | (simp; omega)); intro _ _ _ _) | (apply x_move; exact rfl; exact rfl; (exact (by repeat' constructor))) | (apply x_assign; exact rfl; exact rfl; (exact (by repeat' constructor))) | (apply x_fieldB; exact rfl; exact rfl; exact rfl; exact rfl; (constructor)) | (apply x_load; assumption; exact rfl; exact rfl; exact rfl; (exact (by repeat' constructor)); exact rfl; exact rfl; (exact (by repeat' constructor))) | (apply x_bin; exact rfl; exact rfl; exact rfl; (first | exact .z (.wrap (by omega)) | exact (by repeat' constructor))) | (apply x_pick; exact rfl; exact rfl; exact rfl; (exact (by repeat' constructor))) | (apply x_alloc; assumption; exact rfl; exact rfl; exact rfl; (exact (by repeat' constructor)); intro _ _ _) | (apply x_store; assumption; exact rfl; exact rfl; (exact (by repeat' constructor)); (exact (by repeat' constructor)); exact rfl; exact rfl; exact rfl; (exact (by repeat' constructor)); intro _ _) | (apply x_extract; exact rfl; exact rfl; exact rfl; (exact (by repeat' constructor))) | (apply x_buildSlice; assumption; exact rfl; exact rfl; exact rfl; (exact (by repeat' constructor)); intro _ _ _) | (apply x_index; exact rfl; exact rfl; exact rfl; exact rfl; exact rfl; (constructor); (first | omega | exact size_pos (by assumption) | assumption); (first | exact rfl | assumption | exact Rd.some_ (by assumption) (by omega) | exact Rd.some_ (Old.rd (by assumption)) (by omega) | exact (Sat.rd (by assumption) (by exact (by repeat' constructor))).some_ (by omega))) | (apply x_loadR; exact rfl; exact rfl; exact rfl; (first | exact Old.now (by assumption) (by assumption) | exact Sat.rdpr (by assumption) (by exact (by repeat' constructor)) | exact Sat.rd (by assumption) (by exact (by repeat' constructor))); (first | omega | exact size_pos (by assumption) | assumption); exact rfl; exact rfl; (exact (by repeat' constructor))) | (apply x_dec; exact rfl; all_goals (intro _; try omega))))
          all_goals first
            | (exfalso; omega)
            | skip
          rename_i b12 _ _ g5 c5 _ _ w9 S9
          have hk2 : (l.map pkC).length + 1 = (l ++ [(j : Int)]).length := by simp
          have hS2 : l.map pkC ++ [[.int .i64 (j : Int)]] = (l ++ [(j : Int)]).map pkC := by simp
          have S10 : Sat w0 M (sBox bP bT bL bS m B cB ps ⟨g, r, sf, hlen, hr, hs⟩ (some ⟨g5, 0, none⟩) c5 (l ++ [(j : Int)]) ++ fr) w9 := by
            have S11 := S9.drop1.drop1.drop1
            rw [hk2, hS2] at S11
            exact S11
          have hcd : cndS ps l.length wd c j := by rw [cndS, h1]; congr 1; omega
          have hres : l ++ [(j : Int)] ++ (srchP ((ps.drop (l ++ [(j : Int)]).length).map Pt.pl) (wd - (ps.getD l.length pt0).wt * ((ps.getD l.length pt0).cs.getD j ch0).w) a).map (fun (k : Nat) => (k : Int)) = l ++ (srchP ((ps.drop l.length).map Pt.pl) wd c).map (fun (k : Nat) => (k : Int)) := by
            rw [srch_hit hil hlj hno hcd, List.map_cons, List.append_assoc, List.length_append, List.length_singleton, show c - ((ps.getD l.length pt0).cs.getD j ch0).c = a by omega]
            rfl
          refine x_call rfl rfl rfl e_Solve1 (by exact (by repeat' constructor)) (ih (l ++ [(j : Int)]) (wd - (ps.getD l.length pt0).wt * ((ps.getD l.length pt0).cs.getD j ch0).w) a (some ⟨g5, 0, none⟩) c5 w9 (by rw [List.length_append, List.length_singleton]; omega) ⟨ht0, by omega⟩ ⟨ha0, ha1⟩ S10) ?_
          rintro v w10 ⟨Ap2, cp2, rfl, S12⟩
          rw [hres] at S12
          (repeat' (first | apply wl_nil | apply cw_ret))
          simp only [thenQ]
          first | (apply q_ret0; exact rfl) | (apply q_end0; exact rfl)
          exact ⟨Ap2, cp2, rfl, S12⟩
        · have hn1 : ¬ cndS ps l.length wd c j := fun h => by rw [cndS, h1] at h; injection h with h; omega
          (repeat' (first | apply cw_seq | apply cw_region | apply wl_nil | apply cw_block | apply cw_skip | (apply x_bin; exact rfl; exact rfl; exact rfl; exact is_suc (by omega)) | (apply x_loadR; exact rfl; exact rfl; exact rfl; exact Sat.rdmapN (l := r :: sf) (en := prV) pr0 (by assumption) (by exact (by repeat' constructor)) hl1; (exact (by simp only [List.length_cons]; omega)); exact rfl; exact rfl; exact is_rowL hgt) | (apply x_callv; assumption; exact rfl; exact rfl; exact rfl; exact e_cheapest; (exact (by repeat' constructor)); with_reducible exact (cheapest_s ρ.A ρ.c ρ.xs (by rw [hρx]; exact hfl) (by rw [hρx]; exact (frF_front _).asc) _ (by rw [hρx]; exact h1) _ (Sat.rdmapN ((0 : Int), (0 : Int)) (by assumption) (hasOf (o := prH ρ) (by simp only [List.mem_cons, List.mem_append]; repeat (first | exact Or.inl hρm | refine Or.inr ?_))) rfl)); intro _ _ _) | (apply x_move; exact rfl; exact rfl; (exact (by repeat' constructor))) | (apply x_assign; exact rfl; exact rfl; (exact (by repeat' constructor))) | (apply x_fieldB; exact rfl; exact rfl; exact rfl; exact rfl; (constructor)) | (apply x_load; assumption; exact rfl; exact rfl; exact rfl; (exact (by repeat' constructor)); exact rfl; exact rfl; (exact (by repeat' constructor))) | (apply x_bin; exact rfl; exact rfl; exact rfl; (first | exact .z (.wrap (by omega)) | exact (by repeat' constructor))) | (apply x_pick; exact rfl; exact rfl; exact rfl; (exact (by repeat' constructor))) | (apply x_alloc; assumption; exact rfl; exact rfl; exact rfl; (exact (by repeat' constructor)); intro _ _ _) | (apply x_store; assumption; exact rfl; exact rfl; (exact (by repeat' constructor)); (exact (by repeat' constructor)); exact rfl; exact rfl; exact rfl; (exact (by repeat' constructor)); intro _ _) | (apply x_extract; exact rfl; exact rfl; exact rfl; (exact (by repeat' constructor))) | (apply x_index; exact rfl; exact rfl; exact rfl; exact rfl; exact rfl; (constructor); (first | omega | exact size_pos (by assumption) | assumption); (first | exact rfl | assumption | exact Rd.some_ (by assumption) (by omega) | exact Rd.some_ (Old.rd (by assumption)) (by omega) | exact (Sat.rd (by assumption) (by exact (by repeat' constructor))).some_ (by omega))) | (apply x_loadR; exact rfl; exact rfl; exact rfl; (first | exact Old.now (by assumption) (by assumption) | exact Sat.rdpr (by assumption) (by exact (by repeat' constructor)) | exact Sat.rd (by assumption) (by exact (by repeat' constructor))); (first | omega | exact size_pos (by assumption) | assumption); exact rfl; exact rfl; (exact (by repeat' constructor))) | (apply x_dec; exact rfl; all_goals (intro _; try omega))))
          all_goals first
            | (exfalso; omega)
            | (refine ⟨rfl, (by repeat (first | exact Agree.updl rfl (Agree.mask _ _ _) | refine Agree.upd rfl ?_)), ⟨j + 1, hlj, rfl, fun j' h => by rcases Nat.lt_succ_iff_lt_or_eq.1 h with h | rfl; exact hno j' h; exact hn1, Sat.drop1 (by assumption)⟩, ?_⟩
               show (ps.getD l.length pt0).cs.length - (j + 1 : Int).toNat < (ps.getD l.length pt0).cs.length - (j : Int).toNat
               omega)
    · have hrs : (srchP ((ps.drop l.length).map Pt.pl) wd c).map (fun (k : Nat) => (k : Int)) = [] := by rw [srch_none hil fun j' h => hno j' (by omega)]; rfl
      rw [hrs, List.append_nil]
      (repeat' (first | apply cw_seq | apply cw_region | apply wl_nil | apply cw_exit | (apply x_bin; exact rfl; exact rfl; exact rfl; (first | exact .z (.wrap (by omega)) | exact (by repeat' constructor))) | (apply x_dec; exact rfl; all_goals (intro _; try omega))))
      simp only [thenQ]
      first | (apply q_ret0; exact rfl) | (apply q_end0; exact rfl)
      exact ⟨Ap, cp, rfl, Sat.drop1 Sj⟩
end Go.Proofs.Ytecmgjhnfgeldaa.Al
