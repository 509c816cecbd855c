/- Tasks of choices: begun picks, and the values of picks. No statement of the seat is proved here. -/
/- Tasks of choices: the reference's begun picks, the values of picks. No statement of the seat is proved here. -/
/- Tasks of choices: the values of picks, of the program and of the reference. No statement of the seat is proved here. -/
import Derived.Test.YtdkknknebehkgaaGreatDoorVd
namespace Go.Proofs.YtdkknknebehkgaaGreatDoor.Al
set_option linter.unusedVariables false
set_option linter.unusedSimpArgs false
open Go Go.RowKit
structure OkP (p : Pt) : Prop where
  w1 : 1 ≤ p.wt
  w16 : p.wt ≤ 16
  n1 : 1 ≤ p.cs.length
  n16 : p.cs.length ≤ 16
  cw : ∀ j, j < p.cs.length → (0 ≤ (p.cs.getD j ch0).w ∧ (p.cs.getD j ch0).w ≤ 100000) ∧ 0 ≤ (p.cs.getD j ch0).c ∧ (p.cs.getD j ch0).c ≤ 1048576
structure OkT (m : Int) (ps : List Pt) : Prop where
  m0 : 0 ≤ m
  m1 : m ≤ 1048576
  n1 : 1 ≤ ps.length
  n16 : ps.length ≤ 16
  pt : ∀ i, i < ps.length → OkP (ps.getD i pt0)
theorem sideE_ok {n : Int} (h : sideE n = 0) : ¬ n = 0 ∧ n ≤ 16 := by
  by_cases h0 : n = 0
  · rw [sideE_13 h0] at h; cases h
  by_cases h5 : 16 < n
  · rw [sideE_5 h5] at h; cases h
  exact ⟨h0, by omega⟩
theorem choE_ok {c : Ch} (h : choE c = 0) : (0 ≤ c.w ∧ c.w ≤ 100000) ∧ 0 ≤ c.c ∧ c.c ≤ 1048576 := by
  by_cases h2 : c.w < 0 ∨ 100000 < c.w ∨ c.c < 0 ∨ 1048576 < c.c
  · rw [choE_no h2] at h; cases h
  · omega
theorem partE_ok {p : Pt} (h : partE p = 0) : OkP p := by
  by_cases hw : p.wt < 1 ∨ 16 < p.wt
  · rw [partE_2 hw] at h; cases h
  by_cases hs : sideE p.cs.length = 0
  · rw [partE_f hw hs] at h
    obtain ⟨h1, h2⟩ := sideE_ok hs
    exact ⟨by omega, by omega, by omega, by omega, fun j hj => choE_ok (fstE0 _ _ h j (Nat.zero_le _) (by omega))⟩
  · rw [partE_s hw hs] at h; exact absurd h hs
theorem chkE_ok {m : Int} {ps : List Pt} (h : chkE m ps = 0) : OkT m ps := by
  by_cases hw : m < 0 ∨ 1048576 < m
  · rw [chkE_2 hw] at h; cases h
  by_cases hs : sideE ps.length = 0
  · rw [chkE_f hw hs] at h
    obtain ⟨h1, h2⟩ := sideE_ok hs
    exact ⟨by omega, by omega, by omega, by omega, fun j hj => partE_ok (fstE0 _ _ h j (Nat.zero_le _) (by omega))⟩
  · rw [chkE_s hw hs] at h; exact absurd h hs
theorem prod_le {a b : Int} (h1 : 1 ≤ a) (h2 : a ≤ 16) (h3 : 0 ≤ b) (h4 : b ≤ 100000) : 0 ≤ a * b ∧ a * b ≤ 1600000 :=
  ⟨Int.mul_nonneg (by omega) h3, Int.le_trans (Int.mul_le_mul h2 h4 h3 (by omega)) (by decide)⟩
abbrev pkC (x : Int) : List Value := [.int .i64 x]
/-- the choice that a pick takes of a part -/
def chO (ps : List Pt) (l : List Int) (k : Nat) : Ch := (ps.getD k pt0).cs.getD (l.getD k 0).toNat ch0
def wS (ps : List Pt) (l : List Int) : Nat → Int
  | 0 => 0
  | k + 1 => wS ps l k + (ps.getD k pt0).wt * (chO ps l k).w
def cS (ps : List Pt) (l : List Int) : Nat → Int
  | 0 => 0
  | k + 1 => cS ps l k + (chO ps l k).c
def okL (ps : List Pt) (l : List Int) (k : Nat) : Prop := ∀ i, i < k → 0 ≤ l.getD i 0 ∧ l.getD i 0 < (ps.getD i pt0).cs.length
theorem okL_succ {ps : List Pt} {l : List Int} {k : Nat} (h : okL ps l k) (h2 : 0 ≤ l.getD k 0 ∧ l.getD k 0 < (ps.getD k pt0).cs.length) : okL ps l (k + 1) := fun i hi => by
  rcases Nat.lt_succ_iff_lt_or_eq.1 hi with hi | rfl
  · exact h i hi
  · exact h2
theorem chO_ok {m : Int} {ps : List Pt} (ho : OkT m ps) {l : List Int} {k : Nat} (hk : k < ps.length) (h : 0 ≤ l.getD k 0 ∧ l.getD k 0 < (ps.getD k pt0).cs.length) : (0 ≤ (ps.getD k pt0).wt * (chO ps l k).w ∧ (ps.getD k pt0).wt * (chO ps l k).w ≤ 1600000) ∧ 0 ≤ (chO ps l k).c ∧ (chO ps l k).c ≤ 1048576 := by
  have h2 := (ho.pt k hk).cw (l.getD k 0).toNat (by omega)
  exact ⟨prod_le (ho.pt k hk).w1 (ho.pt k hk).w16 h2.1.1 h2.1.2, h2.2⟩
theorem wS_le {m : Int} {ps : List Pt} (ho : OkT m ps) {l : List Int} : ∀ k, k ≤ ps.length → okL ps l k → (0 ≤ wS ps l k ∧ wS ps l k ≤ 1600000 * k) ∧ 0 ≤ cS ps l k ∧ cS ps l k ≤ 1048576 * k
  | 0, _, _ => by simp [wS, cS]
  | k + 1, hk, h => by
    have h1 := wS_le ho (l := l) k (by omega) (fun i hi => h i (by omega))
    have h2 := chO_ok ho (l := l) (k := k) (by omega) (h k (by omega))
    rw [wS, cS]
    omega
noncomputable def begV (ps : List Pt) (l : List Int) : List Value := @ite _ (okL ps l l.length) (Classical.propDecidable _) [.int .i64 (wS ps l l.length), .int .i64 (cS ps l l.length), .int .i64 0] [.int .i64 0, .int .i64 0, .int .i64 2]
theorem begV_ok {ps : List Pt} {l : List Int} (h : okL ps l l.length) : begV ps l = [.int .i64 (wS ps l l.length), .int .i64 (cS ps l l.length), .int .i64 0] := if_pos h
theorem begV_no {ps : List Pt} {l : List Int} (h : ¬ okL ps l l.length) : begV ps l = [.int .i64 0, .int .i64 0, .int .i64 2] := if_neg h
set_option maxRecDepth 100000 in
theorem e_begun : Ent Tryz.prog 21 := fun _ _ => rfl
set_option maxRecDepth 8000 in
set_option maxHeartbeats 4000000 in
theorem begun_c (m : Int) (B : Option Addr) (cB : Nat) (ps : List Pt) (hp : ps.length ≤ 9223372036854775807) (hcs : ∀ i, i < ps.length → (pat ps i).cs.length ≤ 9223372036854775807) (L : Option Addr) (cL : Nat) (l : List Int) (hl : l.length ≤ 9223372036854775807) (ho : OkT m ps) (hle : l.length ≤ ps.length) (w : World) (R : Rd w B 2 ps.length (fun i => ptC (ps.getD i pt0))) (R2 : ∀ i, i < ps.length → Rd w (pat ps i).A 2 (pat ps i).cs.length (fun j => chC ((pat ps i).cs.getD j ch0))) (R3 : Rd w L 1 l.length (fun i => pkC (l.getD i 0))) : Calls Tryz.prog 21 #[.agg #[.int .i64 m, .slice B ps.length cB], .slice L l.length cL] w (RetP (Val (.tuple (begV ps l).toArray) w)) := by
  refine calls_of_cw (args := [.agg #[.int .i64 m, .slice B ps.length cB], .slice L l.length cL]) Tryz.func21 rfl rfl ?_
  have S := Sat.start [] w
  have O := R.old
  have O3 := R3.old
  have hn := ho.n16
  (repeat' (first | apply cw_seq | apply cw_region | apply wl_nil | apply cw_block | (apply x_move; exact rfl; exact rfl; (exact (by repeat' constructor))) | (apply x_assign; exact rfl; exact rfl; (exact (by repeat' constructor))) | (apply x_box; assumption; exact rfl; exact rfl; (exact (by repeat' constructor)); (exact (by repeat' constructor)); intro _ _ _) | (apply x_builtin; exact rfl; exact rfl; exact (fun _ => rfl); (exact (by repeat' constructor)))))
  rename_i b w1 S1
  refine cw_loop [4, 5, 6, 7, 8, 9, 10, 11, 14, 15, 16, 17, 18, 19, 20, 21, 22, 23, 24, 25, 26, 27, 28, 29, 30, 31, 32, 33, 34, 35, 36, 37, 38, 39, 40, 41, 42, 43, 44, 45, 46, 47, 48, 49, 50, 51, 52] [7, 8, 14] (fun us wr => ∃ i : Nat, i ≤ l.length ∧ us = [.int .i64 (wS ps l i), .int .i64 (cS ps l i), .int .i64 i] ∧ okL ps l i ∧ Sat w [] [.cl b 24 [.int .i64 m, .slice B ps.length cB]] wr) (fun us _ => l.length - (intOf (us.getD 2 undef)).toNat) ?_ ?_
  · exact ⟨0, by omega, rfl, fun i hi => by omega, S1⟩
  clear S S1
  rintro g2 us wr2 ⟨i, hi, rfl, hok, Si⟩
  have hb := wS_le ho i (by omega) hok
  by_cases hlt : i < l.length
  · have O2 : Old w [] (ps.getD i pt0).A 2 (ps.getD i pt0).cs.length (fun j => chC ((ps.getD i pt0).cs.getD j ch0)) := (R2 i (by omega)).old
    have hcl : (ps.getD i pt0).cs.length ≤ 16 := (ho.pt i (by omega)).n16
    by_cases hin : 0 ≤ l.getD i 0 ∧ l.getD i 0 < (ps.getD i pt0).cs.length
    · have hbb := chO_ok ho (by omega) hin
      unfold chO at hbb
      (repeat' (first | apply cw_seq | apply cw_region | apply wl_nil | apply cw_block | apply cw_skip | (apply x_gdec; exact rfl; exact rfl; all_goals (intro _; try omega)) | (apply x_indexI (z := l.getD i 0); exact rfl; exact rfl; exact rfl; exact rfl; exact rfl; (constructor); exact hin.1; exact hin.2; (exact (Old.rd O2).some_ (by omega))) | (apply x_loadR; exact rfl; exact rfl; exact rfl; exact Old.now O2 (by assumption); (exact (by omega)); exact rfl; exact rfl; (exact (by repeat' constructor))) | (apply y_indexI (z := l.getD i 0); exact rfl; exact rfl; exact rfl; exact rfl; (constructor); exact hin.1; exact hin.2; (exact (Old.rd O2).some_ (by omega))) | (apply cw_draw (id := 8) [(0, 0), (1, 0), (2, 0), (3, 0), (4, 0), (5, 0), (6, 0), (7, 0), (8, 0), (9, 0), (10, 0), (11, 0)]; assumption; exact mixed; kernel_rfl) | (apply x_move; exact rfl; exact rfl; (exact (by repeat' constructor))) | (apply x_assign; exact rfl; exact rfl; (exact (by repeat' constructor))) | (apply x_fieldB; exact rfl; exact rfl; exact rfl; exact rfl; (constructor)) | (apply x_load; assumption; exact rfl; exact rfl; exact rfl; (exact (by repeat' constructor)); exact rfl; exact rfl; (exact (by repeat' constructor))) | (apply x_bin; exact rfl; exact rfl; exact rfl; (first | exact .z (.wrap (by omega)) | exact (by repeat' constructor))) | (apply x_pick; exact rfl; exact rfl; exact rfl; (exact (by repeat' constructor))) | (apply x_alloc; assumption; exact rfl; exact rfl; exact rfl; (exact (by repeat' constructor)); intro _ _ _) | (apply x_store; assumption; exact rfl; exact rfl; (exact (by repeat' constructor)); (exact (by repeat' constructor)); exact rfl; exact rfl; exact rfl; (exact (by repeat' constructor)); intro _ _) | (apply x_builtin; exact rfl; exact rfl; exact (fun _ => rfl); (exact (by repeat' constructor))) | (apply x_fieldE; exact rfl; exact rfl; exact rfl; exact rfl; (constructor)) | (apply x_index; exact rfl; exact rfl; exact rfl; exact rfl; exact rfl; (constructor); (first | omega | exact size_pos (by assumption) | assumption); (first | exact rfl | assumption | exact Rd.some_ (by assumption) (by omega) | exact Rd.some_ (Old.rd (by assumption)) (by omega) | exact (Sat.rd (by assumption) (by exact (by repeat' constructor))).some_ (by omega))) | (apply x_loadR; exact rfl; exact rfl; exact rfl; (first | exact Old.now (by assumption) (by assumption) | exact Sat.rdpr (by assumption) (by exact (by repeat' constructor)) | exact Sat.rd (by assumption) (by exact (by repeat' constructor))); (first | omega | exact size_pos (by assumption) | assumption); exact rfl; exact rfl; (exact (by repeat' constructor))) | (apply y_move; exact rfl; (exact (by repeat' constructor))) | (apply y_assign; exact rfl; (exact (by repeat' constructor))) | (apply y_fieldB; exact rfl; exact rfl; exact rfl; (constructor)) | (apply y_load; exact rfl; exact rfl; (exact (by repeat' constructor)); exact rfl; exact rfl; (exact (by repeat' constructor))) | (apply y_bin; exact rfl; exact (fun _ => rfl); (first | exact .z (.wrap (by omega)) | exact (by repeat' constructor))) | (apply y_fieldE; exact rfl; exact rfl; exact rfl; (constructor)) | (apply y_loadR; exact rfl; exact rfl; assumption; (first | omega | exact size_pos (by assumption) | assumption); exact rfl; exact rfl; (exact (by repeat' constructor))) | (apply y_nil; intro _ _) | (apply x_dec; exact rfl; all_goals (intro _; try omega))))
      all_goals first
        | (exfalso; omega)
        | skip
      refine ⟨rfl, (by repeat (first | exact Agree.updl rfl (Agree.mask _ _ _) | refine Agree.upd rfl ?_)), ⟨i + 1, hlt, rfl, okL_succ hok hin, Sat.drop1 (by assumption)⟩, ?_⟩
      show l.length - (i + 1 : Int).toNat < l.length - (i : Int).toNat
      omega
    · rw [begV_no (fun h => hin (h i hlt))]
      (repeat' (first | apply cw_seq | apply cw_region | apply wl_nil | apply cw_block | apply cw_skip | apply cw_ret | (apply x_gdec; exact rfl; exact rfl; all_goals (intro _; try omega)) | (apply x_not; exact rfl; exact rfl) | (apply x_move; exact rfl; exact rfl; (exact (by repeat' constructor))) | (apply x_assign; exact rfl; exact rfl; (exact (by repeat' constructor))) | (apply x_fieldB; exact rfl; exact rfl; exact rfl; exact rfl; (constructor)) | (apply x_load; assumption; exact rfl; exact rfl; exact rfl; (exact (by repeat' constructor)); exact rfl; exact rfl; (exact (by repeat' constructor))) | (apply x_bin; exact rfl; exact rfl; exact rfl; (first | exact .z (.wrap (by omega)) | exact (by repeat' constructor))) | (apply x_pick; exact rfl; exact rfl; exact rfl; (exact (by repeat' constructor))) | (apply x_alloc; assumption; exact rfl; exact rfl; exact rfl; (exact (by repeat' constructor)); intro _ _ _) | (apply x_store; assumption; exact rfl; exact rfl; (exact (by repeat' constructor)); (exact (by repeat' constructor)); exact rfl; exact rfl; exact rfl; (exact (by repeat' constructor)); intro _ _) | (apply x_builtin; exact rfl; exact rfl; exact (fun _ => rfl); (exact (by repeat' constructor))) | (apply x_index; exact rfl; exact rfl; exact rfl; exact rfl; exact rfl; (constructor); (first | omega | exact size_pos (by assumption) | assumption); (first | exact rfl | assumption | exact Rd.some_ (by assumption) (by omega) | exact Rd.some_ (Old.rd (by assumption)) (by omega) | exact (Sat.rd (by assumption) (by exact (by repeat' constructor))).some_ (by omega))) | (apply x_loadR; exact rfl; exact rfl; exact rfl; (first | exact Old.now (by assumption) (by assumption) | exact Sat.rdpr (by assumption) (by exact (by repeat' constructor)) | exact Sat.rd (by assumption) (by exact (by repeat' constructor))); (first | omega | exact size_pos (by assumption) | assumption); exact rfl; exact rfl; (exact (by repeat' constructor))) | (apply cw_true; exact rfl) | (apply x_dec; exact rfl; all_goals (intro _; try omega))))
      all_goals first
        | (exfalso; omega)
        | ((first | refine q_retS (by assumption) rfl (by repeat (first | exact .nil | (apply RV.tmp; exact (by repeat' constructor)) | (apply RV.cell; exact rfl; exact (by repeat' constructor); exact rfl; exact rfl; exact (by repeat' constructor)))) ?_ | (simp only [thenQ, blockQ]; refine q_retS (by assumption) rfl (by repeat (first | exact .nil | (apply RV.tmp; exact (by repeat' constructor)) | (apply RV.cell; exact rfl; exact (by repeat' constructor); exact rfl; exact rfl; exact (by repeat' constructor)))) ?_))
           exact ⟨rfl, Sat.keeps (by assumption)⟩)
  · have e : i = l.length := by omega
    subst e
    (repeat' (first | apply cw_seq | apply cw_region | apply wl_nil | apply cw_exit | apply cw_ret | (apply x_move; exact rfl; exact rfl; (exact (by repeat' constructor))) | (apply x_assign; exact rfl; exact rfl; (exact (by repeat' constructor))) | (apply x_bin; exact rfl; exact rfl; exact rfl; (first | exact .z (.wrap (by omega)) | exact (by repeat' constructor))) | (apply x_dec; exact rfl; all_goals (intro _; try omega))))
    rw [begV_ok hok]
    (first | refine q_retS (by assumption) rfl (by repeat (first | exact .nil | (apply RV.tmp; exact (by repeat' constructor)) | (apply RV.cell; exact rfl; exact (by repeat' constructor); exact rfl; exact rfl; exact (by repeat' constructor)))) ?_ | (simp only [thenQ, blockQ]; refine q_retS (by assumption) rfl (by repeat (first | exact .nil | (apply RV.tmp; exact (by repeat' constructor)) | (apply RV.cell; exact rfl; exact (by repeat' constructor); exact rfl; exact rfl; exact (by repeat' constructor)))) ?_))
    exact ⟨rfl, Sat.keeps (by assumption)⟩end Go.Proofs.YtdkknknebehkgaaGreatDoor.Al

namespace Go.Proofs.YtdkknknebehkgaaGreatDoor.Al
set_option linter.unusedVariables false
set_option linter.unusedSimpArgs false
open Go Go.RowKit
/-- the error of a begun pick -/
noncomputable def bgE (ps : List Pt) (l : List Int) : Int := if ps.length < l.length then 8 else @ite _ (okL ps l l.length) (Classical.propDecidable _) 0 2
theorem bgE_8 {ps : List Pt} {l : List Int} (h : ps.length < l.length) : bgE ps l = 8 := if_pos h
theorem bgE_0 {ps : List Pt} {l : List Int} (h : ¬ ps.length < l.length) (h2 : okL ps l l.length) : bgE ps l = 0 := (if_neg h).trans (if_pos h2)
theorem bgE_2 {ps : List Pt} {l : List Int} (h : ¬ ps.length < l.length) (h2 : ¬ okL ps l l.length) : bgE ps l = 2 := (if_neg h).trans (if_neg h2)
end Go.Proofs.YtdkknknebehkgaaGreatDoor.Al

namespace Go.Proofs.YtdkknknebehkgaaGreatDoor.Al
set_option linter.unusedVariables false
set_option linter.unusedSimpArgs false
open Go Go.RowKit
noncomputable def valV (m : Int) (ps : List Pt) (l : List Int) : List Value := if ¬ chkE m ps = 0 then [.int .i64 0, .int .i64 0, .int .i64 (chkE m ps)] else if ¬ l.length = ps.length then [.int .i64 0, .int .i64 0, .int .i64 8] else begV ps l
theorem valV_e {m : Int} {ps : List Pt} {l : List Int} (h : ¬ chkE m ps = 0) : valV m ps l = [.int .i64 0, .int .i64 0, .int .i64 (chkE m ps)] := if_pos h
theorem valV_8 {m : Int} {ps : List Pt} {l : List Int} (h : chkE m ps = 0) (h2 : ¬ l.length = ps.length) : valV m ps l = [.int .i64 0, .int .i64 0, .int .i64 8] := (if_neg (not_not_intro h)).trans (if_pos h2)
theorem valV_b {m : Int} {ps : List Pt} {l : List Int} (h : chkE m ps = 0) (h2 : l.length = ps.length) : valV m ps l = begV ps l := (if_neg (not_not_intro h)).trans (if_neg (not_not_intro h2))
theorem valV_0 {m : Int} {ps : List Pt} {l : List Int} (h : chkE m ps = 0) (h2 : l.length = ps.length) (h3 : okL ps l l.length) : valV m ps l = [.int .i64 (wS ps l l.length), .int .i64 (cS ps l l.length), .int .i64 0] := (valV_b h h2).trans (begV_ok h3)
theorem valV_2 {m : Int} {ps : List Pt} {l : List Int} (h : chkE m ps = 0) (h2 : l.length = ps.length) (h3 : ¬ okL ps l l.length) : valV m ps l = [.int .i64 0, .int .i64 0, .int .i64 2] := (valV_b h h2).trans (begV_no h3)
theorem begun_ok (m : Int) (B : Option Addr) (cB : Nat) (ps : List Pt) (hp : ps.length ≤ 9223372036854775807) (hcs : ∀ i, i < ps.length → (pat ps i).cs.length ≤ 9223372036854775807) (L : Option Addr) (cL : Nat) (l : List Int) (hl : l.length ≤ 9223372036854775807) (ho : OkT m ps) (hle : l.length ≤ ps.length) (hok : okL ps l l.length) (w : World) (R : Rd w B 2 ps.length (fun i => ptC (ps.getD i pt0))) (R2 : ∀ i, i < ps.length → Rd w (pat ps i).A 2 (pat ps i).cs.length (fun j => chC ((pat ps i).cs.getD j ch0))) (R3 : Rd w L 1 l.length (fun i => pkC (l.getD i 0))) : Calls Tryz.prog 21 #[.agg #[.int .i64 m, .slice B ps.length cB], .slice L l.length cL] w (RetP (Val (.tuple #[.int .i64 (wS ps l l.length), .int .i64 (cS ps l l.length), .int .i64 0]) w)) := by
  have h := begun_c m B cB ps hp hcs L cL l hl ho hle w R R2 R3
  rw [begV_ok hok] at h
  exact h
theorem begun_no (m : Int) (B : Option Addr) (cB : Nat) (ps : List Pt) (hp : ps.length ≤ 9223372036854775807) (hcs : ∀ i, i < ps.length → (pat ps i).cs.length ≤ 9223372036854775807) (L : Option Addr) (cL : Nat) (l : List Int) (hl : l.length ≤ 9223372036854775807) (ho : OkT m ps) (hle : l.length ≤ ps.length) (hok : ¬ okL ps l l.length) (w : World) (R : Rd w B 2 ps.length (fun i => ptC (ps.getD i pt0))) (R2 : ∀ i, i < ps.length → Rd w (pat ps i).A 2 (pat ps i).cs.length (fun j => chC ((pat ps i).cs.getD j ch0))) (R3 : Rd w L 1 l.length (fun i => pkC (l.getD i 0))) : Calls Tryz.prog 21 #[.agg #[.int .i64 m, .slice B ps.length cB], .slice L l.length cL] w (RetP (Val (.tuple #[.int .i64 0, .int .i64 0, .int .i64 2]) w)) := by
  have h := begun_c m B cB ps hp hcs L cL l hl ho hle w R R2 R3
  rw [begV_no hok] at h
  exact h
set_option maxRecDepth 100000 in
theorem e_ValueT : Ent Tryz.prog 10 := fun _ _ => rfl
set_option maxRecDepth 8000 in
set_option maxHeartbeats 4000000 in
theorem ValueT_c (m : Int) (B : Option Addr) (cB : Nat) (ps : List Pt) (hp : ps.length ≤ 9223372036854775807) (hcs : ∀ i, i < ps.length → (pat ps i).cs.length ≤ 9223372036854775807) (L : Option Addr) (cL : Nat) (l : List Int) (hl : l.length ≤ 9223372036854775807) (w : World) (R : Rd w B 2 ps.length (fun i => ptC (ps.getD i pt0))) (R2 : ∀ i, i < ps.length → Rd w (pat ps i).A 2 (pat ps i).cs.length (fun j => chC ((pat ps i).cs.getD j ch0))) (R3 : Rd w L 1 l.length (fun i => pkC (l.getD i 0))) : Calls Tryz.prog 10 #[.agg #[.int .i64 m, .slice B ps.length cB], .slice L l.length cL] w (RetP (Val (.tuple (valV m ps l).toArray) w)) := by
  refine calls_of_cw (args := [.agg #[.int .i64 m, .slice B ps.length cB], .slice L l.length cL]) Tryz.func10 rfl rfl ?_
  have S := Sat.start [] w
  have O := R.old
  have O3 := R3.old
  by_cases hck : chkE m ps = 0
  · have ho := chkE_ok hck
    by_cases hne : l.length = ps.length
    · by_cases hok : okL ps l l.length
      · rw [valV_0 hck hne hok]
        (repeat' (first | apply cw_seq | apply cw_region | apply wl_nil | apply cw_skip | apply cw_ret | (apply x_callv; assumption; exact rfl; exact rfl; exact rfl; exact e_CheckT; (exact (by repeat' constructor)); with_reducible exact (CheckT_c m B cB ps hp hcs _ (R.old.now (by assumption)) (fun i hi => (R2 i hi).old.now (by assumption))); intro _ _ _) | (apply x_callv; assumption; exact rfl; exact rfl; exact rfl; exact e_begun; (exact (by repeat' constructor)); with_reducible exact (begun_ok m B cB ps hp hcs L cL l hl ho (Nat.le_of_eq hne) hok _ (R.old.now (by assumption)) (fun i hi => (R2 i hi).old.now (by assumption)) (R3.old.now (by assumption))); intro _ _ _) | (apply x_move; exact rfl; exact rfl; (exact (by repeat' constructor))) | (apply x_assign; exact rfl; exact rfl; (exact (by repeat' constructor))) | (apply x_fieldB; exact rfl; exact rfl; exact rfl; exact rfl; (constructor)) | (apply x_load; assumption; exact rfl; exact rfl; exact rfl; (exact (by repeat' constructor)); exact rfl; exact rfl; (exact (by repeat' constructor))) | (apply x_bin; exact rfl; exact rfl; exact rfl; (first | exact .z (.wrap (by omega)) | exact (by repeat' constructor))) | (apply x_box; assumption; exact rfl; exact rfl; (exact (by repeat' constructor)); (exact (by repeat' constructor)); intro _ _ _) | (apply x_extract; exact rfl; exact rfl; exact rfl; (exact (by repeat' constructor))) | (apply x_builtin; exact rfl; exact rfl; exact (fun _ => rfl); (exact (by repeat' constructor))) | (apply cw_ne; exact rfl; all_goals (intro _; try omega))))
        all_goals first
          | (exfalso; omega)
          | exact absurd hck (by assumption)
          | ((first | refine q_retS (by assumption) rfl (by repeat (first | exact .nil | (apply RV.tmp; exact (by repeat' constructor)) | (apply RV.cell; exact rfl; exact (by repeat' constructor); exact rfl; exact rfl; exact (by repeat' constructor)))) ?_ | (simp only [thenQ, blockQ]; refine q_retS (by assumption) rfl (by repeat (first | exact .nil | (apply RV.tmp; exact (by repeat' constructor)) | (apply RV.cell; exact rfl; exact (by repeat' constructor); exact rfl; exact rfl; exact (by repeat' constructor)))) ?_))
             exact ⟨rfl, Sat.keeps (by assumption)⟩)
      · rw [valV_2 hck hne hok]
        (repeat' (first | apply cw_seq | apply cw_region | apply wl_nil | apply cw_skip | apply cw_ret | (apply x_callv; assumption; exact rfl; exact rfl; exact rfl; exact e_CheckT; (exact (by repeat' constructor)); with_reducible exact (CheckT_c m B cB ps hp hcs _ (R.old.now (by assumption)) (fun i hi => (R2 i hi).old.now (by assumption))); intro _ _ _) | (apply x_callv; assumption; exact rfl; exact rfl; exact rfl; exact e_begun; (exact (by repeat' constructor)); with_reducible exact (begun_no m B cB ps hp hcs L cL l hl ho (Nat.le_of_eq hne) hok _ (R.old.now (by assumption)) (fun i hi => (R2 i hi).old.now (by assumption)) (R3.old.now (by assumption))); intro _ _ _) | (apply x_move; exact rfl; exact rfl; (exact (by repeat' constructor))) | (apply x_assign; exact rfl; exact rfl; (exact (by repeat' constructor))) | (apply x_fieldB; exact rfl; exact rfl; exact rfl; exact rfl; (constructor)) | (apply x_load; assumption; exact rfl; exact rfl; exact rfl; (exact (by repeat' constructor)); exact rfl; exact rfl; (exact (by repeat' constructor))) | (apply x_bin; exact rfl; exact rfl; exact rfl; (first | exact .z (.wrap (by omega)) | exact (by repeat' constructor))) | (apply x_box; assumption; exact rfl; exact rfl; (exact (by repeat' constructor)); (exact (by repeat' constructor)); intro _ _ _) | (apply x_extract; exact rfl; exact rfl; exact rfl; (exact (by repeat' constructor))) | (apply x_builtin; exact rfl; exact rfl; exact (fun _ => rfl); (exact (by repeat' constructor))) | (apply cw_ne; exact rfl; all_goals (intro _; try omega))))
        all_goals first
          | (exfalso; omega)
          | exact absurd hck (by assumption)
          | ((first | refine q_retS (by assumption) rfl (by repeat (first | exact .nil | (apply RV.tmp; exact (by repeat' constructor)) | (apply RV.cell; exact rfl; exact (by repeat' constructor); exact rfl; exact rfl; exact (by repeat' constructor)))) ?_ | (simp only [thenQ, blockQ]; refine q_retS (by assumption) rfl (by repeat (first | exact .nil | (apply RV.tmp; exact (by repeat' constructor)) | (apply RV.cell; exact rfl; exact (by repeat' constructor); exact rfl; exact rfl; exact (by repeat' constructor)))) ?_))
             exact ⟨rfl, Sat.keeps (by assumption)⟩)
    · rw [valV_8 hck hne]
      (repeat' (first | apply cw_seq | apply cw_region | apply wl_nil | apply cw_skip | apply cw_ret | (apply x_callv; assumption; exact rfl; exact rfl; exact rfl; exact e_CheckT; (exact (by repeat' constructor)); with_reducible exact (CheckT_c m B cB ps hp hcs _ (R.old.now (by assumption)) (fun i hi => (R2 i hi).old.now (by assumption))); intro _ _ _) | (apply x_move; exact rfl; exact rfl; (exact (by repeat' constructor))) | (apply x_assign; exact rfl; exact rfl; (exact (by repeat' constructor))) | (apply x_fieldB; exact rfl; exact rfl; exact rfl; exact rfl; (constructor)) | (apply x_load; assumption; exact rfl; exact rfl; exact rfl; (exact (by repeat' constructor)); exact rfl; exact rfl; (exact (by repeat' constructor))) | (apply x_bin; exact rfl; exact rfl; exact rfl; (first | exact .z (.wrap (by omega)) | exact (by repeat' constructor))) | (apply x_box; assumption; exact rfl; exact rfl; (exact (by repeat' constructor)); (exact (by repeat' constructor)); intro _ _ _) | (apply x_builtin; exact rfl; exact rfl; exact (fun _ => rfl); (exact (by repeat' constructor))) | (apply cw_ne; exact rfl; all_goals (intro _; try omega))))
      all_goals first
        | (exfalso; omega)
        | exact absurd hck (by assumption)
        | ((first | refine q_retS (by assumption) rfl (by repeat (first | exact .nil | (apply RV.tmp; exact (by repeat' constructor)) | (apply RV.cell; exact rfl; exact (by repeat' constructor); exact rfl; exact rfl; exact (by repeat' constructor)))) ?_ | (simp only [thenQ, blockQ]; refine q_retS (by assumption) rfl (by repeat (first | exact .nil | (apply RV.tmp; exact (by repeat' constructor)) | (apply RV.cell; exact rfl; exact (by repeat' constructor); exact rfl; exact rfl; exact (by repeat' constructor)))) ?_))
           exact ⟨rfl, Sat.keeps (by assumption)⟩)
  · rw [valV_e hck]
    (repeat' (first | apply cw_seq | apply cw_region | apply wl_nil | apply cw_ret | (apply x_callv; assumption; exact rfl; exact rfl; exact rfl; exact e_CheckT; (exact (by repeat' constructor)); with_reducible exact (CheckT_c m B cB ps hp hcs _ (R.old.now (by assumption)) (fun i hi => (R2 i hi).old.now (by assumption))); intro _ _ _) | (apply x_move; exact rfl; exact rfl; (exact (by repeat' constructor))) | (apply x_assign; exact rfl; exact rfl; (exact (by repeat' constructor))) | (apply x_load; assumption; exact rfl; exact rfl; exact rfl; (exact (by repeat' constructor)); exact rfl; exact rfl; (exact (by repeat' constructor))) | (apply x_bin; exact rfl; exact rfl; exact rfl; (first | exact .z (.wrap (by omega)) | exact (by repeat' constructor))) | (apply x_box; assumption; exact rfl; exact rfl; (exact (by repeat' constructor)); (exact (by repeat' constructor)); intro _ _ _) | (apply cw_ne; exact rfl; all_goals (intro _; try omega))))
    all_goals first
      | exact absurd (by assumption) hck
      | ((first | refine q_retS (by assumption) rfl (by repeat (first | exact .nil | (apply RV.tmp; exact (by repeat' constructor)) | (apply RV.cell; exact rfl; exact (by repeat' constructor); exact rfl; exact rfl; exact (by repeat' constructor)))) ?_ | (simp only [thenQ, blockQ]; refine q_retS (by assumption) rfl (by repeat (first | exact .nil | (apply RV.tmp; exact (by repeat' constructor)) | (apply RV.cell; exact rfl; exact (by repeat' constructor); exact rfl; exact rfl; exact (by repeat' constructor)))) ?_))
         exact ⟨rfl, Sat.keeps (by assumption)⟩)
end Go.Proofs.YtdkknknebehkgaaGreatDoor.Al
