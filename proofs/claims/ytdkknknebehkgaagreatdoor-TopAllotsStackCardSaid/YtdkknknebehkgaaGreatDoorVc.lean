/- Tasks of choices: what is checked. No statement of the seat is proved here. -/
import Derived.Test.YtdkknknebehkgaaGreatDoorVb
import Derived.Test.YtdkknknebehkgaaGreatDoorEngW
import Derived.Test.YtdkknknebehkgaaGreatDoorProg
namespace Go.Proofs.YtdkknknebehkgaaGreatDoor.Al
set_option linter.unusedVariables false
set_option linter.unusedSimpArgs false
open Go Go.RowKit
theorem mixed : Tryz.prog.follows .mixedOrders = true := by kernel_rfl
structure Pt where
  wt : Int
  A : Option Addr
  cA : Nat
  cs : List Ch
def pt0 : Pt := ⟨0, none, 0, []⟩
abbrev Pt.pl (p : Pt) : PP := (p.wt, p.cs)
abbrev chC (c : Ch) : List Value := [.int .i64 c.w, .int .i64 c.c]
abbrev ptC (p : Pt) : List Value := [.int .i64 p.wt, .slice p.A p.cs.length p.cA]
abbrev cat (cs : List Ch) (j : Nat) : Ch := cs.getD j ch0
abbrev pat (ps : List Pt) (i : Nat) : Pt := ps.getD i pt0
def fstE (g : Nat → Int) : Nat → Nat → Int
  | 0, _ => 0
  | m + 1, k => if g k = 0 then fstE g m (k + 1) else g k
theorem fstE_no {g : Nat → Int} {n k : Nat} (hk : k < n) (h : ¬ g k = 0) : fstE g (n - k) k = g k := by
  obtain ⟨m, hm⟩ : ∃ m, n - k = m + 1 := ⟨n - k - 1, by omega⟩
  rw [hm, fstE, if_neg h]
theorem fstE_yes {g : Nat → Int} {n k : Nat} (hk : k < n) (h : g k = 0) : fstE g (n - k) k = fstE g (n - (k + 1)) (k + 1) := by
  obtain ⟨m, hm⟩ : ∃ m, n - k = m + 1 := ⟨n - k - 1, by omega⟩
  rw [hm, fstE, if_pos h, show n - (k + 1) = m by omega]
theorem fstE_end {g : Nat → Int} {n k : Nat} (hk : ¬ k < n) : fstE g (n - k) k = 0 := by rw [show n - k = 0 by omega]; rfl
theorem fstE0 {g : Nat → Int} : ∀ (m k : Nat), fstE g m k = 0 → ∀ i, k ≤ i → i < k + m → g i = 0
  | 0, k, _, i, h1, h2 => by omega
  | m + 1, k, h, i, h1, h2 => by
    rw [fstE] at h
    split at h
    · rename_i h3
      by_cases e : i = k
      · rw [e]; exact h3
      · exact fstE0 m (k + 1) h i (by omega) (by omega)
    · exact absurd h (by assumption)
def sideE (n : Int) : Int := if n = 0 then 13 else if 16 < n then 5 else 0
def choE (c : Ch) : Int := if c.w < 0 ∨ 100000 < c.w ∨ c.c < 0 ∨ 1048576 < c.c then 2 else 0
theorem choE_no {c : Ch} (h : c.w < 0 ∨ 100000 < c.w ∨ c.c < 0 ∨ 1048576 < c.c) : choE c = 2 := if_pos h
theorem choE_yes {c : Ch} (h : ¬ (c.w < 0 ∨ 100000 < c.w ∨ c.c < 0 ∨ 1048576 < c.c)) : choE c = 0 := if_neg h
def partE (p : Pt) : Int := if p.wt < 1 ∨ 16 < p.wt then 2 else if ¬ sideE p.cs.length = 0 then sideE p.cs.length else fstE (fun j => choE (cat p.cs j)) p.cs.length 0
def chkE (m : Int) (ps : List Pt) : Int := if m < 0 ∨ 1048576 < m then 2 else if ¬ sideE ps.length = 0 then sideE ps.length else fstE (fun i => partE (pat ps i)) ps.length 0
set_option maxRecDepth 100000 in
theorem e_side : Ent Tryz.prog 25 := fun _ _ => rfl
set_option maxRecDepth 4000 in
set_option maxHeartbeats 2000000 in
theorem side_c (n : Int) (w : World) : Calls Tryz.prog 25 #[.int .i64 n] w (RetP (Val (.int .i64 (sideE n)) w)) := by
  refine calls_of_cw (args := [.int .i64 n]) Tryz.func25 rfl rfl ?_
  have S := Sat.start [] w
  (repeat' (first | apply cw_seq | apply cw_region | apply wl_nil | apply cw_block | apply cw_skip | apply cw_ret | (apply x_move; exact rfl; exact rfl; (exact (by repeat' constructor))) | (apply x_assign; exact rfl; exact rfl; (exact (by repeat' constructor))) | (apply x_bin; exact rfl; exact rfl; exact rfl; (first | exact .z (.wrap (by omega)) | exact (by repeat' constructor))) | (apply x_dec; exact rfl; all_goals (intro _; try omega))))
  all_goals (first | refine q_retS (by assumption) rfl (by repeat (first | exact .nil | (apply RV.tmp; exact (by repeat' constructor)) | (apply RV.cell; exact rfl; exact (by repeat' constructor); exact rfl; exact rfl; exact (by repeat' constructor)))) ?_ | (simp only [thenQ, blockQ]; refine q_retS (by assumption) rfl (by repeat (first | exact .nil | (apply RV.tmp; exact (by repeat' constructor)) | (apply RV.cell; exact rfl; exact (by repeat' constructor); exact rfl; exact rfl; exact (by repeat' constructor)))) ?_))
  all_goals refine ⟨?_, Sat.keeps (by assumption)⟩
  all_goals unfold sideE
  all_goals first
    | (rw [if_pos (by assumption)]; rfl)
    | (rw [if_neg (by assumption), if_pos (by assumption)]; rfl)
    | (rw [if_neg (by assumption), if_neg (by assumption)]; rfl)
set_option maxRecDepth 100000 in
theorem e_CheckT : Ent Tryz.prog 14 := fun _ _ => rfl
set_option maxRecDepth 8000 in
set_option maxHeartbeats 4000000 in
theorem CheckT_c (m : Int) (B : Option Addr) (cB : Nat) (ps : List Pt) (hp : ps.length ≤ 9223372036854775807) (hcs : ∀ i, i < ps.length → (pat ps i).cs.length ≤ 9223372036854775807) (w : World) (R : Rd w B 2 ps.length (fun i => ptC (ps.getD i pt0))) (R2 : ∀ i, i < ps.length → Rd w (pat ps i).A 2 (pat ps i).cs.length (fun j => chC ((pat ps i).cs.getD j ch0))) : Calls Tryz.prog 14 #[.agg #[.int .i64 m, .slice B ps.length cB]] w (RetP (Val (.int .i64 (chkE m ps)) w)) := by
  refine calls_of_cw (args := [.agg #[.int .i64 m, .slice B ps.length cB]]) Tryz.func14 rfl rfl ?_
  have S := Sat.start [] w
  have O := R.old
  by_cases hm : m < 0 ∨ 1048576 < m
  · have h1 : chkE m ps = 2 := if_pos hm
    (repeat' (first | apply cw_seq | apply cw_region | apply wl_nil | apply cw_ret | (apply x_gdec; exact rfl; exact rfl; all_goals (intro _; try omega)) | (apply x_not; exact rfl; exact rfl) | (apply x_move; exact rfl; exact rfl; (exact (by repeat' constructor))) | (apply x_assign; exact rfl; exact rfl; (exact (by repeat' constructor))) | (apply x_fieldB; exact rfl; exact rfl; exact rfl; exact rfl; (constructor)) | (apply x_load; assumption; exact rfl; exact rfl; exact rfl; (exact (by repeat' constructor)); exact rfl; exact rfl; (exact (by repeat' constructor))) | (apply x_bin; exact rfl; exact rfl; exact rfl; (first | exact .z (.wrap (by omega)) | exact (by repeat' constructor))) | (apply x_pick; exact rfl; exact rfl; exact rfl; (exact (by repeat' constructor))) | (apply x_box; assumption; exact rfl; exact rfl; (exact (by repeat' constructor)); (exact (by repeat' constructor)); intro _ _ _) | (apply cw_true; exact rfl) | (apply x_dec; exact rfl; all_goals (intro _; try omega))))
    all_goals first
      | (exfalso; omega)
      | ((first | refine q_retS (by assumption) rfl (by repeat (first | exact .nil | (apply RV.tmp; exact (by repeat' constructor)) | (apply RV.cell; exact rfl; exact (by repeat' constructor); exact rfl; exact rfl; exact (by repeat' constructor)))) ?_ | (simp only [thenQ, blockQ]; refine q_retS (by assumption) rfl (by repeat (first | exact .nil | (apply RV.tmp; exact (by repeat' constructor)) | (apply RV.cell; exact rfl; exact (by repeat' constructor); exact rfl; exact rfl; exact (by repeat' constructor)))) ?_))
         exact ⟨by rw [h1]; rfl, Sat.keeps (by assumption)⟩)
  · by_cases hs : sideE ps.length = 0
    · have h1 : chkE m ps = fstE (fun i => partE (pat ps i)) ps.length 0 := (if_neg hm).trans (if_neg (not_not_intro hs))
      (repeat' (first | apply cw_seq | apply cw_region | apply wl_nil | apply cw_block | apply cw_skip | (apply x_gdec; exact rfl; exact rfl; all_goals (intro _; try omega)) | (apply x_callv; assumption; exact rfl; exact rfl; exact rfl; exact e_side; (exact (by repeat' constructor)); with_reducible exact (side_c _ _); intro _ _ _) | (apply x_move; exact rfl; exact rfl; (exact (by repeat' constructor))) | (apply x_assign; exact rfl; exact rfl; (exact (by repeat' constructor))) | (apply x_fieldB; exact rfl; exact rfl; exact rfl; exact rfl; (constructor)) | (apply x_load; assumption; exact rfl; exact rfl; exact rfl; (exact (by repeat' constructor)); exact rfl; exact rfl; (exact (by repeat' constructor))) | (apply x_bin; exact rfl; exact rfl; exact rfl; (first | exact .z (.wrap (by omega)) | exact (by repeat' constructor))) | (apply x_pick; exact rfl; exact rfl; exact rfl; (exact (by repeat' constructor))) | (apply x_box; assumption; exact rfl; exact rfl; (exact (by repeat' constructor)); (exact (by repeat' constructor)); intro _ _ _) | (apply x_builtin; exact rfl; exact rfl; exact (fun _ => rfl); (exact (by repeat' constructor))) | (apply x_dec; exact rfl; all_goals (intro _; try omega)) | (apply cw_ne; exact rfl; all_goals (intro _; try omega))))
      all_goals first
        | (exfalso; omega)
        | skip
      rename_i b _ _ _ _ w1 _ S1 _
      refine cw_loop [2, 5, 6, 8, 27, 28, 29, 30, 31, 32, 33, 34, 35, 36, 37, 38, 39, 40, 41, 42, 43, 44, 45, 46, 47, 48, 49, 50, 51, 52, 53, 54, 55, 56, 57, 58, 59, 60, 61, 62, 63, 64, 65, 66, 67, 68, 69, 70, 71, 72] [27] (fun us wr => ∃ i : Nat, i ≤ ps.length ∧ us = [.int .i64 i] ∧ chkE m ps = fstE (fun i => partE (pat ps i)) (ps.length - i) i ∧ Sat w [] [.cl b 24 [.int .i64 m, .slice B ps.length cB]] wr) (fun us _ => ps.length - (intOf (us.getD 0 undef)).toNat) ?_ ?_
      · exact ⟨0, by omega, rfl, h1, S1⟩
      clear S S1
      rintro g' us wr ⟨i, hi, rfl, hfe, Sr⟩
      by_cases hlt : i < ps.length
      · have O2 : Old w [] (ps.getD i pt0).A 2 (ps.getD i pt0).cs.length (fun j => chC ((ps.getD i pt0).cs.getD j ch0)) := (R2 i hlt).old
        have hcl : (ps.getD i pt0).cs.length ≤ 9223372036854775807 := hcs i hlt
        by_cases hw : (ps.getD i pt0).wt < 1 ∨ 16 < (ps.getD i pt0).wt
        · have h2 : partE (ps.getD i pt0) = 2 := if_pos hw
          have h4 : chkE m ps = 2 := by rw [hfe, fstE_no hlt (show ¬ partE (ps.getD i pt0) = 0 by rw [h2]; decide)]; exact h2
          rw [h4]
          (repeat' (first | apply cw_seq | apply cw_region | apply wl_nil | apply cw_block | apply cw_skip | apply cw_ret | (apply x_gdec; exact rfl; exact rfl; all_goals (intro _; try omega)) | (apply x_not; exact rfl; exact rfl) | (apply x_move; exact rfl; exact rfl; (exact (by repeat' constructor))) | (apply x_assign; exact rfl; exact rfl; (exact (by repeat' constructor))) | (apply x_fieldB; exact rfl; exact rfl; exact rfl; exact rfl; (constructor)) | (apply x_load; assumption; exact rfl; exact rfl; exact rfl; (exact (by repeat' constructor)); exact rfl; exact rfl; (exact (by repeat' constructor))) | (apply x_bin; exact rfl; exact rfl; exact rfl; (first | exact .z (.wrap (by omega)) | exact (by repeat' constructor))) | (apply x_pick; exact rfl; exact rfl; exact rfl; (exact (by repeat' constructor))) | (apply x_alloc; assumption; exact rfl; exact rfl; exact rfl; (exact (by repeat' constructor)); intro _ _ _) | (apply x_store; assumption; exact rfl; exact rfl; (exact (by repeat' constructor)); (exact (by repeat' constructor)); exact rfl; exact rfl; exact rfl; (exact (by repeat' constructor)); intro _ _) | (apply x_index; exact rfl; exact rfl; exact rfl; exact rfl; exact rfl; (constructor); (first | omega | exact size_pos (by assumption) | assumption); (first | exact rfl | assumption | exact Rd.some_ (by assumption) (by omega) | exact Rd.some_ (Old.rd (by assumption)) (by omega) | exact (Sat.rd (by assumption) (by exact (by repeat' constructor))).some_ (by omega))) | (apply x_loadR; exact rfl; exact rfl; exact rfl; (first | exact Old.now (by assumption) (by assumption) | exact Sat.rdpr (by assumption) (by exact (by repeat' constructor)) | exact Sat.rd (by assumption) (by exact (by repeat' constructor))); (first | omega | exact size_pos (by assumption) | assumption); exact rfl; exact rfl; (exact (by repeat' constructor))) | (apply cw_true; exact rfl) | (apply x_dec; exact rfl; all_goals (intro _; try omega))))
          all_goals first
            | (exfalso; omega)
            | ((first | refine q_retS (by assumption) rfl (by repeat (first | exact .nil | (apply RV.tmp; exact (by repeat' constructor)) | (apply RV.cell; exact rfl; exact (by repeat' constructor); exact rfl; exact rfl; exact (by repeat' constructor)))) ?_ | (simp only [thenQ, blockQ]; refine q_retS (by assumption) rfl (by repeat (first | exact .nil | (apply RV.tmp; exact (by repeat' constructor)) | (apply RV.cell; exact rfl; exact (by repeat' constructor); exact rfl; exact rfl; exact (by repeat' constructor)))) ?_))
               exact ⟨rfl, Sat.keeps (by assumption)⟩)
        by_cases hsd : sideE (ps.getD i pt0).cs.length = 0
        · have h2 : partE (ps.getD i pt0) = fstE (fun j => choE (cat (ps.getD i pt0).cs j)) (ps.getD i pt0).cs.length 0 := (if_neg hw).trans (if_neg (not_not_intro hsd))
          (repeat' (first | apply cw_seq | apply cw_region | apply wl_nil | apply cw_block | apply cw_skip | (apply x_gdec; exact rfl; exact rfl; all_goals (intro _; try omega)) | (apply x_callv; assumption; exact rfl; exact rfl; exact rfl; exact e_side; (exact (by repeat' constructor)); with_reducible exact (side_c _ _); intro _ _ _) | (apply x_move; exact rfl; exact rfl; (exact (by repeat' constructor))) | (apply x_assign; exact rfl; exact rfl; (exact (by repeat' constructor))) | (apply x_fieldB; exact rfl; exact rfl; exact rfl; exact rfl; (constructor)) | (apply x_load; assumption; exact rfl; exact rfl; exact rfl; (exact (by repeat' constructor)); exact rfl; exact rfl; (exact (by repeat' constructor))) | (apply x_bin; exact rfl; exact rfl; exact rfl; (first | exact .z (.wrap (by omega)) | exact (by repeat' constructor))) | (apply x_pick; exact rfl; exact rfl; exact rfl; (exact (by repeat' constructor))) | (apply x_alloc; assumption; exact rfl; exact rfl; exact rfl; (exact (by repeat' constructor)); intro _ _ _) | (apply x_store; assumption; exact rfl; exact rfl; (exact (by repeat' constructor)); (exact (by repeat' constructor)); exact rfl; exact rfl; exact rfl; (exact (by repeat' constructor)); intro _ _) | (apply x_builtin; exact rfl; exact rfl; exact (fun _ => rfl); (exact (by repeat' constructor))) | (apply x_index; exact rfl; exact rfl; exact rfl; exact rfl; exact rfl; (constructor); (first | omega | exact size_pos (by assumption) | assumption); (first | exact rfl | assumption | exact Rd.some_ (by assumption) (by omega) | exact Rd.some_ (Old.rd (by assumption)) (by omega) | exact (Sat.rd (by assumption) (by exact (by repeat' constructor))).some_ (by omega))) | (apply x_loadR; exact rfl; exact rfl; exact rfl; (first | exact Old.now (by assumption) (by assumption) | exact Sat.rdpr (by assumption) (by exact (by repeat' constructor)) | exact Sat.rd (by assumption) (by exact (by repeat' constructor))); (first | omega | exact size_pos (by assumption) | assumption); exact rfl; exact rfl; (exact (by repeat' constructor))) | (apply x_dec; exact rfl; all_goals (intro _; try omega)) | (apply cw_ne; exact rfl; all_goals (intro _; try omega))))
          all_goals first
            | (exfalso; omega)
            | exact absurd hsd (by assumption)
            | skip
          rename_i b2 _ _ _ _ _ _ w3 _ S3 _
          refine cw_loop [2, 8, 49, 50, 51, 52, 53, 54, 55, 56, 57, 58, 59, 60, 61, 62, 63, 64, 65, 66, 67, 68, 69, 70, 71] [49] (fun us wr => ∃ j : Nat, j ≤ (ps.getD i pt0).cs.length ∧ us = [.int .i64 j] ∧ partE (ps.getD i pt0) = fstE (fun j => choE (cat (ps.getD i pt0).cs j)) ((ps.getD i pt0).cs.length - j) j ∧ Sat w [] [.cl b2 30 (ptC (ps.getD i pt0)), .cl b 24 [.int .i64 m, .slice B ps.length cB]] wr) (fun us _ => (ps.getD i pt0).cs.length - (intOf (us.getD 0 undef)).toNat) ?_ ?_
          · exact ⟨0, by omega, rfl, h2, S3⟩
          clear Sr S3
          rintro g2 us wr2 ⟨j, hj, rfl, hpe, Sj⟩
          by_cases hlj : j < (ps.getD i pt0).cs.length
          · by_cases hc : ((ps.getD i pt0).cs.getD j ch0).w < 0 ∨ 100000 < ((ps.getD i pt0).cs.getD j ch0).w ∨ ((ps.getD i pt0).cs.getD j ch0).c < 0 ∨ 1048576 < ((ps.getD i pt0).cs.getD j ch0).c
            · have h3 : partE (ps.getD i pt0) = 2 := by rw [hpe, fstE_no hlj (show ¬ choE ((ps.getD i pt0).cs.getD j ch0) = 0 by rw [choE_no hc]; decide)]; exact choE_no hc
              (repeat' (first | apply cw_seq | apply cw_region | apply wl_nil | apply cw_block | apply cw_skip | apply cw_ret | (apply x_gdec; exact rfl; exact rfl; all_goals (intro _; try omega)) | (apply x_not; exact rfl; exact rfl) | (apply x_move; exact rfl; exact rfl; (exact (by repeat' constructor))) | (apply x_assign; exact rfl; exact rfl; (exact (by repeat' constructor))) | (apply x_fieldB; exact rfl; exact rfl; exact rfl; exact rfl; (constructor)) | (apply x_load; assumption; exact rfl; exact rfl; exact rfl; (exact (by repeat' constructor)); exact rfl; exact rfl; (exact (by repeat' constructor))) | (apply x_bin; exact rfl; exact rfl; exact rfl; (first | exact .z (.wrap (by omega)) | exact (by repeat' constructor))) | (apply x_pick; exact rfl; exact rfl; exact rfl; (exact (by repeat' constructor))) | (apply x_alloc; assumption; exact rfl; exact rfl; exact rfl; (exact (by repeat' constructor)); intro _ _ _) | (apply x_store; assumption; exact rfl; exact rfl; (exact (by repeat' constructor)); (exact (by repeat' constructor)); exact rfl; exact rfl; exact rfl; (exact (by repeat' constructor)); intro _ _) | (apply x_index; exact rfl; exact rfl; exact rfl; exact rfl; exact rfl; (constructor); (first | omega | exact size_pos (by assumption) | assumption); (first | exact rfl | assumption | exact Rd.some_ (by assumption) (by omega) | exact Rd.some_ (Old.rd (by assumption)) (by omega) | exact (Sat.rd (by assumption) (by exact (by repeat' constructor))).some_ (by omega))) | (apply x_loadR; exact rfl; exact rfl; exact rfl; (first | exact Old.now (by assumption) (by assumption) | exact Sat.rdpr (by assumption) (by exact (by repeat' constructor)) | exact Sat.rd (by assumption) (by exact (by repeat' constructor))); (first | omega | exact size_pos (by assumption) | assumption); exact rfl; exact rfl; (exact (by repeat' constructor))) | (apply cw_true; exact rfl) | (apply x_dec; exact rfl; all_goals (intro _; try omega))))
              all_goals first
                | (exfalso; omega)
                | (rw [show chkE m ps = 2 by rw [hfe, fstE_no hlt (show ¬ partE (ps.getD i pt0) = 0 by rw [h3]; decide)]; exact h3]
                   (first | refine q_retS (by assumption) rfl (by repeat (first | exact .nil | (apply RV.tmp; exact (by repeat' constructor)) | (apply RV.cell; exact rfl; exact (by repeat' constructor); exact rfl; exact rfl; exact (by repeat' constructor)))) ?_ | (simp only [thenQ, blockQ]; refine q_retS (by assumption) rfl (by repeat (first | exact .nil | (apply RV.tmp; exact (by repeat' constructor)) | (apply RV.cell; exact rfl; exact (by repeat' constructor); exact rfl; exact rfl; exact (by repeat' constructor)))) ?_))
                   exact ⟨rfl, Sat.keeps (by assumption)⟩)
            · (repeat' (first | apply cw_seq | apply cw_region | apply wl_nil | apply cw_block | apply cw_skip | (apply x_gdec; exact rfl; exact rfl; all_goals (intro _; try omega)) | (apply x_move; exact rfl; exact rfl; (exact (by repeat' constructor))) | (apply x_fieldB; exact rfl; exact rfl; exact rfl; exact rfl; (constructor)) | (apply x_load; assumption; exact rfl; exact rfl; exact rfl; (exact (by repeat' constructor)); exact rfl; exact rfl; (exact (by repeat' constructor))) | (apply x_bin; exact rfl; exact rfl; exact rfl; (first | exact .z (.wrap (by omega)) | exact (by repeat' constructor))) | (apply x_pick; exact rfl; exact rfl; exact rfl; (exact (by repeat' constructor))) | (apply x_alloc; assumption; exact rfl; exact rfl; exact rfl; (exact (by repeat' constructor)); intro _ _ _) | (apply x_store; assumption; exact rfl; exact rfl; (exact (by repeat' constructor)); (exact (by repeat' constructor)); exact rfl; exact rfl; exact rfl; (exact (by repeat' constructor)); intro _ _) | (apply x_index; exact rfl; exact rfl; exact rfl; exact rfl; exact rfl; (constructor); (first | omega | exact size_pos (by assumption) | assumption); (first | exact rfl | assumption | exact Rd.some_ (by assumption) (by omega) | exact Rd.some_ (Old.rd (by assumption)) (by omega) | exact (Sat.rd (by assumption) (by exact (by repeat' constructor))).some_ (by omega))) | (apply x_loadR; exact rfl; exact rfl; exact rfl; (first | exact Old.now (by assumption) (by assumption) | exact Sat.rdpr (by assumption) (by exact (by repeat' constructor)) | exact Sat.rd (by assumption) (by exact (by repeat' constructor))); (first | omega | exact size_pos (by assumption) | assumption); exact rfl; exact rfl; (exact (by repeat' constructor))) | (apply x_dec; exact rfl; all_goals (intro _; try omega))))
              all_goals first
                | (exfalso; omega)
                | (refine ⟨rfl, (by repeat (first | exact Agree.updl rfl (Agree.mask _ _ _) | refine Agree.upd rfl ?_)), ⟨j + 1, hlj, rfl, by rw [hpe, fstE_yes hlj (choE_yes hc)], Sat.drop1 (by assumption)⟩, ?_⟩
                   show (ps.getD i pt0).cs.length - (j + 1 : Int).toNat < (ps.getD i pt0).cs.length - (j : Int).toNat
                   omega)
          · (repeat' (first | apply cw_seq | apply cw_region | apply wl_nil | apply cw_exit | (apply x_move; exact rfl; exact rfl; (exact (by repeat' constructor))) | (apply x_bin; exact rfl; exact rfl; exact rfl; (first | exact .z (.wrap (by omega)) | exact (by repeat' constructor))) | (apply x_dec; exact rfl; all_goals (intro _; try omega))))
            refine ⟨rfl, (by repeat (first | exact Agree.updl rfl (Agree.mask _ _ _) | refine Agree.upd rfl ?_ | refine Agree.updl rfl ?_ | refine Agree.maskIn rfl ?_)), ⟨i + 1, hlt, rfl, by rw [hfe, fstE_yes hlt (show partE (ps.getD i pt0) = 0 by rw [hpe, fstE_end hlj])], Sat.drop1 (by assumption)⟩, ?_⟩
            show ps.length - (i + 1 : Int).toNat < ps.length - (i : Int).toNat
            omega
        · have h2 : partE (ps.getD i pt0) = sideE (ps.getD i pt0).cs.length := (if_neg hw).trans (if_pos hsd)
          have h4 : chkE m ps = sideE (ps.getD i pt0).cs.length := by rw [hfe, fstE_no hlt (show ¬ partE (ps.getD i pt0) = 0 by rw [h2]; exact hsd)]; exact h2
          rw [h4]
          (repeat' (first | apply cw_seq | apply cw_region | apply wl_nil | apply cw_block | apply cw_skip | apply cw_ret | (apply x_gdec; exact rfl; exact rfl; all_goals (intro _; try omega)) | (apply x_callv; assumption; exact rfl; exact rfl; exact rfl; exact e_side; (exact (by repeat' constructor)); with_reducible exact (side_c _ _); intro _ _ _) | (apply x_move; exact rfl; exact rfl; (exact (by repeat' constructor))) | (apply x_assign; exact rfl; exact rfl; (exact (by repeat' constructor))) | (apply x_fieldB; exact rfl; exact rfl; exact rfl; exact rfl; (constructor)) | (apply x_load; assumption; exact rfl; exact rfl; exact rfl; (exact (by repeat' constructor)); exact rfl; exact rfl; (exact (by repeat' constructor))) | (apply x_bin; exact rfl; exact rfl; exact rfl; (first | exact .z (.wrap (by omega)) | exact (by repeat' constructor))) | (apply x_pick; exact rfl; exact rfl; exact rfl; (exact (by repeat' constructor))) | (apply x_alloc; assumption; exact rfl; exact rfl; exact rfl; (exact (by repeat' constructor)); intro _ _ _) | (apply x_store; assumption; exact rfl; exact rfl; (exact (by repeat' constructor)); (exact (by repeat' constructor)); exact rfl; exact rfl; exact rfl; (exact (by repeat' constructor)); intro _ _) | (apply x_builtin; exact rfl; exact rfl; exact (fun _ => rfl); (exact (by repeat' constructor))) | (apply x_index; exact rfl; exact rfl; exact rfl; exact rfl; exact rfl; (constructor); (first | omega | exact size_pos (by assumption) | assumption); (first | exact rfl | assumption | exact Rd.some_ (by assumption) (by omega) | exact Rd.some_ (Old.rd (by assumption)) (by omega) | exact (Sat.rd (by assumption) (by exact (by repeat' constructor))).some_ (by omega))) | (apply x_loadR; exact rfl; exact rfl; exact rfl; (first | exact Old.now (by assumption) (by assumption) | exact Sat.rdpr (by assumption) (by exact (by repeat' constructor)) | exact Sat.rd (by assumption) (by exact (by repeat' constructor))); (first | omega | exact size_pos (by assumption) | assumption); exact rfl; exact rfl; (exact (by repeat' constructor))) | (apply x_dec; exact rfl; all_goals (intro _; try omega)) | (apply cw_ne; exact rfl; all_goals (intro _; try omega))))
          all_goals first
            | (exfalso; omega)
            | exact absurd (by assumption) hsd
            | ((first | refine q_retS (by assumption) rfl (by repeat (first | exact .nil | (apply RV.tmp; exact (by repeat' constructor)) | (apply RV.cell; exact rfl; exact (by repeat' constructor); exact rfl; exact rfl; exact (by repeat' constructor)))) ?_ | (simp only [thenQ, blockQ]; refine q_retS (by assumption) rfl (by repeat (first | exact .nil | (apply RV.tmp; exact (by repeat' constructor)) | (apply RV.cell; exact rfl; exact (by repeat' constructor); exact rfl; exact rfl; exact (by repeat' constructor)))) ?_))
               exact ⟨rfl, Sat.keeps (by assumption)⟩)
      · (repeat' (first | apply cw_seq | apply cw_region | apply wl_nil | apply cw_exit | apply cw_ret | (apply x_assign; exact rfl; exact rfl; (exact (by repeat' constructor))) | (apply x_bin; exact rfl; exact rfl; exact rfl; (first | exact .z (.wrap (by omega)) | exact (by repeat' constructor))) | (apply x_dec; exact rfl; all_goals (intro _; try omega))))
        rw [hfe, fstE_end hlt]
        (first | refine q_retS (by assumption) rfl (by repeat (first | exact .nil | (apply RV.tmp; exact (by repeat' constructor)) | (apply RV.cell; exact rfl; exact (by repeat' constructor); exact rfl; exact rfl; exact (by repeat' constructor)))) ?_ | (simp only [thenQ, blockQ]; refine q_retS (by assumption) rfl (by repeat (first | exact .nil | (apply RV.tmp; exact (by repeat' constructor)) | (apply RV.cell; exact rfl; exact (by repeat' constructor); exact rfl; exact rfl; exact (by repeat' constructor)))) ?_))
        exact ⟨rfl, Sat.keeps (by assumption)⟩
    · have h1 : chkE m ps = sideE ps.length := (if_neg hm).trans (if_pos hs)
      (repeat' (first | apply cw_seq | apply cw_region | apply wl_nil | apply cw_skip | apply cw_ret | (apply x_gdec; exact rfl; exact rfl; all_goals (intro _; try omega)) | (apply x_callv; assumption; exact rfl; exact rfl; exact rfl; exact e_side; (exact (by repeat' constructor)); with_reducible exact (side_c _ _); intro _ _ _) | (apply x_move; exact rfl; exact rfl; (exact (by repeat' constructor))) | (apply x_assign; exact rfl; exact rfl; (exact (by repeat' constructor))) | (apply x_fieldB; exact rfl; exact rfl; exact rfl; exact rfl; (constructor)) | (apply x_load; assumption; exact rfl; exact rfl; exact rfl; (exact (by repeat' constructor)); exact rfl; exact rfl; (exact (by repeat' constructor))) | (apply x_bin; exact rfl; exact rfl; exact rfl; (first | exact .z (.wrap (by omega)) | exact (by repeat' constructor))) | (apply x_pick; exact rfl; exact rfl; exact rfl; (exact (by repeat' constructor))) | (apply x_box; assumption; exact rfl; exact rfl; (exact (by repeat' constructor)); (exact (by repeat' constructor)); intro _ _ _) | (apply x_builtin; exact rfl; exact rfl; exact (fun _ => rfl); (exact (by repeat' constructor))) | (apply x_dec; exact rfl; all_goals (intro _; try omega)) | (apply cw_ne; exact rfl; all_goals (intro _; try omega))))
      all_goals first
        | (exfalso; omega)
        | ((first | refine q_retS (by assumption) rfl (by repeat (first | exact .nil | (apply RV.tmp; exact (by repeat' constructor)) | (apply RV.cell; exact rfl; exact (by repeat' constructor); exact rfl; exact rfl; exact (by repeat' constructor)))) ?_ | (simp only [thenQ, blockQ]; refine q_retS (by assumption) rfl (by repeat (first | exact .nil | (apply RV.tmp; exact (by repeat' constructor)) | (apply RV.cell; exact rfl; exact (by repeat' constructor); exact rfl; exact rfl; exact (by repeat' constructor)))) ?_))
           exact ⟨by rw [h1]; rfl, Sat.keeps (by assumption)⟩)
end Go.Proofs.YtdkknknebehkgaaGreatDoor.Al
