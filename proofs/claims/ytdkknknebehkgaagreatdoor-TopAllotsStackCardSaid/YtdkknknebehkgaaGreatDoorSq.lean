/- Tasks of choices: the chapter's example solved; the example of pairs. No statement of the seat is proved here. -/
import Derived.Test.YtdkknknebehkgaaGreatDoorVw
import Derived.Test.YtdkknknebehkgaaGreatDoorSm
namespace Go.Proofs.YtdkknknebehkgaaGreatDoor.Al
set_option linter.unusedVariables false
set_option linter.unusedSimpArgs false
open Go Go.RowKit
/-! ### the example -/
def csS : List Ch := [⟨30, 2⟩, ⟨20, 5⟩, ⟨10, 9⟩]
def csW : List Ch := [⟨20, 1⟩, ⟨10, 4⟩]
def wps (b1 b2 : Nat) : List Pt := [⟨1, some ⟨b1, 0, none⟩, 3, csS⟩, ⟨2, some ⟨b2, 0, none⟩, 2, csW⟩]
abbrev F4 : List Pr2 := [(30, 13), (40, 9), (50, 6), (70, 3)]
variable {b1 b2 b3 : Nat}
theorem sums_w : sumsP ((wps b1 b2).map Pt.pl) = [(70, 3), (50, 6), (60, 6), (40, 9), (50, 10), (30, 13)] := rfl
theorem frF_w : frF (wps b1 b2) = F4 := by
  refine front_uniq (frF_front (wps b1 b2)) (T := [(70, 3), (50, 6), (60, 6), (40, 9), (50, 10), (30, 13)]) ⟨by decide, by decide, by decide⟩ fun x => by rw [sums_w]
theorem ck50 : chkE 50 (wps b1 b2) = 0 := rfl
theorem srch_w {m c : Int} {l : List Nat} (h : chpS F4 m = some c) (h2 : firstP ((wps 0 0).map Pt.pl) m c = some l) : srchP ((wps b1 b2).map Pt.pl) m c = l := by
  have h3 : chpS (frF (wps b1 b2)) m = some c := by rw [frF_w]; exact h
  have hl := (chp_least (w := m) (frF_front (wps b1 b2))).symm.trans h3
  have h4 := srch_first hl
  have h5 : firstP ((wps b1 b2).map Pt.pl) m c = some l := h2
  rw [h5] at h4
  injection h4 with h4
  exact h4.symm
theorem sl50 : slvL 50 (wps b1 b2) = ([0, 1], 6, 0) := by
  rw [slvL_s ck50 (show chpS (frF (wps b1 b2)) 50 = some 6 by rw [frF_w]; decide), srch_w (l := [0, 1]) (by decide) (by decide)]
  rfl
theorem ptC_len : ∀ p : Pt, (ptC p).length = 2 := fun _ => rfl
theorem chC_len : ∀ c : Ch, (chC c).length = 2 := fun _ => rfl
theorem pkC_len : ∀ c : Int, (pkC c).length = 1 := fun _ => rfl
theorem w_at {p : Pt → Prop} (h0 : p ⟨1, some ⟨b1, 0, none⟩, 3, csS⟩) (h1 : p ⟨2, some ⟨b2, 0, none⟩, 2, csW⟩) : ∀ i, i < (wps b1 b2).length → p (pat (wps b1 b2) i)
  | 0, _ => h0
  | 1, _ => h1
  | n + 2, h => absurd h (by show ¬ n + 2 < 2; omega)
theorem w_rd {w w0 : World} {M : List Nat} {h : List HO} (S : Sat w0 M h w) (hB : Has h (.cl b3 30 ((wps b1 b2).flatMap ptC))) (h1 : Has h (.cl b1 35 (csS.flatMap chC))) (h2 : Has h (.cl b2 35 (csW.flatMap chC))) : Rd w (some ⟨b3, 0, none⟩) 2 2 (fun i => ptC ((wps b1 b2).getD i pt0)) ∧ ∀ i, i < (wps b1 b2).length → Rd w (pat (wps b1 b2) i).A 2 (pat (wps b1 b2) i).cs.length (fun j => chC ((pat (wps b1 b2) i).cs.getD j ch0)) :=
  ⟨Sat.rdflat pt0 ptC_len S hB, w_at (p := fun q => Rd w q.A 2 q.cs.length (fun j => chC (q.cs.getD j ch0))) (Sat.rdflat ch0 chC_len S h1) (Sat.rdflat ch0 chC_len S h2)⟩
theorem w_cs : ∀ i, i < (wps b1 b2).length → (pat (wps b1 b2) i).cs.length ≤ 9223372036854775807 := w_at (p := fun q => q.cs.length ≤ 9223372036854775807) (show 3 ≤ 9223372036854775807 by decide) (show 2 ≤ 9223372036854775807 by decide)
theorem w_pr : prodN (wps b1 b2) ≤ 20000 := by show 3 * (2 * 1) ≤ 20000; decide
theorem aw_S50 {w w0 : World} {M : List Nat} {h : List HO} (S : Sat w0 M h w) (hB : Has h (.cl b3 30 ((wps b1 b2).flatMap ptC))) (h1 : Has h (.cl b1 35 (csS.flatMap chC))) (h2 : Has h (.cl b2 35 (csW.flatMap chC))) : Calls Tryz.prog 7 #[.agg #[.int .i64 50, .slice (some ⟨b3, 0, none⟩) 2 2]] w (RetP (RowR (fun v => .tuple #[v, .int .i64 6, .int .i64 0]) 3 1 (([0, 1]).map pkC) w)) := by
  have := SolveT_c 50 (some ⟨b3, 0, none⟩) 2 (wps b1 b2) (show 2 ≤ 9223372036854775807 by decide) w_cs (fun _ => w_pr) w (w_rd S hB h1 h2).1 (w_rd S hB h1 h2).2
  rw [sl50] at this
  exact this
set_option maxRecDepth 100000 in
theorem e_Washers : Ent Tryz.prog 13 := fun _ _ => rfl
def waH (a : Nat × Nat × Nat) : List HO := [.cl a.2.2 30 ((wps a.1 a.2.1).flatMap ptC), .cl a.2.1 35 (csW.flatMap chC), .cl a.1 35 (csS.flatMap chC)]
set_option maxRecDepth 8000 in
theorem Washers_c (m : Int) (w : World) : Calls Tryz.prog 13 #[.int .i64 m] w (RetP fun v w' => ∃ a : Nat × Nat × Nat, v = .agg #[.int .i64 m, .slice (some ⟨a.2.2, 0, none⟩) 2 2] ∧ Sat w [] (waH a) w') := by
  refine calls_of_cw (args := [.int .i64 m]) Tryz.func13 rfl rfl ?_
  have S := Sat.start [] w
  (repeat' (first | apply cw_seq | apply cw_region | apply wl_nil | apply cw_ret | (apply x_move; exact rfl; exact rfl; (exact (by repeat' constructor))) | (apply x_load; assumption; exact rfl; exact rfl; exact rfl; (exact (by repeat' constructor)); exact rfl; exact rfl; (exact (by repeat' constructor))) | (apply x_alloc; assumption; exact rfl; exact rfl; exact rfl; (exact (by repeat' constructor)); intro _ _ _) | (apply x_store; assumption; exact rfl; exact rfl; (exact (by repeat' constructor)); (exact (by repeat' constructor)); exact rfl; exact rfl; exact rfl; (exact (by repeat' constructor)); intro _ _) | (apply x_build; exact rfl; exact rfl; exact rfl; (exact (by repeat' constructor))) | (apply x_buildSlice; assumption; exact rfl; exact rfl; exact rfl; (exact (by repeat' constructor)); intro _ _ _)))
  (first | refine q_retS (by assumption) rfl (by repeat (first | exact .nil | (apply RV.tmp; exact (by repeat' constructor)) | (apply RV.cell; exact rfl; exact (by repeat' constructor); exact rfl; exact rfl; exact (by repeat' constructor)))) ?_ | (simp only [thenQ, blockQ]; refine q_retS (by assumption) rfl (by repeat (first | exact .nil | (apply RV.tmp; exact (by repeat' constructor)) | (apply RV.cell; exact rfl; exact (by repeat' constructor); exact rfl; exact rfl; exact (by repeat' constructor)))) ?_))
  rename_i w9 S9
  exact ⟨(_, _, _), rfl, Sat.drop S9 _ (.cons_cons _ (.cons _ (.cons_cons _ (.cons _ (.cons_cons _ (.cons _ .slnil))))))⟩
end Go.Proofs.YtdkknknebehkgaaGreatDoor.Al
namespace Go.Proofs.YtdkknknebehkgaaGreatDoor.Sl
set_option linter.unusedVariables false
set_option linter.unusedSimpArgs false
open Go Go.RowKit
abbrev xsE : List Int := [25000, 25021, 25010]
abbrev ysE : List Int := [24980, 24993, 24985]
theorem szR3 {a b c : Int} (ha : 0 ≤ a ∧ a ≤ 100000) (hb : 0 ≤ b ∧ b ≤ 100000) (hc : 0 ≤ c ∧ c ≤ 100000) : szR [a, b, c]
  | 0, _ => ha
  | 1, _ => hb
  | 2, _ => hc
  | n + 3, h => absurd h (by show ¬ n + 3 < 3; omega)
theorem allE : ∀ i j, i < xsE.length → j < ysE.length → ftB xsE ysE 7 41 i j = true := by
  have h : ∀ i, i < 3 → ∀ j, j < 3 → ftB xsE ysE 7 41 i j = true := by decide
  exact fun i j hi hj => h i hi j hj
set_option maxRecDepth 100000 in
theorem e_casePicks : Ent Tryz.prog 6 := fun _ _ => rfl
set_option maxRecDepth 8000 in
set_option maxHeartbeats 4000000 in
theorem casePicks_c (w : World) : Calls Tryz.prog 6 #[] w (RetP (Val (.bool true) w)) := by
  refine calls_of_cw (args := []) Tryz.func6 rfl rfl ?_
  have S := Sat.start [] w
  (repeat' (first | apply cw_seq | apply cw_region | apply wl_nil | apply cw_ret | (apply x_call; exact rfl; exact rfl; exact rfl; exact e_Pairs; (exact (by repeat' constructor)); (exact Pairs_c (xs := xsE) (ys := ysE) (szR3 (by decide) (by decide) (by decide)) (szR3 (by decide) (by decide) (by decide)) (by decide) (by decide) (by decide) (by decide) (by decide) _ (Sat.rdflat (0 : Int) zC_len (by assumption) (by exact (by repeat' constructor))) (Sat.rdflat (0 : Int) zC_len (by assumption) (by exact (by repeat' constructor)))); rintro _ w2 ⟨l, A2, c2, rfl, L, S2⟩; have S3 := (Rl.Sat.moreA (by assumption) S2).1; clear S2; have hl : l.length = 3 := L.num allE; rw [hl] at S3 ⊢; replace S3 : Sat w [] (_ :: _ :: _ :: []) w2 := S3) | (apply Rl.x_callH; assumption; exact rfl; exact rfl; exact rfl; exact Al.e_Washers; (exact (by repeat' constructor)); (with_reducible exact Al.Washers_c _ _); rintro ⟨b1, b2, b3⟩ w4 S4; (try dsimp only); replace S4 : Sat w [] (_ :: _ :: _ :: _ :: _ :: _ :: []) w4 := S4) | (apply x_callrowE (m := 2); assumption; exact rfl; exact rfl; exact rfl; exact Al.e_SolveT; (exact (by repeat' constructor)); (with_reducible apply Al.aw_S50); assumption; (exact (by repeat' constructor)); (exact (by repeat' constructor)); (exact (by repeat' constructor)); exact rfl; intro _ _ _ _) | (apply x_move; exact rfl; exact rfl; (exact (by repeat' constructor))) | (apply x_assign; exact rfl; exact rfl; (exact (by repeat' constructor))) | (apply x_bin; exact rfl; exact rfl; exact rfl; (first | exact .z (.wrap (by omega)) | exact (by repeat' constructor))) | (apply x_pick; exact rfl; exact rfl; exact rfl; (exact (by repeat' constructor))) | (apply x_build; exact rfl; exact rfl; exact rfl; (exact (by repeat' constructor))) | (apply x_extract; exact rfl; exact rfl; exact rfl; (exact (by repeat' constructor))) | (apply x_builtin; exact rfl; exact rfl; exact (fun _ => rfl); (exact (by repeat' constructor))) | (apply x_buildSlice; assumption; exact rfl; exact rfl; exact rfl; (exact (by repeat' constructor)); intro _ _ _)))
  (first | refine q_retS (by assumption) rfl (by repeat (first | exact .nil | (apply RV.tmp; exact (by repeat' constructor)) | (apply RV.cell; exact rfl; exact (by repeat' constructor); exact rfl; exact rfl; exact (by repeat' constructor)))) ?_ | (simp only [thenQ, blockQ]; refine q_retS (by assumption) rfl (by repeat (first | exact .nil | (apply RV.tmp; exact (by repeat' constructor)) | (apply RV.cell; exact rfl; exact (by repeat' constructor); exact rfl; exact rfl; exact (by repeat' constructor)))) ?_))
  exact ⟨rfl, Sat.keeps (by assumption)⟩
end Go.Proofs.YtdkknknebehkgaaGreatDoor.Sl
