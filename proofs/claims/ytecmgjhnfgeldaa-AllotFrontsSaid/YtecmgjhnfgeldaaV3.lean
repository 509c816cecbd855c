/- Tasks of choices: the chapter's example. No statement of the seat is proved here. -/
import Derived.Test.YtecmgjhnfgeldaaV1
import Derived.Test.YtecmgjhnfgeldaaV4
import Derived.Test.YtecmgjhnfgeldaaVu
namespace Go.Proofs.Ytecmgjhnfgeldaa.Al
set_option linter.unusedVariables false
set_option linter.unusedSimpArgs false
open Go Go.RowKit
set_option maxRecDepth 100000 in
theorem e_EqualI : Ent Try.prog 16 := fun _ _ => rfl
set_option maxRecDepth 4000 in
set_option maxHeartbeats 2000000 in
theorem EqualI_c (A B : Option Addr) (c c' : Nat) (xs : List Int) (hx : xs.length ≤ 9223372036854775807) (w : World) (R1 : Rd w A 1 xs.length (fun i => pkC (xs.getD i 0))) (R2 : Rd w B 1 xs.length (fun i => pkC (xs.getD i 0))) : Calls Try.prog 16 #[.slice A xs.length c, .slice B xs.length c'] w (RetP (Val (.bool true) w)) := by
  refine calls_of_cw (args := [.slice A xs.length c, .slice B xs.length c']) Try.func16 rfl rfl ?_
  have S := Sat.start [] w
  have O1 := (R1).old
  have O2 := (R2).old
  (repeat' (first | apply cw_seq | apply cw_region | apply wl_nil | apply cw_block | apply cw_skip | (apply x_move; exact rfl; exact rfl; (exact (by repeat' constructor))) | (apply x_assign; exact rfl; exact rfl; (exact (by repeat' constructor))) | (apply x_bin; exact rfl; exact rfl; exact rfl; (first | exact .z (.wrap (by omega)) | exact (by repeat' constructor))) | (apply x_builtin; exact rfl; exact rfl; exact (fun _ => rfl); (exact (by repeat' constructor))) | (apply cw_ne; exact rfl; all_goals (intro _; try omega))))
  refine cw_loop [4, 5, 13, 14, 15, 16, 17, 18, 19, 20, 21, 22, 23, 24, 25] [13] (fun us wr => ∃ k : Nat, k ≤ xs.length ∧ us = [.int .i64 k] ∧ Sat w [] [] wr) (fun us _ => xs.length - (intOf (us.getD 0 undef)).toNat) ?_ ?_
  · exact ⟨0, by omega, rfl, S⟩
  clear S
  rintro g' us wr ⟨k, hk, rfl, Sr⟩
  by_cases hlt : k < xs.length
  · (repeat' (first | apply cw_seq | apply cw_region | apply wl_nil | apply cw_block | apply cw_skip | (apply cw_draw (id := 6) [(0, 0), (1, 0), (2, 0), (3, 0), (4, 0), (5, 0), (6, 0), (7, 0), (8, 0)]; assumption; exact mixed; kernel_rfl) | (apply x_move; exact rfl; exact rfl; (exact (by repeat' constructor))) | (apply x_assign; exact rfl; exact rfl; (exact (by repeat' constructor))) | (apply x_bin; exact rfl; exact rfl; exact rfl; (first | exact .z (.wrap (by omega)) | exact (by repeat' constructor))) | (apply y_move; exact rfl; (exact (by repeat' constructor))) | (apply y_bin; exact rfl; exact (fun _ => rfl); (first | exact .z (.wrap (by omega)) | exact (by repeat' constructor))) | (apply y_index; exact rfl; exact rfl; exact rfl; exact rfl; (constructor); (first | omega | exact size_pos (by assumption) | assumption); (first | exact rfl | assumption | exact Rd.some_ (by assumption) (by omega) | exact Rd.some_ (Old.rd (by assumption)) (by omega) | exact (Sat.rd (by assumption) (by exact (by repeat' constructor))).some_ (by omega))) | (apply y_loadR; exact rfl; exact rfl; assumption; (first | omega | exact size_pos (by assumption) | assumption); exact rfl; exact rfl; (exact (by repeat' constructor))) | (apply y_nil; intro _ _) | (apply x_dec; exact rfl; all_goals (intro _; try omega)) | (apply cw_ne; exact rfl; all_goals (intro _; try omega))))
    all_goals first
      | (exfalso; simp_all; done)
      | (refine ⟨rfl, (by repeat (first | exact Agree.updl rfl (Agree.mask _ _ _) | refine Agree.upd rfl ?_)), ⟨k + 1, hlt, rfl, by assumption⟩, ?_⟩
         show xs.length - (k + 1 : Int).toNat < xs.length - (k : Int).toNat
         omega)
  · (repeat' (first | apply cw_seq | apply cw_region | apply wl_nil | apply cw_exit | apply cw_ret | (apply x_assign; exact rfl; exact rfl; (exact (by repeat' constructor))) | (apply x_bin; exact rfl; exact rfl; exact rfl; (first | exact .z (.wrap (by omega)) | exact (by repeat' constructor))) | (apply x_dec; exact rfl; all_goals (intro _; try omega))))
    (first | refine q_retS (by assumption) rfl (by repeat (first | exact .nil | (apply RV.tmp; exact (by repeat' constructor)) | (apply RV.cell; exact rfl; exact (by repeat' constructor); exact rfl; exact rfl; exact (by repeat' constructor)))) ?_ | (simp only [thenQ, blockQ]; refine q_retS (by assumption) rfl (by repeat (first | exact .nil | (apply RV.tmp; exact (by repeat' constructor)) | (apply RV.cell; exact rfl; exact (by repeat' constructor); exact rfl; exact rfl; exact (by repeat' constructor)))) ?_))
    exact ⟨rfl, Sat.keeps (by assumption)⟩
set_option maxRecDepth 100000 in
theorem e_EqualP : Ent Try.prog 32 := fun _ _ => rfl
set_option maxRecDepth 4000 in
set_option maxHeartbeats 2000000 in
theorem EqualP_c (A B : Option Addr) (c c' : Nat) (xs : List Pr2) (hx : xs.length ≤ 9223372036854775807) (w : World) (R1 : Rd w A 2 xs.length (fun i => prC (xs.getD i (0, 0)))) (R2 : Rd w B 2 xs.length (fun i => prC (xs.getD i (0, 0)))) : Calls Try.prog 32 #[.slice A xs.length c, .slice B xs.length c'] w (RetP (Val (.bool true) w)) := by
  refine calls_of_cw (args := [.slice A xs.length c, .slice B xs.length c']) Try.func32 rfl rfl ?_
  have S := Sat.start [] w
  have O1 := (R1).old
  have O2 := (R2).old
  (repeat' (first | apply cw_seq | apply cw_region | apply wl_nil | apply cw_block | apply cw_skip | (apply x_move; exact rfl; exact rfl; (exact (by repeat' constructor))) | (apply x_assign; exact rfl; exact rfl; (exact (by repeat' constructor))) | (apply x_bin; exact rfl; exact rfl; exact rfl; (first | exact .z (.wrap (by omega)) | exact (by repeat' constructor))) | (apply x_builtin; exact rfl; exact rfl; exact (fun _ => rfl); (exact (by repeat' constructor))) | (apply cw_ne; exact rfl; all_goals (intro _; try omega))))
  refine cw_loop [4, 5, 13, 14, 15, 16, 17, 18, 19, 20, 21, 22, 23, 24, 25] [13] (fun us wr => ∃ k : Nat, k ≤ xs.length ∧ us = [.int .i64 k] ∧ Sat w [] [] wr) (fun us _ => xs.length - (intOf (us.getD 0 undef)).toNat) ?_ ?_
  · exact ⟨0, by omega, rfl, S⟩
  clear S
  rintro g' us wr ⟨k, hk, rfl, Sr⟩
  by_cases hlt : k < xs.length
  · (repeat' (first | apply cw_seq | apply cw_region | apply wl_nil | apply cw_block | apply cw_skip | apply cw_ret | (apply y_neArr2; exact rfl; exact rfl; exact rfl; exact arr2_P; kernel_rfl; exact rfl) | (apply cw_draw (id := 6) [(0, 0), (1, 0), (2, 0), (3, 0), (4, 0), (5, 0), (6, 0), (7, 0), (8, 0)]; assumption; exact mixed; kernel_rfl) | (apply x_move; exact rfl; exact rfl; (exact (by repeat' constructor))) | (apply x_assign; exact rfl; exact rfl; (exact (by repeat' constructor))) | (apply x_bin; exact rfl; exact rfl; exact rfl; (first | exact .z (.wrap (by omega)) | exact (by repeat' constructor))) | (apply y_move; exact rfl; (exact (by repeat' constructor))) | (apply y_index; exact rfl; exact rfl; exact rfl; exact rfl; (constructor); (first | omega | exact size_pos (by assumption) | assumption); (first | exact rfl | assumption | exact Rd.some_ (by assumption) (by omega) | exact Rd.some_ (Old.rd (by assumption)) (by omega) | exact (Sat.rd (by assumption) (by exact (by repeat' constructor))).some_ (by omega))) | (apply y_loadR; exact rfl; exact rfl; assumption; (first | omega | exact size_pos (by assumption) | assumption); exact rfl; exact rfl; (exact (by repeat' constructor))) | (apply y_nil; intro _ _) | (apply x_dec; exact rfl; all_goals (intro _; try omega)) | (apply cw_not; exact rfl; all_goals (intro _; try omega))))
    all_goals first
      | (exfalso; simp_all; done)
      | (refine ⟨rfl, (by repeat (first | exact Agree.updl rfl (Agree.mask _ _ _) | refine Agree.upd rfl ?_)), ⟨k + 1, hlt, rfl, by assumption⟩, ?_⟩
         show xs.length - (k + 1 : Int).toNat < xs.length - (k : Int).toNat
         omega)
  · (repeat' (first | apply cw_seq | apply cw_region | apply wl_nil | apply cw_exit | apply cw_ret | (apply x_assign; exact rfl; exact rfl; (exact (by repeat' constructor))) | (apply x_bin; exact rfl; exact rfl; exact rfl; (first | exact .z (.wrap (by omega)) | exact (by repeat' constructor))) | (apply x_dec; exact rfl; all_goals (intro _; try omega))))
    (first | refine q_retS (by assumption) rfl (by repeat (first | exact .nil | (apply RV.tmp; exact (by repeat' constructor)) | (apply RV.cell; exact rfl; exact (by repeat' constructor); exact rfl; exact rfl; exact (by repeat' constructor)))) ?_ | (simp only [thenQ, blockQ]; refine q_retS (by assumption) rfl (by repeat (first | exact .nil | (apply RV.tmp; exact (by repeat' constructor)) | (apply RV.cell; exact rfl; exact (by repeat' constructor); exact rfl; exact rfl; exact (by repeat' constructor)))) ?_))
    exact ⟨rfl, Sat.keeps (by assumption)⟩
theorem EqualI_m {A B : Option Addr} {c c' m : Nat} {w : World} (xs : List Int) (hm : m = xs.length) (hx : xs.length ≤ 9223372036854775807) (R1 : Rd w A 1 xs.length (fun i => pkC (xs.getD i 0))) (R2 : Rd w B 1 xs.length (fun i => pkC (xs.getD i 0))) :
    Calls Try.prog 16 #[.slice A m c, .slice B m c'] w (RetP (Val (.bool true) w)) := by subst hm; exact EqualI_c A B c c' xs hx w R1 R2
theorem EqualP_m {A B : Option Addr} {c c' m : Nat} {w : World} (xs : List Pr2) (hm : m = xs.length) (hx : xs.length ≤ 9223372036854775807) (R1 : Rd w A 2 xs.length (fun i => prC (xs.getD i (0, 0)))) (R2 : Rd w B 2 xs.length (fun i => prC (xs.getD i (0, 0)))) :
    Calls Try.prog 32 #[.slice A m c, .slice B m c'] w (RetP (Val (.bool true) w)) := by subst hm; exact EqualP_c A B c c' xs hx w R1 R2
/-! ### the example -/
def csS : List Ch := [⟨30, 2⟩, ⟨20, 5⟩, ⟨10, 9⟩]
def csW : List Ch := [⟨20, 1⟩, ⟨10, 4⟩]
def wps (b1 b2 : Nat) : List Pt := [⟨1, some ⟨b1, 0, none⟩, 3, csS⟩, ⟨2, some ⟨b2, 0, none⟩, 2, csW⟩]
abbrev F4 : List Pr2 := [(30, 13), (40, 9), (50, 6), (70, 3)]
variable {b1 b2 b3 : Nat}
theorem sums_w : sumsP ((wps b1 b2).map Pt.pl) = [(70, 3), (50, 6), (60, 6), (40, 9), (50, 10), (30, 13)] := rfl
theorem frF_w : frF (wps b1 b2) = F4 := by
  refine front_uniq (frF_front (wps b1 b2)) (T := [(70, 3), (50, 6), (60, 6), (40, 9), (50, 10), (30, 13)]) ⟨by decide, by decide, by decide⟩ fun x => by rw [sums_w]
theorem ck50 : chkE 50 (wps b1 b2) = 0 := rfl
theorem ck40 : chkE 40 (wps b1 b2) = 0 := rfl
theorem ck29 : chkE 29 (wps b1 b2) = 0 := rfl
theorem ck0 : chkE 0 (wps b1 b2) = 0 := rfl
theorem srch_w {m c : Int} {l : List Nat} (h : chpS F4 m = some c) (h2 : firstP ((wps 0 0).map Pt.pl) m c = some l) : srchP ((wps b1 b2).map Pt.pl) m c = l := by
  have h3 : chpS (frF (wps b1 b2)) m = some c := by rw [frF_w]; exact h
  have hl := (chp_least (w := m) (frF_front (wps b1 b2))).symm.trans h3
  have h4 := srch_first hl
  have h5 : firstP ((wps b1 b2).map Pt.pl) m c = some l := h2
  rw [h5] at h4
  injection h4 with h4
  exact h4.symm
theorem sl50 : slvL 50 (wps b1 b2) = ([0, 1], 6, 0) := by
  rw [slvL_s ck50 (show chpS (frF (wps b1 b2)) 50 = some 6 by rw [frF_w]; decide), srch_w (l := [0, 1]) (by decide) (by decide)]
  rfl
theorem sl40 : slvL 40 (wps b1 b2) = ([1, 1], 9, 0) := by
  rw [slvL_s ck40 (show chpS (frF (wps b1 b2)) 40 = some 9 by rw [frF_w]; decide), srch_w (l := [1, 1]) (by decide) (by decide)]
  rfl
theorem sl29 : slvL 29 (wps b1 b2) = ([], 0, 6) := slvL_n ck29 (show chpS (frF (wps b1 b2)) 29 = none by rw [frF_w]; decide)
theorem fr0 : frtL 0 (wps b1 b2) = (F4, 0) := by
  rw [frtL_0 ck0 (by rw [frF_w]; decide), frF_w]
theorem wt40 : wthV 40 (wps b1 b2) 10 = (3, 0) := by
  rw [wthV_s ck40 (by decide) (show chpS (frF (wps b1 b2)) 40 = some 9 by rw [frF_w]; decide) (show chpS (frF (wps b1 b2)) (40 + 10) = some 6 by rw [frF_w]; decide)]
  rfl
theorem bg0 : bgE (wps b1 b2) [] = 0 := bgE_0 (by simp) fun i hi => absurd hi (Nat.not_lt_zero _)
theorem tw0 : totW (wps b1 b2) [] = 30 := rfl
theorem bn50 : bndV 50 (wps b1 b2) [] = (3, 0) := by
  rw [bndV_0 ck50 bg0 (by rw [tw0]; decide)]
  rfl
theorem bn40 : bndV 40 (wps b1 b2) [] = (9, 0) := by
  rw [bndV_0 ck40 bg0 (by rw [tw0]; decide)]
  rfl
theorem ptC_len : ∀ p : Pt, (ptC p).length = 2 := fun _ => rfl
theorem chC_len : ∀ c : Ch, (chC c).length = 2 := fun _ => rfl
theorem pkC_len : ∀ c : Int, (pkC c).length = 1 := fun _ => rfl
theorem prC_len' : ∀ c : Pr2, (prC c).length = 2 := fun _ => rfl
theorem w_at {p : Pt → Prop} (h0 : p ⟨1, some ⟨b1, 0, none⟩, 3, csS⟩) (h1 : p ⟨2, some ⟨b2, 0, none⟩, 2, csW⟩) : ∀ i, i < (wps b1 b2).length → p (pat (wps b1 b2) i)
  | 0, _ => h0
  | 1, _ => h1
  | n + 2, h => absurd h (by show ¬ n + 2 < 2; omega)
theorem w_rd {w w0 : World} {M : List Nat} {h : List HO} (S : Sat w0 M h w) (hB : Has h (.cl b3 63 ((wps b1 b2).flatMap ptC))) (h1 : Has h (.cl b1 70 (csS.flatMap chC))) (h2 : Has h (.cl b2 70 (csW.flatMap chC))) : Rd w (some ⟨b3, 0, none⟩) 2 2 (fun i => ptC ((wps b1 b2).getD i pt0)) ∧ ∀ i, i < (wps b1 b2).length → Rd w (pat (wps b1 b2) i).A 2 (pat (wps b1 b2) i).cs.length (fun j => chC ((pat (wps b1 b2) i).cs.getD j ch0)) :=
  ⟨Sat.rdflat pt0 ptC_len S hB, w_at (p := fun q => Rd w q.A 2 q.cs.length (fun j => chC (q.cs.getD j ch0))) (Sat.rdflat ch0 chC_len S h1) (Sat.rdflat ch0 chC_len S h2)⟩
theorem w_cs : ∀ i, i < (wps b1 b2).length → (pat (wps b1 b2) i).cs.length ≤ 9223372036854775807 := w_at (p := fun q => q.cs.length ≤ 9223372036854775807) (show 3 ≤ 9223372036854775807 by decide) (show 2 ≤ 9223372036854775807 by decide)
theorem w_pr : prodN (wps b1 b2) ≤ 20000 := by show 3 * (2 * 1) ≤ 20000; decide
theorem aw_S50 {w w0 : World} {M : List Nat} {h : List HO} (S : Sat w0 M h w) (hB : Has h (.cl b3 63 ((wps b1 b2).flatMap ptC))) (h1 : Has h (.cl b1 70 (csS.flatMap chC))) (h2 : Has h (.cl b2 70 (csW.flatMap chC))) : Calls Try.prog 14 #[.agg #[.int .i64 50, .slice (some ⟨b3, 0, none⟩) 2 2]] w (RetP (RowR (fun v => .tuple #[v, .int .i64 6, .int .i64 0]) 3 1 (([0, 1]).map pkC) w)) := by
  have := SolveT_c 50 (some ⟨b3, 0, none⟩) 2 (wps b1 b2) (show 2 ≤ 9223372036854775807 by decide) w_cs (fun _ => w_pr) w (w_rd S hB h1 h2).1 (w_rd S hB h1 h2).2
  rw [sl50] at this
  exact this
theorem aw_S40 {w w0 : World} {M : List Nat} {h : List HO} (S : Sat w0 M h w) (hB : Has h (.cl b3 63 ((wps b1 b2).flatMap ptC))) (h1 : Has h (.cl b1 70 (csS.flatMap chC))) (h2 : Has h (.cl b2 70 (csW.flatMap chC))) : Calls Try.prog 14 #[.agg #[.int .i64 40, .slice (some ⟨b3, 0, none⟩) 2 2]] w (RetP (RowR (fun v => .tuple #[v, .int .i64 9, .int .i64 0]) 3 1 (([1, 1]).map pkC) w)) := by
  have := SolveT_c 40 (some ⟨b3, 0, none⟩) 2 (wps b1 b2) (show 2 ≤ 9223372036854775807 by decide) w_cs (fun _ => w_pr) w (w_rd S hB h1 h2).1 (w_rd S hB h1 h2).2
  rw [sl40] at this
  exact this
theorem aw_S29 {w w0 : World} {M : List Nat} {h : List HO} (S : Sat w0 M h w) (hB : Has h (.cl b3 63 ((wps b1 b2).flatMap ptC))) (h1 : Has h (.cl b1 70 (csS.flatMap chC))) (h2 : Has h (.cl b2 70 (csW.flatMap chC))) : Calls Try.prog 14 #[.agg #[.int .i64 29, .slice (some ⟨b3, 0, none⟩) 2 2]] w (RetP (RowR (fun v => .tuple #[v, .int .i64 0, .int .i64 6]) 3 1 (([]).map pkC) w)) := by
  have := SolveT_c 29 (some ⟨b3, 0, none⟩) 2 (wps b1 b2) (show 2 ≤ 9223372036854775807 by decide) w_cs (fun _ => w_pr) w (w_rd S hB h1 h2).1 (w_rd S hB h1 h2).2
  rw [sl29] at this
  exact this
theorem aw_F0 {w w0 : World} {M : List Nat} {h : List HO} (S : Sat w0 M h w) (hB : Has h (.cl b3 63 ((wps b1 b2).flatMap ptC))) (h1 : Has h (.cl b1 70 (csS.flatMap chC))) (h2 : Has h (.cl b2 70 (csW.flatMap chC))) : Calls Try.prog 17 #[.agg #[.int .i64 0, .slice (some ⟨b3, 0, none⟩) 2 2]] w (RetP (RowR (fun v => .tuple #[v, .int .i64 0]) 51 2 (F4.map prC) w)) := by
  have := FrontT_c 0 (some ⟨b3, 0, none⟩) 2 (wps b1 b2) (show 2 ≤ 9223372036854775807 by decide) w_cs (fun _ => w_pr) w (w_rd S hB h1 h2).1 (w_rd S hB h1 h2).2
  rw [fr0] at this
  exact this
theorem aw_W40 {w w0 : World} {M : List Nat} {h : List HO} (S : Sat w0 M h w) (hB : Has h (.cl b3 63 ((wps b1 b2).flatMap ptC))) (h1 : Has h (.cl b1 70 (csS.flatMap chC))) (h2 : Has h (.cl b2 70 (csW.flatMap chC))) : Calls Try.prog 20 #[.agg #[.int .i64 40, .slice (some ⟨b3, 0, none⟩) 2 2], .int .i64 10] w (RetP (Val (.tuple #[.int .i64 3, .int .i64 0]) w)) := by
  have := WorthT_c 40 (some ⟨b3, 0, none⟩) 2 (wps b1 b2) (show 2 ≤ 9223372036854775807 by decide) w_cs (fun _ => w_pr) 10 w (w_rd S hB h1 h2).1 (w_rd S hB h1 h2).2
  rw [wt40] at this
  exact this
theorem aw_B50 {w w0 : World} {M : List Nat} {h : List HO} (S : Sat w0 M h w) (hB : Has h (.cl b3 63 ((wps b1 b2).flatMap ptC))) (h1 : Has h (.cl b1 70 (csS.flatMap chC))) (h2 : Has h (.cl b2 70 (csW.flatMap chC))) : Calls Try.prog 23 #[.agg #[.int .i64 50, .slice (some ⟨b3, 0, none⟩) 2 2], .slice none 0 0] w (RetP (Val (.tuple #[.int .i64 3, .int .i64 0]) w)) := by
  have := BoundT_c 50 (some ⟨b3, 0, none⟩) 2 (wps b1 b2) (show 2 ≤ 9223372036854775807 by decide) w_cs (show 2 ≤ 2 from Nat.le_refl _) none 0 [] (by decide) w (w_rd S hB h1 h2).1 (w_rd S hB h1 h2).2 (Rd.nil _ _ _ _)
  rw [bn50] at this
  exact this
theorem aw_B40 {w w0 : World} {M : List Nat} {h : List HO} (S : Sat w0 M h w) (hB : Has h (.cl b3 63 ((wps b1 b2).flatMap ptC))) (h1 : Has h (.cl b1 70 (csS.flatMap chC))) (h2 : Has h (.cl b2 70 (csW.flatMap chC))) : Calls Try.prog 23 #[.agg #[.int .i64 40, .slice (some ⟨b3, 0, none⟩) 2 2], .slice none 0 0] w (RetP (Val (.tuple #[.int .i64 9, .int .i64 0]) w)) := by
  have := BoundT_c 40 (some ⟨b3, 0, none⟩) 2 (wps b1 b2) (show 2 ≤ 9223372036854775807 by decide) w_cs (show 2 ≤ 2 from Nat.le_refl _) none 0 [] (by decide) w (w_rd S hB h1 h2).1 (w_rd S hB h1 h2).2 (Rd.nil _ _ _ _)
  rw [bn40] at this
  exact this
set_option maxRecDepth 100000 in
theorem e_Washers : Ent Try.prog 31 := fun _ _ => rfl
def waH (a : Nat × Nat × Nat) : List HO := [.cl a.2.2 63 ((wps a.1 a.2.1).flatMap ptC), .cl a.2.1 70 (csW.flatMap chC), .cl a.1 70 (csS.flatMap chC)]
set_option maxRecDepth 8000 in
theorem Washers_c (m : Int) (w : World) : Calls Try.prog 31 #[.int .i64 m] w (RetP fun v w' => ∃ a : Nat × Nat × Nat, v = .agg #[.int .i64 m, .slice (some ⟨a.2.2, 0, none⟩) 2 2] ∧ Sat w [] (waH a) w') := by
  refine calls_of_cw (args := [.int .i64 m]) Try.func31 rfl rfl ?_
  have S := Sat.start [] w
  (repeat' (first | apply cw_seq | apply cw_region | apply wl_nil | apply cw_ret | (apply x_move; exact rfl; exact rfl; (exact (by repeat' constructor))) | (apply x_load; assumption; exact rfl; exact rfl; exact rfl; (exact (by repeat' constructor)); exact rfl; exact rfl; (exact (by repeat' constructor))) | (apply x_alloc; assumption; exact rfl; exact rfl; exact rfl; (exact (by repeat' constructor)); intro _ _ _) | (apply x_store; assumption; exact rfl; exact rfl; (exact (by repeat' constructor)); (exact (by repeat' constructor)); exact rfl; exact rfl; exact rfl; (exact (by repeat' constructor)); intro _ _) | (apply x_build; exact rfl; exact rfl; exact rfl; (exact (by repeat' constructor))) | (apply x_buildSlice; assumption; exact rfl; exact rfl; exact rfl; (exact (by repeat' constructor)); intro _ _ _)))
  (first | refine q_retS (by assumption) rfl (by repeat (first | exact .nil | (apply RV.tmp; exact (by repeat' constructor)) | (apply RV.cell; exact rfl; exact (by repeat' constructor); exact rfl; exact rfl; exact (by repeat' constructor)))) ?_ | (simp only [thenQ, blockQ]; refine q_retS (by assumption) rfl (by repeat (first | exact .nil | (apply RV.tmp; exact (by repeat' constructor)) | (apply RV.cell; exact rfl; exact (by repeat' constructor); exact rfl; exact rfl; exact (by repeat' constructor)))) ?_))
  rename_i w9 S9
  exact ⟨(_, _, _), rfl, Sat.drop S9 _ (.cons_cons _ (.cons _ (.cons_cons _ (.cons _ (.cons_cons _ (.cons _ .slnil))))))⟩
set_option maxRecDepth 100000 in
theorem e_awake : Ent Try.prog 13 := fun _ _ => rfl
set_option maxRecDepth 4000 in
set_option maxHeartbeats 20000000 in
theorem awake_c  (w : World) : Calls Try.prog 13 #[] w (RetP (Val (.bool true) w)) := by
  refine calls_of_cw (args := []) Try.func13 rfl rfl ?_
  have S := Sat.start [] w
  (repeat' (first | apply cw_seq | apply cw_region | apply wl_nil | apply cw_skip | apply cw_ret | (apply x_callH; assumption; exact rfl; exact rfl; exact rfl; exact e_Washers; (exact (by repeat' constructor)); (with_reducible exact Washers_c _ _); rintro ⟨b1, b2, b3⟩ w2 S2; (try dsimp only); replace S2 : Sat w [] (_ :: _ :: _ :: _) w2 := S2) | (apply x_callrowE (m := 2); assumption; exact rfl; exact rfl; exact rfl; exact e_SolveT; (exact (by repeat' constructor)); (with_reducible apply aw_S50); assumption; (exact (by repeat' constructor)); (exact (by repeat' constructor)); (exact (by repeat' constructor)); exact rfl; intro _ _ _ _) | (apply x_callrowE (m := 2); assumption; exact rfl; exact rfl; exact rfl; exact e_SolveT; (exact (by repeat' constructor)); (with_reducible apply aw_S40); assumption; (exact (by repeat' constructor)); (exact (by repeat' constructor)); (exact (by repeat' constructor)); exact rfl; intro _ _ _ _) | (apply x_callrowE (m := 0); assumption; exact rfl; exact rfl; exact rfl; exact e_SolveT; (exact (by repeat' constructor)); (with_reducible apply aw_S29); assumption; (exact (by repeat' constructor)); (exact (by repeat' constructor)); (exact (by repeat' constructor)); exact rfl; intro _ _ _ _) | (apply x_callrowE (m := 4); assumption; exact rfl; exact rfl; exact rfl; exact e_FrontT; (exact (by repeat' constructor)); (with_reducible apply aw_F0); assumption; (exact (by repeat' constructor)); (exact (by repeat' constructor)); (exact (by repeat' constructor)); exact rfl; intro _ _ _ _) | (apply x_callv; assumption; exact rfl; exact rfl; exact rfl; exact e_WorthT; (exact (by repeat' constructor)); (with_reducible apply aw_W40); assumption; (exact (by repeat' constructor)); (exact (by repeat' constructor)); (exact (by repeat' constructor)); intro _ _ _) | (apply x_callv; assumption; exact rfl; exact rfl; exact rfl; exact e_BoundT; (exact (by repeat' constructor)); (with_reducible apply aw_B50); assumption; (exact (by repeat' constructor)); (exact (by repeat' constructor)); (exact (by repeat' constructor)); intro _ _ _) | (apply x_callv; assumption; exact rfl; exact rfl; exact rfl; exact e_BoundT; (exact (by repeat' constructor)); (with_reducible apply aw_B40); assumption; (exact (by repeat' constructor)); (exact (by repeat' constructor)); (exact (by repeat' constructor)); intro _ _ _) | (apply x_callv; assumption; exact rfl; exact rfl; exact rfl; exact e_EqualI; (exact (by repeat' constructor)); (with_reducible refine (EqualI_m [0, 1] ?_ ?_ ?_ ?_)); exact rfl; exact (by decide); exact Sat.rdmapN (0 : Int) (by assumption) (by exact (by repeat' constructor)) rfl; exact Sat.rdflat (0 : Int) pkC_len (by assumption) (by exact (by repeat' constructor)); intro _ _ _) | (apply x_callv; assumption; exact rfl; exact rfl; exact rfl; exact e_EqualI; (exact (by repeat' constructor)); (with_reducible refine (EqualI_m [1, 1] ?_ ?_ ?_ ?_)); exact rfl; exact (by decide); exact Sat.rdmapN (0 : Int) (by assumption) (by exact (by repeat' constructor)) rfl; exact Sat.rdflat (0 : Int) pkC_len (by assumption) (by exact (by repeat' constructor)); intro _ _ _) | (apply x_callv; assumption; exact rfl; exact rfl; exact rfl; exact e_EqualP; (exact (by repeat' constructor)); (with_reducible refine (EqualP_m F4 ?_ ?_ ?_ ?_)); exact rfl; exact (by decide); exact Sat.rdmapN ((0 : Int), (0 : Int)) (by assumption) (by exact (by repeat' constructor)) rfl; exact Sat.rdflat ((0 : Int), (0 : Int)) prC_len' (by assumption) (by exact (by repeat' constructor)); intro _ _ _) | (apply x_move; exact rfl; exact rfl; (exact (by repeat' constructor))) | (apply x_assign; exact rfl; exact rfl; (exact (by repeat' constructor))) | (apply x_bin; exact rfl; exact rfl; exact rfl; (first | exact .z (.wrap (by omega)) | exact (by repeat' constructor))) | (apply x_pick; exact rfl; exact rfl; exact rfl; (exact (by repeat' constructor))) | (apply x_un; exact rfl; exact rfl; exact rfl; (first | exact .z (.wrap (by omega)) | exact (by repeat' constructor))) | (apply x_build; exact rfl; exact rfl; exact rfl; (exact (by repeat' constructor))) | (apply x_extract; exact rfl; exact rfl; exact rfl; (exact (by repeat' constructor))) | (apply x_buildSlice; assumption; exact rfl; exact rfl; exact rfl; (exact (by repeat' constructor)); intro _ _ _) | (apply cw_false; exact rfl)))
  all_goals (first | refine q_retS (by assumption) rfl (by repeat (first | exact .nil | (apply RV.tmp; exact (by repeat' constructor)) | (apply RV.cell; exact rfl; exact (by repeat' constructor); exact rfl; exact rfl; exact (by repeat' constructor)))) ?_ | (simp only [thenQ, blockQ]; refine q_retS (by assumption) rfl (by repeat (first | exact .nil | (apply RV.tmp; exact (by repeat' constructor)) | (apply RV.cell; exact rfl; exact (by repeat' constructor); exact rfl; exact rfl; exact (by repeat' constructor)))) ?_))
  all_goals refine ⟨?_, Sat.keeps (by assumption)⟩
  all_goals first | rfl | (simp [pack]; done) | (exfalso; simp_all; done)
end Go.Proofs.Ytecmgjhnfgeldaa.Al
