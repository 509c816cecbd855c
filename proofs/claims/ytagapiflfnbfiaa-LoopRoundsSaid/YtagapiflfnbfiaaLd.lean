/- Loops of dimensions: the reference's check, and the program's. No statement of the seat is proved here. -/
import Derived.Test.YtagapiflfnbfiaaLc
namespace Go.Proofs.Ytagapiflfnbfiaa
set_option linter.unusedVariables false
set_option linter.unusedSimpArgs false
open Go Go.RowKit
open Go.Maps (Keyed)
set_option maxRecDepth 100000 in
theorem e_rGiven : Ent Try.prog 35 := fun _ _ => rfl
set_option maxRecDepth 4000 in
set_option maxHeartbeats 2000000 in
theorem rGiven_c (A : Option Addr) (cA : Nat) (l : List Dm) (hl : l.length ≤ 9223372036854775807) (ho : ∀ i, i < l.length → (dat l i).ok) (w : World) (R : Rd w A 5 l.length (fun i => dmC (l.getD i dm0))) : Calls Try.prog 35 #[.slice A l.length cA] w (RetP (Val (.int .i64 (givenE l)) w)) := by
  refine calls_of_cw (args := [.slice A l.length cA]) Try.func35 rfl rfl ?_
  have S := Sat.start [] w
  have O := (R).old
  (repeat' (first | apply cw_seq | apply cw_region | apply wl_nil | apply cw_block | apply cw_skip | apply cw_ret | (apply x_move; exact rfl; exact rfl; (exact (by repeat' constructor))) | (apply x_assign; exact rfl; exact rfl; (exact (by repeat' constructor))) | (apply x_bin; exact rfl; exact rfl; exact rfl; (first | exact .z (.wrap (by omega)) | exact (by repeat' constructor))) | (apply x_builtin; exact rfl; exact rfl; exact (fun _ => rfl); (exact (by repeat' constructor))) | (apply x_dec; exact rfl; all_goals (intro _; try omega))))
  · (first | refine q_retS (by assumption) rfl (by repeat (first | exact .nil | (apply RV.tmp; exact (by repeat' constructor)) | (apply RV.cell; exact rfl; exact (by repeat' constructor); exact rfl; exact rfl; exact (by repeat' constructor)))) ?_ | (simp only [thenQ, blockQ]; refine q_retS (by assumption) rfl (by repeat (first | exact .nil | (apply RV.tmp; exact (by repeat' constructor)) | (apply RV.cell; exact rfl; exact (by repeat' constructor); exact rfl; exact rfl; exact (by repeat' constructor)))) ?_))
    refine ⟨?_, Sat.keeps (by assumption)⟩
    rw [givenE, if_pos (by omega)]
    rfl
  rename_i h256
  refine cw_loop [2, 3, 4, 8, 9, 10, 11, 12, 13, 14, 15, 16, 17, 18, 19, 20, 21] [3] (fun us wr => ∃ k : Nat, k ≤ l.length ∧ us = [.int .i64 k] ∧ Sat w [] [] wr ∧ givenE l = fstE (fun k => validE (dat l k)) (l.length - k) k) (fun us _ => l.length - (intOf (us.getD 0 undef)).toNat) ?_ ?_
  · exact ⟨0, by omega, rfl, by assumption, by rw [givenE, if_neg (by omega)]; rfl⟩
  clear S
  rintro g' us wr ⟨k, hk, rfl, Sr, hfe⟩
  by_cases hlt : k < l.length
  · have hok : (l.getD k dm0).ok := ho k hlt
    (repeat' (first | apply cw_seq | apply cw_region | apply wl_nil | apply cw_block | apply cw_skip | apply cw_ret | (apply x_callv; assumption; exact rfl; exact rfl; exact rfl; exact e_rValid; (exact (by repeat' constructor)); with_reducible exact (rValid_c _ hok _); intro _ _ _) | (apply x_move; exact rfl; exact rfl; (exact (by repeat' constructor))) | (apply x_assign; exact rfl; exact rfl; (exact (by repeat' constructor))) | (apply x_bin; exact rfl; exact rfl; exact rfl; (first | exact .z (.wrap (by omega)) | exact (by repeat' constructor))) | (apply x_builtin; exact rfl; exact rfl; exact (fun _ => rfl); (exact (by repeat' constructor))) | (apply x_index; exact rfl; exact rfl; exact rfl; exact rfl; exact rfl; (constructor); (first | omega | exact size_pos (by assumption) | assumption); (first | exact rfl | assumption | exact Rd.some_ (by assumption) (by omega) | exact Rd.some_ (Old.rd (by assumption)) (by omega) | exact (Sat.rd (by assumption) (by exact (by repeat' constructor))).some_ (by omega))) | (apply x_loadR; exact rfl; exact rfl; exact rfl; (first | exact Old.now (by assumption) (by assumption) | exact Sat.rdpr (by assumption) (by exact (by repeat' constructor)) | exact Sat.rd (by assumption) (by exact (by repeat' constructor))); (first | omega | exact size_pos (by assumption) | assumption); exact rfl; exact rfl; (exact (by repeat' constructor))) | (apply x_dec; exact rfl; all_goals (intro _; try omega)) | (apply cw_ne; exact rfl; all_goals (intro _; try omega))))
    · rw [hfe, fstE_no hlt (by assumption)]
      (first | refine q_retS (by assumption) rfl (by repeat (first | exact .nil | (apply RV.tmp; exact (by repeat' constructor)) | (apply RV.cell; exact rfl; exact (by repeat' constructor); exact rfl; exact rfl; exact (by repeat' constructor)))) ?_ | (simp only [thenQ, blockQ]; refine q_retS (by assumption) rfl (by repeat (first | exact .nil | (apply RV.tmp; exact (by repeat' constructor)) | (apply RV.cell; exact rfl; exact (by repeat' constructor); exact rfl; exact rfl; exact (by repeat' constructor)))) ?_))
      exact ⟨rfl, Sat.keeps (by assumption)⟩
    · refine ⟨rfl, (by repeat (first | exact Agree.updl rfl (Agree.mask _ _ _) | refine Agree.upd rfl ?_)), ⟨k + 1, hlt, rfl, by assumption, by rw [hfe, fstE_yes hlt (by assumption)]⟩, ?_⟩
      show l.length - (k + 1 : Int).toNat < l.length - (k : Int).toNat
      omega
  · (repeat' (first | apply cw_seq | apply cw_region | apply wl_nil | apply cw_exit | apply cw_ret | (apply x_move; exact rfl; exact rfl; (exact (by repeat' constructor))) | (apply x_assign; exact rfl; exact rfl; (exact (by repeat' constructor))) | (apply x_bin; exact rfl; exact rfl; exact rfl; (first | exact .z (.wrap (by omega)) | exact (by repeat' constructor))) | (apply x_builtin; exact rfl; exact rfl; exact (fun _ => rfl); (exact (by repeat' constructor))) | (apply x_dec; exact rfl; all_goals (intro _; try omega))))
    rw [hfe, fstE_end hlt]
    (first | refine q_retS (by assumption) rfl (by repeat (first | exact .nil | (apply RV.tmp; exact (by repeat' constructor)) | (apply RV.cell; exact rfl; exact (by repeat' constructor); exact rfl; exact rfl; exact (by repeat' constructor)))) ?_ | (simp only [thenQ, blockQ]; refine q_retS (by assumption) rfl (by repeat (first | exact .nil | (apply RV.tmp; exact (by repeat' constructor)) | (apply RV.cell; exact rfl; exact (by repeat' constructor); exact rfl; exact rfl; exact (by repeat' constructor)))) ?_))
    exact ⟨rfl, Sat.keeps (by assumption)⟩
set_option maxRecDepth 100000 in
theorem e_rBegin : Ent Try.prog 56 := fun _ _ => rfl
set_option maxRecDepth 4000 in
set_option maxHeartbeats 2000000 in
theorem rBegin_c (A : Option Addr) (cA : Nat) (l : List Dm) (hl : l.length ≤ 9223372036854775807) (ho : ∀ i, i < l.length → (dat l i).ok) (x : Lk) (hx : inR l x) (w : World) (R : Rd w A 5 l.length (fun i => dmC (l.getD i dm0))) : Calls Try.prog 56 #[.slice A l.length cA, .agg #[.int .i64 (x).dm, .bool (x).bk]] w (RetP (Val (.string (begE l x)) w)) := by
  refine calls_of_cw (args := [.slice A l.length cA, .agg #[.int .i64 (x).dm, .bool (x).bk]]) Try.func56 rfl rfl ?_
  have S := Sat.start [] w
  have O := (R).old
  (repeat' (first | apply cw_seq | apply cw_region | apply wl_nil | apply cw_skip | apply cw_ret | (apply x_indexI (z := x.dm); exact rfl; exact rfl; exact rfl; exact rfl; exact rfl; (constructor); exact hx.1; exact hx.2; (exact (Old.rd O).some_ (by have := hx.1; have := hx.2; omega))) | (apply x_loadR; exact rfl; exact rfl; exact rfl; exact Old.now O (by assumption); (exact (by have := hx.1; have := hx.2; omega)); exact rfl; exact rfl; (exact (by repeat' constructor))) | (apply x_move; exact rfl; exact rfl; (exact (by repeat' constructor))) | (apply x_assign; exact rfl; exact rfl; (exact (by repeat' constructor))) | (apply x_fieldB; exact rfl; exact rfl; exact rfl; exact rfl; (constructor)) | (apply x_load; assumption; exact rfl; exact rfl; exact rfl; (exact (by repeat' constructor)); exact rfl; exact rfl; (exact (by repeat' constructor))) | (apply x_box; assumption; exact rfl; exact rfl; (exact (by repeat' constructor)); (exact (by repeat' constructor)); intro _ _ _) | (apply x_fieldE; exact rfl; exact rfl; exact rfl; exact rfl; (constructor)) | (apply cw_cond; exact rfl; all_goals (intro _; try omega))))
  all_goals (first | refine q_retS (by assumption) rfl (by repeat (first | exact .nil | (apply RV.tmp; exact (by repeat' constructor)) | (apply RV.cell; exact rfl; exact (by repeat' constructor); exact rfl; exact rfl; exact (by repeat' constructor)))) ?_ | (simp only [thenQ, blockQ]; refine q_retS (by assumption) rfl (by repeat (first | exact .nil | (apply RV.tmp; exact (by repeat' constructor)) | (apply RV.cell; exact rfl; exact (by repeat' constructor); exact rfl; exact rfl; exact (by repeat' constructor)))) ?_))
  all_goals refine ⟨?_, Sat.keeps (by assumption)⟩
  · rw [begE, if_pos (by assumption)]; rfl
  · rw [begE, if_neg (by simp [*])]; rfl
theorem beg_flip (l : List Dm) (x : Lk) : begE l ⟨x.dm, !x.bk⟩ = stoE l x := by
  cases x with
  | mk d b => cases b <;> rfl
theorem rBegin_f (A : Option Addr) (cA : Nat) (l : List Dm) (hl : l.length ≤ 9223372036854775807) (ho : ∀ i, i < l.length → (dat l i).ok) (x : Lk) (hx : inR l x) (w : World) (R : Rd w A 5 l.length (fun i => dmC (l.getD i dm0))) :
    Calls Try.prog 56 #[.slice A l.length cA, .agg #[.int .i64 x.dm, .bool (!x.bk)]] w (RetP (Val (.string (stoE l x)) w)) := by
  rw [← beg_flip]
  exact rBegin_c A cA l hl ho ⟨x.dm, !x.bk⟩ hx w R
set_option maxRecDepth 100000 in
theorem e_rStop : Ent Try.prog 57 := fun _ _ => rfl
set_option maxRecDepth 4000 in
set_option maxHeartbeats 2000000 in
theorem rStop_c (A : Option Addr) (cA : Nat) (l : List Dm) (hl : l.length ≤ 9223372036854775807) (ho : ∀ i, i < l.length → (dat l i).ok) (x : Lk) (hx : inR l x) (w : World) (R : Rd w A 5 l.length (fun i => dmC (l.getD i dm0))) : Calls Try.prog 57 #[.slice A l.length cA, .agg #[.int .i64 (x).dm, .bool (x).bk]] w (RetP (Val (.string (stoE l x)) w)) := by
  refine calls_of_cw (args := [.slice A l.length cA, .agg #[.int .i64 (x).dm, .bool (x).bk]]) Try.func57 rfl rfl ?_
  have S := Sat.start [] w
  have O := (R).old
  (repeat' (first | apply cw_seq | apply cw_region | apply wl_nil | apply cw_ret | (apply x_callv; assumption; exact rfl; exact rfl; exact rfl; exact e_rBegin; (exact (by repeat' constructor)); with_reducible exact (rBegin_f A cA l hl ho x hx _ (Old.now O (by assumption))); intro _ _ _) | (apply x_move; exact rfl; exact rfl; (exact (by repeat' constructor))) | (apply x_assign; exact rfl; exact rfl; (exact (by repeat' constructor))) | (apply x_fieldB; exact rfl; exact rfl; exact rfl; exact rfl; (constructor)) | (apply x_load; assumption; exact rfl; exact rfl; exact rfl; (exact (by repeat' constructor)); exact rfl; exact rfl; (exact (by repeat' constructor))) | (apply x_un; exact rfl; exact rfl; exact rfl; (first | exact .z (.wrap (by omega)) | exact (by repeat' constructor))) | (apply x_box; assumption; exact rfl; exact rfl; (exact (by repeat' constructor)); (exact (by repeat' constructor)); intro _ _ _) | (apply x_build; exact rfl; exact rfl; exact rfl; (exact (by repeat' constructor)))))
  all_goals (first | refine q_retS (by assumption) rfl (by repeat (first | exact .nil | (apply RV.tmp; exact (by repeat' constructor)) | (apply RV.cell; exact rfl; exact (by repeat' constructor); exact rfl; exact rfl; exact (by repeat' constructor)))) ?_ | (simp only [thenQ, blockQ]; refine q_retS (by assumption) rfl (by repeat (first | exact .nil | (apply RV.tmp; exact (by repeat' constructor)) | (apply RV.cell; exact rfl; exact (by repeat' constructor); exact rfl; exact rfl; exact (by repeat' constructor)))) ?_))
  all_goals exact ⟨rfl, Sat.keeps (by assumption)⟩
end Go.Proofs.Ytagapiflfnbfiaa
