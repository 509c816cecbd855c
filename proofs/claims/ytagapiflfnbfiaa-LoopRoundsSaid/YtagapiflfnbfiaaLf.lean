/- Loops of dimensions: the checks. No statement of the seat is proved here. -/
import Derived.Test.YtagapiflfnbfiaaLe
namespace Go.Proofs.Ytagapiflfnbfiaa
set_option linter.unusedVariables false
set_option linter.unusedSimpArgs false
open Go Go.RowKit
section
variable {P : Program} {ro : Option Nat} {n : Nat} {Q : Post} {D : List Deferred} {f : Fm} {w w0 w' : World} {M : List Nat} {h : List HO}
variable {ops : Array Oper} {prest : List (Nat × Oper)} {d ty : Nat} {ps : String} {af : Array Edge} {gd : Option (Nat × Bool)} {x y : Operand}
theorem y_sliceHiN {T : TypeId} {A : Option Addr} {m c size r : Nat} {kd : IntKind} (hg : want ops f ⟨some d, .slice T x none (some y) none, ty, ps, af, gd⟩ = true) (hx : fev f x = .slice A m c) (hy : fev f y = .int kd (r : Int)) (hs : elemSize P T = some size) (h1 : r ≤ c)
    (k : PV P ro ops Q w0 M h prest D (upd f d (.slice A r c))) : PV P ro ops Q w0 M h ((0, ⟨some d, .slice T x none (some y) none, ty, ps, af, gd⟩) :: prest) D f :=
  y_sliceHi hg hx hy hs (by omega) (by omega) k
end
/-- what comes after the first k links, none of which errs -/
theorem stp_inR {l : List Dm} {c : List Lk} {i : Nat} (h : stp l c i = 0) : inR l (lat c i) := by
  apply Classical.byContradiction
  intro hn
  rw [stp_2 hn] at h
  exact absurd h (by decide)
set_option maxRecDepth 100000 in
theorem e_rchain : Ent Try.prog 54 := fun _ _ => rfl
set_option maxRecDepth 4000 in
set_option maxHeartbeats 20000000 in
theorem rchain_c (A : Option Addr) (cA : Nat) (l : List Dm) (hl : l.length ≤ 9223372036854775807) (ho : ∀ i, i < l.length → (dat l i).ok) (hL : l.length ≤ 256) (B : Option Addr) (cB : Nat) (c : List Lk) (hc : c.length ≤ 9223372036854775807) (hcc : c.length ≤ cB) (w : World) (R : Rd w A 5 l.length (fun i => dmC (l.getD i dm0))) (R2 : Rd w B 2 c.length (fun i => lkC (c.getD i lk0))) : Calls Try.prog 54 #[.slice A l.length cA, .slice B c.length cB] w (RetP (Val (.int .i64 (chainE l c)) w)) := by
  refine calls_of_cw (args := [.slice A l.length cA, .slice B c.length cB]) Try.func54 rfl rfl ?_
  have S := Sat.start [] w
  have O := (R).old
  have O2 := (R2).old
  (repeat' (first | apply cw_seq | apply cw_region | apply wl_nil | apply cw_block | apply cw_skip | apply cw_ret | (apply x_move; exact rfl; exact rfl; (exact (by repeat' constructor))) | (apply x_assign; exact rfl; exact rfl; (exact (by repeat' constructor))) | (apply x_bin; exact rfl; exact rfl; exact rfl; (first | exact .z (.wrap (by omega)) | exact (by repeat' constructor))) | (apply x_builtin; exact rfl; exact rfl; exact (fun _ => rfl); (exact (by repeat' constructor))) | (apply x_dec; exact rfl; all_goals (intro _; try omega))))
  · rw [chainE, if_pos (by omega)]
    (first | refine q_retS (by assumption) rfl (by repeat (first | exact .nil | (apply RV.tmp; exact (by repeat' constructor)) | (apply RV.cell; exact rfl; exact (by repeat' constructor); exact rfl; exact rfl; exact (by repeat' constructor)))) ?_ | (simp only [thenQ, blockQ]; refine q_retS (by assumption) rfl (by repeat (first | exact .nil | (apply RV.tmp; exact (by repeat' constructor)) | (apply RV.cell; exact rfl; exact (by repeat' constructor); exact rfl; exact rfl; exact (by repeat' constructor)))) ?_))
    exact ⟨rfl, Sat.keeps (by assumption)⟩
  · rw [chainE, if_neg (by omega), if_pos (by omega)]
    (first | refine q_retS (by assumption) rfl (by repeat (first | exact .nil | (apply RV.tmp; exact (by repeat' constructor)) | (apply RV.cell; exact rfl; exact (by repeat' constructor); exact rfl; exact rfl; exact (by repeat' constructor)))) ?_ | (simp only [thenQ, blockQ]; refine q_retS (by assumption) rfl (by repeat (first | exact .nil | (apply RV.tmp; exact (by repeat' constructor)) | (apply RV.cell; exact rfl; exact (by repeat' constructor); exact rfl; exact rfl; exact (by repeat' constructor)))) ?_))
    exact ⟨rfl, Sat.keeps (by assumption)⟩
  rename_i h0 h256
  refine cw_loop [4, 5, 6, 13, 14, 15, 16, 17, 18, 19, 20, 21, 22, 23, 24, 25, 26, 27, 28, 29, 30] [5] (fun us wr => ∃ i : Nat, i ≤ c.length ∧ us = [.int .i64 i] ∧ Sat w [] [] wr ∧ chainE l c = fstE (stp l c) (c.length - i) i ∧ ∀ m, m < i → inR l (lat c m)) (fun us _ => c.length - (intOf (us.getD 0 undef)).toNat) ?_ ?_
  · exact ⟨0, by omega, rfl, by assumption, by rw [chainE, if_neg (by omega), if_neg (by omega)]; rfl, fun m hm => by omega⟩
  clear S
  rintro g' us wr ⟨i, hi, rfl, Sr, hfe, hall⟩
  by_cases hlt : i < c.length
  · have hi256 : i ≤ 256 := by omega
    (repeat' (first | apply cw_seq | apply cw_region | apply wl_nil | apply cw_block | apply cw_skip | apply cw_ret | (apply y_sliceHiN (r := i); exact rfl; exact rfl; exact rfl; exact rfl; (exact (by omega))) | (apply z2_callv; exact rfl; exact rfl; exact e_goes; (exact (by repeat' constructor)); with_reducible exact (fun _ _ => goes_c A cA l hl ho hL B cB c i hi256 hall _ (Old.now O (by assumption)) (Rd.take (Old.now O2 (by assumption)) hi))) | (apply cw_draw (id := 8) [(0, 0), (1, 0), (2, 0), (3, 0), (4, 0), (5, 0), (6, 0), (7, 0), (8, 2), (9, 0)]; assumption; exact mixed; kernel_rfl) | (apply x_move; exact rfl; exact rfl; (exact (by repeat' constructor))) | (apply x_assign; exact rfl; exact rfl; (exact (by repeat' constructor))) | (apply x_bin; exact rfl; exact rfl; exact rfl; (first | exact .z (.wrap (by omega)) | exact (by repeat' constructor))) | (apply x_builtin; exact rfl; exact rfl; exact (fun _ => rfl); (exact (by repeat' constructor))) | (apply y_move; exact rfl; (exact (by repeat' constructor))) | (apply y_assign; exact rfl; (exact (by repeat' constructor))) | (apply y_index; exact rfl; exact rfl; exact rfl; exact rfl; (constructor); (first | omega | exact size_pos (by assumption) | assumption); (first | exact rfl | assumption | exact Rd.some_ (by assumption) (by omega) | exact Rd.some_ (Old.rd (by assumption)) (by omega) | exact (Sat.rd (by assumption) (by exact (by repeat' constructor))).some_ (by omega))) | (apply y_loadR; exact rfl; exact rfl; assumption; (first | omega | exact size_pos (by assumption) | assumption); exact rfl; exact rfl; (exact (by repeat' constructor))) | (apply y_nil; intro _ _) | (apply x_dec; exact rfl; all_goals (intro _; try omega)) | (apply cw_ne; exact rfl; all_goals (intro _; try omega))))
    · rw [hfe, fstE_no hlt (by assumption)]
      (first | refine q_retS (by assumption) rfl (by repeat (first | exact .nil | (apply RV.tmp; exact (by repeat' constructor)) | (apply RV.cell; exact rfl; exact (by repeat' constructor); exact rfl; exact rfl; exact (by repeat' constructor)))) ?_ | (simp only [thenQ, blockQ]; refine q_retS (by assumption) rfl (by repeat (first | exact .nil | (apply RV.tmp; exact (by repeat' constructor)) | (apply RV.cell; exact rfl; exact (by repeat' constructor); exact rfl; exact rfl; exact (by repeat' constructor)))) ?_))
      exact ⟨rfl, Sat.keeps (by assumption)⟩
    · refine ⟨rfl, (by repeat (first | exact Agree.updl rfl (Agree.mask _ _ _) | refine Agree.upd rfl ?_)), ⟨i + 1, hlt, rfl, by assumption, by rw [hfe, fstE_yes hlt (by assumption)], fun m hm => ?_⟩, ?_⟩
      · rcases Nat.lt_succ_iff_lt_or_eq.1 hm with hm | rfl
        · exact hall m hm
        · exact stp_inR (by assumption)
      · show c.length - (i + 1 : Int).toNat < c.length - (i : Int).toNat
        omega
  · (repeat' (first | apply cw_seq | apply cw_region | apply wl_nil | apply cw_exit | apply cw_ret | (apply x_move; exact rfl; exact rfl; (exact (by repeat' constructor))) | (apply x_assign; exact rfl; exact rfl; (exact (by repeat' constructor))) | (apply x_bin; exact rfl; exact rfl; exact rfl; (first | exact .z (.wrap (by omega)) | exact (by repeat' constructor))) | (apply x_builtin; exact rfl; exact rfl; exact (fun _ => rfl); (exact (by repeat' constructor))) | (apply x_dec; exact rfl; all_goals (intro _; try omega))))
    rw [hfe, fstE_end hlt]
    (first | refine q_retS (by assumption) rfl (by repeat (first | exact .nil | (apply RV.tmp; exact (by repeat' constructor)) | (apply RV.cell; exact rfl; exact (by repeat' constructor); exact rfl; exact rfl; exact (by repeat' constructor)))) ?_ | (simp only [thenQ, blockQ]; refine q_retS (by assumption) rfl (by repeat (first | exact .nil | (apply RV.tmp; exact (by repeat' constructor)) | (apply RV.cell; exact rfl; exact (by repeat' constructor); exact rfl; exact rfl; exact (by repeat' constructor)))) ?_))
    exact ⟨rfl, Sat.keeps (by assumption)⟩
theorem givenE_len {l : List Dm} (h : givenE l = 0) : l.length ≤ 256 := by
  unfold givenE at h
  split at h
  · exact absurd h (by decide)
  · omega
set_option maxRecDepth 100000 in
theorem e_rCheckL : Ent Try.prog 27 := fun _ _ => rfl
set_option maxRecDepth 4000 in
set_option maxHeartbeats 2000000 in
theorem rCheckL_c (A : Option Addr) (cA : Nat) (l : List Dm) (hl : l.length ≤ 9223372036854775807) (ho : ∀ i, i < l.length → (dat l i).ok) (B : Option Addr) (cB : Nat) (c : List Lk) (hc : c.length ≤ 9223372036854775807) (hcc : c.length ≤ cB) (w : World) (R : Rd w A 5 l.length (fun i => dmC (l.getD i dm0))) (R2 : Rd w B 2 c.length (fun i => lkC (c.getD i lk0))) : Calls Try.prog 27 #[.slice A l.length cA, .slice B c.length cB] w (RetP (Val (.int .i64 (lpE l c)) w)) := by
  refine calls_of_cw (args := [.slice A l.length cA, .slice B c.length cB]) Try.func27 rfl rfl ?_
  have S := Sat.start [] w
  have O := (R).old
  have O2 := (R2).old
  (repeat' (first | apply cw_seq | apply cw_region | apply wl_nil | apply cw_skip | apply cw_ret | (apply x_callv; assumption; exact rfl; exact rfl; exact rfl; exact e_rGiven; (exact (by repeat' constructor)); with_reducible exact (rGiven_c A cA l hl ho _ (Old.now O (by assumption))); intro _ _ _) | (apply x_callv; assumption; exact rfl; exact rfl; exact rfl; exact e_rchain; (exact (by repeat' constructor)); exact (rchain_c A cA l hl ho (givenE_len (by assumption)) B cB c hc hcc _ (Old.now O (by assumption)) (Old.now O2 (by assumption))); intro _ _ _) | (apply x_move; exact rfl; exact rfl; (exact (by repeat' constructor))) | (apply x_assign; exact rfl; exact rfl; (exact (by repeat' constructor))) | (apply x_bin; exact rfl; exact rfl; exact rfl; (first | exact .z (.wrap (by omega)) | exact (by repeat' constructor))) | (apply cw_ne; exact rfl; all_goals (intro _; try omega))))
  all_goals (first | refine q_retS (by assumption) rfl (by repeat (first | exact .nil | (apply RV.tmp; exact (by repeat' constructor)) | (apply RV.cell; exact rfl; exact (by repeat' constructor); exact rfl; exact rfl; exact (by repeat' constructor)))) ?_ | (simp only [thenQ, blockQ]; refine q_retS (by assumption) rfl (by repeat (first | exact .nil | (apply RV.tmp; exact (by repeat' constructor)) | (apply RV.cell; exact rfl; exact (by repeat' constructor); exact rfl; exact rfl; exact (by repeat' constructor)))) ?_))
  all_goals refine ⟨?_, Sat.keeps (by assumption)⟩
  · rw [lpE, if_pos (by assumption)]; rfl
  · rw [lpE, if_neg (fun e => e (by assumption))]; rfl
set_option maxRecDepth 100000 in
theorem e_CheckL : Ent Try.prog 33 := fun _ _ => rfl
set_option maxRecDepth 4000 in
set_option maxHeartbeats 2000000 in
theorem CheckL_c (A : Option Addr) (cA : Nat) (l : List Dm) (hl : l.length ≤ 9223372036854775807) (ho : ∀ i, i < l.length → (dat l i).ok) (B : Option Addr) (cB : Nat) (c : List Lk) (hc : c.length ≤ 9223372036854775807) (w : World) (R : Rd w A 5 l.length (fun i => dmC (l.getD i dm0))) (R2 : Rd w B 2 c.length (fun i => lkC (c.getD i lk0))) : Calls Try.prog 33 #[.slice A l.length cA, .slice B c.length cB] w (RetP (Val (.int .i64 (lpE l c)) w)) := by
  refine calls_of_cw (args := [.slice A l.length cA, .slice B c.length cB]) Try.func33 rfl rfl ?_
  have S := Sat.start [] w
  have O := (R).old
  have O2 := (R2).old
  (repeat' (first | apply cw_seq | apply cw_region | apply wl_nil | apply cw_skip | apply cw_ret | (apply x_callv; assumption; exact rfl; exact rfl; exact rfl; exact e_given; (exact (by repeat' constructor)); with_reducible exact (given_c A cA l hl ho _ (Old.now O (by assumption))); intro _ _ _) | (apply x_callv; assumption; exact rfl; exact rfl; exact rfl; exact e_chain; (exact (by repeat' constructor)); exact (chain_c A cA l hl ho (givenE_len (by assumption)) B cB c hc _ (Old.now O (by assumption)) (Old.now O2 (by assumption))); intro _ _ _) | (apply x_move; exact rfl; exact rfl; (exact (by repeat' constructor))) | (apply x_assign; exact rfl; exact rfl; (exact (by repeat' constructor))) | (apply x_bin; exact rfl; exact rfl; exact rfl; (first | exact .z (.wrap (by omega)) | exact (by repeat' constructor))) | (apply cw_ne; exact rfl; all_goals (intro _; try omega))))
  all_goals (first | refine q_retS (by assumption) rfl (by repeat (first | exact .nil | (apply RV.tmp; exact (by repeat' constructor)) | (apply RV.cell; exact rfl; exact (by repeat' constructor); exact rfl; exact rfl; exact (by repeat' constructor)))) ?_ | (simp only [thenQ, blockQ]; refine q_retS (by assumption) rfl (by repeat (first | exact .nil | (apply RV.tmp; exact (by repeat' constructor)) | (apply RV.cell; exact rfl; exact (by repeat' constructor); exact rfl; exact rfl; exact (by repeat' constructor)))) ?_))
  all_goals refine ⟨?_, Sat.keeps (by assumption)⟩
  · rw [lpE, if_pos (by assumption)]; rfl
  · rw [lpE, if_neg (fun e => e (by assumption))]; rfl
end Go.Proofs.Ytagapiflfnbfiaa
