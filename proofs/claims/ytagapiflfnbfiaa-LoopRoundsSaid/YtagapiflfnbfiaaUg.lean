/- The reference's order of chains, questions, rows of chains that are equal, rows of chains as the reference's. No statement of the seat is proved here. -/
import Derived.Test.YtagapiflfnbfiaaUf
import Derived.Test.YtagapiflfnbfiaaUb
import Derived.Test.YtagapiflfnbfiaaJs
namespace Go.Proofs.Ytagapiflfnbfiaa
set_option linter.unusedVariables false
set_option linter.unusedSimpArgs false
open Go Go.RowKit
noncomputable def befB (a b : List Lk) : Bool := @decide (cbef a b) (Classical.propDecidable _)
theorem befB_yes {a b : List Lk} (h : cbef a b) : befB a b = true := decT h
theorem befB_no {a b : List Lk} (h : ¬ cbef a b) : befB a b = false := decF h
theorem lk_bk {x y : Lk} (h : ¬ x = y) (h1 : x.dm = y.dm) : y.bk = !x.bk := by
  cases hx : x.bk <;> cases hy : y.bk <;> first | rfl | exact absurd (lk_eta h1 (hx.trans hy.symm)) h
theorem lkLt_bk {x y : Lk} (h1 : x.dm = y.dm) : lkLt x y ↔ x.bk = false := by
  unfold lkLt
  constructor
  · rintro (h | ⟨_, h⟩)
    · omega
    · exact h
  · exact fun h => .inr ⟨h1, h⟩
section
variable {ro : Option Nat} {Q : Post} {D : List Deferred} {f : Fm} {w0 : World} {M : List Nat} {h : List HO}
variable {ops : Array Oper} {prest : List (Nat × Oper)} {d : Nat} {ps : String} {af : Array Edge} {gd : Option (Nat × Bool)} {x y : Operand}
theorem eqc_lk {a b : Lk} : eqc [0, 1] [.int .i64 a.dm, .bool a.bk] [.int .i64 b.dm, .bool b.bk] = some (@decide (a = b) (Classical.propDecidable _)) := by
  by_cases h : a = b
  · rw [decT h]; subst h; simp [eqc]
  · rw [decF h]
    rw [lk_ext] at h
    simp [eqc]
    exact fun e => by simp_all
theorem y_neLk {a b : Lk} {ty T' : TypeId} {c : Bool} (hc : (!@decide (a = b) (Classical.propDecidable _)) = c) (hg : want ops f ⟨some d, .binOp .neq 75 x y T', ty, ps, af, gd⟩ = true) (hx : fev f x = .agg #[.int .i64 a.dm, .bool a.bk]) (hy : fev f y = .agg #[.int .i64 b.dm, .bool b.bk])
    (hm : Try.prog.eqGuardType Try.prog.depth 75 = false) (hag : (Try.prog.underlying 75).map isAggD = some true)
    (kk : PV Try.prog ro ops Q w0 M h prest D (upd f d (.bool c))) : PV Try.prog ro ops Q w0 M h ((0, ⟨some d, .binOp .neq 75 x y T', ty, ps, af, gd⟩) :: prest) D f := by
  subst hc
  exact y_neAgg hg hx hy flat_rLink hag hm eqc_lk kk
end
set_option maxRecDepth 100000 in
theorem e_rBef : Ent Try.prog 49 := fun _ _ => rfl
set_option maxRecDepth 4000 in
set_option maxHeartbeats 2000000 in
theorem rBef_c (A B : Option Addr) (c c' : Nat) (a b : List Lk) (ha : a.length ≤ 9223372036854775807) (hb : b.length ≤ 9223372036854775807) (w : World) (R : Rd w A 2 a.length (fun i => lkC (a.getD i lk0))) (R2 : Rd w B 2 b.length (fun i => lkC (b.getD i lk0))) : Calls Try.prog 49 #[.slice A a.length c, .slice B b.length c'] w (RetP (Val (.bool (befB a b)) w)) := by
  refine calls_of_cw (args := [.slice A a.length c, .slice B b.length c']) Try.func49 rfl rfl ?_
  have S := Sat.start [] w
  have O := (R).old
  have O2 := (R2).old
  (repeat' (first | apply cw_seq | apply cw_region | apply wl_nil | apply cw_block | (apply x_assign; exact rfl; exact rfl; (exact (by repeat' constructor)))))
  refine cw_loop [4, 5, 6, 7, 8, 9, 10, 11, 12, 13, 14, 15, 16, 17, 18, 19, 20, 21, 22, 23, 24, 25, 26, 27, 28, 29, 30, 31, 32, 33, 34, 35, 36, 37, 38, 39, 40, 41, 42, 43, 44, 45, 46, 47, 48, 49, 50, 51, 52, 53, 54, 55, 56, 57, 58] [5] (fun us wr => ∃ k : Nat, k ≤ a.length ∧ k ≤ b.length ∧ us = [.int .i64 k] ∧ Sat w [] [] wr ∧ ∀ j, j < k → lat a j = lat b j) (fun us _ => a.length - (intOf (us.getD 0 undef)).toNat) ?_ ?_
  · exact ⟨0, by omega, by omega, rfl, S, fun i hi => absurd hi (Nat.not_lt_zero i)⟩
  clear S
  rintro g us wr ⟨k, hk, hk2, rfl, Sr, hfe⟩
  by_cases hlt : k < a.length ∧ k < b.length
  · obtain ⟨h1, h2⟩ := hlt
    by_cases he : a.getD k lk0 = b.getD k lk0
    · have hq : (!@decide (a.getD k lk0 = b.getD k lk0) (Classical.propDecidable _)) = false := by rw [decT he]; rfl
      (repeat' (first | apply cw_seq | apply cw_region | apply wl_nil | apply cw_block | apply cw_skip | (apply y_neLk hq; exact rfl; exact rfl; exact rfl; kernel_rfl; exact rfl) | (apply cw_draw (id := 4) [(0, 0), (1, 0), (2, 0), (3, 0), (4, 0), (5, 0), (6, 0), (7, 0), (8, 0)]; assumption; exact mixed; kernel_rfl) | (apply x_move; exact rfl; exact rfl; (exact (by repeat' constructor))) | (apply x_assign; exact rfl; exact rfl; (exact (by repeat' constructor))) | (apply x_bin; exact rfl; exact rfl; exact rfl; (first | exact .z (.wrap (by omega)) | exact (by repeat' constructor))) | (apply x_pick; exact rfl; exact rfl; exact rfl; (exact (by repeat' constructor))) | (apply x_builtin; exact rfl; exact rfl; exact (fun _ => rfl); (exact (by repeat' constructor))) | (apply y_move; exact rfl; (exact (by repeat' constructor))) | (apply y_index; exact rfl; exact rfl; exact rfl; exact rfl; (constructor); (first | omega | exact size_pos (by assumption) | assumption); (first | exact rfl | assumption | exact Rd.some_ (by assumption) (by omega) | exact Rd.some_ (Old.rd (by assumption)) (by omega) | exact (Sat.rd (by assumption) (by exact (by repeat' constructor))).some_ (by omega))) | (apply y_loadR; exact rfl; exact rfl; assumption; (first | omega | exact size_pos (by assumption) | assumption); exact rfl; exact rfl; (exact (by repeat' constructor))) | (apply y_nil; intro _ _) | (apply cw_false; exact rfl) | (apply x_dec; exact rfl; all_goals (intro _; try omega)) | (apply x_gdec; exact rfl; exact rfl; all_goals (intro _; try omega))))
      all_goals first
        | (refine ⟨rfl, (by repeat (first | exact Agree.updl rfl (Agree.mask _ _ _) | refine Agree.upd rfl ?_)), ⟨k + 1, h1, h2, rfl, by assumption, fun j hj => ?_⟩, ?_⟩
           · rcases Nat.lt_succ_iff_lt_or_eq.1 hj with hj | rfl
             · exact hfe j hj
             · exact he
           · show a.length - (k + 1 : Int).toNat < a.length - (k : Int).toNat
             omega)
    · have hiff := cbef_at hfe h1 h2 he
      have hq : (!@decide (a.getD k lk0 = b.getD k lk0) (Classical.propDecidable _)) = true := by rw [decF he]; rfl
      clear hfe
      (repeat' (first | apply cw_seq | apply cw_region | apply wl_nil | apply cw_block | apply cw_skip | apply cw_ret | (apply y_neLk hq; exact rfl; exact rfl; exact rfl; kernel_rfl; exact rfl) | (apply y_gdec; exact rfl; exact rfl; all_goals (intro _; try omega)) | (apply cw_draw (id := 4) [(0, 0), (1, 0), (2, 0), (3, 0), (4, 0), (5, 0), (6, 0), (7, 0), (8, 0)]; assumption; exact mixed; kernel_rfl) | (apply cw_draw (id := 5) [(0, 0), (1, 0), (2, 0), (3, 0), (4, 0), (5, 0), (6, 0), (7, 0), (8, 0), (9, 0), (10, 0), (11, 0), (12, 0), (13, 0), (14, 0), (15, 0), (16, 0), (17, 0), (18, 0), (19, 0), (20, 0), (21, 0), (22, 0), (23, 0), (24, 0), (25, 0), (26, 0), (27, 0), (28, 0), (29, 0), (30, 0), (31, 0), (32, 0)]; assumption; exact mixed; kernel_rfl) | (apply x_move; exact rfl; exact rfl; (exact (by repeat' constructor))) | (apply x_bin; exact rfl; exact rfl; exact rfl; (first | exact .z (.wrap (by omega)) | exact (by repeat' constructor))) | (apply x_pick; exact rfl; exact rfl; exact rfl; (exact (by repeat' constructor))) | (apply x_builtin; exact rfl; exact rfl; exact (fun _ => rfl); (exact (by repeat' constructor))) | (apply y_not; exact rfl) | (apply y_move; exact rfl; (exact (by repeat' constructor))) | (apply y_assign; exact rfl; (exact (by repeat' constructor))) | (apply y_bin; exact rfl; exact (fun _ => rfl); (first | exact .z (.wrap (by omega)) | exact (by repeat' constructor))) | (apply y_pick; exact rfl; exact rfl; (exact (by repeat' constructor))) | (apply y_un; exact rfl; exact (fun _ => rfl); (first | exact .z (.wrap (by omega)) | exact (by repeat' constructor))) | (apply y_fieldE; exact rfl; exact rfl; exact rfl; (constructor)) | (apply y_index; exact rfl; exact rfl; exact rfl; exact rfl; (constructor); (first | omega | exact size_pos (by assumption) | assumption); (first | exact rfl | assumption | exact Rd.some_ (by assumption) (by omega) | exact Rd.some_ (Old.rd (by assumption)) (by omega) | exact (Sat.rd (by assumption) (by exact (by repeat' constructor))).some_ (by omega))) | (apply y_loadR; exact rfl; exact rfl; assumption; (first | omega | exact size_pos (by assumption) | assumption); exact rfl; exact rfl; (exact (by repeat' constructor))) | (apply y_nil; intro _ _) | (apply cw_true; exact rfl) | (apply x_dec; exact rfl; all_goals (intro _; try omega)) | (apply x_gdec; exact rfl; exact rfl; all_goals (intro _; try omega))))
      all_goals (first | refine q_retS (by assumption) rfl (by repeat (first | exact .nil | (apply RV.tmp; exact (by repeat' constructor)) | (apply RV.cell; exact rfl; exact (by repeat' constructor); exact rfl; exact rfl; exact (by repeat' constructor)))) ?_ | (simp only [thenQ, blockQ]; refine q_retS (by assumption) rfl (by repeat (first | exact .nil | (apply RV.tmp; exact (by repeat' constructor)) | (apply RV.cell; exact rfl; exact (by repeat' constructor); exact rfl; exact rfl; exact (by repeat' constructor)))) ?_))
      all_goals refine ⟨?_, Sat.keeps (by assumption)⟩
      all_goals first
        | (rw [befB_yes (hiff.2 (.inl (by assumption)))]; rfl)
        | (rw [befB_no (fun h => by rcases hiff.1 h with h | h; (· have h' : (a.getD k lk0).dm < (b.getD k lk0).dm := h; omega); (· exact absurd h.1 (by assumption)))]; rfl)
        | (have h5 : (a.getD k lk0).dm = (b.getD k lk0).dm := by assumption
           have h6 := hiff.trans (lkLt_bk h5)
           cases h7 : (a.getD k lk0).bk with
           | false => rw [befB_yes (h6.2 h7)]; simp [pack]
           | true => rw [befB_no (fun h => by rw [h7] at h6; exact absurd (h6.1 h) (by decide))]; simp [pack])
        | skip
  · have hiff := cbef_end hfe hlt hk hk2
    (repeat' (first | apply cw_seq | apply cw_region | apply wl_nil | apply cw_exit | apply cw_ret | (apply x_not; exact rfl; exact rfl) | (apply x_move; exact rfl; exact rfl; (exact (by repeat' constructor))) | (apply x_assign; exact rfl; exact rfl; (exact (by repeat' constructor))) | (apply x_bin; exact rfl; exact rfl; exact rfl; (first | exact .z (.wrap (by omega)) | exact (by repeat' constructor))) | (apply x_pick; exact rfl; exact rfl; exact rfl; (exact (by repeat' constructor))) | (apply x_builtin; exact rfl; exact rfl; exact (fun _ => rfl); (exact (by repeat' constructor))) | (apply cw_false; exact rfl) | (apply x_dec; exact rfl; all_goals (intro _; try omega)) | (apply x_gdec; exact rfl; exact rfl; all_goals (intro _; try omega))))
    all_goals (first | refine q_retS (by assumption) rfl (by repeat (first | exact .nil | (apply RV.tmp; exact (by repeat' constructor)) | (apply RV.cell; exact rfl; exact (by repeat' constructor); exact rfl; exact rfl; exact (by repeat' constructor)))) ?_ | (simp only [thenQ, blockQ]; refine q_retS (by assumption) rfl (by repeat (first | exact .nil | (apply RV.tmp; exact (by repeat' constructor)) | (apply RV.cell; exact rfl; exact (by repeat' constructor); exact rfl; exact rfl; exact (by repeat' constructor)))) ?_))
    all_goals refine ⟨?_, Sat.keeps (by assumption)⟩
    all_goals by_cases h9 : a.length < b.length
    all_goals first
      | (rw [befB_yes (hiff.2 h9)]; simp [pack, h9]; done)
      | (rw [befB_no (fun h => h9 (hiff.1 h))]; simp [pack, h9]; done)
set_option maxRecDepth 100000 in
theorem e_rasked : Ent Try.prog 43 := fun _ _ => rfl
set_option maxRecDepth 4000 in
set_option maxHeartbeats 20000000 in
theorem rasked_c (A : Option Addr) (cA : Nat) (l : List Dm) (hl : l.length ≤ 9223372036854775807) (ho : ∀ i, i < l.length → (dat l i).ok) (ax : Int) (fr to : ByteArray) (hfr : fr.size ≤ 9223372036854775807) (hto : to.size ≤ 9223372036854775807) (w : World) (R : Rd w A 5 l.length (fun i => dmC (l.getD i dm0))) : Calls Try.prog 43 #[.slice A l.length cA, .int .i64 ax, .string fr, .string to] w (RetP (Val (.int .i64 (askE l ax fr to)) w)) := by
  refine calls_of_cw (args := [.slice A l.length cA, .int .i64 ax, .string fr, .string to]) Try.func43 rfl rfl ?_
  have S := Sat.start [] w
  have O := (R).old
  (repeat' (first | apply cw_seq | apply cw_region | apply wl_nil | apply cw_skip | apply cw_ret | (apply x_callv; assumption; exact rfl; exact rfl; exact rfl; exact e_rGiven; (exact (by repeat' constructor)); with_reducible exact (rGiven_c A cA l hl ho _ (Old.now O (by assumption))); intro _ _ _) | (apply x_callv; assumption; exact rfl; exact rfl; exact rfl; exact e_rName; (exact (by repeat' constructor)); with_reducible exact (rName_c fr hfr _); intro _ _ _) | (apply x_callv; assumption; exact rfl; exact rfl; exact rfl; exact e_rName; (exact (by repeat' constructor)); with_reducible exact (rName_c to hto _); intro _ _ _) | (apply x_not; exact rfl; exact rfl) | (apply x_move; exact rfl; exact rfl; (exact (by repeat' constructor))) | (apply x_assign; exact rfl; exact rfl; (exact (by repeat' constructor))) | (apply x_eqStr; exact rfl; exact rfl; exact rfl; exact rfl) | (apply x_bin; exact rfl; exact rfl; exact rfl; (first | exact .z (.wrap (by omega)) | exact (by repeat' constructor))) | (apply x_pick; exact rfl; exact rfl; exact rfl; (exact (by repeat' constructor))) | (apply cw_true; exact rfl) | (apply x_dec; exact rfl; all_goals (intro _; try omega)) | (apply cw_ne; exact rfl; all_goals (intro _; try omega)) | (apply x_gdec; exact rfl; exact rfl; all_goals (intro _; try omega))))
  all_goals (first | refine q_retS (by assumption) rfl (by repeat (first | exact .nil | (apply RV.tmp; exact (by repeat' constructor)) | (apply RV.cell; exact rfl; exact (by repeat' constructor); exact rfl; exact rfl; exact (by repeat' constructor)))) ?_ | (simp only [thenQ, blockQ]; refine q_retS (by assumption) rfl (by repeat (first | exact .nil | (apply RV.tmp; exact (by repeat' constructor)) | (apply RV.cell; exact rfl; exact (by repeat' constructor); exact rfl; exact rfl; exact (by repeat' constructor)))) ?_))
  all_goals refine ⟨?_, Sat.keeps (by assumption)⟩
  all_goals unfold askE
  all_goals first
    | (rw [if_pos (by assumption)]; rfl)
    | (rw [if_neg (not_not_intro (by assumption)), if_pos (by omega)]; rfl)
    | (rw [if_neg (not_not_intro (by assumption)), if_neg (by omega), if_pos (by assumption)]; rfl)
    | (rw [if_neg (not_not_intro (by assumption)), if_neg (by omega), if_neg (not_not_intro (by assumption)), if_pos (by assumption)]; rfl)
    | (rw [if_neg (not_not_intro (by assumption)), if_neg (by omega), if_neg (not_not_intro (by assumption)), if_neg (not_not_intro (by assumption)), if_pos (by assumption)]; rfl)
    | (rw [if_neg (not_not_intro (by assumption)), if_neg (by omega), if_neg (not_not_intro (by assumption)), if_neg (not_not_intro (by assumption)), if_neg (by assumption)]; rfl)
/-! ### rows of chains that are equal -/
theorem is_rowL {r r' : OR} (h : r.xs = r'.xs) : Is (.slice r.A r.xs.length r.c) (.slice r.A r'.xs.length r.c) := by rw [h]; exact .z .any
set_option maxRecDepth 100000 in
theorem e_rSameAll : Ent Try.prog 20 := fun _ _ => rfl
set_option maxRecDepth 4000 in
set_option maxHeartbeats 2000000 in
theorem rSameAll_c (A B : Option Addr) (c c' : Nat) (rs ss : List OR) (hrs : rs.map OR.xs = ss.map OR.xs) (hl : rs.length ≤ 9223372036854775807) (hx : ∀ r ∈ rs, r.xs.length ≤ 9223372036854775807) (w : World) (R : Rd w A 1 rs.length (fun i => orV (rs.getD i or0))) (R2 : Rd w B 1 ss.length (fun i => orV (ss.getD i or0)))
  (RA : ∀ i, i < rs.length → Rd w (rs.getD i or0).A 2 (rs.getD i or0).xs.length (fun j => lkC ((rs.getD i or0).xs.getD j lk0))) (RB : ∀ i, i < ss.length → Rd w (ss.getD i or0).A 2 (ss.getD i or0).xs.length (fun j => lkC ((ss.getD i or0).xs.getD j lk0))) : Calls Try.prog 20 #[.slice A rs.length c, .slice B ss.length c'] w (RetP (Val (.bool true) w)) := by
  refine calls_of_cw (args := [.slice A rs.length c, .slice B ss.length c']) Try.func20 rfl rfl ?_
  have S := Sat.start [] w
  have O := (R).old
  have O2 := (R2).old
  (repeat' (first | apply cw_seq | apply cw_region | apply wl_nil | apply cw_block | apply cw_skip | apply cw_ret | (apply x_move; exact rfl; exact rfl; (exact (by repeat' constructor))) | (apply x_assign; exact rfl; exact rfl; (exact (by repeat' constructor))) | (apply x_bin; exact rfl; exact rfl; exact rfl; (first | exact .z (.wrap (by omega)) | exact (by repeat' constructor))) | (apply x_builtin; exact rfl; exact rfl; exact (fun _ => rfl); (exact (by repeat' constructor))) | (apply cw_ne; exact rfl; all_goals (intro _; try omega))))
  all_goals have hlen : rs.length = ss.length := by have := congrArg List.length hrs; simpa using this
  all_goals first
    | (exfalso; omega)
    | skip
  refine cw_loop [4, 5, 11, 12, 13, 14, 15, 16, 17, 18, 19, 20, 21, 22, 23, 24, 25, 26] [5] (fun us wr => ∃ k : Nat, k ≤ rs.length ∧ us = [.int .i64 k] ∧ Sat w [] [] wr) (fun us _ => rs.length - (intOf (us.getD 0 undef)).toNat) ?_ ?_
  · exact ⟨0, by omega, rfl, S⟩
  clear S
  rintro g us wr ⟨k, hk, rfl, Sr⟩
  by_cases hlt : k < rs.length
  · have hlt2 : k < ss.length := by omega
    have he : (ss.getD k or0).xs = (rs.getD k or0).xs := by
      have := congrArg (fun l => l.getD k []) hrs
      simp [List.getD_eq_getElem?_getD, hlt, hlt2] at this
      simp [List.getD_eq_getElem?_getD, hlt, hlt2, this]
    have hxl := hx _ (getD_mem or0 hlt)
    have O3 := (RA k hlt).old
    have O4 := (RB k hlt2).old
    rw [he] at O4
    (repeat' (first | apply cw_seq | apply cw_region | apply wl_nil | apply cw_block | apply cw_skip | (apply y_loadR; exact rfl; exact rfl; exact O2; exact hlt2; exact rfl; exact rfl; exact is_rowL he) | (apply z2_callv; exact rfl; exact rfl; exact e_rSame; (exact (by repeat' constructor)); with_reducible exact (fun _ _ => rSame_c _ _ _ _ (rs.getD k or0).xs hxl _ (Old.now O3 (by assumption)) (Old.now O4 (by assumption)))) | (apply cw_draw (id := 6) [(0, 0), (1, 0), (2, 0), (3, 0), (4, 0), (5, 0), (6, 0), (7, 0), (8, 2), (9, 0)]; assumption; exact mixed; kernel_rfl) | (apply x_move; exact rfl; exact rfl; (exact (by repeat' constructor))) | (apply x_assign; exact rfl; exact rfl; (exact (by repeat' constructor))) | (apply x_bin; exact rfl; exact rfl; exact rfl; (first | exact .z (.wrap (by omega)) | exact (by repeat' constructor))) | (apply x_builtin; exact rfl; exact rfl; exact (fun _ => rfl); (exact (by repeat' constructor))) | (apply y_move; exact rfl; (exact (by repeat' constructor))) | (apply y_un; exact rfl; exact (fun _ => rfl); (first | exact .z (.wrap (by omega)) | exact (by repeat' constructor))) | (apply y_index; exact rfl; exact rfl; exact rfl; exact rfl; (constructor); (first | omega | exact size_pos (by assumption) | assumption); (first | exact rfl | assumption | exact Rd.some_ (by assumption) (by omega) | exact Rd.some_ (Old.rd (by assumption)) (by omega) | exact (Sat.rd (by assumption) (by exact (by repeat' constructor))).some_ (by omega))) | (apply y_loadR; exact rfl; exact rfl; assumption; (first | omega | exact size_pos (by assumption) | assumption); exact rfl; exact rfl; (exact (by repeat' constructor))) | (apply y_nil; intro _ _) | (apply cw_false; exact rfl) | (apply x_dec; exact rfl; all_goals (intro _; try omega))))
    all_goals refine ⟨rfl, (by repeat (first | exact Agree.updl rfl (Agree.mask _ _ _) | refine Agree.upd rfl ?_)), ⟨k + 1, hlt, rfl, by assumption⟩, ?_⟩
    all_goals show rs.length - (k + 1 : Int).toNat < rs.length - (k : Int).toNat
    all_goals omega
  · (repeat' (first | apply cw_seq | apply cw_region | apply wl_nil | apply cw_exit | apply cw_ret | (apply x_move; exact rfl; exact rfl; (exact (by repeat' constructor))) | (apply x_assign; exact rfl; exact rfl; (exact (by repeat' constructor))) | (apply x_bin; exact rfl; exact rfl; exact rfl; (first | exact .z (.wrap (by omega)) | exact (by repeat' constructor))) | (apply x_builtin; exact rfl; exact rfl; exact (fun _ => rfl); (exact (by repeat' constructor))) | (apply x_dec; exact rfl; all_goals (intro _; try omega))))
    all_goals (first | refine q_retS (by assumption) rfl (by repeat (first | exact .nil | (apply RV.tmp; exact (by repeat' constructor)) | (apply RV.cell; exact rfl; exact (by repeat' constructor); exact rfl; exact rfl; exact (by repeat' constructor)))) ?_ | (simp only [thenQ, blockQ]; refine q_retS (by assumption) rfl (by repeat (first | exact .nil | (apply RV.tmp; exact (by repeat' constructor)) | (apply RV.cell; exact rfl; exact (by repeat' constructor); exact rfl; exact rfl; exact (by repeat' constructor)))) ?_))
    all_goals exact ⟨rfl, Sat.keeps (by assumption)⟩
end Go.Proofs.Ytagapiflfnbfiaa
