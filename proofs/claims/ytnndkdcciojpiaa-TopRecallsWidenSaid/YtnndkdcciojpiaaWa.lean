/- Records of calibrations: instruments that are due; the reference's checks; lists of names. No statement of the seat is proved here. -/
import Derived.Test.YtnndkdcciojpiaaKj
namespace Go.Proofs.Ytnndkdcciojpiaa
set_option linter.unusedVariables false
set_option linter.unusedSimpArgs false
open Go Go.RowKit
/-- the names of the first k records without a valid one -/
noncomputable def dueUp (l : List Rc) (day : Int) : Nat → List ByteArray
  | 0 => []
  | k + 1 => if ¬ (place l (rat l k).nm day).2 = 0 then dueUp l day k ++ [(rat l k).nm] else dueUp l day k
theorem dueUp_len (l : List Rc) (day : Int) : ∀ k, (dueUp l day k).length ≤ k
  | 0 => by simp [dueUp]
  | k + 1 => by
    have := dueUp_len l day k
    unfold dueUp
    split
    · simp; omega
    · omega
theorem dueUp_yes {l : List Rc} {day : Int} {k : Nat} (h : ¬ (place l (rat l k).nm day).2 = 0) : dueUp l day (k + 1) = dueUp l day k ++ [(rat l k).nm] := by rw [dueUp, if_pos h]
theorem dueUp_no {l : List Rc} {day : Int} {k : Nat} (h : (place l (rat l k).nm day).2 = 0) : dueUp l day (k + 1) = dueUp l day k := by rw [dueUp, if_neg (fun e => e h)]
noncomputable def dueC (l : List Rc) (day : Int) : List ByteArray := cmpTo (dueUp l day l.length) (dueUp l day l.length).length
noncomputable def dueL (l : List Rc) (day : Int) : List ByteArray × Int := if ¬ ckE l = 0 then ([], ckE l) else if ¬ dayE day = 0 then ([], dayE day) else (dueC l day, 0)
theorem valid_at {l : List Rc} (A : Option Addr) (c : Nat) (hl : l.length ≤ 9223372036854775807) (ho : ∀ i, i < l.length → (rat l i).ok) (hr : Right l) (day : Int) (k : Nat) {p : Nat × Int} (hp : place l (rat l k).nm day = p) (w : World) (R : Rd w A 6 l.length (fun i => rcC (l.getD i rc0))) :
    Calls Try.prog 35 #[.slice A l.length c, .string (l.getD k rc0).nm, .int .i64 day] w (RetP (Val (.tuple #[.int .i64 (p.1 : Int), .int .i64 p.2]) w)) := by
  subst hp
  exact valid_c A c l hl ho hr _ day w R
set_option maxRecDepth 100000 in
theorem e_kDue : Ent Try.prog 14 := fun _ _ => rfl
set_option maxRecDepth 4000 in
set_option maxHeartbeats 2000000 in
theorem kDue_c (A : Option Addr) (c : Nat) (l : List Rc) (hl : l.length ≤ 9223372036854775807) (ho : ∀ i, i < l.length → (rat l i).ok) (day : Int) (w : World) (R : Rd w A 6 l.length (fun i => rcC (l.getD i rc0))) : Calls Try.prog 14 #[.slice A l.length c, .int .i64 day] w (RetP (RowR (fun v => .tuple #[v, .int .i64 (dueL l day).2]) 9 1 ((dueL l day).1.map strC) w)) := by
  refine calls_of_cw (args := [.slice A l.length c, .int .i64 day]) Try.func14 rfl rfl ?_
  have S := Sat.start [] w
  have O := (R).old
  (repeat' (first | apply cw_seq | apply cw_region | apply wl_nil | apply cw_block | apply cw_skip | apply cw_ret | (apply x_callv; assumption; exact rfl; exact rfl; exact rfl; exact e_kCheck; (exact (by repeat' constructor)); with_reducible exact (kCheck_c A c l hl ho _ (Old.now O (by assumption))); intro _ _ _) | (apply x_callv; assumption; exact rfl; exact rfl; exact rfl; exact e_kday; (exact (by repeat' constructor)); exact (kday_c _ _); intro _ _ _) | (apply x_move; exact rfl; exact rfl; (exact (by repeat' constructor))) | (apply x_assign; exact rfl; exact rfl; (exact (by repeat' constructor))) | (apply x_bin; exact rfl; exact rfl; exact rfl; (first | exact .z (.wrap (by omega)) | exact (by repeat' constructor))) | (apply x_builtin; exact rfl; exact rfl; exact (fun _ => rfl); (exact (by repeat' constructor))) | (apply cw_ne; exact rfl; all_goals (intro _; try omega))))
  · (first | refine q_retS (by assumption) rfl (by repeat (first | exact .nil | (apply RV.tmp; exact (by repeat' constructor)) | (apply RV.cell; exact rfl; exact (by repeat' constructor); exact rfl; exact rfl; exact (by repeat' constructor)))) ?_ | (simp only [thenQ, blockQ]; refine q_retS (by assumption) rfl (by repeat (first | exact .nil | (apply RV.tmp; exact (by repeat' constructor)) | (apply RV.cell; exact rfl; exact (by repeat' constructor); exact rfl; exact rfl; exact (by repeat' constructor)))) ?_))
    rw [dueL, if_pos (by assumption)]
    exact rowR_nil (V := fun v => .tuple #[v, .int .i64 (ckE l)]) rfl (Sat.keeps (by assumption))
  · (first | refine q_retS (by assumption) rfl (by repeat (first | exact .nil | (apply RV.tmp; exact (by repeat' constructor)) | (apply RV.cell; exact rfl; exact (by repeat' constructor); exact rfl; exact rfl; exact (by repeat' constructor)))) ?_ | (simp only [thenQ, blockQ]; refine q_retS (by assumption) rfl (by repeat (first | exact .nil | (apply RV.tmp; exact (by repeat' constructor)) | (apply RV.cell; exact rfl; exact (by repeat' constructor); exact rfl; exact rfl; exact (by repeat' constructor)))) ?_))
    rw [dueL, if_neg (by simp [*]), if_pos (by assumption)]
    exact rowR_nil (V := fun v => .tuple #[v, .int .i64 (dayE day)]) rfl (Sat.keeps (by assumption))
  rename_i w0 _ _ h0 w1 _ S1 h1
  have hr := ckE0 (show ckE l = 0 by simpa using h0)
  have hl2 := hr.1
  rw [dueL, if_neg (by simp [*]), if_neg (by simp [*])]
  refine cw_loop [8, 10, 11, 12, 25, 26, 27, 28, 29, 30, 31, 32, 33, 34, 35, 36, 37, 38, 39, 40, 41, 42, 43, 44] [25, 8] (fun us wr => ∃ (k : Nat) (A' : Option Addr) (c' : Nat), k ≤ l.length ∧ us = [.int .i64 k, .slice A' ((dueUp l day k).map strC).length c'] ∧ Sat w [] (.rw 0 (.slice A' ((dueUp l day k).map strC).length c') 9 1 ((dueUp l day k).map strC) :: []) wr) (fun us _ => l.length - (intOf (us.getD 0 undef)).toNat) ?_ ?_
  · exact ⟨0, none, 0, by omega, rfl, S1.addNil _ _⟩
  clear S1 S
  rintro g' us wr ⟨k, A', c', hk, rfl, Sr⟩
  have hbl := dueUp_len l day k
  have hbm : ((dueUp l day k).map strC).length = (dueUp l day k).length := List.length_map _
  by_cases hlt : k < l.length
  · obtain ⟨p, hp⟩ : ∃ p, place l (rat l k).nm day = p := ⟨_, rfl⟩
    have hp2 : (place l (rat l k).nm day).2 = p.2 := by rw [hp]
    (repeat' (first | apply cw_seq | apply cw_region | apply wl_nil | apply cw_block | apply cw_skip | (apply x_callv; assumption; exact rfl; exact rfl; exact rfl; exact e_valid0; (exact (by repeat' constructor)); with_reducible exact (valid_at A c hl ho hr day k hp _ (Old.now O (by assumption))); intro _ _ _) | (apply x_append1; assumption; exact rfl; exact rfl; exact rfl; exact rfl; exact rfl; (exact (by repeat' constructor)); (exact (by repeat' constructor)); exact rfl; exact rfl; exact rfl; (first | assumption | omega | (simp; omega)); intro _ _ _ _) | (apply x_move; exact rfl; exact rfl; (exact (by repeat' constructor))) | (apply x_assign; exact rfl; exact rfl; (exact (by repeat' constructor))) | (apply x_fieldB; exact rfl; exact rfl; exact rfl; exact rfl; (constructor)) | (apply x_load; assumption; exact rfl; exact rfl; exact rfl; (exact (by repeat' constructor)); exact rfl; exact rfl; (exact (by repeat' constructor))) | (apply x_bin; exact rfl; exact rfl; exact rfl; (first | exact .z (.wrap (by omega)) | exact (by repeat' constructor))) | (apply x_alloc; assumption; exact rfl; exact rfl; exact rfl; (exact (by repeat' constructor)); intro _ _ _) | (apply x_store; assumption; exact rfl; exact rfl; (exact (by repeat' constructor)); (exact (by repeat' constructor)); exact rfl; exact rfl; exact rfl; (exact (by repeat' constructor)); intro _ _) | (apply x_extract; exact rfl; exact rfl; exact rfl; (exact (by repeat' constructor))) | (apply x_buildSlice; assumption; exact rfl; exact rfl; exact rfl; (exact (by repeat' constructor)); intro _ _ _) | (apply x_index; exact rfl; exact rfl; exact rfl; exact rfl; exact rfl; (constructor); (first | omega | exact size_pos (by assumption) | assumption); (first | exact rfl | assumption | exact Rd.some_ (by assumption) (by omega) | exact Rd.some_ (Old.rd (by assumption)) (by omega) | exact (Sat.rd (by assumption) (by exact (by repeat' constructor))).some_ (by omega))) | (apply x_loadR; exact rfl; exact rfl; exact rfl; (first | exact Old.now (by assumption) (by assumption) | exact Sat.rdpr (by assumption) (by exact (by repeat' constructor)) | exact Sat.rd (by assumption) (by exact (by repeat' constructor))); (first | omega | exact size_pos (by assumption) | assumption); exact rfl; exact rfl; (exact (by repeat' constructor))) | (apply x_dec; exact rfl; all_goals (intro _; try omega)) | (apply cw_ne; exact rfl; all_goals (intro _; try omega))))
    · rename_i g1 cap1 w2 S2
      have e := dueUp_yes (l := l) (day := day) (k := k) (by rw [hp2]; assumption)
      refine ⟨rfl, (by repeat (first | exact Agree.updl rfl (Agree.mask _ _ _) | refine Agree.upd rfl ?_)), ⟨k + 1, some ⟨g1, 0, none⟩, cap1, hlt, ?_, ?_⟩, ?_⟩
      · rw [e, List.map_append, List.length_append]
        rfl
      · rw [e, List.map_append, List.length_append]
        exact Sat.drop1 (Sat.drop1 S2)
      · show l.length - (k + 1 : Int).toNat < l.length - (k : Int).toNat
        omega
    · have e := dueUp_no (l := l) (day := day) (k := k) (by rw [hp2]; omega)
      refine ⟨rfl, (by repeat (first | exact Agree.updl rfl (Agree.mask _ _ _) | refine Agree.upd rfl ?_)), ⟨k + 1, A', c', hlt, ?_, ?_⟩, ?_⟩
      · rw [e]
        rfl
      · rw [e]
        exact Sat.drop1 (by assumption)
      · show l.length - (k + 1 : Int).toNat < l.length - (k : Int).toNat
        omega
  · have e : k = l.length := by omega
    subst e
    (repeat' (first | apply cw_seq | apply cw_region | apply wl_nil | apply cw_exit | apply cw_ret | (apply x_callC (bd := []) (hc := [.rw 0 (.slice A' ((dueUp l day l.length).map strC).length c') 9 1 ((dueUp l day l.length).map strC)]) (fr := []); assumption; exact rfl; exact rfl; exact rfl; exact e_Compact; (exact (by repeat' constructor)); exact List.Perm.refl _; exact (fun Sc => Compact_c A' c' (dueUp l day l.length) (by omega) _ _ Sc); intro _ w2 S2; replace S2 : Sat w [] [_] w2 := S2) | (apply x_move; exact rfl; exact rfl; (exact (by repeat' constructor))) | (apply x_assign; exact rfl; exact rfl; (exact (by repeat' constructor))) | (apply x_bin; exact rfl; exact rfl; exact rfl; (first | exact .z (.wrap (by omega)) | exact (by repeat' constructor))) | (apply x_dec; exact rfl; all_goals (intro _; try omega))))
    (first | refine q_retS (by assumption) rfl (by repeat (first | exact .nil | (apply RV.tmp; exact (by repeat' constructor)) | (apply RV.cell; exact rfl; exact (by repeat' constructor); exact rfl; exact rfl; exact (by repeat' constructor)))) ?_ | (simp only [thenQ, blockQ]; refine q_retS (by assumption) rfl (by repeat (first | exact .nil | (apply RV.tmp; exact (by repeat' constructor)) | (apply RV.cell; exact rfl; exact (by repeat' constructor); exact rfl; exact rfl; exact (by repeat' constructor)))) ?_))
    exact rowR_xs (V := fun v => .tuple #[v, .int .i64 0]) S2 .head
section
variable {P : Program} {ro : Option Nat} {n : Nat} {Q : Post} {D : List Deferred} {f : Fm} {w w0 : World} {M : List Nat} {h : List HO}
theorem r_ltS {x y : Operand} {o : Oper} {T T' : TypeId} {a b : ByteArray} (hop : o.op = .binOp .lss T x y T') (hx : fev f x = .string a) (hy : fev f y = .string b) : (execOp (fev f) o).run P w = .ok (.value (.bool (decide (sl a b = true)))) w := by
  have h : (execOp (fev f) o).run P w = .ok (.value (.bool (Op.bytesLess a.toList b.toList))) w := by
    unfold execOp
    rw [hop]
    simp only [hx, hy]
    rfl
  rw [h, Bool.decide_eq_true]
theorem y_ltS {ops : Array Oper} {prest : List (Nat × Oper)} {d ty : Nat} {ps : String} {af : Array Edge} {gd : Option (Nat × Bool)} {x y : Operand} {T T' : TypeId} {a b : ByteArray} (hg : want ops f ⟨some d, .binOp .lss T x y T', ty, ps, af, gd⟩ = true) (hx : fev f x = .string a) (hy : fev f y = .string b)
    (k : PV P ro ops Q w0 M h prest D (upd f d (.bool (decide (sl a b = true))))) : PV P ro ops Q w0 M h ((0, ⟨some d, .binOp .lss T x y T', ty, ps, af, gd⟩) :: prest) D f :=
  y_val hg rfl (fun _ _ => r_ltS rfl hx hy) (.z .bool) k
end
set_option maxRecDepth 100000 in
theorem e_rCheckR : Ent Try.prog 21 := fun _ _ => rfl
set_option maxRecDepth 4000 in
set_option maxHeartbeats 20000000 in
theorem rCheckR_c (A : Option Addr) (c : Nat) (l : List Rc) (hl : l.length ≤ 9223372036854775807) (ho : ∀ i, i < l.length → (rat l i).ok) (w : World) (R : Rd w A 6 l.length (fun i => rcC (l.getD i rc0))) : Calls Try.prog 21 #[.slice A l.length c] w (RetP (Val (.int .i64 (ckE l)) w)) := by
  refine calls_of_cw (args := [.slice A l.length c]) Try.func21 rfl rfl ?_
  have S := Sat.start [] w
  have O := (R).old
  (repeat' (first | apply cw_seq | apply cw_region | apply wl_nil | apply cw_block | apply cw_skip | apply cw_ret | (apply x_move; exact rfl; exact rfl; (exact (by repeat' constructor))) | (apply x_assign; exact rfl; exact rfl; (exact (by repeat' constructor))) | (apply x_bin; exact rfl; exact rfl; exact rfl; (first | exact .z (.wrap (by omega)) | exact (by repeat' constructor))) | (apply x_builtin; exact rfl; exact rfl; exact (fun _ => rfl); (exact (by repeat' constructor))) | (apply x_dec; exact rfl; all_goals (intro _; try omega))))
  · (first | refine q_retS (by assumption) rfl (by repeat (first | exact .nil | (apply RV.tmp; exact (by repeat' constructor)) | (apply RV.cell; exact rfl; exact (by repeat' constructor); exact rfl; exact rfl; exact (by repeat' constructor)))) ?_ | (simp only [thenQ, blockQ]; refine q_retS (by assumption) rfl (by repeat (first | exact .nil | (apply RV.tmp; exact (by repeat' constructor)) | (apply RV.cell; exact rfl; exact (by repeat' constructor); exact rfl; exact rfl; exact (by repeat' constructor)))) ?_))
    refine ⟨?_, Sat.keeps (by assumption)⟩
    rw [ckE, if_pos (by omega)]
    rfl
  rename_i h256
  refine cw_loop [2, 3, 4, 8, 9, 10, 11, 12, 13, 14, 15, 16, 17, 18, 19, 20, 21, 22, 23, 24, 25, 26, 27, 28, 29, 30, 31, 32, 33, 34, 35, 36, 37, 38, 39, 40, 41, 42, 43, 44, 45, 46, 47, 48, 49, 50, 51, 52, 53, 54, 55, 56, 57, 58, 59, 60, 61, 62, 63, 64, 65] [3] (fun us wr => ∃ k : Nat, k ≤ l.length ∧ us = [.int .i64 k] ∧ Sat w [] [] wr ∧ ckE l = fstE (chkAt l) (l.length - k) k) (fun us _ => l.length - (intOf (us.getD 0 undef)).toNat) ?_ ?_
  · exact ⟨0, by omega, rfl, by assumption, by rw [ckE, if_neg (by omega)]; rfl⟩
  clear S
  rintro g' us wr ⟨k, hk, rfl, Sr, hfe⟩
  by_cases hlt : k < l.length
  · by_cases h0 : k = 0
    · subst h0
      (repeat' (first | apply cw_seq | apply cw_region | apply wl_nil | apply cw_block | apply cw_skip | apply cw_ret | (apply y_gdec; exact rfl; exact rfl; all_goals (intro _; try omega)) | (apply x_callv; assumption; exact rfl; exact rfl; exact rfl; exact e_rright; (exact (by repeat' constructor)); with_reducible exact (rright_at ho hlt _); intro _ _ _) | (apply cw_draw (id := 9) [(0, 0), (1, 0), (2, 0), (3, 0), (4, 0), (5, 0), (6, 0), (7, 0), (8, 0), (9, 0), (10, 0), (11, 0), (12, 0), (13, 0), (14, 0), (15, 0), (16, 0), (17, 0), (18, 0), (19, 0), (20, 0), (21, 0), (22, 0), (23, 0), (24, 0), (25, 0), (26, 0), (27, 0), (28, 0), (29, 0), (30, 0), (31, 0), (32, 0), (33, 0), (34, 0), (35, 0), (36, 0), (37, 0), (38, 0), (39, 0), (40, 0), (41, 0), (42, 0), (43, 0)]; assumption; exact mixed; kernel_rfl) | (apply x_move; exact rfl; exact rfl; (exact (by repeat' constructor))) | (apply x_assign; exact rfl; exact rfl; (exact (by repeat' constructor))) | (apply x_bin; exact rfl; exact rfl; exact rfl; (first | exact .z (.wrap (by omega)) | exact (by repeat' constructor))) | (apply x_builtin; exact rfl; exact rfl; exact (fun _ => rfl); (exact (by repeat' constructor))) | (apply x_index; exact rfl; exact rfl; exact rfl; exact rfl; exact rfl; (constructor); (first | omega | exact size_pos (by assumption) | assumption); (first | exact rfl | assumption | exact Rd.some_ (by assumption) (by omega) | exact Rd.some_ (Old.rd (by assumption)) (by omega) | exact (Sat.rd (by assumption) (by exact (by repeat' constructor))).some_ (by omega))) | (apply x_loadR; exact rfl; exact rfl; exact rfl; (first | exact Old.now (by assumption) (by assumption) | exact Sat.rdpr (by assumption) (by exact (by repeat' constructor)) | exact Sat.rd (by assumption) (by exact (by repeat' constructor))); (first | omega | exact size_pos (by assumption) | assumption); exact rfl; exact rfl; (exact (by repeat' constructor))) | (apply y_not; exact rfl) | (apply y_move; exact rfl; (exact (by repeat' constructor))) | (apply y_bin; exact rfl; exact (fun _ => rfl); (first | exact .z (.wrap (by omega)) | exact (by repeat' constructor))) | (apply y_pick; exact rfl; exact rfl; (exact (by repeat' constructor))) | (apply y_nil; intro _ _) | (apply cw_false; exact rfl) | (apply x_dec; exact rfl; all_goals (intro _; try omega)) | (apply cw_ne; exact rfl; all_goals (intro _; try omega))))
      · (first | refine q_retS (by assumption) rfl (by repeat (first | exact .nil | (apply RV.tmp; exact (by repeat' constructor)) | (apply RV.cell; exact rfl; exact (by repeat' constructor); exact rfl; exact rfl; exact (by repeat' constructor)))) ?_ | (simp only [thenQ, blockQ]; refine q_retS (by assumption) rfl (by repeat (first | exact .nil | (apply RV.tmp; exact (by repeat' constructor)) | (apply RV.cell; exact rfl; exact (by repeat' constructor); exact rfl; exact rfl; exact (by repeat' constructor)))) ?_))
        refine ⟨?_, Sat.keeps (by assumption)⟩
        rw [hfe, fstE_no hlt (chk_rec (by assumption)), chk_rec' (by assumption)]
        rfl
      · refine ⟨rfl, (by repeat (first | exact Agree.updl rfl (Agree.mask _ _ _) | refine Agree.upd rfl ?_)), ⟨1, hlt, rfl, (by assumption), ?_⟩, ?_⟩
        · rw [hfe, fstE_yes hlt (chk_ok (by assumption) (fun h => absurd h.1 (Nat.lt_irrefl 0)))]
        · show l.length - (1 : Int).toNat < l.length - (0 : Int).toNat
          omega
    · obtain ⟨j, rfl⟩ : ∃ j, k = j + 1 := ⟨k - 1, by omega⟩
      have hp : j < l.length := by omega
      (repeat' (first | apply cw_seq | apply cw_region | apply wl_nil | apply cw_block | apply cw_skip | apply cw_ret | (apply y_gdec; exact rfl; exact rfl; all_goals (intro _; try omega)) | (apply y_ltS; exact rfl; exact rfl; exact rfl) | (apply y_fieldE; exact rfl; exact rfl; exact rfl; (constructor)) | (apply x_callv; assumption; exact rfl; exact rfl; exact rfl; exact e_rright; (exact (by repeat' constructor)); with_reducible exact (rright_at ho hlt _); intro _ _ _) | (apply y_bin; exact rfl; exact (fun _ => rfl); exact is_sub1 (by omega)) | (apply cw_draw (id := 9) [(0, 0), (1, 0), (2, 0), (3, 0), (4, 0), (5, 0), (6, 0), (7, 0), (8, 0), (9, 0), (10, 0), (11, 0), (12, 0), (13, 0), (14, 0), (15, 0), (16, 0), (17, 0), (18, 0), (19, 0), (20, 0), (21, 0), (22, 0), (23, 0), (24, 0), (25, 0), (26, 0), (27, 0), (28, 0), (29, 0), (30, 0), (31, 0), (32, 0), (33, 0), (34, 0), (35, 0), (36, 0), (37, 0), (38, 0), (39, 0), (40, 0), (41, 0), (42, 0), (43, 0)]; assumption; exact mixed; kernel_rfl) | (apply x_move; exact rfl; exact rfl; (exact (by repeat' constructor))) | (apply x_assign; exact rfl; exact rfl; (exact (by repeat' constructor))) | (apply x_bin; exact rfl; exact rfl; exact rfl; (first | exact .z (.wrap (by omega)) | exact (by repeat' constructor))) | (apply x_builtin; exact rfl; exact rfl; exact (fun _ => rfl); (exact (by repeat' constructor))) | (apply x_index; exact rfl; exact rfl; exact rfl; exact rfl; exact rfl; (constructor); (first | omega | exact size_pos (by assumption) | assumption); (first | exact rfl | assumption | exact Rd.some_ (by assumption) (by omega) | exact Rd.some_ (Old.rd (by assumption)) (by omega) | exact (Sat.rd (by assumption) (by exact (by repeat' constructor))).some_ (by omega))) | (apply x_loadR; exact rfl; exact rfl; exact rfl; (first | exact Old.now (by assumption) (by assumption) | exact Sat.rdpr (by assumption) (by exact (by repeat' constructor)) | exact Sat.rd (by assumption) (by exact (by repeat' constructor))); (first | omega | exact size_pos (by assumption) | assumption); exact rfl; exact rfl; (exact (by repeat' constructor))) | (apply y_eqStr; exact rfl; exact rfl; exact rfl) | (apply y_not; exact rfl) | (apply y_move; exact rfl; (exact (by repeat' constructor))) | (apply y_bin; exact rfl; exact (fun _ => rfl); (first | exact .z (.wrap (by omega)) | exact (by repeat' constructor))) | (apply y_pick; exact rfl; exact rfl; (exact (by repeat' constructor))) | (apply y_index; exact rfl; exact rfl; exact rfl; exact rfl; (constructor); (first | omega | exact size_pos (by assumption) | assumption); (first | exact rfl | assumption | exact Rd.some_ (by assumption) (by omega) | exact Rd.some_ (Old.rd (by assumption)) (by omega) | exact (Sat.rd (by assumption) (by exact (by repeat' constructor))).some_ (by omega))) | (apply y_loadR; exact rfl; exact rfl; assumption; (first | omega | exact size_pos (by assumption) | assumption); exact rfl; exact rfl; (exact (by repeat' constructor))) | (apply y_nil; intro _ _) | (apply cw_true; exact rfl) | (apply cw_false; exact rfl) | (apply x_dec; exact rfl; all_goals (intro _; try omega)) | (apply cw_ne; exact rfl; all_goals (intro _; try omega))))
      · (first | refine q_retS (by assumption) rfl (by repeat (first | exact .nil | (apply RV.tmp; exact (by repeat' constructor)) | (apply RV.cell; exact rfl; exact (by repeat' constructor); exact rfl; exact rfl; exact (by repeat' constructor)))) ?_ | (simp only [thenQ, blockQ]; refine q_retS (by assumption) rfl (by repeat (first | exact .nil | (apply RV.tmp; exact (by repeat' constructor)) | (apply RV.cell; exact rfl; exact (by repeat' constructor); exact rfl; exact rfl; exact (by repeat' constructor)))) ?_))
        refine ⟨?_, Sat.keeps (by assumption)⟩
        rw [hfe, fstE_no hlt (chk_rec (by assumption)), chk_rec' (by assumption)]
        rfl
      any_goals
        (first | refine q_retS (by assumption) rfl (by repeat (first | exact .nil | (apply RV.tmp; exact (by repeat' constructor)) | (apply RV.cell; exact rfl; exact (by repeat' constructor); exact rfl; exact rfl; exact (by repeat' constructor)))) ?_ | (simp only [thenQ, blockQ]; refine q_retS (by assumption) rfl (by repeat (first | exact .nil | (apply RV.tmp; exact (by repeat' constructor)) | (apply RV.cell; exact rfl; exact (by repeat' constructor); exact rfl; exact rfl; exact (by repeat' constructor)))) ?_))
        refine ⟨?_, Sat.keeps (by assumption)⟩
        have hb : badAt l (j + 1) := ⟨by omega, by first | exact .inl (by assumption) | exact .inr ⟨by assumption, by assumption⟩⟩
        rw [hfe, fstE_no hlt (by rw [chk_bad (by assumption) hb]; decide), chk_bad (by assumption) hb]
        rfl
      all_goals
        refine ⟨rfl, (by repeat (first | exact Agree.updl rfl (Agree.mask _ _ _) | refine Agree.upd rfl ?_)), ⟨j + 1 + 1, hlt, rfl, (by assumption), ?_⟩, ?_⟩
        · rw [hfe, fstE_yes hlt (chk_ok (by assumption) (by
            rintro ⟨_, hb | ⟨hb, hc⟩⟩
            · rw [show (j + 1 - 1) = j from rfl] at hb; simp_all
            · first | exact absurd hb (by assumption) | exact absurd hc (by assumption)))]
        · show l.length - (j + 1 + 1 : Int).toNat < l.length - ((j + 1 : Nat) : Int).toNat
          omega
  · (repeat' (first | apply cw_seq | apply cw_region | apply wl_nil | apply cw_exit | apply cw_ret | (apply x_move; exact rfl; exact rfl; (exact (by repeat' constructor))) | (apply x_assign; exact rfl; exact rfl; (exact (by repeat' constructor))) | (apply x_bin; exact rfl; exact rfl; exact rfl; (first | exact .z (.wrap (by omega)) | exact (by repeat' constructor))) | (apply x_builtin; exact rfl; exact rfl; exact (fun _ => rfl); (exact (by repeat' constructor))) | (apply x_dec; exact rfl; all_goals (intro _; try omega))))
    (first | refine q_retS (by assumption) rfl (by repeat (first | exact .nil | (apply RV.tmp; exact (by repeat' constructor)) | (apply RV.cell; exact rfl; exact (by repeat' constructor); exact rfl; exact rfl; exact (by repeat' constructor)))) ?_ | (simp only [thenQ, blockQ]; refine q_retS (by assumption) rfl (by repeat (first | exact .nil | (apply RV.tmp; exact (by repeat' constructor)) | (apply RV.cell; exact rfl; exact (by repeat' constructor); exact rfl; exact rfl; exact (by repeat' constructor)))) ?_))
    refine ⟨?_, Sat.keeps (by assumption)⟩
    rw [hfe, fstE_end hlt]
    rfl
set_option maxRecDepth 100000 in
theorem e_EqualS : Ent Try.prog 25 := fun _ _ => rfl
set_option maxRecDepth 4000 in
set_option maxHeartbeats 2000000 in
theorem EqualS_c (A B : Option Addr) (c c' : Nat) (xs : List ByteArray) (hx : xs.length ≤ 9223372036854775807) (w : World) (R1 : Rd w A 1 xs.length (fun i => strC (xs.getD i nul))) (R2 : Rd w B 1 xs.length (fun i => strC (xs.getD i nul))) : Calls Try.prog 25 #[.slice A xs.length c, .slice B xs.length c'] w (RetP (Val (.bool true) w)) := by
  refine calls_of_cw (args := [.slice A xs.length c, .slice B xs.length c']) Try.func25 rfl rfl ?_
  have S := Sat.start [] w
  have O1 := (R1).old
  have O2 := (R2).old
  (repeat' (first | apply cw_seq | apply cw_region | apply wl_nil | apply cw_block | apply cw_skip | (apply x_move; exact rfl; exact rfl; (exact (by repeat' constructor))) | (apply x_assign; exact rfl; exact rfl; (exact (by repeat' constructor))) | (apply x_bin; exact rfl; exact rfl; exact rfl; (first | exact .z (.wrap (by omega)) | exact (by repeat' constructor))) | (apply x_builtin; exact rfl; exact rfl; exact (fun _ => rfl); (exact (by repeat' constructor))) | (apply cw_ne; exact rfl; all_goals (intro _; try omega))))
  refine cw_loop [4, 5, 13, 14, 15, 16, 17, 18, 19, 20, 21, 22, 23, 24, 25] [13] (fun us wr => ∃ k : Nat, k ≤ xs.length ∧ us = [.int .i64 k] ∧ Sat w [] [] wr) (fun us _ => xs.length - (intOf (us.getD 0 undef)).toNat) ?_ ?_
  · exact ⟨0, by omega, rfl, S⟩
  clear S
  rintro g' us wr ⟨k, hk, rfl, Sr⟩
  by_cases hlt : k < xs.length
  · (repeat' (first | apply cw_seq | apply cw_region | apply wl_nil | apply cw_block | apply cw_skip | apply cw_ret | (apply cw_draw (id := 6) [(0, 0), (1, 0), (2, 0), (3, 0), (4, 0), (5, 0), (6, 0), (7, 0), (8, 0)]; assumption; exact mixed; kernel_rfl) | (apply x_move; exact rfl; exact rfl; (exact (by repeat' constructor))) | (apply x_assign; exact rfl; exact rfl; (exact (by repeat' constructor))) | (apply x_bin; exact rfl; exact rfl; exact rfl; (first | exact .z (.wrap (by omega)) | exact (by repeat' constructor))) | (apply y_neStr; exact rfl; exact rfl; exact rfl) | (apply y_move; exact rfl; (exact (by repeat' constructor))) | (apply y_index; exact rfl; exact rfl; exact rfl; exact rfl; (constructor); (first | omega | exact size_pos (by assumption) | assumption); (first | exact rfl | assumption | exact Rd.some_ (by assumption) (by omega) | exact Rd.some_ (Old.rd (by assumption)) (by omega) | exact (Sat.rd (by assumption) (by exact (by repeat' constructor))).some_ (by omega))) | (apply y_loadR; exact rfl; exact rfl; assumption; (first | omega | exact size_pos (by assumption) | assumption); exact rfl; exact rfl; (exact (by repeat' constructor))) | (apply y_nil; intro _ _) | (apply x_dec; exact rfl; all_goals (intro _; try omega))))
    all_goals first
      | (exfalso; simp_all; done)
      | (refine ⟨rfl, (by repeat (first | exact Agree.updl rfl (Agree.mask _ _ _) | refine Agree.upd rfl ?_)), ⟨k + 1, hlt, rfl, by assumption⟩, ?_⟩
         show xs.length - (k + 1 : Int).toNat < xs.length - (k : Int).toNat
         omega)
  · (repeat' (first | apply cw_seq | apply cw_region | apply wl_nil | apply cw_exit | apply cw_ret | (apply x_assign; exact rfl; exact rfl; (exact (by repeat' constructor))) | (apply x_bin; exact rfl; exact rfl; exact rfl; (first | exact .z (.wrap (by omega)) | exact (by repeat' constructor))) | (apply x_dec; exact rfl; all_goals (intro _; try omega))))
    (first | refine q_retS (by assumption) rfl (by repeat (first | exact .nil | (apply RV.tmp; exact (by repeat' constructor)) | (apply RV.cell; exact rfl; exact (by repeat' constructor); exact rfl; exact rfl; exact (by repeat' constructor)))) ?_ | (simp only [thenQ, blockQ]; refine q_retS (by assumption) rfl (by repeat (first | exact .nil | (apply RV.tmp; exact (by repeat' constructor)) | (apply RV.cell; exact rfl; exact (by repeat' constructor); exact rfl; exact rfl; exact (by repeat' constructor)))) ?_))
    exact ⟨rfl, Sat.keeps (by assumption)⟩
set_option maxRecDepth 100000 in
theorem e_IndexI : Ent Try.prog 40 := fun _ _ => rfl
set_option maxRecDepth 4000 in
set_option maxHeartbeats 2000000 in
theorem IndexI_c (A : Option Addr) (c : Nat) (xs : List Nat) (hx : xs.length ≤ 9223372036854775807) (v : Nat) (w : World) (R : Rd w A 1 xs.length (fun i => natC (xs.getD i 0))) : Calls Try.prog 40 #[.slice A xs.length c, .int .i64 (v : Int)] w (RetP (Val (.int .i64 (idxG (fun x => x = v) xs 0)) w)) := by
  refine calls_of_cw (args := [.slice A xs.length c, .int .i64 (v : Int)]) Try.func40 rfl rfl ?_
  have S := Sat.start [] w
  have O := (R).old
  (repeat' (first | apply cw_seq | apply cw_region | apply wl_nil | apply cw_block | (apply x_move; exact rfl; exact rfl; (exact (by repeat' constructor))) | (apply x_assign; exact rfl; exact rfl; (exact (by repeat' constructor))) | (apply x_builtin; exact rfl; exact rfl; exact (fun _ => rfl); (exact (by repeat' constructor)))))
  refine cw_loop [4, 5, 8, 9, 10, 11, 12, 13, 14, 15, 16, 17, 18] [8] (fun us wr => ∃ k : Nat, k ≤ xs.length ∧ us = [.int .i64 k] ∧ idxG (fun x => x = v) xs 0 = idxG (fun x => x = v) (xs.drop k) k ∧ Sat w [] [] wr) (fun us _ => xs.length - (intOf (us.getD 0 undef)).toNat) ?_ ?_
  · exact ⟨0, by omega, rfl, rfl, S⟩
  clear S
  rintro g' us wr ⟨k, hk, rfl, hix, Sr⟩
  by_cases hlt : k < xs.length
  · rw [drop_getD hlt 0] at hix
    (repeat' (first | apply cw_seq | apply cw_region | apply wl_nil | apply cw_block | apply cw_skip | apply cw_ret | (apply x_move; exact rfl; exact rfl; (exact (by repeat' constructor))) | (apply x_assign; exact rfl; exact rfl; (exact (by repeat' constructor))) | (apply x_bin; exact rfl; exact rfl; exact rfl; (first | exact .z (.wrap (by omega)) | exact (by repeat' constructor))) | (apply x_index; exact rfl; exact rfl; exact rfl; exact rfl; exact rfl; (constructor); (first | omega | exact size_pos (by assumption) | assumption); (first | exact rfl | assumption | exact Rd.some_ (by assumption) (by omega) | exact Rd.some_ (Old.rd (by assumption)) (by omega) | exact (Sat.rd (by assumption) (by exact (by repeat' constructor))).some_ (by omega))) | (apply x_loadR; exact rfl; exact rfl; exact rfl; (first | exact Old.now (by assumption) (by assumption) | exact Sat.rdpr (by assumption) (by exact (by repeat' constructor)) | exact Sat.rd (by assumption) (by exact (by repeat' constructor))); (first | omega | exact size_pos (by assumption) | assumption); exact rfl; exact rfl; (exact (by repeat' constructor))) | (apply x_dec; exact rfl; all_goals (intro _; try omega))))
    · rw [hix, idxG_yes (by first | (simp_all; done) | omega)]
      (first | refine q_retS (by assumption) rfl (by repeat (first | exact .nil | (apply RV.tmp; exact (by repeat' constructor)) | (apply RV.cell; exact rfl; exact (by repeat' constructor); exact rfl; exact rfl; exact (by repeat' constructor)))) ?_ | (simp only [thenQ, blockQ]; refine q_retS (by assumption) rfl (by repeat (first | exact .nil | (apply RV.tmp; exact (by repeat' constructor)) | (apply RV.cell; exact rfl; exact (by repeat' constructor); exact rfl; exact rfl; exact (by repeat' constructor)))) ?_))
      exact ⟨rfl, Sat.keeps (by assumption)⟩
    · refine ⟨rfl, (by repeat (first | exact Agree.updl rfl (Agree.mask _ _ _) | refine Agree.upd rfl ?_)), ⟨k + 1, hlt, rfl, by rw [hix, idxG_no (by first | omega | (intro e; simp_all; done))], by assumption⟩, ?_⟩
      show xs.length - (k + 1 : Int).toNat < xs.length - (k : Int).toNat
      omega
  · (repeat' (first | apply cw_seq | apply cw_region | apply wl_nil | apply cw_exit | apply cw_ret | (apply x_assign; exact rfl; exact rfl; (exact (by repeat' constructor))) | (apply x_bin; exact rfl; exact rfl; exact rfl; (first | exact .z (.wrap (by omega)) | exact (by repeat' constructor))) | (apply x_dec; exact rfl; all_goals (intro _; try omega))))
    rw [hix, show k = xs.length by omega, List.drop_length]
    (first | refine q_retS (by assumption) rfl (by repeat (first | exact .nil | (apply RV.tmp; exact (by repeat' constructor)) | (apply RV.cell; exact rfl; exact (by repeat' constructor); exact rfl; exact rfl; exact (by repeat' constructor)))) ?_ | (simp only [thenQ, blockQ]; refine q_retS (by assumption) rfl (by repeat (first | exact .nil | (apply RV.tmp; exact (by repeat' constructor)) | (apply RV.cell; exact rfl; exact (by repeat' constructor); exact rfl; exact rfl; exact (by repeat' constructor)))) ?_))
    exact ⟨rfl, Sat.keeps (by assumption)⟩
set_option maxRecDepth 100000 in
theorem e_IndexS : Ent Try.prog 29 := fun _ _ => rfl
set_option maxRecDepth 4000 in
set_option maxHeartbeats 2000000 in
theorem IndexS_c (A : Option Addr) (c : Nat) (xs : List ByteArray) (hx : xs.length ≤ 9223372036854775807) (v : ByteArray) (w : World) (R : Rd w A 1 xs.length (fun i => strC (xs.getD i nul))) : Calls Try.prog 29 #[.slice A xs.length c, .string v] w (RetP (Val (.int .i64 (idxG (fun x => x = v) xs 0)) w)) := by
  refine calls_of_cw (args := [.slice A xs.length c, .string v]) Try.func29 rfl rfl ?_
  have S := Sat.start [] w
  have O := (R).old
  (repeat' (first | apply cw_seq | apply cw_region | apply wl_nil | apply cw_block | (apply x_move; exact rfl; exact rfl; (exact (by repeat' constructor))) | (apply x_assign; exact rfl; exact rfl; (exact (by repeat' constructor))) | (apply x_builtin; exact rfl; exact rfl; exact (fun _ => rfl); (exact (by repeat' constructor)))))
  refine cw_loop [4, 5, 8, 9, 10, 11, 12, 13, 14, 15, 16, 17, 18] [8] (fun us wr => ∃ k : Nat, k ≤ xs.length ∧ us = [.int .i64 k] ∧ idxG (fun x => x = v) xs 0 = idxG (fun x => x = v) (xs.drop k) k ∧ Sat w [] [] wr) (fun us _ => xs.length - (intOf (us.getD 0 undef)).toNat) ?_ ?_
  · exact ⟨0, by omega, rfl, rfl, S⟩
  clear S
  rintro g' us wr ⟨k, hk, rfl, hix, Sr⟩
  by_cases hlt : k < xs.length
  · rw [drop_getD hlt nul] at hix
    (repeat' (first | apply cw_seq | apply cw_region | apply wl_nil | apply cw_block | apply cw_skip | apply cw_ret | (apply x_move; exact rfl; exact rfl; (exact (by repeat' constructor))) | (apply x_assign; exact rfl; exact rfl; (exact (by repeat' constructor))) | (apply x_eqStr; exact rfl; exact rfl; exact rfl; exact rfl) | (apply x_bin; exact rfl; exact rfl; exact rfl; (first | exact .z (.wrap (by omega)) | exact (by repeat' constructor))) | (apply x_index; exact rfl; exact rfl; exact rfl; exact rfl; exact rfl; (constructor); (first | omega | exact size_pos (by assumption) | assumption); (first | exact rfl | assumption | exact Rd.some_ (by assumption) (by omega) | exact Rd.some_ (Old.rd (by assumption)) (by omega) | exact (Sat.rd (by assumption) (by exact (by repeat' constructor))).some_ (by omega))) | (apply x_loadR; exact rfl; exact rfl; exact rfl; (first | exact Old.now (by assumption) (by assumption) | exact Sat.rdpr (by assumption) (by exact (by repeat' constructor)) | exact Sat.rd (by assumption) (by exact (by repeat' constructor))); (first | omega | exact size_pos (by assumption) | assumption); exact rfl; exact rfl; (exact (by repeat' constructor))) | (apply x_dec; exact rfl; all_goals (intro _; try omega))))
    · rw [hix, idxG_yes (by first | (simp_all; done) | omega)]
      (first | refine q_retS (by assumption) rfl (by repeat (first | exact .nil | (apply RV.tmp; exact (by repeat' constructor)) | (apply RV.cell; exact rfl; exact (by repeat' constructor); exact rfl; exact rfl; exact (by repeat' constructor)))) ?_ | (simp only [thenQ, blockQ]; refine q_retS (by assumption) rfl (by repeat (first | exact .nil | (apply RV.tmp; exact (by repeat' constructor)) | (apply RV.cell; exact rfl; exact (by repeat' constructor); exact rfl; exact rfl; exact (by repeat' constructor)))) ?_))
      exact ⟨rfl, Sat.keeps (by assumption)⟩
    · refine ⟨rfl, (by repeat (first | exact Agree.updl rfl (Agree.mask _ _ _) | refine Agree.upd rfl ?_)), ⟨k + 1, hlt, rfl, by rw [hix, idxG_no (by first | omega | (intro e; simp_all; done))], by assumption⟩, ?_⟩
      show xs.length - (k + 1 : Int).toNat < xs.length - (k : Int).toNat
      omega
  · (repeat' (first | apply cw_seq | apply cw_region | apply wl_nil | apply cw_exit | apply cw_ret | (apply x_assign; exact rfl; exact rfl; (exact (by repeat' constructor))) | (apply x_bin; exact rfl; exact rfl; exact rfl; (first | exact .z (.wrap (by omega)) | exact (by repeat' constructor))) | (apply x_dec; exact rfl; all_goals (intro _; try omega))))
    rw [hix, show k = xs.length by omega, List.drop_length]
    (first | refine q_retS (by assumption) rfl (by repeat (first | exact .nil | (apply RV.tmp; exact (by repeat' constructor)) | (apply RV.cell; exact rfl; exact (by repeat' constructor); exact rfl; exact rfl; exact (by repeat' constructor)))) ?_ | (simp only [thenQ, blockQ]; refine q_retS (by assumption) rfl (by repeat (first | exact .nil | (apply RV.tmp; exact (by repeat' constructor)) | (apply RV.cell; exact rfl; exact (by repeat' constructor); exact rfl; exact rfl; exact (by repeat' constructor)))) ?_))
    exact ⟨rfl, Sat.keeps (by assumption)⟩
noncomputable def memB {α : Type} (v : α) (xs : List α) : Bool := @decide (v ∈ xs) (Classical.propDecidable _)
theorem memB_iff {α : Type} {v : α} {xs : List α} : memB v xs = true ↔ v ∈ xs := by simp [memB]
set_option maxRecDepth 100000 in
theorem e_ContainsI : Ent Try.prog 18 := fun _ _ => rfl
set_option maxRecDepth 4000 in
set_option maxHeartbeats 2000000 in
theorem ContainsI_c (A : Option Addr) (c : Nat) (xs : List Nat) (hx : xs.length ≤ 9223372036854775807) (v : Nat) (w : World) (R : Rd w A 1 xs.length (fun i => natC (xs.getD i 0))) : Calls Try.prog 18 #[.slice A xs.length c, .int .i64 (v : Int)] w (RetP (Val (.bool (memB v xs)) w)) := by
  refine calls_of_cw (args := [.slice A xs.length c, .int .i64 (v : Int)]) Try.func18 rfl rfl ?_
  have S := Sat.start [] w
  have O := (R).old
  (repeat' (first | apply cw_seq | apply cw_region | apply wl_nil | apply cw_ret | (apply x_callv; assumption; exact rfl; exact rfl; exact rfl; exact e_IndexI; (exact (by repeat' constructor)); with_reducible exact (IndexI_c A c xs hx v _ (Old.now O (by assumption))); intro _ _ _) | (apply x_move; exact rfl; exact rfl; (exact (by repeat' constructor))) | (apply x_assign; exact rfl; exact rfl; (exact (by repeat' constructor))) | (apply x_bin; exact rfl; exact rfl; exact rfl; (first | exact .z (.wrap (by omega)) | exact (by repeat' constructor)))))
  all_goals (first | refine q_retS (by assumption) rfl (by repeat (first | exact .nil | (apply RV.tmp; exact (by repeat' constructor)) | (apply RV.cell; exact rfl; exact (by repeat' constructor); exact rfl; exact rfl; exact (by repeat' constructor)))) ?_ | (simp only [thenQ, blockQ]; refine q_retS (by assumption) rfl (by repeat (first | exact .nil | (apply RV.tmp; exact (by repeat' constructor)) | (apply RV.cell; exact rfl; exact (by repeat' constructor); exact rfl; exact rfl; exact (by repeat' constructor)))) ?_))
  refine ⟨?_, Sat.keeps (by assumption)⟩
  have h := idxG_iff (φ := fun x => x = v) xs 0
  show Value.bool _ = Value.bool _
  congr 1
  rw [Bool.eq_iff_iff, memB_iff, decide_eq_true_eq]
  simp [h]
set_option maxRecDepth 100000 in
theorem e_ContainsS : Ent Try.prog 10 := fun _ _ => rfl
set_option maxRecDepth 4000 in
set_option maxHeartbeats 2000000 in
theorem ContainsS_c (A : Option Addr) (c : Nat) (xs : List ByteArray) (hx : xs.length ≤ 9223372036854775807) (v : ByteArray) (w : World) (R : Rd w A 1 xs.length (fun i => strC (xs.getD i nul))) : Calls Try.prog 10 #[.slice A xs.length c, .string v] w (RetP (Val (.bool (memB v xs)) w)) := by
  refine calls_of_cw (args := [.slice A xs.length c, .string v]) Try.func10 rfl rfl ?_
  have S := Sat.start [] w
  have O := (R).old
  (repeat' (first | apply cw_seq | apply cw_region | apply wl_nil | apply cw_ret | (apply x_callv; assumption; exact rfl; exact rfl; exact rfl; exact e_IndexS; (exact (by repeat' constructor)); with_reducible exact (IndexS_c A c xs hx v _ (Old.now O (by assumption))); intro _ _ _) | (apply x_move; exact rfl; exact rfl; (exact (by repeat' constructor))) | (apply x_assign; exact rfl; exact rfl; (exact (by repeat' constructor))) | (apply x_bin; exact rfl; exact rfl; exact rfl; (first | exact .z (.wrap (by omega)) | exact (by repeat' constructor)))))
  all_goals (first | refine q_retS (by assumption) rfl (by repeat (first | exact .nil | (apply RV.tmp; exact (by repeat' constructor)) | (apply RV.cell; exact rfl; exact (by repeat' constructor); exact rfl; exact rfl; exact (by repeat' constructor)))) ?_ | (simp only [thenQ, blockQ]; refine q_retS (by assumption) rfl (by repeat (first | exact .nil | (apply RV.tmp; exact (by repeat' constructor)) | (apply RV.cell; exact rfl; exact (by repeat' constructor); exact rfl; exact rfl; exact (by repeat' constructor)))) ?_))
  refine ⟨?_, Sat.keeps (by assumption)⟩
  have h := idxG_iff (φ := fun x => x = v) xs 0
  show Value.bool _ = Value.bool _
  congr 1
  rw [Bool.eq_iff_iff, memB_iff, decide_eq_true_eq]
  simp [h]
/-! ### few records -/
def fewP (l : List Rc) : Prop := ¬ (12 < l.length ∧ l.length ≤ 256 ∨ 512 < l.length) ∧ ∀ i, i < l.length → (rat l i).nm.size ≤ 60 ∧ (rat l i).bn.size ≤ 60
noncomputable def fewB (l : List Rc) : Bool := @decide (fewP l) (Classical.propDecidable _)
theorem fewB_no {l : List Rc} (h : ¬ fewP l) : fewB l = false := by simp [fewB, h]
theorem fewB_yes {l : List Rc} (h : fewP l) : fewB l = true := by simp [fewB, h]
theorem fewB_iff {l : List Rc} : fewB l = true ↔ fewP l := by simp [fewB]
set_option maxRecDepth 100000 in
theorem e_rFew : Ent Try.prog 20 := fun _ _ => rfl
set_option maxRecDepth 4000 in
set_option maxHeartbeats 2000000 in
theorem rFew_c (A : Option Addr) (c : Nat) (l : List Rc) (hl : l.length ≤ 9223372036854775807) (ho : ∀ i, i < l.length → (rat l i).ok) (w : World) (R : Rd w A 6 l.length (fun i => rcC (l.getD i rc0))) : Calls Try.prog 20 #[.slice A l.length c] w (RetP (Val (.bool (fewB l)) w)) := by
  refine calls_of_cw (args := [.slice A l.length c]) Try.func20 rfl rfl ?_
  have S := Sat.start [] w
  have O := (R).old
  (repeat' (first | apply cw_seq | apply cw_region | apply wl_nil | apply cw_block | apply cw_skip | apply cw_ret | (apply x_not; exact rfl; exact rfl) | (apply x_move; exact rfl; exact rfl; (exact (by repeat' constructor))) | (apply x_assign; exact rfl; exact rfl; (exact (by repeat' constructor))) | (apply x_bin; exact rfl; exact rfl; exact rfl; (first | exact .z (.wrap (by omega)) | exact (by repeat' constructor))) | (apply x_pick; exact rfl; exact rfl; exact rfl; (exact (by repeat' constructor))) | (apply x_builtin; exact rfl; exact rfl; exact (fun _ => rfl); (exact (by repeat' constructor))) | (apply cw_true; exact rfl) | (apply x_dec; exact rfl; all_goals (intro _; try omega)) | (apply x_gdec; exact rfl; exact rfl; all_goals (intro _; try omega))))
  all_goals first
    | ((first | refine q_retS (by assumption) rfl (by repeat (first | exact .nil | (apply RV.tmp; exact (by repeat' constructor)) | (apply RV.cell; exact rfl; exact (by repeat' constructor); exact rfl; exact rfl; exact (by repeat' constructor)))) ?_ | (simp only [thenQ, blockQ]; refine q_retS (by assumption) rfl (by repeat (first | exact .nil | (apply RV.tmp; exact (by repeat' constructor)) | (apply RV.cell; exact rfl; exact (by repeat' constructor); exact rfl; exact rfl; exact (by repeat' constructor)))) ?_))
       refine ⟨?_, Sat.keeps (by assumption)⟩
       rw [fewB_no (by rintro ⟨h1, _⟩; omega)]
       rfl)
    | skip
  all_goals
    refine cw_loop [2, 3, 17, 18, 19, 20, 21, 22, 23, 24, 25, 26, 27, 28, 29, 30, 31, 32, 33, 34, 35, 36, 37, 38] [3] (fun us wr => ∃ k : Nat, k ≤ l.length ∧ us = [.int .i64 k] ∧ (∀ i, i < k → (rat l i).nm.size ≤ 60 ∧ (rat l i).bn.size ≤ 60) ∧ Sat w [] [] wr) (fun us _ => l.length - (intOf (us.getD 0 undef)).toNat) ?_ ?_
    · exact ⟨0, by omega, rfl, fun i hi => by omega, S⟩
    clear S
    rintro g' us wr ⟨k, hk, rfl, hall, Sr⟩
    by_cases hlt : k < l.length
    · have hok := ho k hlt
      (repeat' (first | apply cw_seq | apply cw_region | apply wl_nil | apply cw_block | apply cw_skip | apply cw_ret | (apply x_not; exact rfl; exact rfl) | (apply x_move; exact rfl; exact rfl; (exact (by repeat' constructor))) | (apply x_assign; exact rfl; exact rfl; (exact (by repeat' constructor))) | (apply x_bin; exact rfl; exact rfl; exact rfl; (first | exact .z (.wrap (by omega)) | exact (by repeat' constructor))) | (apply x_pick; exact rfl; exact rfl; exact rfl; (exact (by repeat' constructor))) | (apply x_builtin; exact rfl; exact rfl; exact (fun _ => rfl); (exact (by repeat' constructor))) | (apply x_fieldE; exact rfl; exact rfl; exact rfl; exact rfl; (constructor)) | (apply x_index; exact rfl; exact rfl; exact rfl; exact rfl; exact rfl; (constructor); (first | omega | exact size_pos (by assumption) | assumption); (first | exact rfl | assumption | exact Rd.some_ (by assumption) (by omega) | exact Rd.some_ (Old.rd (by assumption)) (by omega) | exact (Sat.rd (by assumption) (by exact (by repeat' constructor))).some_ (by omega))) | (apply x_loadR; exact rfl; exact rfl; exact rfl; (first | exact Old.now (by assumption) (by assumption) | exact Sat.rdpr (by assumption) (by exact (by repeat' constructor)) | exact Sat.rd (by assumption) (by exact (by repeat' constructor))); (first | omega | exact size_pos (by assumption) | assumption); exact rfl; exact rfl; (exact (by repeat' constructor))) | (apply cw_true; exact rfl) | (apply x_dec; exact rfl; all_goals (intro _; try omega)) | (apply x_gdec; exact rfl; exact rfl; all_goals (intro _; try omega))))
      all_goals first
        | ((first | refine q_retS (by assumption) rfl (by repeat (first | exact .nil | (apply RV.tmp; exact (by repeat' constructor)) | (apply RV.cell; exact rfl; exact (by repeat' constructor); exact rfl; exact rfl; exact (by repeat' constructor)))) ?_ | (simp only [thenQ, blockQ]; refine q_retS (by assumption) rfl (by repeat (first | exact .nil | (apply RV.tmp; exact (by repeat' constructor)) | (apply RV.cell; exact rfl; exact (by repeat' constructor); exact rfl; exact rfl; exact (by repeat' constructor)))) ?_))
           refine ⟨?_, Sat.keeps (by assumption)⟩
           rw [fewB_no (by rintro ⟨_, h1⟩; have h2 : (l.getD k rc0).nm.size ≤ 60 ∧ (l.getD k rc0).bn.size ≤ 60 := h1 k hlt; omega)]
           rfl)
        | (refine ⟨rfl, (by repeat (first | exact Agree.updl rfl (Agree.mask _ _ _) | refine Agree.upd rfl ?_)), ⟨k + 1, hlt, rfl, fun i hi => ?_, by assumption⟩, ?_⟩
           · rcases Nat.lt_succ_iff_lt_or_eq.1 hi with hi | hi
             · exact hall i hi
             · rw [hi]; show (l.getD k rc0).nm.size ≤ 60 ∧ (l.getD k rc0).bn.size ≤ 60; omega
           · show l.length - (k + 1 : Int).toNat < l.length - (k : Int).toNat
             omega)
    · (repeat' (first | apply cw_seq | apply cw_region | apply wl_nil | apply cw_exit | apply cw_ret | (apply x_move; exact rfl; exact rfl; (exact (by repeat' constructor))) | (apply x_assign; exact rfl; exact rfl; (exact (by repeat' constructor))) | (apply x_bin; exact rfl; exact rfl; exact rfl; (first | exact .z (.wrap (by omega)) | exact (by repeat' constructor))) | (apply x_builtin; exact rfl; exact rfl; exact (fun _ => rfl); (exact (by repeat' constructor))) | (apply x_dec; exact rfl; all_goals (intro _; try omega))))
      (first | refine q_retS (by assumption) rfl (by repeat (first | exact .nil | (apply RV.tmp; exact (by repeat' constructor)) | (apply RV.cell; exact rfl; exact (by repeat' constructor); exact rfl; exact rfl; exact (by repeat' constructor)))) ?_ | (simp only [thenQ, blockQ]; refine q_retS (by assumption) rfl (by repeat (first | exact .nil | (apply RV.tmp; exact (by repeat' constructor)) | (apply RV.cell; exact rfl; exact (by repeat' constructor); exact rfl; exact rfl; exact (by repeat' constructor)))) ?_))
      refine ⟨?_, Sat.keeps (by assumption)⟩
      rw [fewB_yes ⟨by omega, fun i hi => hall i (by omega)⟩]
      rfl
end Go.Proofs.Ytnndkdcciojpiaa
