/- The pairs of an iterator, collected and sorted: slices.AppendSeq, Collect, SortedFunc. No statement of the seat is proved here. -/
/- The front of the sums of a front and the choices of a part. No statement of the seat is proved here. -/
/- Parts backwards, with their indices (slices.Backward). No statement of the seat is proved here. -/
import Derived.Test.YtdkknknebehkgaaGreatDoorVo
namespace Go.Proofs.YtdkknknebehkgaaGreatDoor.Al
set_option linter.unusedVariables false
set_option linter.unusedSimpArgs false
open Go Go.RowKit
def aBox (b7 : Nat) (A' : Option Addr) (n' c' : Nat) (ys : List Pr2) : List HO :=
  [.rw 0 (.slice A' n' c') 87 2 (ys.map prC), .cl b7 61 [.slice A' n' c']]
set_option maxRecDepth 100000 in
theorem e_AppendSeq : Ent Tryz.prog 74 := fun _ _ => rfl
set_option maxRecDepth 8000 in
set_option maxHeartbeats 4000000 in
theorem AppendSeq_c {w0 w : World} {M : List Nat} {h hi : List HO} {gf : FuncId} {lb : List Value} {xs : List Pr2} (hE : Ent Tryz.prog gf) (it : Iter Tryz.prog gf lb pairE xs w0 M hi) (hl : xs.length < 1000000000) (S : Sat w0 M (hi ++ h) w) : Calls Tryz.prog 74 #[.slice none 0 0, .func (.func gf) #[] lb.toArray] w (RetP fun v w' => ∃ (A : Option Addr) (c : Nat), v = .slice A xs.length c ∧ Sat w0 M (.rw 0 (.slice A xs.length c) 87 2 (xs.map prC) :: h) w') := by
  refine calls_of_cwM (args := [.slice none 0 0, .func (.func gf) #[] lb.toArray]) Tryz.func74 rfl rfl ?_
  (repeat' (first | apply cw_seq | apply cw_region | apply wl_nil | apply cw_block | (apply x_move; exact rfl; exact rfl; (exact (by repeat' constructor))) | (apply x_assign; exact rfl; exact rfl; (exact (by repeat' constructor))) | (apply x_box; assumption; exact rfl; exact rfl; (exact (by repeat' constructor)); (exact (by repeat' constructor)); intro _ _ _)))
  rename_i b7 w1 S1
  refine cw_range (hi := hi) (h := aBox b7 none 0 0 [] ++ h) (Sat.perm' (S1.addNil 87 2) ?_) rfl hE (fun _ => rfl) rfl it
      (fun pre h' => ∃ A' c', h' = aBox b7 A' pre.length c' pre ++ h) (fun _ _ _ => False) ⟨none, 0, rfl⟩ ?_ ?_ ?_
  · exact List.perm_append_comm_assoc [_, _] hi h
  all_goals clear S1 S
  · rintro l' pre x rest fr _ W hx ⟨A', c', rfl⟩ S1
    replace S1 : Sat w0 M (_ :: _ :: (h ++ fr)) W := S1
    have hlen : pre.length < xs.length := by
      have h1 := congrArg List.length hx
      simp only [List.length_append, List.length_cons] at h1
      omega
    have hl9 : (pre.map prC).length < 1000000000 := by simp only [List.length_map]; omega
    (repeat' (first | apply cw_region | apply wl_nil | (apply x_alloc; assumption; exact rfl; exact rfl; exact rfl; (exact (by repeat' constructor)); intro _ _ _) | (apply x_store; assumption; exact rfl; exact rfl; (exact (by repeat' constructor)); (exact (by repeat' constructor)); exact rfl; exact rfl; exact rfl; (exact (by repeat' constructor)); intro _ _)))
    rename_i b9 w3 _ w4 S4
    refine ⟨_ :: _ :: _ :: h, S4, fun W2 fr' S2 => ?_⟩
    replace S2 : Sat w0 M (_ :: _ :: _ :: (h ++ fr')) W2 := S2
    clear S1 S4
    (repeat' (first | apply cw_region | apply wl_nil | apply cw_block | (apply x_append1; assumption; exact rfl; exact rfl; exact rfl; exact rfl; exact rfl; (exact (by repeat' constructor)); (exact (by repeat' constructor)); exact rfl; exact rfl; exact rfl; (first | assumption | omega | (simp; omega)); intro _ _ _ _) | (apply x_load; assumption; exact rfl; exact rfl; exact rfl; (exact (by repeat' constructor)); exact rfl; exact rfl; (exact (by repeat' constructor))) | (apply x_store; assumption; exact rfl; exact rfl; (exact (by repeat' constructor)); (exact (by repeat' constructor)); exact rfl; exact rfl; exact rfl; (exact (by repeat' constructor)); intro _ _) | (apply x_buildSlice; assumption; exact rfl; exact rfl; exact rfl; (exact (by repeat' constructor)); intro _ _ _)))
    rename_i b8 _ _ g1 cap1 _ _ w2 S3
    have hk2 : (pre.map prC).length + 1 = (pre ++ [x]).length := by simp
    rw [hk2] at S3
    refine ⟨_, ⟨some ⟨g1, 0, none⟩, cap1, rfl⟩, ?_⟩
    unfold aBox
    rw [List.map_append]
    exact Sat.drop2 S3
  · rintro D1 _ W ⟨A', c', rfl⟩ S1
    replace S1 : Sat w0 M (_ :: _ :: _ :: h) W := S1
    (repeat' (first | apply cw_seq | apply cw_region | apply wl_nil | apply cw_ret | (apply x_assign; exact rfl; exact rfl; (exact (by repeat' constructor))) | (apply x_load; assumption; exact rfl; exact rfl; exact rfl; (exact (by repeat' constructor)); exact rfl; exact rfl; (exact (by repeat' constructor)))))
    refine q_retM1 (by assumption) (by exact (by repeat' constructor)) rfl (by repeat (first | exact .nil | (apply RV.tmp; exact (by repeat' constructor)) | (apply RV.cell; exact rfl; exact (by repeat' constructor); exact rfl; exact rfl; exact (by repeat' constructor)))) ?_
    intro w' S'
    exact ⟨A', c', rfl, Sat.drop S'.drop1 _ (List.Sublist.cons_cons _ (List.sublist_cons_self _ _))⟩
  · rintro D1 _ pre _ W hf _ S1
    exact hf.elim
set_option maxRecDepth 100000 in
theorem e_Collect : Ent Tryz.prog 59 := fun _ _ => rfl
set_option maxRecDepth 8000 in
theorem Collect_c {w0 w : World} {M : List Nat} {h hi : List HO} {gf : FuncId} {lb : List Value} {xs : List Pr2} (hE : Ent Tryz.prog gf) (it : Iter Tryz.prog gf lb pairE xs w0 M hi) (hl : xs.length < 1000000000) (S : Sat w0 M (hi ++ h) w) : Calls Tryz.prog 59 #[.func (.func gf) #[] lb.toArray] w (RetP fun v w' => ∃ (A : Option Addr) (c : Nat), v = .slice A xs.length c ∧ Sat w0 M (.rw 0 (.slice A xs.length c) 87 2 (xs.map prC) :: h) w') := by
  refine calls_of_cw (args := [.func (.func gf) #[] lb.toArray]) Tryz.func59 rfl rfl ?_
  (repeat' (first | apply cw_seq | apply cw_region | apply wl_nil | apply cw_ret | (apply x_call; exact rfl; exact rfl; exact rfl; exact e_AppendSeq; (exact (by repeat' constructor)); exact AppendSeq_c hE it hl S; rintro v w2 ⟨A, c, rfl, S2⟩) | (apply x_move; exact rfl; exact rfl; (exact (by repeat' constructor))) | (apply x_assign; exact rfl; exact rfl; (exact (by repeat' constructor)))))
  (first | refine q_retS (by assumption) rfl (by repeat (first | exact .nil | (apply RV.tmp; exact (by repeat' constructor)) | (apply RV.cell; exact rfl; exact (by repeat' constructor); exact rfl; exact rfl; exact (by repeat' constructor)))) ?_ | (simp only [thenQ, blockQ]; refine q_retS (by assumption) rfl (by repeat (first | exact .nil | (apply RV.tmp; exact (by repeat' constructor)) | (apply RV.cell; exact rfl; exact (by repeat' constructor); exact rfl; exact rfl; exact (by repeat' constructor)))) ?_))
  exact ⟨A, c, rfl, S2⟩
set_option maxRecDepth 100000 in
theorem e_SortedFunc : Ent Tryz.prog 44 := fun _ _ => rfl
set_option maxRecDepth 8000 in
theorem SortedFunc_c {w0 w : World} {M : List Nat} {h hi : List HO} {gf : FuncId} {lb : List Value} {xs : List Pr2} (hE : Ent Tryz.prog gf) (it : Iter Tryz.prog gf lb pairE xs w0 M hi) (hl : xs.length < 1000000000) (S : Sat w0 M (hi ++ h) w) : Calls Tryz.prog 44 #[.func (.func gf) #[] lb.toArray, .func (.func 46) #[] #[]] w (RetP fun v w' => ∃ (A : Option Addr) (c : Nat), v = .slice A xs.length c ∧ Sat w0 M (.rw 0 (.slice A xs.length c) 87 2 ((srtP xs).map prC) :: h) w') := by
  refine calls_of_cw (args := [.func (.func gf) #[] lb.toArray, .func (.func 46) #[] #[]]) Tryz.func44 rfl rfl ?_
  (repeat' (first | apply cw_seq | apply cw_region | apply wl_nil | apply cw_ret | (apply x_call; exact rfl; exact rfl; exact rfl; exact e_Collect; (exact (by repeat' constructor)); exact Collect_c hE it hl S; rintro v w2 ⟨A, c, rfl, S2⟩) | (apply x_callC (bd := []) (hc := [.rw 0 (.slice A xs.length c) 87 2 (xs.map prC)]) (fr := h); assumption; exact rfl; exact rfl; exact rfl; exact e_sortP; (exact (by repeat' constructor)); exact List.Perm.refl _; exact (fun Sc => sortRow_c A c xs hl _ Sc); intro _ w3 S3; replace S3 : Sat w0 M (_ :: h) w3 := S3) | (apply x_move; exact rfl; exact rfl; (exact (by repeat' constructor))) | (apply x_assign; exact rfl; exact rfl; (exact (by repeat' constructor)))))
  (first | refine q_retS (by assumption) rfl (by repeat (first | exact .nil | (apply RV.tmp; exact (by repeat' constructor)) | (apply RV.cell; exact rfl; exact (by repeat' constructor); exact rfl; exact rfl; exact (by repeat' constructor)))) ?_ | (simp only [thenQ, blockQ]; refine q_retS (by assumption) rfl (by repeat (first | exact .nil | (apply RV.tmp; exact (by repeat' constructor)) | (apply RV.cell; exact rfl; exact (by repeat' constructor); exact rfl; exact rfl; exact (by repeat' constructor)))) ?_))
  exact ⟨A, c, rfl, S3⟩
end Go.Proofs.YtdkknknebehkgaaGreatDoor.Al

namespace Go.Proofs.YtdkknknebehkgaaGreatDoor.Al
set_option linter.unusedVariables false
set_option linter.unusedSimpArgs false
open Go Go.RowKit
/-- the cost below which a pair is kept -/
def lastC (m : Option Int) (ys : List Pr2) : Option Int := match ys.getLast? with | some y => some y.2 | none => m
theorem lastC_cons (m : Option Int) (y : Pr2) (ys : List Pr2) : lastC m (y :: ys) = lastC (some y.2) ys := by
  unfold lastC
  rw [List.getLast?_cons]
  cases ys.getLast? <;> rfl
def keepOk (m : Option Int) (x : Pr2) : Prop := match m with | none => True | some c => x.2 < c
instance (m : Option Int) (x : Pr2) : Decidable (keepOk m x) := by unfold keepOk; cases m <;> infer_instance
theorem keepC_cons (m : Option Int) (x : Pr2) (xs : List Pr2) : keepC m (x :: xs) = if keepOk m x then x :: keepC (some x.2) xs else keepC m xs := by
  cases m with
  | none => rw [if_pos (show keepOk none x from trivial)]; rfl
  | some c => rfl
theorem keepC_snoc : ∀ (xs : List Pr2) (m : Option Int) (x : Pr2), keepC m (xs ++ [x]) = keepC m xs ++ (if keepOk (lastC m (keepC m xs)) x then [x] else [])
  | [], m, x => by
    have e : keepC m [] = [] := by cases m <;> rfl
    have e2 : ∀ c, keepC (some c) [] = [] := fun _ => rfl
    rw [List.nil_append, keepC_cons, e]
    show (if keepOk m x then _ else _) = [] ++ if keepOk m x then _ else _
    split
    · rw [e2]; rfl
    · rfl
  | y :: xs, m, x => by
    rw [List.cons_append, keepC_cons, keepC_cons]
    split
    · rw [keepC_snoc xs, lastC_cons, List.cons_append]
    · exact keepC_snoc xs m x
def kpTo (l : List Pr2) (k : Nat) : List Pr2 := keepC none (l.take k)
theorem kpTo_len (l : List Pr2) (k : Nat) : (kpTo l k).length ≤ l.length := by
  have key : ∀ (xs : List Pr2) (m : Option Int), (keepC m xs).length ≤ xs.length := by
    intro xs
    induction xs with
    | nil => intro m; cases m <;> exact Nat.le_refl 0
    | cons x xs ih =>
      intro m
      rw [keepC_cons]
      split
      · have := ih (some x.2); simp; omega
      · have := ih m; simp; omega
  have := key (l.take k) none
  rw [kpTo]
  have h2 : (l.take k).length ≤ l.length := by rw [List.length_take]; omega
  omega
theorem lastC_get {ys : List Pr2} {j : Nat} (h : ys.length = j + 1) : lastC none ys = some (ys.getD j (0, 0)).2 := by
  unfold lastC
  rw [List.getLast?_eq_getElem?, h, Nat.add_sub_cancel]
  have : j < ys.length := by omega
  simp [List.getD_eq_getElem?_getD, this]
theorem kpTo_first {l : List Pr2} {k : Nat} (hk : k < l.length) (h : (kpTo l k).length = 0) : kpTo l (k + 1) = kpTo l k ++ [l.getD k (0, 0)] := by
  have e := List.length_eq_zero_iff.1 h
  unfold kpTo at *
  rw [take_suc (d := ((0 : Int), (0 : Int))) hk, keepC_snoc, e]
  rfl
theorem kpTo_yes {l : List Pr2} {k j : Nat} (hk : k < l.length) (h : (kpTo l k).length = j + 1) (h2 : (l.getD k (0, 0)).2 < ((kpTo l k).getD j (0, 0)).2) : kpTo l (k + 1) = kpTo l k ++ [l.getD k (0, 0)] := by
  have e := lastC_get h
  unfold kpTo at *
  rw [take_suc (d := ((0 : Int), (0 : Int))) hk, keepC_snoc, e, if_pos (show keepOk (some _) _ from h2)]
theorem kpTo_no {l : List Pr2} {k j : Nat} (hk : k < l.length) (h : (kpTo l k).length = j + 1) (h2 : ¬ (l.getD k (0, 0)).2 < ((kpTo l k).getD j (0, 0)).2) : kpTo l (k + 1) = kpTo l k := by
  have e := lastC_get h
  unfold kpTo at *
  rw [take_suc (d := ((0 : Int), (0 : Int))) hk, keepC_snoc, e, if_neg (show ¬ keepOk (some _) _ from h2), List.append_nil]
set_option maxRecDepth 100000 in
theorem e_pairs : Ent Tryz.prog 45 := fun _ _ => rfl
set_option maxRecDepth 8000 in
theorem pairs_c {w0 w : World} {M : List Nat} {h : List HO} (A : Option Addr) (cA : Nat) (F : List Pr2) (p : Pt) (S : Sat w0 M h w) : Calls Tryz.prog 45 #[.slice A F.length cA, .agg #[.int .i64 p.wt, .slice p.A p.cs.length p.cA]] w (RetP fun v w' => ∃ b1 b2 : Nat, v = .func (.func 61) #[] ([.pointer (some ⟨b1, 0, none⟩), .pointer (some ⟨b2, 0, none⟩)] : List Value).toArray ∧ Sat w0 M (.cl b1 61 [.slice A F.length cA] :: .cl b2 30 [.int .i64 p.wt, .slice p.A p.cs.length p.cA] :: h) w') := by
  refine calls_of_cw (args := [.slice A F.length cA, .agg #[.int .i64 p.wt, .slice p.A p.cs.length p.cA]]) Tryz.func45 rfl rfl ?_
  (repeat' (first | apply cw_seq | apply cw_region | apply wl_nil | apply cw_ret | (apply x_assign; exact rfl; exact rfl; (exact (by repeat' constructor))) | (apply x_box; assumption; exact rfl; exact rfl; (exact (by repeat' constructor)); (exact (by repeat' constructor)); intro _ _ _) | (apply x_makeFunc; exact rfl; exact rfl; (exact (by repeat' constructor)))))
  rename_i b1 _ _ b2 w2 S2
  (first | refine q_retS (by assumption) rfl (by repeat (first | exact .nil | (apply RV.tmp; exact (by repeat' constructor)) | (apply RV.cell; exact rfl; exact (by repeat' constructor); exact rfl; exact rfl; exact (by repeat' constructor)))) ?_ | (simp only [thenQ, blockQ]; refine q_retS (by assumption) rfl (by repeat (first | exact .nil | (apply RV.tmp; exact (by repeat' constructor)) | (apply RV.cell; exact rfl; exact (by repeat' constructor); exact rfl; exact rfl; exact (by repeat' constructor)))) ?_))
  exact ⟨b1, b2, rfl, Sat.perm' S2 (List.Perm.swap _ _ _)⟩
theorem prAll_len (F : List Pr2) (wt : Int) (cs : List Ch) : (prAll F wt cs).length = F.length * cs.length := by
  induction F with
  | nil => simp [prAll]
  | cons x F ih =>
    have : prAll (x :: F) wt cs = cs.map (prF x wt) ++ prAll F wt cs := rfl
    rw [this, List.length_append, ih, List.length_map, List.length_cons, Nat.succ_mul, Nat.add_comm]
/-- what merged gives -/
def mrg (F : List Pr2) (wt : Int) (cs : List Ch) : List Pr2 := keepC none (srtP (prAll F wt cs))
theorem is_subL {n j : Nat} (h : n = j + 1) (h2 : j ≤ 1000000000) : Is (.int .i64 (IntKind.i64.wrap ((n : Int) - 1))) (.int .i64 (j : Int)) := by
  subst h
  exact is_sub1 (by omega)
set_option maxRecDepth 100000 in
theorem e_merged : Ent Tryz.prog 27 := fun _ _ => rfl
set_option maxRecDepth 8000 in
set_option maxHeartbeats 4000000 in
theorem merged_c (A : Option Addr) (cA : Nat) (F : List Pr2) (p : Pt) (ho : OkP p) (hF : F.length ≤ 1000000) (hl : (prAll F p.wt p.cs).length ≤ 1000000) (hb : ∀ i, i < F.length → (0 ≤ (F.getD i (0, 0)).1 ∧ (F.getD i (0, 0)).1 ≤ 1000000000) ∧ 0 ≤ (F.getD i (0, 0)).2 ∧ (F.getD i (0, 0)).2 ≤ 1000000000)
    (w : World) (R : Rd w A 2 F.length (fun i => prC (F.getD i (0, 0)))) (R2 : Rd w p.A 2 p.cs.length (fun j => chC (p.cs.getD j ch0))) :
    Calls Tryz.prog 27 #[.slice A F.length cA, .agg #[.int .i64 p.wt, .slice p.A p.cs.length p.cA]] w (RetP (RowR (fun v => v) 87 2 ((mrg F p.wt p.cs).map prC) w)) := by
  refine calls_of_cw (args := [.slice A F.length cA, .agg #[.int .i64 p.wt, .slice p.A p.cs.length p.cA]]) Tryz.func27 rfl rfl ?_
  have S := Sat.start [] w
  have O := R.old
  have O2 := R2.old
  (repeat' (first | apply cw_seq | apply cw_region | apply wl_nil | apply cw_block | (apply x_call; exact rfl; exact rfl; exact rfl; exact e_pairs; (exact (by repeat' constructor)); exact pairs_c A cA F p (by assumption); rintro v w2 ⟨b1, b2, rfl, S2⟩) | (apply x_call; exact rfl; exact rfl; exact rfl; exact e_SortedFunc; (exact (by repeat' constructor)); exact SortedFunc_c e_pairs1 (pairs_it ho hF hb O O2) (by omega) (hi := [_, _]) S2; rintro v w3 ⟨A3, c3, rfl, S3⟩) | (apply x_move; exact rfl; exact rfl; (exact (by repeat' constructor))) | (apply x_assign; exact rfl; exact rfl; (exact (by repeat' constructor))) | (apply x_load; assumption; exact rfl; exact rfl; exact rfl; (exact (by repeat' constructor)); exact rfl; exact rfl; (exact (by repeat' constructor))) | (apply x_box; assumption; exact rfl; exact rfl; (exact (by repeat' constructor)); (exact (by repeat' constructor)); intro _ _ _) | (apply x_builtin; exact rfl; exact rfl; exact (fun _ => rfl); (exact (by repeat' constructor)))))
  rename_i b3 _ _
  have hLl : (prAll F p.wt p.cs).length = (srtP (prAll F p.wt p.cs)).length := (srtP_len _).symm
  rw [hLl] at S3 hl ⊢
  unfold mrg
  generalize srtP (prAll F p.wt p.cs) = L at S3 hl hLl ⊢
  have hLm : (L.map prC).length = L.length := List.length_map _
  refine cw_loop [6, 8, 15, 16, 17, 18, 19, 20, 21, 22, 23, 24, 25, 26, 27, 28, 29, 30, 31, 32, 33, 34, 35, 36, 37, 38] [6, 15] (fun us wr => ∃ (i : Nat) (A6 : Option Addr) (c6 : Nat), i ≤ L.length ∧ us = [.slice A6 (kpTo L i).length c6, .int .i64 i] ∧ Sat w [] [.rw 0 (.slice A6 (kpTo L i).length c6) 87 2 ((kpTo L i).map prC), .rw 0 (.slice A3 L.length c3) 87 2 (L.map prC)] wr) (fun us _ => L.length - (intOf (us.getD 1 undef)).toNat) ?_ ?_
  · exact ⟨0, none, 0, by omega, rfl, (Sat.drop S3 _ (List.Sublist.cons_cons _ (List.sublist_cons_self _ _))).addNil _ _⟩
  clear S3 S2 S
  rintro g us wr ⟨i, A6, c6, hi, rfl, Sr⟩
  have hkl := kpTo_len L i
  have hkm : ((kpTo L i).map prC).length = (kpTo L i).length := List.length_map _
  by_cases hlt : i < L.length
  · by_cases h0 : (kpTo L i).length = 0
    · have hj : (1 : Nat) = 0 + 1 := rfl
      (repeat' (first | apply cw_seq | apply cw_region | apply wl_nil | apply cw_block | apply cw_skip | (apply y_gdec; exact rfl; exact rfl; all_goals (intro _; try omega)) | (apply x_loadR; exact rfl; exact rfl; exact rfl; exact Sat.rdmapN ((0 : Int), (0 : Int)) (by assumption) (by exact (by repeat' constructor)) rfl; (first | omega | exact size_pos (by assumption) | assumption); exact rfl; exact rfl; (exact (by repeat' constructor))) | (apply cw_draw (id := 6) [(0, 0), (1, 0), (2, 0), (3, 0), (4, 0), (5, 0), (6, 0), (7, 0), (8, 0), (9, 0), (10, 0), (11, 0), (12, 0), (13, 0), (14, 0)]; assumption; exact mixed; kernel_rfl) | (apply x_append1; assumption; exact rfl; exact rfl; exact rfl; exact rfl; exact rfl; (exact (by repeat' constructor)); (exact (by repeat' constructor)); exact rfl; exact rfl; exact rfl; (first | assumption | omega | (simp; omega)); intro _ _ _ _) | (apply x_move; exact rfl; exact rfl; (exact (by repeat' constructor))) | (apply x_assign; exact rfl; exact rfl; (exact (by repeat' constructor))) | (apply x_load; assumption; exact rfl; exact rfl; exact rfl; (exact (by repeat' constructor)); exact rfl; exact rfl; (exact (by repeat' constructor))) | (apply x_bin; exact rfl; exact rfl; exact rfl; (first | exact .z (.wrap (by omega)) | exact (by repeat' constructor))) | (apply x_alloc; assumption; exact rfl; exact rfl; exact rfl; (exact (by repeat' constructor)); intro _ _ _) | (apply x_store; assumption; exact rfl; exact rfl; (exact (by repeat' constructor)); (exact (by repeat' constructor)); exact rfl; exact rfl; exact rfl; (exact (by repeat' constructor)); intro _ _) | (apply x_buildSlice; assumption; exact rfl; exact rfl; exact rfl; (exact (by repeat' constructor)); intro _ _ _) | (apply x_index; exact rfl; exact rfl; exact rfl; exact rfl; exact rfl; (constructor); (first | omega | exact size_pos (by assumption) | assumption); (first | exact rfl | assumption | exact Rd.some_ (by assumption) (by omega) | exact Rd.some_ (Old.rd (by assumption)) (by omega) | exact (Sat.rd (by assumption) (by exact (by repeat' constructor))).some_ (by omega))) | (apply y_not; exact rfl) | (apply y_move; exact rfl; (exact (by repeat' constructor))) | (apply y_bin; exact rfl; exact (fun _ => rfl); (first | exact .z (.wrap (by omega)) | exact (by repeat' constructor))) | (apply y_pick; exact rfl; exact rfl; (exact (by repeat' constructor))) | (apply y_builtin; exact rfl; exact (fun _ _ => rfl); (exact (by repeat' constructor))) | (apply y_nil; intro _ _) | (apply cw_true; exact rfl) | (apply x_dec; exact rfl; all_goals (intro _; try omega))))
      all_goals first
        | (exfalso; omega)
        | skip
      rename_i b8 _ _ g1 cap1 w8 S8
      have hk1 := kpTo_first hlt h0
      have hk2 : ((kpTo L i).map prC).length + 1 = (kpTo L (i + 1)).length := by rw [hk1]; simp
      have hS2 : (kpTo L i).map prC ++ [prC (L.getD i (0, 0))] = (kpTo L (i + 1)).map prC := by rw [hk1, List.map_append]; rfl
      have S9 : Sat w [] [.rw 0 (.slice (some ⟨g1, 0, none⟩) (kpTo L (i + 1)).length cap1) 87 2 ((kpTo L (i + 1)).map prC), .rw 0 (.slice A3 L.length c3) 87 2 (L.map prC)] w8 := by rw [← hk2, ← hS2]; exact Sat.drop2 S8
      refine ⟨rfl, (by repeat (first | exact Agree.updl rfl (Agree.mask _ _ _) | refine Agree.upd rfl ?_)), ⟨i + 1, some ⟨g1, 0, none⟩, cap1, hlt, by rw [← hk2]; rfl, S9⟩, ?_⟩
      show L.length - (i + 1 : Int).toNat < L.length - (i : Int).toNat
      omega
    · obtain ⟨j, hj⟩ : ∃ j, (kpTo L i).length = j + 1 := ⟨(kpTo L i).length - 1, by omega⟩
      (repeat' (first | apply cw_seq | apply cw_region | apply wl_nil | apply cw_block | apply cw_skip | (apply y_gdec; exact rfl; exact rfl; all_goals (intro _; try omega)) | (apply x_loadR; exact rfl; exact rfl; exact rfl; exact Sat.rdmapN ((0 : Int), (0 : Int)) (by assumption) (by exact (by repeat' constructor)) rfl; (first | omega | exact size_pos (by assumption) | assumption); exact rfl; exact rfl; (exact (by repeat' constructor))) | (apply y_bin; exact rfl; exact (fun _ => rfl); exact is_subL hj (by omega)) | (apply y_loadRowM ((0 : Int), (0 : Int)); exact rfl; exact rfl; (exact (by repeat' constructor)); exact rfl; (first | omega | exact size_pos (by assumption) | assumption); exact rfl; exact rfl; (exact (by repeat' constructor))) | (apply y_indexArrE; exact rfl; exact rfl; exact rfl; exact rfl; decide; decide; (constructor)) | (apply cw_draw (id := 6) [(0, 0), (1, 0), (2, 0), (3, 0), (4, 0), (5, 0), (6, 0), (7, 0), (8, 0), (9, 0), (10, 0), (11, 0), (12, 0), (13, 0), (14, 0)]; assumption; exact mixed; kernel_rfl) | (apply x_append1; assumption; exact rfl; exact rfl; exact rfl; exact rfl; exact rfl; (exact (by repeat' constructor)); (exact (by repeat' constructor)); exact rfl; exact rfl; exact rfl; (first | assumption | omega | (simp; omega)); intro _ _ _ _) | (apply x_move; exact rfl; exact rfl; (exact (by repeat' constructor))) | (apply x_assign; exact rfl; exact rfl; (exact (by repeat' constructor))) | (apply x_load; assumption; exact rfl; exact rfl; exact rfl; (exact (by repeat' constructor)); exact rfl; exact rfl; (exact (by repeat' constructor))) | (apply x_bin; exact rfl; exact rfl; exact rfl; (first | exact .z (.wrap (by omega)) | exact (by repeat' constructor))) | (apply x_alloc; assumption; exact rfl; exact rfl; exact rfl; (exact (by repeat' constructor)); intro _ _ _) | (apply x_store; assumption; exact rfl; exact rfl; (exact (by repeat' constructor)); (exact (by repeat' constructor)); exact rfl; exact rfl; exact rfl; (exact (by repeat' constructor)); intro _ _) | (apply x_buildSlice; assumption; exact rfl; exact rfl; exact rfl; (exact (by repeat' constructor)); intro _ _ _) | (apply x_index; exact rfl; exact rfl; exact rfl; exact rfl; exact rfl; (constructor); (first | omega | exact size_pos (by assumption) | assumption); (first | exact rfl | assumption | exact Rd.some_ (by assumption) (by omega) | exact Rd.some_ (Old.rd (by assumption)) (by omega) | exact (Sat.rd (by assumption) (by exact (by repeat' constructor))).some_ (by omega))) | (apply y_move; exact rfl; (exact (by repeat' constructor))) | (apply y_load; exact rfl; exact rfl; (exact (by repeat' constructor)); exact rfl; exact rfl; (exact (by repeat' constructor))) | (apply y_bin; exact rfl; exact (fun _ => rfl); (first | exact .z (.wrap (by omega)) | exact (by repeat' constructor))) | (apply y_pick; exact rfl; exact rfl; (exact (by repeat' constructor))) | (apply y_builtin; exact rfl; exact (fun _ _ => rfl); (exact (by repeat' constructor))) | (apply y_index; exact rfl; exact rfl; exact rfl; exact rfl; (constructor); (first | omega | exact size_pos (by assumption) | assumption); (first | exact rfl | assumption | exact Rd.some_ (by assumption) (by omega) | exact Rd.some_ (Old.rd (by assumption)) (by omega) | exact (Sat.rd (by assumption) (by exact (by repeat' constructor))).some_ (by omega))) | (apply y_indexArrB; exact rfl; exact rfl; exact rfl; exact rfl; decide; decide; (constructor)) | (apply y_nil; intro _ _) | (apply x_dec; exact rfl; all_goals (intro _; try omega))))
      all_goals first
        | (exfalso; omega)
        | skip
      · have hlt2 : (L.getD i (0, 0)).2 < ((kpTo L i).getD j (0, 0)).2 := by assumption
        rename_i b8 _ _ g1 cap1 w8 S8
        have hk1 := kpTo_yes hlt hj hlt2
        have hk2 : ((kpTo L i).map prC).length + 1 = (kpTo L (i + 1)).length := by rw [hk1]; simp
        have hS2 : (kpTo L i).map prC ++ [prC (L.getD i (0, 0))] = (kpTo L (i + 1)).map prC := by rw [hk1, List.map_append]; rfl
        have S9 : Sat w [] [.rw 0 (.slice (some ⟨g1, 0, none⟩) (kpTo L (i + 1)).length cap1) 87 2 ((kpTo L (i + 1)).map prC), .rw 0 (.slice A3 L.length c3) 87 2 (L.map prC)] w8 := by rw [← hk2, ← hS2]; exact Sat.drop2 S8
        refine ⟨rfl, (by repeat (first | exact Agree.updl rfl (Agree.mask _ _ _) | refine Agree.upd rfl ?_)), ⟨i + 1, some ⟨g1, 0, none⟩, cap1, hlt, by rw [← hk2]; rfl, S9⟩, ?_⟩
        show L.length - (i + 1 : Int).toNat < L.length - (i : Int).toNat
        omega
      · have hlt2 : ¬ (L.getD i (0, 0)).2 < ((kpTo L i).getD j (0, 0)).2 := by assumption
        have hk1 := kpTo_no hlt hj hlt2
        refine ⟨rfl, (by repeat (first | exact Agree.updl rfl (Agree.mask _ _ _) | refine Agree.upd rfl ?_)), ⟨i + 1, A6, c6, hlt, by rw [hk1]; rfl, by rw [hk1]; exact Sat.drop1 (by assumption)⟩, ?_⟩
        show L.length - (i + 1 : Int).toNat < L.length - (i : Int).toNat
        omega
  · have ei : i = L.length := by omega
    subst ei
    have hkk : keepC none L = kpTo L L.length := by rw [kpTo, List.take_length]
    rw [hkk]
    (repeat' (first | apply cw_seq | apply cw_region | apply wl_nil | apply cw_exit | apply cw_ret | (apply x_move; exact rfl; exact rfl; (exact (by repeat' constructor))) | (apply x_assign; exact rfl; exact rfl; (exact (by repeat' constructor))) | (apply x_bin; exact rfl; exact rfl; exact rfl; (first | exact .z (.wrap (by omega)) | exact (by repeat' constructor))) | (apply x_dec; exact rfl; all_goals (intro _; try omega))))
    (first | refine q_retS (by assumption) rfl (by repeat (first | exact .nil | (apply RV.tmp; exact (by repeat' constructor)) | (apply RV.cell; exact rfl; exact (by repeat' constructor); exact rfl; exact rfl; exact (by repeat' constructor)))) ?_ | (simp only [thenQ, blockQ]; refine q_retS (by assumption) rfl (by repeat (first | exact .nil | (apply RV.tmp; exact (by repeat' constructor)) | (apply RV.cell; exact rfl; exact (by repeat' constructor); exact rfl; exact rfl; exact (by repeat' constructor)))) ?_))
    exact rowR_n (V := fun v => v) (List.length_map _).symm Sr .head
end Go.Proofs.YtdkknknebehkgaaGreatDoor.Al

namespace Go.Proofs.YtdkknknebehkgaaGreatDoor.Al
set_option linter.unusedVariables false
set_option linter.unusedSimpArgs false
open Go Go.RowKit
theorem take_splZ {α : Type} (z : α) {c : List α} {k : Nat} (h : k < c.length) : c = c.take k ++ c.getD k z :: c.drop (k + 1) := by
  simp [List.getD_eq_getElem?_getD, h]
theorem take_sucZ {α : Type} (z : α) {c : List α} {k : Nat} (h : k < c.length) : c.take (k + 1) = c.take k ++ [c.getD k z] := by
  simp [List.getD_eq_getElem?_getD, h]
theorem tltZ {z : Int} {n : Nat} (h : 0 ≤ z ∧ z < n) : z.toNat < n := by omega
/-- a list of parts backwards, with indices -/
def bwL (c : List Pt) : List (Int × Pt) := (List.range c.length).map fun j => (((c.length - 1 - j : Nat) : Int), pat c (c.length - 1 - j))
theorem bwL_len (c : List Pt) : (bwL c).length = c.length := by simp [bwL]
theorem bwL_at {c : List Pt} {j : Nat} (h : j < c.length) : (bwL c).getD j (0, pt0) = (((c.length - 1 - j : Nat) : Int), pat c (c.length - 1 - j)) := by
  rw [List.getD_eq_getElem?_getD, bwL, List.getElem?_map, List.getElem?_range h]; rfl
set_option maxRecDepth 100000 in
theorem e_Backward : Ent Tryz.prog 26 := fun _ _ => rfl
set_option maxRecDepth 100000 in
theorem e_Backward1 : Ent Tryz.prog 43 := fun _ _ => rfl
set_option maxRecDepth 8000 in
theorem Backward_c (B : Option Addr) (n cB : Nat) (w : World) : Calls Tryz.prog 26 #[.slice B n cB] w (RetP (NewR (fun b => .func (.func 43) #[] #[.pointer (some ⟨b, 0, none⟩)]) 22 [.slice B n cB] w)) := by
  refine calls_of_cw (args := [.slice B n cB]) Tryz.func26 rfl rfl ?_
  have S := Sat.start [] w
  (repeat' (first | apply cw_seq | apply cw_region | apply wl_nil | apply cw_ret | (apply x_assign; exact rfl; exact rfl; (exact (by repeat' constructor))) | (apply x_box; assumption; exact rfl; exact rfl; (exact (by repeat' constructor)); (exact (by repeat' constructor)); intro _ _ _) | (apply x_makeFunc; exact rfl; exact rfl; (exact (by repeat' constructor)))))
  all_goals (first | refine q_retS (by assumption) rfl (by repeat (first | exact .nil | (apply RV.tmp; exact (by repeat' constructor)) | (apply RV.cell; exact rfl; exact (by repeat' constructor); exact rfl; exact rfl; exact (by repeat' constructor)))) ?_ | (simp only [thenQ, blockQ]; refine q_retS (by assumption) rfl (by repeat (first | exact .nil | (apply RV.tmp; exact (by repeat' constructor)) | (apply RV.cell; exact rfl; exact (by repeat' constructor); exact rfl; exact rfl; exact (by repeat' constructor)))) ?_))
  all_goals exact Sat.newR (by assumption) (by exact (by repeat' constructor))
set_option maxRecDepth 8000 in
set_option maxHeartbeats 4000000 in
theorem back_it {w0 : World} {M : List Nat} {b n cB : Nat} {B : Option Addr} {c : List Pt} (hn : n = c.length) (O : Old w0 M B 2 c.length (fun i => ptC (c.getD i pt0))) (hc : c.length ≤ 1000000) :
    Iter Tryz.prog 43 [.pointer (some ⟨b, 0, none⟩)] (fun p : Int × Pt => [.int .i64 p.1, .agg #[.int .i64 p.2.wt, .slice p.2.A p.2.cs.length p.2.cA]]) (bwL c) w0 M [.cl b 22 [.slice B n cB]] := by
  subst hn
  intro l' J Jx hY h W h0 S
  refine calls_of_cw (args := [.func (.yield l') #[] #[], .pointer (some ⟨b, 0, none⟩)]) Tryz.func43 rfl rfl ?_
  replace S : Sat w0 M (_ :: h) W := S
  (repeat' (first | apply cw_seq | apply cw_region | apply wl_nil | apply cw_block | (apply x_assign; exact rfl; exact rfl; (exact (by repeat' constructor))) | (apply x_load; assumption; exact rfl; exact rfl; exact rfl; (exact (by repeat' constructor)); exact rfl; exact rfl; (exact (by repeat' constructor))) | (apply x_bin; exact rfl; exact rfl; exact rfl; (first | exact .z (.wrap (by omega)) | exact (by repeat' constructor))) | (apply x_builtin; exact rfl; exact rfl; exact (fun _ => rfl); (exact (by repeat' constructor)))))
  refine cw_loop [3, 7, 8, 9, 10, 11, 12, 13, 14, 15, 16, 17, 18] [3] (fun us wr => ∃ (j : Nat) (z : Int), j ≤ c.length ∧ z = (c.length : Int) - 1 - j ∧ us = [.int .i64 z] ∧ ∃ hh, Sat w0 M (.cl b 22 [.slice B c.length cB] :: hh) wr ∧ J ((bwL c).take j) hh) (fun us _ => (intOf (us.getD 0 undef) + 1).toNat) ?_ ?_
  · exact ⟨0, (c.length : Int) - 1, by omega, by omega, rfl, h, S, h0⟩
  rintro g us wr ⟨j, z, hj, hz, rfl, hh, Sr, hJ⟩
  clear S h0
  by_cases hlt : j < c.length
  · have hbl : j < (bwL c).length := by rw [bwL_len]; exact hlt
    have hsp := take_splZ ((0 : Int), pt0) hbl
    have hz0 : 0 ≤ z ∧ z < c.length := by omega
    have hzn : z.toNat = c.length - 1 - j := by omega
    have hat := bwL_at hlt
    rw [← hzn, show ((z.toNat : Nat) : Int) = z by omega] at hat
    have hYn : ∀ fr h W, J ((bwL c).take j) h → Sat w0 M (fr ++ h) W → YieldR Tryz.prog l' [.int .i64 z, .agg #[.int .i64 (c.getD z.toNat pt0).wt, .slice (c.getD z.toNat pt0).A (c.getD z.toNat pt0).cs.length (c.getD z.toNat pt0).cA]] W (fun b W' => ∃ h', Sat w0 M (fr ++ h') W' ∧ ((b = true ∧ J ((bwL c).take j ++ [(bwL c).getD j (0, pt0)]) h') ∨ (b = false ∧ Jx ((bwL c).take j ++ [(bwL c).getD j (0, pt0)]) h'))) := by
      intro fr h W hj hs
      have := hY _ _ _ fr h W hsp hj hs
      rw [hat] at this ⊢
      exact this
    (repeat' (first | apply cw_seq | apply cw_region | apply wl_nil | apply cw_block | apply cw_skip | apply cw_ret | (apply x_indexI (z := z); exact rfl; exact rfl; exact rfl; exact rfl; exact rfl; (constructor); exact hz0.1; exact hz0.2; (exact (Old.rd O).some_ (by omega))) | (apply x_loadR; exact rfl; exact rfl; exact rfl; exact Old.now O (by assumption); exact tltZ hz0; exact rfl; exact rfl; (exact (by repeat' constructor))) | (apply x_yield; exact rfl; exact rfl; exact rfl; (exact (by repeat' constructor)); exact hYn [_] _ _ hJ (by assumption); rintro _ w2 ⟨h2, S2, ⟨rfl, hJ2⟩ | ⟨rfl, hJ2⟩⟩ <;> replace S2 : Sat w0 M (_ :: h2) w2 := S2) | (apply x_move; exact rfl; exact rfl; (exact (by repeat' constructor))) | (apply x_assign; exact rfl; exact rfl; (exact (by repeat' constructor))) | (apply x_load; assumption; exact rfl; exact rfl; exact rfl; (exact (by repeat' constructor)); exact rfl; exact rfl; (exact (by repeat' constructor))) | (apply x_bin; exact rfl; exact rfl; exact rfl; (first | exact .z (.wrap (by omega)) | exact (by repeat' constructor))) | (apply x_un; exact rfl; exact rfl; exact rfl; (first | exact .z (.wrap (by omega)) | exact (by repeat' constructor))) | (apply cw_true; exact rfl) | (apply cw_false; exact rfl) | (apply x_dec; exact rfl; all_goals (intro _; try omega))))
    all_goals first
      | (refine ⟨rfl, (by repeat (first | exact Agree.updl rfl (Agree.mask _ _ _) | refine Agree.upd rfl ?_)), ⟨j + 1, z - 1, hlt, by omega, rfl, h2, S2, by rw [take_sucZ ((0 : Int), pt0) hbl]; exact hJ2⟩, ?_⟩
         show (z - 1 + 1).toNat < (z + 1).toNat
         omega)
      | (first | (apply q_ret0; exact rfl) | (apply q_end0; exact rfl)
         exact ⟨_, S2.drop1, .inr ⟨_, (by rw [← take_sucZ ((0 : Int), pt0) hbl]; exact List.take_prefix _ _), hJ2⟩⟩)
      | skip
    all_goals done
  · (repeat' (first | apply cw_seq | apply cw_region | apply wl_nil | apply cw_exit | (apply x_move; exact rfl; exact rfl; (exact (by repeat' constructor))) | (apply x_bin; exact rfl; exact rfl; exact rfl; (first | exact .z (.wrap (by omega)) | exact (by repeat' constructor))) | (apply x_dec; exact rfl; all_goals (intro _; try omega))))
    first | (apply q_ret0; exact rfl) | (apply q_end0; exact rfl)
    exact ⟨_, Sr.drop1, .inl (by rwa [List.take_of_length_le (by rw [bwL_len]; omega)] at hJ)⟩
end Go.Proofs.YtdkknknebehkgaaGreatDoor.Al
