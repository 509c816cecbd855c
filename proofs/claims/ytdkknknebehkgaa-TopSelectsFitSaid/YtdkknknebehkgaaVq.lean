/- The front of the sums of a front and the choices of a part. No statement of the seat is proved here. -/
import Derived.Test.YtdkknknebehkgaaVp
namespace Go.Proofs.Ytdkknknebehkgaa.Al
set_option linter.unusedVariables false
set_option linter.unusedSimpArgs false
open Go Go.RowKit
/-- the cost below which a pair is kept -/
def lastC (m : Option Int) (ys : List Pr2) : Option Int := match ys.getLast? with | some y => some y.2 | none => m
theorem lastC_cons (m : Option Int) (y : Pr2) (ys : List Pr2) : lastC m (y :: ys) = lastC (some y.2) ys := by
  unfold lastC
  rw [List.getLast?_cons]
  cases ys.getLast? <;> rfl
def keepOk (m : Option Int) (x : Pr2) : Prop := match m with | none => True | some c => x.2 < c
instance (m : Option Int) (x : Pr2) : Decidable (keepOk m x) := by unfold keepOk; cases m <;> infer_instance
theorem keepC_cons (m : Option Int) (x : Pr2) (xs : List Pr2) : keepC m (x :: xs) = if keepOk m x then x :: keepC (some x.2) xs else keepC m xs := by
  cases m with
  | none => rw [if_pos (show keepOk none x from trivial)]; rfl
  | some c => rfl
theorem keepC_snoc : ∀ (xs : List Pr2) (m : Option Int) (x : Pr2), keepC m (xs ++ [x]) = keepC m xs ++ (if keepOk (lastC m (keepC m xs)) x then [x] else [])
  | [], m, x => by
    have e : keepC m [] = [] := by cases m <;> rfl
    have e2 : ∀ c, keepC (some c) [] = [] := fun _ => rfl
    rw [List.nil_append, keepC_cons, e]
    show (if keepOk m x then _ else _) = [] ++ if keepOk m x then _ else _
    split
    · rw [e2]; rfl
    · rfl
  | y :: xs, m, x => by
    rw [List.cons_append, keepC_cons, keepC_cons]
    split
    · rw [keepC_snoc xs, lastC_cons, List.cons_append]
    · exact keepC_snoc xs m x
def kpTo (l : List Pr2) (k : Nat) : List Pr2 := keepC none (l.take k)
theorem kpTo_len (l : List Pr2) (k : Nat) : (kpTo l k).length ≤ l.length := by
  have key : ∀ (xs : List Pr2) (m : Option Int), (keepC m xs).length ≤ xs.length := by
    intro xs
    induction xs with
    | nil => intro m; cases m <;> exact Nat.le_refl 0
    | cons x xs ih =>
      intro m
      rw [keepC_cons]
      split
      · have := ih (some x.2); simp; omega
      · have := ih m; simp; omega
  have := key (l.take k) none
  rw [kpTo]
  have h2 : (l.take k).length ≤ l.length := by rw [List.length_take]; omega
  omega
theorem lastC_get {ys : List Pr2} {j : Nat} (h : ys.length = j + 1) : lastC none ys = some (ys.getD j (0, 0)).2 := by
  unfold lastC
  rw [List.getLast?_eq_getElem?, h, Nat.add_sub_cancel]
  have : j < ys.length := by omega
  simp [List.getD_eq_getElem?_getD, this]
theorem kpTo_first {l : List Pr2} {k : Nat} (hk : k < l.length) (h : (kpTo l k).length = 0) : kpTo l (k + 1) = kpTo l k ++ [l.getD k (0, 0)] := by
  have e := List.length_eq_zero_iff.1 h
  unfold kpTo at *
  rw [take_suc (d := ((0 : Int), (0 : Int))) hk, keepC_snoc, e]
  rfl
theorem kpTo_yes {l : List Pr2} {k j : Nat} (hk : k < l.length) (h : (kpTo l k).length = j + 1) (h2 : (l.getD k (0, 0)).2 < ((kpTo l k).getD j (0, 0)).2) : kpTo l (k + 1) = kpTo l k ++ [l.getD k (0, 0)] := by
  have e := lastC_get h
  unfold kpTo at *
  rw [take_suc (d := ((0 : Int), (0 : Int))) hk, keepC_snoc, e, if_pos (show keepOk (some _) _ from h2)]
theorem kpTo_no {l : List Pr2} {k j : Nat} (hk : k < l.length) (h : (kpTo l k).length = j + 1) (h2 : ¬ (l.getD k (0, 0)).2 < ((kpTo l k).getD j (0, 0)).2) : kpTo l (k + 1) = kpTo l k := by
  have e := lastC_get h
  unfold kpTo at *
  rw [take_suc (d := ((0 : Int), (0 : Int))) hk, keepC_snoc, e, if_neg (show ¬ keepOk (some _) _ from h2), List.append_nil]
set_option maxRecDepth 100000 in
theorem e_pairs : Ent Try.prog 54 := fun _ _ => rfl
set_option maxRecDepth 8000 in
theorem pairs_c {w0 w : World} {M : List Nat} {h : List HO} (A : Option Addr) (cA : Nat) (F : List Pr2) (p : Pt) (S : Sat w0 M h w) : Calls Try.prog 54 #[.slice A F.length cA, .agg #[.int .i64 p.wt, .slice p.A p.cs.length p.cA]] w (RetP fun v w' => ∃ b1 b2 : Nat, v = .func (.func 65) #[] ([.pointer (some ⟨b1, 0, none⟩), .pointer (some ⟨b2, 0, none⟩)] : List Value).toArray ∧ Sat w0 M (.cl b1 41 [.slice A F.length cA] :: .cl b2 86 [.int .i64 p.wt, .slice p.A p.cs.length p.cA] :: h) w') := by
  refine calls_of_cw (args := [.slice A F.length cA, .agg #[.int .i64 p.wt, .slice p.A p.cs.length p.cA]]) Try.func54 rfl rfl ?_
  (repeat' (first | apply cw_seq | apply cw_region | apply wl_nil | apply cw_ret | (apply x_assign; exact rfl; exact rfl; (exact (by repeat' constructor))) | (apply x_box; assumption; exact rfl; exact rfl; (exact (by repeat' constructor)); (exact (by repeat' constructor)); intro _ _ _) | (apply x_makeFunc; exact rfl; exact rfl; (exact (by repeat' constructor)))))
  rename_i b1 _ _ b2 w2 S2
  (first | refine q_retS (by assumption) rfl (by repeat (first | exact .nil | (apply RV.tmp; exact (by repeat' constructor)) | (apply RV.cell; exact rfl; exact (by repeat' constructor); exact rfl; exact rfl; exact (by repeat' constructor)))) ?_ | (simp only [thenQ, blockQ]; refine q_retS (by assumption) rfl (by repeat (first | exact .nil | (apply RV.tmp; exact (by repeat' constructor)) | (apply RV.cell; exact rfl; exact (by repeat' constructor); exact rfl; exact rfl; exact (by repeat' constructor)))) ?_))
  exact ⟨b1, b2, rfl, Sat.perm' S2 (List.Perm.swap _ _ _)⟩
theorem prAll_len (F : List Pr2) (wt : Int) (cs : List Ch) : (prAll F wt cs).length = F.length * cs.length := by
  induction F with
  | nil => simp [prAll]
  | cons x F ih =>
    have : prAll (x :: F) wt cs = cs.map (prF x wt) ++ prAll F wt cs := rfl
    rw [this, List.length_append, ih, List.length_map, List.length_cons, Nat.succ_mul, Nat.add_comm]
/-- what merged gives -/
def mrg (F : List Pr2) (wt : Int) (cs : List Ch) : List Pr2 := keepC none (srtP (prAll F wt cs))
theorem is_subL {n j : Nat} (h : n = j + 1) (h2 : j ≤ 1000000000) : Is (.int .i64 (IntKind.i64.wrap ((n : Int) - 1))) (.int .i64 (j : Int)) := by
  subst h
  exact is_sub1 (by omega)
set_option maxRecDepth 100000 in
theorem e_merged : Ent Try.prog 41 := fun _ _ => rfl
set_option maxRecDepth 8000 in
set_option maxHeartbeats 4000000 in
theorem merged_c (A : Option Addr) (cA : Nat) (F : List Pr2) (p : Pt) (ho : OkP p) (hF : F.length ≤ 1000000) (hl : (prAll F p.wt p.cs).length ≤ 1000000) (hb : ∀ i, i < F.length → (0 ≤ (F.getD i (0, 0)).1 ∧ (F.getD i (0, 0)).1 ≤ 1000000000) ∧ 0 ≤ (F.getD i (0, 0)).2 ∧ (F.getD i (0, 0)).2 ≤ 1000000000)
    (w : World) (R : Rd w A 2 F.length (fun i => prC (F.getD i (0, 0)))) (R2 : Rd w p.A 2 p.cs.length (fun j => chC (p.cs.getD j ch0))) :
    Calls Try.prog 41 #[.slice A F.length cA, .agg #[.int .i64 p.wt, .slice p.A p.cs.length p.cA]] w (RetP (RowR (fun v => v) 75 2 ((mrg F p.wt p.cs).map prC) w)) := by
  refine calls_of_cw (args := [.slice A F.length cA, .agg #[.int .i64 p.wt, .slice p.A p.cs.length p.cA]]) Try.func41 rfl rfl ?_
  have S := Sat.start [] w
  have O := R.old
  have O2 := R2.old
  (repeat' (first | apply cw_seq | apply cw_region | apply wl_nil | apply cw_block | (apply x_call; exact rfl; exact rfl; exact rfl; exact e_pairs; (exact (by repeat' constructor)); exact pairs_c A cA F p (by assumption); rintro v w2 ⟨b1, b2, rfl, S2⟩) | (apply x_call; exact rfl; exact rfl; exact rfl; exact e_SortedFunc; (exact (by repeat' constructor)); exact SortedFunc_c e_pairs1 (pairs_it ho hF hb O O2) (by omega) (hi := [_, _]) S2; rintro v w3 ⟨A3, c3, rfl, S3⟩) | (apply x_move; exact rfl; exact rfl; (exact (by repeat' constructor))) | (apply x_assign; exact rfl; exact rfl; (exact (by repeat' constructor))) | (apply x_load; assumption; exact rfl; exact rfl; exact rfl; (exact (by repeat' constructor)); exact rfl; exact rfl; (exact (by repeat' constructor))) | (apply x_box; assumption; exact rfl; exact rfl; (exact (by repeat' constructor)); (exact (by repeat' constructor)); intro _ _ _) | (apply x_builtin; exact rfl; exact rfl; exact (fun _ => rfl); (exact (by repeat' constructor)))))
  rename_i b3 _ _
  have hLl : (prAll F p.wt p.cs).length = (srtP (prAll F p.wt p.cs)).length := (srtP_len _).symm
  rw [hLl] at S3 hl ⊢
  unfold mrg
  generalize srtP (prAll F p.wt p.cs) = L at S3 hl hLl ⊢
  have hLm : (L.map prC).length = L.length := List.length_map _
  refine cw_loop [6, 8, 15, 16, 17, 18, 19, 20, 21, 22, 23, 24, 25, 26, 27, 28, 29, 30, 31, 32, 33, 34, 35, 36, 37, 38] [6, 15] (fun us wr => ∃ (i : Nat) (A6 : Option Addr) (c6 : Nat), i ≤ L.length ∧ us = [.slice A6 (kpTo L i).length c6, .int .i64 i] ∧ Sat w [] [.rw 0 (.slice A6 (kpTo L i).length c6) 75 2 ((kpTo L i).map prC), .rw 0 (.slice A3 L.length c3) 75 2 (L.map prC)] wr) (fun us _ => L.length - (intOf (us.getD 1 undef)).toNat) ?_ ?_
  · exact ⟨0, none, 0, by omega, rfl, (Sat.drop S3 _ (List.Sublist.cons_cons _ (List.sublist_cons_self _ _))).addNil _ _⟩
  clear S3 S2 S
  rintro g us wr ⟨i, A6, c6, hi, rfl, Sr⟩
  have hkl := kpTo_len L i
  have hkm : ((kpTo L i).map prC).length = (kpTo L i).length := List.length_map _
  by_cases hlt : i < L.length
  · by_cases h0 : (kpTo L i).length = 0
    · have hj : (1 : Nat) = 0 + 1 := rfl
      (repeat' (first | apply cw_seq | apply cw_region | apply wl_nil | apply cw_block | apply cw_skip | (apply y_gdec; exact rfl; exact rfl; all_goals (intro _; try omega)) | (apply x_loadR; exact rfl; exact rfl; exact rfl; exact Sat.rdmapN ((0 : Int), (0 : Int)) (by assumption) (by exact (by repeat' constructor)) rfl; (first | omega | exact size_pos (by assumption) | assumption); exact rfl; exact rfl; (exact (by repeat' constructor))) | (apply cw_draw (id := 6) [(0, 0), (1, 0), (2, 0), (3, 0), (4, 0), (5, 0), (6, 0), (7, 0), (8, 0), (9, 0), (10, 0), (11, 0), (12, 0), (13, 0), (14, 0)]; assumption; exact mixed; kernel_rfl) | (apply x_append1; assumption; exact rfl; exact rfl; exact rfl; exact rfl; exact rfl; (exact (by repeat' constructor)); (exact (by repeat' constructor)); exact rfl; exact rfl; exact rfl; (first | assumption | omega | (simp; omega)); intro _ _ _ _) | (apply x_move; exact rfl; exact rfl; (exact (by repeat' constructor))) | (apply x_assign; exact rfl; exact rfl; (exact (by repeat' constructor))) | (apply x_load; assumption; exact rfl; exact rfl; exact rfl; (exact (by repeat' constructor)); exact rfl; exact rfl; (exact (by repeat' constructor))) | (apply x_bin; exact rfl; exact rfl; exact rfl; (first | exact .z (.wrap (by omega)) | exact (by repeat' constructor))) | (apply x_alloc; assumption; exact rfl; exact rfl; exact rfl; (exact (by repeat' constructor)); intro _ _ _) | (apply x_store; assumption; exact rfl; exact rfl; (exact (by repeat' constructor)); (exact (by repeat' constructor)); exact rfl; exact rfl; exact rfl; (exact (by repeat' constructor)); intro _ _) | (apply x_buildSlice; assumption; exact rfl; exact rfl; exact rfl; (exact (by repeat' constructor)); intro _ _ _) | (apply x_index; exact rfl; exact rfl; exact rfl; exact rfl; exact rfl; (constructor); (first | omega | exact size_pos (by assumption) | assumption); (first | exact rfl | assumption | exact Rd.some_ (by assumption) (by omega) | exact Rd.some_ (Old.rd (by assumption)) (by omega) | exact (Sat.rd (by assumption) (by exact (by repeat' constructor))).some_ (by omega))) | (apply y_not; exact rfl) | (apply y_move; exact rfl; (exact (by repeat' constructor))) | (apply y_bin; exact rfl; exact (fun _ => rfl); (first | exact .z (.wrap (by omega)) | exact (by repeat' constructor))) | (apply y_pick; exact rfl; exact rfl; (exact (by repeat' constructor))) | (apply y_builtin; exact rfl; exact (fun _ _ => rfl); (exact (by repeat' constructor))) | (apply y_nil; intro _ _) | (apply cw_true; exact rfl) | (apply x_dec; exact rfl; all_goals (intro _; try omega))))
      all_goals first
        | (exfalso; omega)
        | skip
      rename_i b8 _ _ g1 cap1 w8 S8
      have hk1 := kpTo_first hlt h0
      have hk2 : ((kpTo L i).map prC).length + 1 = (kpTo L (i + 1)).length := by rw [hk1]; simp
      have hS2 : (kpTo L i).map prC ++ [prC (L.getD i (0, 0))] = (kpTo L (i + 1)).map prC := by rw [hk1, List.map_append]; rfl
      have S9 : Sat w [] [.rw 0 (.slice (some ⟨g1, 0, none⟩) (kpTo L (i + 1)).length cap1) 75 2 ((kpTo L (i + 1)).map prC), .rw 0 (.slice A3 L.length c3) 75 2 (L.map prC)] w8 := by rw [← hk2, ← hS2]; exact Sat.drop2 S8
      refine ⟨rfl, (by repeat (first | exact Agree.updl rfl (Agree.mask _ _ _) | refine Agree.upd rfl ?_)), ⟨i + 1, some ⟨g1, 0, none⟩, cap1, hlt, by rw [← hk2]; rfl, S9⟩, ?_⟩
      show L.length - (i + 1 : Int).toNat < L.length - (i : Int).toNat
      omega
    · obtain ⟨j, hj⟩ : ∃ j, (kpTo L i).length = j + 1 := ⟨(kpTo L i).length - 1, by omega⟩
      (repeat' (first | apply cw_seq | apply cw_region | apply wl_nil | apply cw_block | apply cw_skip | (apply y_gdec; exact rfl; exact rfl; all_goals (intro _; try omega)) | (apply x_loadR; exact rfl; exact rfl; exact rfl; exact Sat.rdmapN ((0 : Int), (0 : Int)) (by assumption) (by exact (by repeat' constructor)) rfl; (first | omega | exact size_pos (by assumption) | assumption); exact rfl; exact rfl; (exact (by repeat' constructor))) | (apply y_bin; exact rfl; exact (fun _ => rfl); exact is_subL hj (by omega)) | (apply y_loadRowM ((0 : Int), (0 : Int)); exact rfl; exact rfl; (exact (by repeat' constructor)); exact rfl; (first | omega | exact size_pos (by assumption) | assumption); exact rfl; exact rfl; (exact (by repeat' constructor))) | (apply y_indexArrE; exact rfl; exact rfl; exact rfl; exact rfl; decide; decide; (constructor)) | (apply cw_draw (id := 6) [(0, 0), (1, 0), (2, 0), (3, 0), (4, 0), (5, 0), (6, 0), (7, 0), (8, 0), (9, 0), (10, 0), (11, 0), (12, 0), (13, 0), (14, 0)]; assumption; exact mixed; kernel_rfl) | (apply x_append1; assumption; exact rfl; exact rfl; exact rfl; exact rfl; exact rfl; (exact (by repeat' constructor)); (exact (by repeat' constructor)); exact rfl; exact rfl; exact rfl; (first | assumption | omega | (simp; omega)); intro _ _ _ _) | (apply x_move; exact rfl; exact rfl; (exact (by repeat' constructor))) | (apply x_assign; exact rfl; exact rfl; (exact (by repeat' constructor))) | (apply x_load; assumption; exact rfl; exact rfl; exact rfl; (exact (by repeat' constructor)); exact rfl; exact rfl; (exact (by repeat' constructor))) | (apply x_bin; exact rfl; exact rfl; exact rfl; (first | exact .z (.wrap (by omega)) | exact (by repeat' constructor))) | (apply x_alloc; assumption; exact rfl; exact rfl; exact rfl; (exact (by repeat' constructor)); intro _ _ _) | (apply x_store; assumption; exact rfl; exact rfl; (exact (by repeat' constructor)); (exact (by repeat' constructor)); exact rfl; exact rfl; exact rfl; (exact (by repeat' constructor)); intro _ _) | (apply x_buildSlice; assumption; exact rfl; exact rfl; exact rfl; (exact (by repeat' constructor)); intro _ _ _) | (apply x_index; exact rfl; exact rfl; exact rfl; exact rfl; exact rfl; (constructor); (first | omega | exact size_pos (by assumption) | assumption); (first | exact rfl | assumption | exact Rd.some_ (by assumption) (by omega) | exact Rd.some_ (Old.rd (by assumption)) (by omega) | exact (Sat.rd (by assumption) (by exact (by repeat' constructor))).some_ (by omega))) | (apply y_move; exact rfl; (exact (by repeat' constructor))) | (apply y_load; exact rfl; exact rfl; (exact (by repeat' constructor)); exact rfl; exact rfl; (exact (by repeat' constructor))) | (apply y_bin; exact rfl; exact (fun _ => rfl); (first | exact .z (.wrap (by omega)) | exact (by repeat' constructor))) | (apply y_pick; exact rfl; exact rfl; (exact (by repeat' constructor))) | (apply y_builtin; exact rfl; exact (fun _ _ => rfl); (exact (by repeat' constructor))) | (apply y_index; exact rfl; exact rfl; exact rfl; exact rfl; (constructor); (first | omega | exact size_pos (by assumption) | assumption); (first | exact rfl | assumption | exact Rd.some_ (by assumption) (by omega) | exact Rd.some_ (Old.rd (by assumption)) (by omega) | exact (Sat.rd (by assumption) (by exact (by repeat' constructor))).some_ (by omega))) | (apply y_indexArrB; exact rfl; exact rfl; exact rfl; exact rfl; decide; decide; (constructor)) | (apply y_nil; intro _ _) | (apply x_dec; exact rfl; all_goals (intro _; try omega))))
      all_goals first
        | (exfalso; omega)
        | skip
      · have hlt2 : (L.getD i (0, 0)).2 < ((kpTo L i).getD j (0, 0)).2 := by assumption
        rename_i b8 _ _ g1 cap1 w8 S8
        have hk1 := kpTo_yes hlt hj hlt2
        have hk2 : ((kpTo L i).map prC).length + 1 = (kpTo L (i + 1)).length := by rw [hk1]; simp
        have hS2 : (kpTo L i).map prC ++ [prC (L.getD i (0, 0))] = (kpTo L (i + 1)).map prC := by rw [hk1, List.map_append]; rfl
        have S9 : Sat w [] [.rw 0 (.slice (some ⟨g1, 0, none⟩) (kpTo L (i + 1)).length cap1) 75 2 ((kpTo L (i + 1)).map prC), .rw 0 (.slice A3 L.length c3) 75 2 (L.map prC)] w8 := by rw [← hk2, ← hS2]; exact Sat.drop2 S8
        refine ⟨rfl, (by repeat (first | exact Agree.updl rfl (Agree.mask _ _ _) | refine Agree.upd rfl ?_)), ⟨i + 1, some ⟨g1, 0, none⟩, cap1, hlt, by rw [← hk2]; rfl, S9⟩, ?_⟩
        show L.length - (i + 1 : Int).toNat < L.length - (i : Int).toNat
        omega
      · have hlt2 : ¬ (L.getD i (0, 0)).2 < ((kpTo L i).getD j (0, 0)).2 := by assumption
        have hk1 := kpTo_no hlt hj hlt2
        refine ⟨rfl, (by repeat (first | exact Agree.updl rfl (Agree.mask _ _ _) | refine Agree.upd rfl ?_)), ⟨i + 1, A6, c6, hlt, by rw [hk1]; rfl, by rw [hk1]; exact Sat.drop1 (by assumption)⟩, ?_⟩
        show L.length - (i + 1 : Int).toNat < L.length - (i : Int).toNat
        omega
  · have ei : i = L.length := by omega
    subst ei
    have hkk : keepC none L = kpTo L L.length := by rw [kpTo, List.take_length]
    rw [hkk]
    (repeat' (first | apply cw_seq | apply cw_region | apply wl_nil | apply cw_exit | apply cw_ret | (apply x_move; exact rfl; exact rfl; (exact (by repeat' constructor))) | (apply x_assign; exact rfl; exact rfl; (exact (by repeat' constructor))) | (apply x_bin; exact rfl; exact rfl; exact rfl; (first | exact .z (.wrap (by omega)) | exact (by repeat' constructor))) | (apply x_dec; exact rfl; all_goals (intro _; try omega))))
    (first | refine q_retS (by assumption) rfl (by repeat (first | exact .nil | (apply RV.tmp; exact (by repeat' constructor)) | (apply RV.cell; exact rfl; exact (by repeat' constructor); exact rfl; exact rfl; exact (by repeat' constructor)))) ?_ | (simp only [thenQ, blockQ]; refine q_retS (by assumption) rfl (by repeat (first | exact .nil | (apply RV.tmp; exact (by repeat' constructor)) | (apply RV.cell; exact rfl; exact (by repeat' constructor); exact rfl; exact rfl; exact (by repeat' constructor)))) ?_))
    exact rowR_n (V := fun v => v) (List.length_map _).symm Sr .head
end Go.Proofs.Ytdkknknebehkgaa.Al
