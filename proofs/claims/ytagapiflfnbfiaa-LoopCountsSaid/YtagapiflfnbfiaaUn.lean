/- Forests without loops: the law walked. No statement of the seat is proved here. -/
import Derived.Test.YtagapiflfnbfiaaUm
import Derived.Test.YtagapiflfnbfiaaUb
namespace Go.Proofs.Ytagapiflfnbfiaa
set_option linter.unusedVariables false
set_option linter.unusedSimpArgs false
open Go Go.RowKit
theorem hasN {o : HO} : ∀ {h : List HO}, o ∈ h → Has h o
  | [], hm => by cases hm
  | x :: h, hm => by
    by_cases e : o = x
    · subst e; exact .head
    · rcases List.mem_cons.1 hm with h1 | h1
      · exact absurd h1 e
      · exact .tail (hasN h1)
theorem oqN_rd {q : OQ} {h : List HO} {w0 w : World} {M : List Nat} (S : Sat w0 M h w) (hs : ∀ o ∈ oqH q, o ∈ h) : Rd w q.A 1 q.rs.length (fun i => orV (q.rs.getD i or0)) ∧ ∀ i, i < q.rs.length → Rd w (q.rs.getD i or0).A 2 (q.rs.getD i or0).xs.length (fun j => lkC ((q.rs.getD i or0).xs.getD j lk0)) := by
  refine ⟨Sat.rdmapN (en := orV) or0 S (hasN (hs _ (List.mem_cons_self ..))) rfl, fun i hi => ?_⟩
  have hm := getD_mem or0 hi
  exact Sat.rdmapN (en := lkC) lk0 S (hasN (hs (orH (q.rs.getD i or0)) (List.mem_cons_of_mem _ (List.mem_map_of_mem hm)))) rfl
theorem rig_y (A : Option Addr) (cA : Nat) (l : List Dm) (hl : l.length ≤ 9223372036854775807) (ho : ∀ i, i < l.length → (dat l i).ok) (h : rigP l) (w : World) (R : Rd w A 5 l.length (fun i => dmC (l.getD i dm0))) : Calls Try.prog 24 #[.slice A l.length cA] w (RetP (Val (.bool true) w)) := val_of (right_c A cA l hl ho w R) (by rw [rigB_yes h])
theorem rig_n (A : Option Addr) (cA : Nat) (l : List Dm) (hl : l.length ≤ 9223372036854775807) (ho : ∀ i, i < l.length → (dat l i).ok) (h : ¬ rigP l) (w : World) (R : Rd w A 5 l.length (fun i => dmC (l.getD i dm0))) : Calls Try.prog 24 #[.slice A l.length cA] w (RetP (Val (.bool false) w)) := val_of (right_c A cA l hl ho w R) (by rw [rigB_no h])
theorem Loops_y (A : Option Addr) (cA : Nat) (l : List Dm) (hl : l.length ≤ 9223372036854775807) (ho : ∀ i, i < l.length → (dat l i).ok) {P : List (List Lk)} (h : lopS l = (P, 0)) (w : World) (R : Rd w A 5 l.length (fun i => dmC (l.getD i dm0))) : Calls Try.prog 22 #[.slice A l.length cA] w (RetP fun v w' => ∃ q : { q : OQ // q.rs.map OR.xs = P }, v = .tuple #[oqV q.1, .int .i64 0] ∧ Sat w [] (oqH q.1) w') := by
  have := Loops_c A cA l hl ho w R
  rwa [h] at this
section
variable {ro : Option Nat} {Q : Post} {D : List Deferred} {f : Fm} {w0 : World} {M : List Nat} {h : List HO}
variable {ops : Array Oper} {prest : List (Nat × Oper)} {d : Nat} {ps : String} {af : Array Edge} {gd : Option (Nat × Bool)} {x y : Operand}
theorem eqc_lk2 {a b : Lk} : eqc [0, 1] [.int .i64 a.dm, .bool a.bk] [.int .i64 b.dm, .bool b.bk] = some (@decide (a = b) (Classical.propDecidable _)) := by
  by_cases h : a = b
  · rw [decT h]; subst h; simp [eqc]
  · rw [decF h]
    rw [lk_ext] at h
    simp [eqc]
    exact fun e => by simp_all
theorem y_eqLk {a b : Lk} {ty T' : TypeId} (hg : want ops f ⟨some d, .binOp .eql 59 x y T', ty, ps, af, gd⟩ = true) (hx : fev f x = .agg #[.int .i64 a.dm, .bool a.bk]) (hy : fev f y = .agg #[.int .i64 b.dm, .bool b.bk])
    (hm : Try.prog.eqGuardType Try.prog.depth 59 = false) (hag : (Try.prog.underlying 59).map isAggD = some true)
    (kk : PV Try.prog ro ops Q w0 M h prest D (upd f d (.bool (@decide (a = b) (Classical.propDecidable _))))) : PV Try.prog ro ops Q w0 M h ((0, ⟨some d, .binOp .eql 59 x y T', ty, ps, af, gd⟩) :: prest) D f := y_eqAgg hg hx hy flat_Link hag hm eqc_lk2 kk
end
set_option maxRecDepth 100000 in
theorem e_counts1 : Ent Try.prog 26 := fun _ _ => rfl
set_option maxRecDepth 4000 in
set_option maxHeartbeats 2000000 in
theorem counts1_c (A : Option Addr) (c b i : Nat) (xs : List Lk) (h0 : 0 < xs.length) (hx : xs.length ≤ 9223372036854775807) (w : World) (R : Rd w A 2 xs.length (fun i => lkC (xs.getD i lk0))) (Ob : OldB w [] b 3 [.int .i64 (i : Int)]) : Calls Try.prog 26 #[.slice A xs.length c, .pointer (some ⟨b, 0, none⟩)] w (RetP (Val (.bool (@decide (xs.getD 0 lk0 = ⟨(i : Int), false⟩) (Classical.propDecidable _))) w)) := by
  refine calls_of_cw (args := [.slice A xs.length c, .pointer (some ⟨b, 0, none⟩)]) Try.func26 rfl rfl ?_
  have S := Sat.start [] w
  have O := (R).old
  (repeat' (first | apply cw_seq | apply cw_region | apply wl_nil | apply cw_ret | (apply y_gdec; exact rfl; exact rfl; all_goals (intro _; try omega)) | (apply y_eqLk (a := xs.getD 0 lk0) (b := ⟨(i : Int), false⟩); exact rfl; exact rfl; exact rfl; kernel_rfl; exact rfl) | (apply cw_draw (id := 1) [(0, 0), (1, 0), (2, 0), (3, 0), (4, 0), (5, 0), (6, 0), (7, 0), (8, 0), (9, 0), (10, 0), (11, 0)]; assumption; exact mixed; kernel_rfl) | (apply x_assign; exact rfl; exact rfl; (exact (by repeat' constructor))) | (apply y_move; exact rfl; (exact (by repeat' constructor))) | (apply y_assign; exact rfl; (exact (by repeat' constructor))) | (apply y_bin; exact rfl; exact (fun _ => rfl); (first | exact .z (.wrap (by omega)) | exact (by repeat' constructor))) | (apply y_pick; exact rfl; exact rfl; (exact (by repeat' constructor))) | (apply y_build; exact rfl; exact rfl; (exact (by repeat' constructor))) | (apply y_builtin; exact rfl; exact (fun _ _ => rfl); (exact (by repeat' constructor))) | (apply y_loadB; exact rfl; exact rfl; assumption; exact rfl; exact rfl; (exact (by repeat' constructor))) | (apply y_indexK; exact rfl; exact rfl; exact rfl; exact rfl; (constructor); (constructor); (first | assumption | omega | decide); (first | omega | exact size_pos (by assumption) | assumption); (first | exact rfl | assumption | exact Rd.some_ (by assumption) (by omega) | exact Rd.some_ (Old.rd (by assumption)) (by omega) | exact (Sat.rd (by assumption) (by exact (by repeat' constructor))).some_ (by omega))) | (apply y_loadR; exact rfl; exact rfl; assumption; (first | omega | exact size_pos (by assumption) | assumption); exact rfl; exact rfl; (exact (by repeat' constructor))) | (apply y_nil; intro _ _)))
  all_goals (first | refine q_retS (by assumption) rfl (by repeat (first | exact .nil | (apply RV.tmp; exact (by repeat' constructor)) | (apply RV.cell; exact rfl; exact (by repeat' constructor); exact rfl; exact rfl; exact (by repeat' constructor)))) ?_ | (simp only [thenQ, blockQ]; refine q_retS (by assumption) rfl (by repeat (first | exact .nil | (apply RV.tmp; exact (by repeat' constructor)) | (apply RV.cell; exact rfl; exact (by repeat' constructor); exact rfl; exact rfl; exact (by repeat' constructor)))) ?_))
  all_goals exact ⟨rfl, Sat.keeps (by assumption)⟩
def FI (l : List Dm) (i : Nat) : List Dm := ((List.range i).filter (useF (forS l l.length).1)).map (dat l)
theorem FI_s (l : List Dm) (i : Nat) : FI l (i + 1) = FI l i ++ (if useF (forS l l.length).1 i = true then [dat l i] else []) := by
  unfold FI
  rw [List.range_succ, List.filter_append, List.map_append]
  congr 1
  by_cases h : useF (forS l l.length).1 i = true
  · rw [if_pos h, List.filter_cons, if_pos h]; rfl
  · rw [if_neg h, List.filter_cons, if_neg h]; rfl
theorem FI_len (l : List Dm) (i : Nat) : (FI l i).length ≤ i := by
  unfold FI
  rw [List.length_map]
  exact Nat.le_trans (List.length_filter_le _ _) (by rw [List.length_range]; exact Nat.le_refl _)
theorem FI_all (l : List Dm) : FI l l.length = forD l := rfl
theorem ContainsR_n (A : Option Addr) (cA : Nat) (rs : List OR) (hl : rs.length ≤ 9223372036854775807) (g : FuncId) (cap : List Value) (hE : Ent Try.prog g) (p : Nat → Bool) (w : World) (R : Rd w A 1 rs.length (fun i => orV (rs.getD i or0))) (hU : ∀ i, i < rs.length → ∀ w', Keeps [] w w' → Calls Try.prog g (.slice (rs.getD i or0).A (rs.getD i or0).xs.length (rs.getD i or0).c :: cap).toArray w' (RetP (Val (.bool (p i)) w')))
    (hn : ∀ i, i < rs.length → ¬ p i = true) : Calls Try.prog 25 #[.slice A rs.length cA, .func (.func g) #[] cap.toArray] w (RetP (Val (.bool false) w)) :=
  val_of (ContainsR_c A cA rs hl g cap hE p w R hU) (by rw [fstI_no (fun i _ h2 => hn i (by omega))]; rfl)
theorem Find_o (A : Option Addr) (cA : Nat) (l : List Dm) (hl : l.length ≤ 9223372036854775807) (ho : ∀ i, i < l.length → (dat l i).ok) (ax : Int) (fr to : ByteArray) (hfr : fr.size ≤ 9223372036854775807) (hto : to.size ≤ 9223372036854775807) (h : (findS l ax fr to).2 = 0) (w : World) (R : Rd w A 5 l.length (fun i => dmC (l.getD i dm0))) : Calls Try.prog 15 #[.slice A l.length cA, .agg #[.int .i64 ax, .string fr, .string to]] w (RetP (RowR (fun v => .tuple #[v, .int .i64 0]) 59 2 ((findS l ax fr to).1.map lkC) w)) := by
  have := Find_c A cA l hl ho ax fr to hfr hto w R
  rwa [h] at this
theorem len_nil {rs : List OR} (h : rs.map OR.xs = []) : rs.length = 0 := by rw [← List.length_map (f := OR.xs), h]; rfl
set_option maxRecDepth 100000 in
theorem e_lawCounts : Ent Try.prog 6 := fun _ _ => rfl
set_option maxRecDepth 8000 in
set_option maxHeartbeats 20000000 in
theorem lawCounts_c (A : Option Addr) (cA : Nat) (l : List Dm) (hl : l.length ≤ 9223372036854775807) (ho : ∀ i, i < l.length → (dat l i).ok) (w : World) (R : Rd w A 5 l.length (fun i => dmC (l.getD i dm0))) : Calls Try.prog 6 #[.slice A l.length cA] w (RetP (Val (.bool true) w)) := by
  refine calls_of_cw (args := [.slice A l.length cA]) Try.func6 rfl rfl ?_
  have S := Sat.start [] w
  have O := R.old
  by_cases hrg : rigP l
  · have hg := hrg.2.2
    have h6 := hrg.1
    have hL : l.length ≤ 256 := by omega
    have hlop : lopS l = ((forS l l.length).2.map (fun (i : Nat) => (⟨(i : Int), false⟩ : Lk) :: ringS l i), 0) := if_pos hg
    (repeat' (first | apply cw_seq | apply cw_region | apply wl_nil | apply cw_block | apply cw_skip | (apply x_callv; assumption; exact rfl; exact rfl; exact rfl; exact e_right; (exact (by repeat' constructor)); with_reducible exact (rig_y A cA l hl ho hrg _ (Old.now O (by assumption))); intro _ _ _) | (apply x_callH; assumption; exact rfl; exact rfl; exact rfl; exact e_Loops; (exact (by repeat' constructor)); (with_reducible exact Loops_y A cA l hl ho hlop _ (Old.now O (by assumption))); rintro ⟨q1, hq1⟩ w1 S1; dsimp only) | (apply x_move; exact rfl; exact rfl; (exact (by repeat' constructor))) | (apply x_assign; exact rfl; exact rfl; (exact (by repeat' constructor))) | (apply x_bin; exact rfl; exact rfl; exact rfl; (first | exact .z (.wrap (by omega)) | exact (by repeat' constructor))) | (apply x_un; exact rfl; exact rfl; exact rfl; (first | exact .z (.wrap (by omega)) | exact (by repeat' constructor))) | (apply x_extract; exact rfl; exact rfl; exact rfl; (exact (by repeat' constructor))) | (apply x_builtin; exact rfl; exact rfl; exact (fun _ => rfl); (exact (by repeat' constructor))) | (apply cw_false; exact rfl)))
    all_goals first
      | (exfalso; omega)
      | skip
    replace S1 : Sat w [] (oqH q1) w1 := Sat.cast (List.append_nil _) S1
    have hql : q1.rs.length = (forS l l.length).2.length := by rw [← List.length_map (f := OR.xs), hq1, List.length_map]
    have hrl := (forS_len (l := l) l.length).2.1
    have hq1l : q1.rs.length ≤ 9223372036854775807 := by omega
    have hfc := FR_count hL (Nat.le_refl l.length)
    have hhead : ∀ m, m < q1.rs.length → 0 < (q1.rs.getD m or0).xs.length ∧ (q1.rs.getD m or0).xs.length ≤ 9223372036854775807 ∧ (q1.rs.getD m or0).xs.getD 0 lk0 = ⟨(((forS l l.length).2.getD m 0 : Nat) : Int), false⟩ := fun m hm => by
      have h1 : (q1.rs.getD m or0).xs = (⟨(((forS l l.length).2.getD m 0 : Nat) : Int), false⟩ : Lk) :: ringS l ((forS l l.length).2.getD m 0) := by
        have h2 := congrArg (fun x => x.getD m []) hq1
        have hm2 : m < (forS l l.length).2.length := by omega
        simp [List.getD_eq_getElem?_getD, hm, hm2] at h2
        simp [List.getD_eq_getElem?_getD, hm, hm2, h2]
      have h3 : (ringS l ((forS l l.length).2.getD m 0)).length ≤ 1001 := shS_len (nlk_ok l _ _ hL) _ _
      rw [h1]
      exact ⟨Nat.succ_pos _, (by rw [List.length_cons]; omega), rfl⟩
    refine cw_loop [5, 6, 7, 27, 28, 29, 30, 31, 32, 33, 34, 35, 36, 37, 38, 39, 40] [27, 5] (fun us wr => ∃ (i : Nat) (fA : Option Addr) (fc : Nat), i ≤ l.length ∧ us = [.int .i64 i, .slice fA (FI l i).length fc] ∧ Sat w [] (.rw 0 (.slice fA (FI l i).length fc) 56 5 ((FI l i).map dmC) :: oqH q1) wr) (fun us _ => l.length - (intOf (us.getD 0 undef)).toNat) ?_ ?_
    · exact ⟨0, none, 0, Nat.zero_le _, rfl, S1.addNil _ _⟩
    clear S1 S
    rintro g us wr ⟨i, fA, fc, hi, rfl, Sr⟩
    by_cases hlt : i < l.length
    · have hFl := FI_len l i
      have hFs := FI_s l i
      have hct : ∀ {h : List HO} {w6 : World} {b : Nat} (Sx : Sat w [] h w6) (h1 : Has h (.cl b 3 [.int .i64 (i : Int)])) (h2 : ∀ o ∈ oqH q1, o ∈ h), ∀ m, m < q1.rs.length → ∀ w', Keeps [] w6 w' → Calls Try.prog 26 (.slice (q1.rs.getD m or0).A (q1.rs.getD m or0).xs.length (q1.rs.getD m or0).c :: [.pointer (some ⟨b, 0, none⟩)]).toArray w' (RetP (Val (.bool (@decide ((q1.rs.getD m or0).xs.getD 0 lk0 = ⟨(i : Int), false⟩) (Classical.propDecidable _))) w')) := fun {h w6 b} Sx h1 h2 m hm w' hk => by
        obtain ⟨h3, h4, _⟩ := hhead m hm
        exact counts1_c _ _ b i _ h3 h4 w' (((oqN_rd (q := q1) Sx h2).2 m hm).call hk) (Sx.oldb h1 hk)
      by_cases hu : useF (forS l l.length).1 i = true
      · rw [if_pos hu] at hFs
        have hno : ∀ m, m < q1.rs.length → ¬ @decide ((q1.rs.getD m or0).xs.getD 0 lk0 = ⟨(i : Int), false⟩) (Classical.propDecidable _) = true := fun m hm e => by
          have e2 := (@decide_eq_true_iff _ (Classical.propDecidable _)).1 e
          rw [(hhead m hm).2.2] at e2
          have e3 : (forS l l.length).2.getD m 0 = i := by injection e2 with e3 _; omega
          have e4 : i ∈ (forS l l.length).2 := by rw [← e3]; exact getD_memN (by omega)
          exact ((FR_iff hL hlt).1 (FR_mem.2 ⟨hlt, hu⟩)) e4
        (repeat' (first | apply cw_seq | apply cw_region | apply wl_nil | apply cw_block | apply cw_skip | (apply x_callv; assumption; exact rfl; exact rfl; exact rfl; exact e_ContainsR; (exact (by repeat' constructor)); exact (ContainsR_n q1.A q1.c q1.rs hq1l 26 [.pointer (some ⟨_, 0, none⟩)] e_counts1 _ _ (oqN_rd (q := q1) (by assumption) (fun o ho => by simp [ho])).1 (hct (by assumption) (by exact (by repeat' constructor)) (fun o ho => by simp [ho])) hno); intro _ _ _) | (apply x_append1; assumption; exact rfl; exact rfl; exact rfl; exact rfl; exact rfl; (exact (by repeat' constructor)); (exact (by repeat' constructor)); exact rfl; exact rfl; exact rfl; (first | assumption | omega | (simp; omega)); intro _ _ _ _) | (apply x_move; exact rfl; exact rfl; (exact (by repeat' constructor))) | (apply x_assign; exact rfl; exact rfl; (exact (by repeat' constructor))) | (apply x_load; assumption; exact rfl; exact rfl; exact rfl; (exact (by repeat' constructor)); exact rfl; exact rfl; (exact (by repeat' constructor))) | (apply x_bin; exact rfl; exact rfl; exact rfl; (first | exact .z (.wrap (by omega)) | exact (by repeat' constructor))) | (apply x_un; exact rfl; exact rfl; exact rfl; (first | exact .z (.wrap (by omega)) | exact (by repeat' constructor))) | (apply x_alloc; assumption; exact rfl; exact rfl; exact rfl; (exact (by repeat' constructor)); intro _ _ _) | (apply x_store; assumption; exact rfl; exact rfl; (exact (by repeat' constructor)); (exact (by repeat' constructor)); exact rfl; exact rfl; exact rfl; (exact (by repeat' constructor)); intro _ _) | (apply x_makeFunc; exact rfl; exact rfl; (exact (by repeat' constructor))) | (apply x_buildSlice; assumption; exact rfl; exact rfl; exact rfl; (exact (by repeat' constructor)); intro _ _ _) | (apply x_index; exact rfl; exact rfl; exact rfl; exact rfl; exact rfl; (constructor); (first | omega | exact size_pos (by assumption) | assumption); (first | exact rfl | assumption | exact Rd.some_ (by assumption) (by omega) | exact Rd.some_ (Old.rd (by assumption)) (by omega) | exact (Sat.rd (by assumption) (by exact (by repeat' constructor))).some_ (by omega))) | (apply x_loadR; exact rfl; exact rfl; exact rfl; (first | exact Old.now (by assumption) (by assumption) | exact Sat.rdpr (by assumption) (by exact (by repeat' constructor)) | exact Sat.rd (by assumption) (by exact (by repeat' constructor))); (first | omega | exact size_pos (by assumption) | assumption); exact rfl; exact rfl; (exact (by repeat' constructor))) | (apply cw_true; exact rfl) | (apply x_dec; exact rfl; all_goals (intro _; try omega))))
        rename_i _ _ _ g3 c3 w7 S7
        have e : (FI l (i + 1)).length = ((FI l i).map dmC).length + 1 := by rw [hFs]; simp
        refine ⟨rfl, (by repeat (first | exact Agree.updl rfl (Agree.mask _ _ _) | refine Agree.upd rfl ?_)), ⟨i + 1, some ⟨g3, 0, none⟩, c3, hlt, (by rw [e]; rfl), ?_⟩, ?_⟩
        · rw [e, hFs, List.map_append]
          exact S7.drop1.drop1.drop1
        · show l.length - (i + 1 : Int).toNat < l.length - (i : Int).toNat
          omega
      · rw [if_neg hu, List.append_nil] at hFs
        have him : i ∈ (forS l l.length).2 := Classical.byContradiction fun h => hu (FR_mem.1 ((FR_iff hL hlt).2 h)).2
        obtain ⟨m, hm, hme⟩ := mem_getDN him
        have hmq : m < q1.rs.length := by omega
        have hp : (fun m => @decide ((q1.rs.getD m or0).xs.getD 0 lk0 = ⟨(i : Int), false⟩) (Classical.propDecidable _)) m = true := decT (by rw [(hhead m hmq).2.2, hme])
        (repeat' (first | apply cw_seq | apply cw_region | apply wl_nil | apply cw_block | apply cw_skip | (apply x_callv; assumption; exact rfl; exact rfl; exact rfl; exact e_ContainsR; (exact (by repeat' constructor)); exact (ContainsR_y q1.A q1.c q1.rs hq1l 26 [.pointer (some ⟨_, 0, none⟩)] e_counts1 _ _ (oqN_rd (q := q1) (by assumption) (fun o ho => by simp [ho])).1 (hct (by assumption) (by exact (by repeat' constructor)) (fun o ho => by simp [ho])) hmq hp); intro _ _ _) | (apply x_move; exact rfl; exact rfl; (exact (by repeat' constructor))) | (apply x_bin; exact rfl; exact rfl; exact rfl; (first | exact .z (.wrap (by omega)) | exact (by repeat' constructor))) | (apply x_un; exact rfl; exact rfl; exact rfl; (first | exact .z (.wrap (by omega)) | exact (by repeat' constructor))) | (apply x_alloc; assumption; exact rfl; exact rfl; exact rfl; (exact (by repeat' constructor)); intro _ _ _) | (apply x_store; assumption; exact rfl; exact rfl; (exact (by repeat' constructor)); (exact (by repeat' constructor)); exact rfl; exact rfl; exact rfl; (exact (by repeat' constructor)); intro _ _) | (apply x_makeFunc; exact rfl; exact rfl; (exact (by repeat' constructor))) | (apply x_index; exact rfl; exact rfl; exact rfl; exact rfl; exact rfl; (constructor); (first | omega | exact size_pos (by assumption) | assumption); (first | exact rfl | assumption | exact Rd.some_ (by assumption) (by omega) | exact Rd.some_ (Old.rd (by assumption)) (by omega) | exact (Sat.rd (by assumption) (by exact (by repeat' constructor))).some_ (by omega))) | (apply x_loadR; exact rfl; exact rfl; exact rfl; (first | exact Old.now (by assumption) (by assumption) | exact Sat.rdpr (by assumption) (by exact (by repeat' constructor)) | exact Sat.rd (by assumption) (by exact (by repeat' constructor))); (first | omega | exact size_pos (by assumption) | assumption); exact rfl; exact rfl; (exact (by repeat' constructor))) | (apply cw_false; exact rfl) | (apply x_dec; exact rfl; all_goals (intro _; try omega))))
        refine ⟨rfl, (by repeat (first | exact Agree.updl rfl (Agree.mask _ _ _) | refine Agree.upd rfl ?_)), ⟨i + 1, fA, fc, hlt, (by rw [hFs]; rfl), (by rw [hFs]; exact Sat.drop1 (Sat.drop1 (by assumption)))⟩, ?_⟩
        show l.length - (i + 1 : Int).toNat < l.length - (i : Int).toNat
        omega
    · have hil : i = l.length := by omega
      subst hil
      rw [FI_all] at Sr ⊢
      have hdl : (forD l).length = (FR l l.length).length := List.length_map _
      have hol : (forD l).length ≤ 9223372036854775807 := by omega
      have hod : ∀ j, j < (forD l).length → (dat (forD l) j).ok := fun j hj => by
        rw [show dat (forD l) j = dat l ((FR l l.length).getD j 0) from dat_some (by omega)]
        exact ho _ (FR_mem.1 (getD_memN (by omega))).1
      have hlp := forD_lop hg
      (repeat' (first | apply cw_seq | apply cw_region | apply wl_nil | apply cw_block | apply cw_skip | apply cw_exit | (apply x_callH; assumption; exact rfl; exact rfl; exact rfl; exact e_Loops; (exact (by repeat' constructor)); (with_reducible exact Loops_y fA fc (forD l) hol hod hlp _ (Sat.rdmap dm0 (by assumption) (by exact (by repeat' constructor)))); rintro ⟨q2, hq2⟩ w2 S2; (have hq2l := len_nil hq2); dsimp only) | (apply x_move; exact rfl; exact rfl; (exact (by repeat' constructor))) | (apply x_assign; exact rfl; exact rfl; (exact (by repeat' constructor))) | (apply x_bin; exact rfl; exact rfl; exact rfl; (first | exact .z (.wrap (by omega)) | exact (by repeat' constructor))) | (apply x_pick; exact rfl; exact rfl; exact rfl; (exact (by repeat' constructor))) | (apply x_extract; exact rfl; exact rfl; exact rfl; (exact (by repeat' constructor))) | (apply x_builtin; exact rfl; exact rfl; exact (fun _ => rfl); (exact (by repeat' constructor))) | (apply x_dec; exact rfl; all_goals (intro _; try omega)) | (apply cw_ne; exact rfl; all_goals (intro _; try omega))))
      all_goals first
        | (exfalso; omega)
        | skip
      replace S2 : Sat w [] [.rw 0 (.slice fA (forD l).length fc) 56 5 ((forD l).map dmC)] w2 := S2.drop _ ((List.Sublist.cons_cons _ (List.nil_sublist _)).trans (List.sublist_append_right _ _))
      refine cw_loop [2, 11, 12, 13, 63, 64, 65, 66, 67, 68, 69, 70, 71, 72, 73, 74, 75, 76, 77, 78, 79, 80, 81] [63] (fun us wr => ∃ j : Nat, j ≤ l.length ∧ us = [.int .i64 j] ∧ Sat w [] [.rw 0 (.slice fA (forD l).length fc) 56 5 ((forD l).map dmC)] wr) (fun us _ => l.length - (intOf (us.getD 0 undef)).toNat) ?_ ?_
      · exact ⟨0, Nat.zero_le _, rfl, S2⟩
      clear S2 Sr
      rintro g2 us2 wr2 ⟨j, hj, rfl, Sr⟩
      by_cases hjl : j < l.length
      · obtain ⟨hf1, hf2⟩ := ho j hjl
        have hfn := forD_find hg hjl
        (repeat' (first | apply cw_seq | apply cw_region | apply wl_nil | apply cw_block | apply cw_skip | (apply x_callrowE (m := (findS (forD l) (dat l j).ax (dat l j).fr (dat l j).to).1.length); assumption; exact rfl; exact rfl; exact rfl; exact e_Find; (exact (by repeat' constructor)); (with_reducible exact Find_o fA fc (forD l) hol hod (dat l j).ax (dat l j).fr (dat l j).to hf1 hf2 hfn _ (Sat.rdmap dm0 (by assumption) (by exact (by repeat' constructor)))); exact (List.length_map _); intro _ _ _ _) | (apply x_move; exact rfl; exact rfl; (exact (by repeat' constructor))) | (apply x_assign; exact rfl; exact rfl; (exact (by repeat' constructor))) | (apply x_fieldB; exact rfl; exact rfl; exact rfl; exact rfl; (constructor)) | (apply x_load; assumption; exact rfl; exact rfl; exact rfl; (exact (by repeat' constructor)); exact rfl; exact rfl; (exact (by repeat' constructor))) | (apply x_bin; exact rfl; exact rfl; exact rfl; (first | exact .z (.wrap (by omega)) | exact (by repeat' constructor))) | (apply x_alloc; assumption; exact rfl; exact rfl; exact rfl; (exact (by repeat' constructor)); intro _ _ _) | (apply x_store; assumption; exact rfl; exact rfl; (exact (by repeat' constructor)); (exact (by repeat' constructor)); exact rfl; exact rfl; exact rfl; (exact (by repeat' constructor)); intro _ _) | (apply x_build; exact rfl; exact rfl; exact rfl; (exact (by repeat' constructor))) | (apply x_extract; exact rfl; exact rfl; exact rfl; (exact (by repeat' constructor))) | (apply x_index; exact rfl; exact rfl; exact rfl; exact rfl; exact rfl; (constructor); (first | omega | exact size_pos (by assumption) | assumption); (first | exact rfl | assumption | exact Rd.some_ (by assumption) (by omega) | exact Rd.some_ (Old.rd (by assumption)) (by omega) | exact (Sat.rd (by assumption) (by exact (by repeat' constructor))).some_ (by omega))) | (apply x_loadR; exact rfl; exact rfl; exact rfl; (first | exact Old.now (by assumption) (by assumption) | exact Sat.rdpr (by assumption) (by exact (by repeat' constructor)) | exact Sat.rd (by assumption) (by exact (by repeat' constructor))); (first | omega | exact size_pos (by assumption) | assumption); exact rfl; exact rfl; (exact (by repeat' constructor))) | (apply cw_false; exact rfl) | (apply x_dec; exact rfl; all_goals (intro _; try omega))))
        all_goals first
          | (exfalso; simp_all; done)
          | skip
        refine ⟨rfl, (by repeat (first | exact Agree.updl rfl (Agree.mask _ _ _) | refine Agree.upd rfl ?_)), ⟨j + 1, hjl, rfl, Sat.drop1 (Sat.drop1 (by assumption))⟩, ?_⟩
        show l.length - (j + 1 : Int).toNat < l.length - (j : Int).toNat
        omega
      · (repeat' (first | apply cw_seq | apply cw_region | apply wl_nil | apply cw_exit | apply cw_ret | (apply x_callv; assumption; exact rfl; exact rfl; exact rfl; exact e_awake; (exact (by repeat' constructor)); with_reducible exact (awake_c _); intro _ _ _) | (apply x_assign; exact rfl; exact rfl; (exact (by repeat' constructor))) | (apply x_bin; exact rfl; exact rfl; exact rfl; (first | exact .z (.wrap (by omega)) | exact (by repeat' constructor))) | (apply x_dec; exact rfl; all_goals (intro _; try omega))))
        all_goals (first | refine q_retS (by assumption) rfl (by repeat (first | exact .nil | (apply RV.tmp; exact (by repeat' constructor)) | (apply RV.cell; exact rfl; exact (by repeat' constructor); exact rfl; exact rfl; exact (by repeat' constructor)))) ?_ | (simp only [thenQ, blockQ]; refine q_retS (by assumption) rfl (by repeat (first | exact .nil | (apply RV.tmp; exact (by repeat' constructor)) | (apply RV.cell; exact rfl; exact (by repeat' constructor); exact rfl; exact rfl; exact (by repeat' constructor)))) ?_))
        all_goals exact ⟨rfl, Sat.keeps (by assumption)⟩
  · (repeat' (first | apply cw_seq | apply cw_region | apply wl_nil | apply cw_ret | (apply x_callv; assumption; exact rfl; exact rfl; exact rfl; exact e_right; (exact (by repeat' constructor)); with_reducible exact (rig_n A cA l hl ho hrg _ (Old.now O (by assumption))); intro _ _ _) | (apply x_callv; assumption; exact rfl; exact rfl; exact rfl; exact e_awake; (exact (by repeat' constructor)); with_reducible exact (awake_c _); intro _ _ _) | (apply x_move; exact rfl; exact rfl; (exact (by repeat' constructor))) | (apply x_assign; exact rfl; exact rfl; (exact (by repeat' constructor))) | (apply x_un; exact rfl; exact rfl; exact rfl; (first | exact .z (.wrap (by omega)) | exact (by repeat' constructor))) | (apply cw_true; exact rfl)))
    all_goals (first | refine q_retS (by assumption) rfl (by repeat (first | exact .nil | (apply RV.tmp; exact (by repeat' constructor)) | (apply RV.cell; exact rfl; exact (by repeat' constructor); exact rfl; exact rfl; exact (by repeat' constructor)))) ?_ | (simp only [thenQ, blockQ]; refine q_retS (by assumption) rfl (by repeat (first | exact .nil | (apply RV.tmp; exact (by repeat' constructor)) | (apply RV.cell; exact rfl; exact (by repeat' constructor); exact rfl; exact rfl; exact (by repeat' constructor)))) ?_))
    all_goals exact ⟨rfl, Sat.keeps (by assumption)⟩
end Go.Proofs.Ytagapiflfnbfiaa
