/- The reference's loops, walked; the law walked. No statement of the seat is proved here. -/
import Derived.Test.YtagapiflfnbfiaaUm
import Derived.Test.YtagapiflfnbfiaaUj
import Derived.Laws.Cover3
namespace Go.Proofs.Ytagapiflfnbfiaa
set_option linter.unusedVariables false
set_option linter.unusedSimpArgs false
open Go Go.RowKit
section
variable {P : Program} {ro : Option Nat} {n : Nat} {Q : Post} {D : List Deferred} {f : Fm} {w w0 w' : World} {M : List Nat} {h : List HO}
variable {ops : Array Oper} {rest : List Oper} {prest : List (Nat × Oper)} {d ty : Nat} {ps : String} {af : Array Edge} {gd : Option (Nat × Bool)} {x y : Operand} {o : Oper}
theorem r_eqNilS {T T' e : TypeId} {A : Option Addr} {m c : Nat} (hop : o.op = .binOp .eql T x y T') (hx : fev f x = .slice A m c) (hy : fev f y = .slice none 0 0) (hu : P.underlying T = some (.slice e)) : (execOp (fev f) o).run P w = .ok (.value (.bool A.isNone)) w := by
  unfold execOp
  rw [hop]
  simp [hx, hy, eqGuard, binOp, run_equal_slice_nil w T e A m c hu, Sem.run_bind, Sem.run_pure, Result.andThen]
theorem x_eqNilS {T T' e : TypeId} {A : Option Addr} {m c : Nat} {b : Bool} (hb : A.isNone = b) (hg : want ops f ⟨some d, .binOp .eql T x y T', ty, ps, af, gd⟩ = true) (hdn : Nat.blt d n = true) (hx : fev f x = .slice A m c) (hy : fev f y = .slice none 0 0) (hu : P.underlying T = some (.slice e))
    (k : WL P ro n ops Q rest D (upd f d (.bool b)) w) : WL P ro n ops Q (⟨some d, .binOp .eql T x y T', ty, ps, af, gd⟩ :: rest) D f w := by
  subst hb
  exact wl_val hg rfl hdn (r_eqNilS rfl hx hy hu) (.z .bool) k
end
theorem takeD_succ {α : Type} {z : α} {c : List α} {k : Nat} (h : k < c.length) : c.take (k + 1) = c.take k ++ [c.getD k z] := by
  rw [List.take_add_one]; simp [List.getD_eq_getElem?_getD, h]
set_option maxRecDepth 100000 in
theorem e_rWithin : Ent Try.prog 65 := fun _ _ => rfl
/-- what within returns: nothing, or a row -/
def WithinR (xs : List Lk) (w : World) (v : Value) (w' : World) : Prop := (xs = [] ∧ v = .slice none 0 0 ∧ Keeps [] w w') ∨ (0 < xs.length ∧ RowR (fun v => v) 75 2 (xs.map lkC) w v w')
theorem len_nilR {rs : List OR} (h : rs.map OR.xs = []) : rs.length = 0 := by rw [← List.length_map (f := OR.xs), h]; rfl
theorem is_rowQ {r r' : OR} {p : List Lk} (h : r = r') (hp : r'.xs = p) : Is (.slice r.A r.xs.length r.c) (.slice r'.A p.length r'.c) := by subst h; subst hp; exact .z .any
theorem RowR.before {V : Value → Value} {E size : Nat} {xs : List (List Value)} {w w2 w' : World} {v : Value} (K : Keeps [] w w2) (h : RowR V E size xs w2 v w') : RowR V E size xs w v w' := by
  obtain ⟨A, c, h1, h2, h3, h4⟩ := h
  exact ⟨A, c, h1, K.trans h2, ownsRow_base K.size h3, h4⟩
set_option maxRecDepth 8000 in
set_option maxHeartbeats 8000000 in
theorem rWithin_c (A : Option Addr) (cA : Nat) (l : List Dm) (hl : l.length ≤ 9223372036854775807) (ho : ∀ i, i < l.length → (dat l i).ok) (h6 : l.length ≤ 6) (hg : givenE l = 0) (B : Option Addr) (cB : Nat) (F : List Nat) (hF : ∀ j ∈ F, j < l.length) (hFl : F.length ≤ l.length) (ax : Int) (fr to : ByteArray) (hfr : fr.size ≤ 9223372036854775807) (hto : to.size ≤ 9223372036854775807) (hne : ¬ fr = to) (w : World) (R : Rd w A 5 l.length (fun i => dmC (l.getD i dm0))) (R2 : Rd w B 1 F.length (fun i => naC (F.getD i 0))) :
    Calls Try.prog 65 #[.slice A l.length cA, .slice B F.length cB, .int .i64 ax, .string fr, .string to] w (RetP (WithinR (withinR l F ax fr to) w)) := by
  refine calls_of_cw (args := [.slice A l.length cA, .slice B F.length cB, .int .i64 ax, .string fr, .string to]) Try.func65 rfl rfl ?_
  have S := Sat.start [] w
  have O := R.old
  have O2 := R2.old
  have hlS : (F.map (dat l)).length = F.length := List.length_map _
  have hg2 : givenE (F.map (dat l)) = 0 := given_some hg hF (by omega)
  have h62 : (F.map (dat l)).length ≤ 6 := by omega
  have hl2 : (F.map (dat l)).length ≤ 9223372036854775807 := by omega
  have ho2 : ∀ j, j < (F.map (dat l)).length → (dat (F.map (dat l)) j).ok := fun j hj => by
    rw [dat_some (by omega)]
    exact ho _ (hF _ (getD_memN (by omega)))
  (repeat' (first | apply cw_seq | apply cw_region | apply wl_nil | apply cw_block | (apply x_assign; exact rfl; exact rfl; (exact (by repeat' constructor)))))
  refine cw_loop [11, 12, 16, 17, 18, 19, 20, 21, 22, 23, 24, 25, 26, 27, 28, 29, 30, 31] [12, 11] (fun us wr => ∃ (i : Nat) (sA : Option Addr) (sc : Nat), i ≤ F.length ∧ us = [.int .i64 i, .slice sA (F.take i).length sc] ∧ Sat w [] [.rw 0 (.slice sA (F.take i).length sc) 56 5 (((F.take i).map (dat l)).map dmC)] wr) (fun us _ => F.length - (intOf (us.getD 0 undef)).toNat) ?_ ?_
  · exact ⟨0, none, 0, Nat.zero_le _, rfl, S.addNil _ _⟩
  clear S
  rintro g us wr ⟨i, sA, sc, hi, rfl, Sr⟩
  by_cases hlt : i < F.length
  · have hFi : F.getD i 0 < l.length := hF _ (getD_memN hlt)
    have hts := takeD_succ (z := 0) hlt
    have htl : (F.take i).length = i := by rw [List.length_take]; omega
    (repeat' (first | apply cw_seq | apply cw_region | apply wl_nil | apply cw_block | apply cw_skip | (apply x_append1; assumption; exact rfl; exact rfl; exact rfl; exact rfl; exact rfl; (exact (by repeat' constructor)); (exact (by repeat' constructor)); exact rfl; exact rfl; exact rfl; (first | assumption | omega | (simp; omega)); intro _ _ _ _) | (apply x_move; exact rfl; exact rfl; (exact (by repeat' constructor))) | (apply x_assign; exact rfl; exact rfl; (exact (by repeat' constructor))) | (apply x_bin; exact rfl; exact rfl; exact rfl; (first | exact .z (.wrap (by omega)) | exact (by repeat' constructor))) | (apply x_builtin; exact rfl; exact rfl; exact (fun _ => rfl); (exact (by repeat' constructor))) | (apply x_buildSlice; assumption; exact rfl; exact rfl; exact rfl; (exact (by repeat' constructor)); intro _ _ _) | (apply x_index; exact rfl; exact rfl; exact rfl; exact rfl; exact rfl; (constructor); (first | omega | exact size_pos (by assumption) | assumption); (first | exact rfl | assumption | exact Rd.some_ (by assumption) (by omega) | exact Rd.some_ (Old.rd (by assumption)) (by omega) | exact (Sat.rd (by assumption) (by exact (by repeat' constructor))).some_ (by omega))) | (apply x_loadR; exact rfl; exact rfl; exact rfl; (first | exact Old.now (by assumption) (by assumption) | exact Sat.rdpr (by assumption) (by exact (by repeat' constructor)) | exact Sat.rd (by assumption) (by exact (by repeat' constructor))); (first | omega | exact size_pos (by assumption) | assumption); exact rfl; exact rfl; (exact (by repeat' constructor))) | (apply x_dec; exact rfl; all_goals (intro _; try omega))))
    rename_i g3 c3 w7 S7
    have e : (F.take (i + 1)).length = (((F.take i).map (dat l)).map dmC).length + 1 := by rw [hts]; simp
    refine ⟨rfl, (by repeat (first | exact Agree.updl rfl (Agree.mask _ _ _) | refine Agree.upd rfl ?_)), ⟨i + 1, some ⟨g3, 0, none⟩, c3, hlt, (by rw [e]; rfl), ?_⟩, ?_⟩
    · rw [e, hts, List.map_append, List.map_append]
      exact S7.drop1
    · show F.length - (i + 1 : Int).toNat < F.length - (i : Int).toNat
      omega
  · have hil : i = F.length := by omega
    subst hil
    have Sf : Sat w [] [.rw 0 (.slice sA (F.map (dat l)).length sc) 56 5 ((F.map (dat l)).map dmC)] wr := by
      rw [List.take_length] at Sr
      rw [hlS]
      exact Sr
    rw [List.take_length, ← hlS]
    clear Sr
    cases hle : leadR (F.map (dat l)) ax fr to with
    | nil =>
      have hwi : withinR l F ax fr to = [] := by unfold withinR; rw [hle]; rfl
      (repeat' (first | apply cw_seq | apply cw_region | apply wl_nil | apply cw_exit | apply cw_ret | (apply x_callH; assumption; exact rfl; exact rfl; exact rfl; exact e_rChains; (exact (by repeat' constructor)); (with_reducible exact rChains_c sA sc (F.map (dat l)) hl2 ho2 h62 hg2 ax fr hfr _ (Sat.rdmap dm0 (by assumption) (by exact (by repeat' constructor)))); rintro ⟨q0, hq0⟩ w1 S1; dsimp only; have hAQ := allQ h62 hg2 hq0; have hlx := leadQ_xs (to := to) hq0; obtain ⟨RQ, RQ2⟩ := oqr_rd (q := q0) S1 (fun o ho => by simp at ho ⊢; simp [ho]); have RS := Sat.rdmap (A := sA) (c := sc) (size := 5) (E := 56) (base := 0) (en := dmC) (l := F.map (dat l)) dm0 S1 (hasOf (by simp))) | (apply x_callrowE (m := (leadQ (F.map (dat l)) to q0).length); assumption; exact rfl; exact rfl; exact rfl; exact e_rLead; (exact (by repeat' constructor)); (with_reducible exact rLead_c sA sc (F.map (dat l)) hl2 ho2 q0.A q0.c q0.rs hAQ.len hAQ.xl hAQ.pos to hto _ RS RQ RQ2); exact (List.length_map _); intro B1 c1 w2 S2; (rw [hle] at hlx; have hl0 : (leadQ (F.map (dat l)) to q0).length = 0 := len_nilR hlx)) | (apply x_move; exact rfl; exact rfl; (exact (by repeat' constructor))) | (apply x_assign; exact rfl; exact rfl; (exact (by repeat' constructor))) | (apply x_bin; exact rfl; exact rfl; exact rfl; (first | exact .z (.wrap (by omega)) | exact (by repeat' constructor))) | (apply x_builtin; exact rfl; exact rfl; exact (fun _ => rfl); (exact (by repeat' constructor))) | (apply x_dec; exact rfl; all_goals (intro _; try omega))))
      all_goals first
        | (exfalso; omega)
        | skip
      (first | refine q_retS (by assumption) rfl (by repeat (first | exact .nil | (apply RV.tmp; exact (by repeat' constructor)) | (apply RV.cell; exact rfl; exact (by repeat' constructor); exact rfl; exact rfl; exact (by repeat' constructor)))) ?_ | (simp only [thenQ, blockQ]; refine q_retS (by assumption) rfl (by repeat (first | exact .nil | (apply RV.tmp; exact (by repeat' constructor)) | (apply RV.cell; exact rfl; exact (by repeat' constructor); exact rfl; exact rfl; exact (by repeat' constructor)))) ?_))
      exact .inl ⟨hwi, rfl, Sat.keeps (by assumption)⟩
    | cons p t =>
      have hwi : withinR l F ax fr to = p.map (ren F) := by unfold withinR; rw [hle]; rfl
      have hgp : gp (F.map (dat l)) (netL (F.map (dat l)) ax) fr p to := (leadR_mem hg2 hne).1 (by rw [hle]; exact List.mem_cons_self ..)
      have hp0 := gp_pos hgp.1 hne
      have hin : ∀ x ∈ p, inR (F.map (dat l)) x := fun x hx => (nlk_ok _ ax allU (by omega)).inr x (lnk_mem hgp.1 x hx)
      (repeat' (first | apply cw_seq | apply cw_region | apply wl_nil | apply cw_block | apply cw_skip | apply cw_exit | (apply x_callH; assumption; exact rfl; exact rfl; exact rfl; exact e_rChains; (exact (by repeat' constructor)); (with_reducible exact rChains_c sA sc (F.map (dat l)) hl2 ho2 h62 hg2 ax fr hfr _ (Sat.rdmap dm0 (by assumption) (by exact (by repeat' constructor)))); rintro ⟨q0, hq0⟩ w1 S1; dsimp only; have hAQ := allQ h62 hg2 hq0; have hlx := leadQ_xs (to := to) hq0; obtain ⟨RQ, RQ2⟩ := oqr_rd (q := q0) S1 (fun o ho => by simp at ho ⊢; simp [ho]); have RS := Sat.rdmap (A := sA) (c := sc) (size := 5) (E := 56) (base := 0) (en := dmC) (l := F.map (dat l)) dm0 S1 (hasOf (by simp))) | (apply x_callrowE (m := (leadQ (F.map (dat l)) to q0).length); assumption; exact rfl; exact rfl; exact rfl; exact e_rLead; (exact (by repeat' constructor)); (with_reducible exact rLead_c sA sc (F.map (dat l)) hl2 ho2 q0.A q0.c q0.rs hAQ.len hAQ.xl hAQ.pos to hto _ RS RQ RQ2); exact (List.length_map _); intro B1 c1 w2 S2; (rw [hle] at hlx; have hr0 := lead_cons hlx; have hlt0 := lead_len hlx)) | (apply x_move; exact rfl; exact rfl; (exact (by repeat' constructor))) | (apply x_assign; exact rfl; exact rfl; (exact (by repeat' constructor))) | (apply x_bin; exact rfl; exact rfl; exact rfl; (first | exact .z (.wrap (by omega)) | exact (by repeat' constructor))) | (apply x_builtin; exact rfl; exact rfl; exact (fun _ => rfl); (exact (by repeat' constructor))) | (apply x_dec; exact rfl; all_goals (intro _; try omega))))
      all_goals first
        | (exfalso; omega)
        | skip
      have hrm := leadQ_sub (getD_mem or0 hlt0)
      obtain ⟨rs0, hrs0⟩ : ∃ rs0, leadQ (F.map (dat l)) to q0 = rs0 := ⟨_, rfl⟩
      have S3 : Sat w [] (.rw 0 (.slice B1 rs0.length c1) 32 1 (rs0.map orV) :: (oqHr q0 ++ [.rw 0 (.slice sA (F.map (dat l)).length sc) 56 5 ((F.map (dat l)).map dmC)])) w2 := by
        rw [← hrs0]
        exact S2
      rw [hrs0] at hr0 hlt0 hrm ⊢
      obtain ⟨r0, hr00⟩ : ∃ r0, rs0.getD 0 or0 = r0 := ⟨_, rfl⟩
      rw [hr00] at hr0 hrm
      have K3 := S3.keeps
      have RL := Sat.rdmapN (l := rs0) (en := orV) or0 S3 .head rfl
      have RX : Rd w2 r0.A 2 p.length (fun j => lkC (p.getD j lk0)) := by
        have := Sat.rdmapN (l := r0.xs) (en := lkC) (E := 75) (size := 2) (base := 0) (A := r0.A) (c := r0.c) lk0 S3 (hasOf (List.mem_cons_of_mem _ (List.mem_append_left _ (List.mem_cons_of_mem _ (List.mem_map_of_mem (f := orHr) hrm))))) rfl
        rwa [hr0] at this
      replace O2 := (Old.now O2 S3).old
      have OL := RL.old
      have OX := RX.old
      have hpl : p.length ≤ 256 := by
        have := rc_len (gp_rc hgp hp0)
        omega
      clear S2 S1 Sf RS RQ RQ2 O S3
      have hrx : r0.xs.length = p.length := by rw [hr0]
      refine cw_loop [14, 15, 42, 43, 44, 45, 46, 47, 48, 49, 50, 51, 52, 53, 54, 55, 56, 57, 58, 59, 60, 61, 62, 63, 64, 65, 66, 67, 68, 69, 70] [15, 14] (fun us wr => ∃ (i : Nat) (oA : Option Addr) (oc : Nat), i ≤ p.length ∧ us = [.int .i64 i, .slice oA (p.take i).length oc] ∧ Sat w2 [] [.rw 0 (.slice oA (p.take i).length oc) 75 2 (((p.take i).map (ren F)).map lkC)] wr) (fun us _ => p.length - (intOf (us.getD 0 undef)).toNat) ?_ ?_
      · exact ⟨0, none, 0, Nat.zero_le _, rfl, (Sat.start [] w2).addNil _ _⟩
      rintro g2 us2 wr2 ⟨i, oA, oc, hi2, rfl, Sr⟩
      by_cases hlt2 : i < p.length
      · have hix : inR (F.map (dat l)) (p.getD i lk0) := hin _ (getD_mem lk0 hlt2)
        have hz0 : 0 ≤ (p.getD i lk0).dm ∧ (p.getD i lk0).dm < (F.map (dat l)).length := hix
        have hzl : (p.getD i lk0).dm.toNat < F.length := by omega
        have hts := takeD_succ (z := lk0) hlt2
        have htl : (p.take i).length = i := by rw [List.length_take]; omega
        (repeat' (first | apply cw_seq | apply cw_region | apply wl_nil | apply cw_block | apply cw_skip | (apply x_loadR; exact rfl; exact rfl; exact rfl; exact Old.now OL (by assumption); exact hlt0; exact rfl; exact rfl; exact is_rowQ hr00 hr0) | (apply y_loadR; exact rfl; exact rfl; exact OL; exact hlt0; exact rfl; exact rfl; exact is_rowQ hr00 hr0) | (apply y_loadR; exact rfl; exact rfl; exact OX; exact hlt2; exact rfl; exact rfl; (exact (by repeat' constructor))) | (apply y_indexI (z := (p.getD i lk0).dm); exact rfl; exact rfl; exact rfl; exact rfl; (constructor); exact hz0.1; exact hz0.2; (exact (Old.rd O2).some_ (by omega))) | (apply y_loadR; exact rfl; exact rfl; exact O2; exact hzl; exact rfl; exact rfl; (exact (by repeat' constructor))) | (apply cw_draw (id := 13) [(0, 0), (1, 0), (2, 0), (3, 0), (4, 0), (5, 0), (6, 0), (7, 0), (8, 0), (9, 0), (10, 0), (11, 0), (12, 0), (13, 0), (14, 0), (15, 0), (16, 0), (17, 0), (18, 0), (19, 2), (20, 2), (21, 0)]; assumption; exact mixed; kernel_rfl) | (apply x_move; exact rfl; exact rfl; (exact (by repeat' constructor))) | (apply x_assign; exact rfl; exact rfl; (exact (by repeat' constructor))) | (apply x_bin; exact rfl; exact rfl; exact rfl; (first | exact .z (.wrap (by omega)) | exact (by repeat' constructor))) | (apply x_builtin; exact rfl; exact rfl; exact (fun _ => rfl); (exact (by repeat' constructor))) | (apply x_index; exact rfl; exact rfl; exact rfl; exact rfl; exact rfl; (constructor); (first | omega | exact size_pos (by assumption) | assumption); (first | exact rfl | assumption | exact Rd.some_ (by assumption) (by omega) | exact Rd.some_ (Old.rd (by assumption)) (by omega) | exact (Sat.rd (by assumption) (by exact (by repeat' constructor))).some_ (by omega))) | (apply z2_append1; exact rfl; exact rfl; exact rfl; exact rfl; exact (by repeat' constructor); exact (by repeat' constructor); exact rfl; exact rfl; exact rfl; (first | assumption | omega | (simp; omega)); intro _ _) | (apply y_move; exact rfl; (exact (by repeat' constructor))) | (apply y_assign; exact rfl; (exact (by repeat' constructor))) | (apply y_build; exact rfl; exact rfl; (exact (by repeat' constructor))) | (apply y_fieldE; exact rfl; exact rfl; exact rfl; (constructor)) | (apply y_index; exact rfl; exact rfl; exact rfl; exact rfl; (constructor); (first | omega | exact size_pos (by assumption) | assumption); (first | exact rfl | assumption | exact Rd.some_ (by assumption) (by omega) | exact Rd.some_ (Old.rd (by assumption)) (by omega) | exact (Sat.rd (by assumption) (by exact (by repeat' constructor))).some_ (by omega))) | (apply z2_buildSlice; exact rfl; exact rfl; (exact (by repeat' constructor)); intro _) | (apply y_nil; intro _ _) | (apply x_dec; exact rfl; all_goals (intro _; try omega))))
        rename_i _ g3 c3 w7 S7
        have e : (p.take (i + 1)).length = (((p.take i).map (ren F)).map lkC).length + 1 := by rw [hts]; simp
        refine ⟨rfl, (by repeat (first | exact Agree.updl rfl (Agree.mask _ _ _) | refine Agree.upd rfl ?_)), ⟨i + 1, some ⟨g3, 0, none⟩, c3, hlt2, (by rw [e]; rfl), ?_⟩, ?_⟩
        · rw [e, hts, List.map_append, List.map_append]
          exact S7.drop1
        · show p.length - (i + 1 : Int).toNat < p.length - (i : Int).toNat
          omega
      · have hip : i = p.length := by omega
        subst hip
        (repeat' (first | apply cw_seq | apply cw_region | apply wl_nil | apply cw_exit | apply cw_ret | (apply x_loadR; exact rfl; exact rfl; exact rfl; exact Old.now OL (by assumption); exact hlt0; exact rfl; exact rfl; exact is_rowQ hr00 hr0) | (apply x_move; exact rfl; exact rfl; (exact (by repeat' constructor))) | (apply x_assign; exact rfl; exact rfl; (exact (by repeat' constructor))) | (apply x_bin; exact rfl; exact rfl; exact rfl; (first | exact .z (.wrap (by omega)) | exact (by repeat' constructor))) | (apply x_builtin; exact rfl; exact rfl; exact (fun _ => rfl); (exact (by repeat' constructor))) | (apply x_index; exact rfl; exact rfl; exact rfl; exact rfl; exact rfl; (constructor); (first | omega | exact size_pos (by assumption) | assumption); (first | exact rfl | assumption | exact Rd.some_ (by assumption) (by omega) | exact Rd.some_ (Old.rd (by assumption)) (by omega) | exact (Sat.rd (by assumption) (by exact (by repeat' constructor))).some_ (by omega))) | (apply x_dec; exact rfl; all_goals (intro _; try omega))))
        rw [List.take_length] at Sr ⊢
        rw [hwi]
        (first | refine q_retS (by assumption) rfl (by repeat (first | exact .nil | (apply RV.tmp; exact (by repeat' constructor)) | (apply RV.cell; exact rfl; exact (by repeat' constructor); exact rfl; exact rfl; exact (by repeat' constructor)))) ?_ | (simp only [thenQ, blockQ]; refine q_retS (by assumption) rfl (by repeat (first | exact .nil | (apply RV.tmp; exact (by repeat' constructor)) | (apply RV.cell; exact rfl; exact (by repeat' constructor); exact rfl; exact rfl; exact (by repeat' constructor)))) ?_))
        exact .inr ⟨by rw [List.length_map]; exact hp0, RowR.before K3 (rowR_n (V := fun v => v) (by rw [List.length_map, List.length_map]) Sr .head)⟩
theorem rWithin_y (A : Option Addr) (cA : Nat) (l : List Dm) (hl : l.length ≤ 9223372036854775807) (ho : ∀ i, i < l.length → (dat l i).ok) (h6 : l.length ≤ 6) (hg : givenE l = 0) (B : Option Addr) (cB : Nat) (F : List Nat) (hF : ∀ j ∈ F, j < l.length) (hFl : F.length ≤ l.length) (ax : Int) (fr to : ByteArray) (hfr : fr.size ≤ 9223372036854775807) (hto : to.size ≤ 9223372036854775807) (hne : ¬ fr = to) {xs : List Lk} (hx : withinR l F ax fr to = xs) (h0 : 0 < xs.length) (w : World) (R : Rd w A 5 l.length (fun i => dmC (l.getD i dm0))) (R2 : Rd w B 1 F.length (fun i => naC (F.getD i 0))) :
    Calls Try.prog 65 #[.slice A l.length cA, .slice B F.length cB, .int .i64 ax, .string fr, .string to] w (RetP (RowR (fun v => v) 75 2 (xs.map lkC) w)) := by
  refine (rWithin_c A cA l hl ho h6 hg B cB F hF hFl ax fr to hfr hto hne w R R2).mono ?_
  rintro e w' ⟨v, he, hq⟩
  rw [hx] at hq
  rcases hq with h | h
  · rw [h.1] at h0; simp at h0
  · exact ⟨v, he, h.2⟩
theorem rWithin_n (A : Option Addr) (cA : Nat) (l : List Dm) (hl : l.length ≤ 9223372036854775807) (ho : ∀ i, i < l.length → (dat l i).ok) (h6 : l.length ≤ 6) (hg : givenE l = 0) (B : Option Addr) (cB : Nat) (F : List Nat) (hF : ∀ j ∈ F, j < l.length) (hFl : F.length ≤ l.length) (ax : Int) (fr to : ByteArray) (hfr : fr.size ≤ 9223372036854775807) (hto : to.size ≤ 9223372036854775807) (hne : ¬ fr = to) (hx : withinR l F ax fr to = []) (w : World) (R : Rd w A 5 l.length (fun i => dmC (l.getD i dm0))) (R2 : Rd w B 1 F.length (fun i => naC (F.getD i 0))) :
    Calls Try.prog 65 #[.slice A l.length cA, .slice B F.length cB, .int .i64 ax, .string fr, .string to] w (RetP (Val (.slice none 0 0) w)) := by
  refine (rWithin_c A cA l hl ho h6 hg B cB F hF hFl ax fr to hfr hto hne w R R2).mono ?_
  rintro e w' ⟨v, he, hq⟩
  rw [hx] at hq
  rcases hq with h | h
  · exact ⟨v, he, h.2⟩
  · exact absurd h.1 (by simp)
set_option maxRecDepth 100000 in
theorem e_rRound : Ent Try.prog 52 := fun _ _ => rfl
def lopK (l : List Dm) (k : Nat) : List (List Lk) := (forS l k).2.map fun (i : Nat) => (⟨(i : Int), false⟩ : Lk) :: ringS l i
set_option maxRecDepth 8000 in
set_option maxHeartbeats 8000000 in
theorem rRound_c (A : Option Addr) (cA : Nat) (l : List Dm) (hl : l.length ≤ 9223372036854775807) (ho : ∀ i, i < l.length → (dat l i).ok) (h6 : l.length ≤ 6) (hg : givenE l = 0) (w : World) (R : Rd w A 5 l.length (fun i => dmC (l.getD i dm0))) :
    Calls Try.prog 52 #[.slice A l.length cA] w (RetP fun v w' => ∃ q : { q : OQ × Option Addr × Nat // q.1.rs.map OR.xs = lopK l l.length }, v = .tuple #[oqV q.1.1, .slice q.1.2.1 (FR l l.length).length q.1.2.2] ∧ Sat w [] (oqHr q.1.1) w') := by
  refine calls_of_cw (args := [.slice A l.length cA]) Try.func52 rfl rfl ?_
  have S := Sat.start [] w
  have O := R.old
  have hL : l.length ≤ 256 := by omega
  (repeat' (first | apply cw_seq | apply cw_region | apply wl_nil | apply cw_block | (apply x_assign; exact rfl; exact rfl; (exact (by repeat' constructor)))))
  refine cw_loop [4, 5, 6, 7, 8, 9, 10, 11, 12, 13, 14, 15, 16, 17, 18, 19, 20, 21, 22, 23, 24, 25, 26, 27, 28, 29, 30, 31, 32, 33, 34, 35, 36, 37, 38, 39, 40, 41, 42, 43, 44, 45] [6, 5, 4] (fun us wr => ∃ (k : Nat) (fA : Option Addr) (fc : Nat) (q : OQ), k ≤ l.length ∧ us = [.int .i64 k, .slice fA (FR l k).length fc, oqV q] ∧ q.rs.map OR.xs = lopK l k ∧ Sat w [] (.rw 0 (.slice fA (FR l k).length fc) 3 1 ((FR l k).map naC) :: oqHr q) wr) (fun us _ => l.length - (intOf (us.getD 0 undef)).toNat) ?_ ?_
  · exact ⟨0, none, 0, ⟨none, 0, []⟩, Nat.zero_le _, rfl, rfl, (S.addNil _ _).addNil _ _⟩
  clear S
  rintro g us wr ⟨k, fA, fc, ⟨oA, oc, os⟩, hk, rfl, hos, Sr⟩
  dsimp only at hos
  by_cases hlt : k < l.length
  · obtain ⟨hf1, hf2⟩ := ho k hlt
    have hFk := FR_len (l := l) k
    have hFm : ∀ j ∈ FR l k, j < l.length := fun j hj => ((FR_all hL (by omega : k ≤ l.length)).1 j hj).1
    have hne := valid_ne hg hlt
    have hol : os.length ≤ k := by
      have h1 := congrArg List.length hos
      unfold lopK at h1
      rw [List.length_map, List.length_map] at h1
      have := (forS_len (l := l) k).2.1
      omega
    replace Sr : Sat w [] (.rw 0 (.slice fA (FR l k).length fc) 3 1 ((FR l k).map naC) :: .rw 0 (.slice oA os.length oc) 32 1 (os.map orV) :: os.map orHr) wr := Sr
    show CW _ _ _ _ _ _ (updl _ _ [.int .i64 (k : Int), .slice fA (FR l k).length fc, .slice oA os.length oc]) _
    by_cases hc : conn l (dat l k).ax (useF (forS l k).1) (dat l k).fr (dat l k).to
    · obtain ⟨hw1, hw2⟩ := within_yes hg hlt hc
      have hFs := FR_same hL hlt hc
      have hls : lopK l (k + 1) = lopK l k ++ [(⟨(k : Int), false⟩ : Lk) :: ringS l k] := by unfold lopK; rw [forS_yes hL hc, List.map_append]; rfl
      have hrl : (ringS l k).length ≤ 1001 := shS_len (nlk_ok l _ _ hL) _ _
      generalize ringS l k = cR at hw1 hw2 hls hrl
      (repeat' (first | apply cw_seq | apply cw_region | apply wl_nil | apply cw_block | apply cw_skip | (apply z2_callrowE (m := cR.length); exact rfl; exact rfl; exact e_rWithin; (exact (by repeat' constructor)); exact (fun _ Sx => rWithin_y A cA l hl ho h6 hg fA fc (FR l k) hFm (by omega) (dat l k).ax (dat l k).to (dat l k).fr hf2 hf1 hne hw1 hw2 _ (Old.now O Sx) (Sat.rdmapN (l := FR l k) (en := naC) 0 Sx (by exact (by repeat' constructor)) rfl)); exact List.length_map _; intro A5 c5) | (apply cw_draw (id := 6) [(0, 0), (1, 0), (2, 0), (3, 0), (4, 0), (5, 0), (6, 0), (7, 0), (8, 0), (9, 0), (10, 0), (11, 0), (12, 0), (13, 0), (14, 0), (15, 0), (16, 0), (17, 2), (18, 0)]; assumption; exact mixed; kernel_rfl) | (apply x_move; exact rfl; exact rfl; (exact (by repeat' constructor))) | (apply x_bin; exact rfl; exact rfl; exact rfl; (first | exact .z (.wrap (by omega)) | exact (by repeat' constructor))) | (apply x_builtin; exact rfl; exact rfl; exact (fun _ => rfl); (exact (by repeat' constructor))) | (apply y_move; exact rfl; (exact (by repeat' constructor))) | (apply y_assign; exact rfl; (exact (by repeat' constructor))) | (apply y_fieldE; exact rfl; exact rfl; exact rfl; (constructor)) | (apply y_index; exact rfl; exact rfl; exact rfl; exact rfl; (constructor); (first | omega | exact size_pos (by assumption) | assumption); (first | exact rfl | assumption | exact Rd.some_ (by assumption) (by omega) | exact Rd.some_ (Old.rd (by assumption)) (by omega) | exact (Sat.rd (by assumption) (by exact (by repeat' constructor))).some_ (by omega))) | (apply y_loadR; exact rfl; exact rfl; assumption; (first | omega | exact size_pos (by assumption) | assumption); exact rfl; exact rfl; (exact (by repeat' constructor))) | (apply y_nil; intro _ _) | (apply x_dec; exact rfl; all_goals (intro _; try omega))))
      rename_i w5 S5
      obtain ⟨a5, rfl⟩ : ∃ a, A5 = some a := Option.isSome_iff_exists.1 ((Sat.rdmapN (l := cR) (en := lkC) lk0 S5 .head rfl).some_ hw2)
      (repeat' (first | apply cw_region | apply wl_nil | (apply x_eqNilS rfl; exact rfl; exact rfl; exact rfl; exact rfl; exact rfl) | (apply x_move; exact rfl; exact rfl; (exact (by repeat' constructor))) | (apply x_build; exact rfl; exact rfl; exact rfl; (exact (by repeat' constructor))) | (apply x_buildSlice; assumption; exact rfl; exact rfl; exact rfl; (exact (by repeat' constructor)); intro _ _ _) | (apply cw_false; exact rfl)))
      rename_i b94 w6 S6
      have S7 := Sat.clRow (xs := [[.int .i64 (k : Int), .bool false]]) (size := 2) S6 .head (by simp) (by simp [maxLen])
      clear S6 S5
      refine x_appendN (k := 1) (c := 1) (A := some ⟨b94, 0, none⟩) (l := cR) (en := lkC) lk0 lkC_len (fun _ => rfl) (Sat.rdmapN (l := cR) lk0 S7 (.tail .head) rfl) (by show 1 + cR.length < _; omega) S7 rfl rfl rfl rfl .head rfl (by decide) ?_
      intro A' c' w8 S8
      clear S7
      (repeat' (first | apply cw_region | apply wl_nil | (apply x_append1; assumption; exact rfl; exact rfl; exact rfl; exact rfl; exact rfl; (exact (by repeat' constructor)); (exact (by repeat' constructor)); exact rfl; exact rfl; exact rfl; (first | assumption | omega | (simp; omega)); intro _ _ _ _) | (apply x_move; exact rfl; exact rfl; (exact (by repeat' constructor))) | (apply x_assign; exact rfl; exact rfl; (exact (by repeat' constructor))) | (apply x_bin; exact rfl; exact rfl; exact rfl; (first | exact .z (.wrap (by omega)) | exact (by repeat' constructor))) | (apply x_buildSlice; assumption; exact rfl; exact rfl; exact rfl; (exact (by repeat' constructor)); intro _ _ _)))
      rename_i b7 _ _ g3 c3 w9 S9
      refine ⟨rfl, (by repeat (first | exact Agree.updl rfl (Agree.mask _ _ _) | refine Agree.upd rfl ?_)), ⟨k + 1, fA, fc, ⟨some ⟨g3, 0, none⟩, c3, os ++ [⟨A', c', (⟨(k : Int), false⟩ : Lk) :: cR⟩]⟩, hlt, (by rw [hFs, oqV_push]; rfl), (by rw [hls, List.map_append, hos]; rfl), ?_⟩, ?_⟩
      · rw [hFs]
        have S10 : Sat w [] (.rw 0 (.slice A' (1 + cR.length) c') 75 2 ([.int .i64 (k : Int), .bool false] :: cR.map lkC) :: .rw 0 (.slice fA (FR l k).length fc) 3 1 ((FR l k).map naC) :: .rw 0 (.slice (some ⟨g3, 0, none⟩) ((os.map orV).length + 1) c3) 32 1 (os.map orV ++ [[.slice A' (1 + cR.length) c']]) :: os.map orHr) w9 := S9.drop1.drop _ (.cons_cons _ (.cons _ (List.Sublist.refl _)))
        have P1 := List.perm_append_comm (l₁ := ([.rw 0 (.slice fA (FR l k).length fc) 3 1 ((FR l k).map naC)] : List HO)) (l₂ := .rw 0 (.slice (some ⟨g3, 0, none⟩) ((os.map orV).length + 1) c3) 32 1 (os.map orV ++ [[.slice A' (1 + cR.length) c']]) :: os.map orHr)
        have T1 := S10.perm' (List.Perm.cons _ P1)
        have T2 := oqHr_push (g := g3) (c3 := c3) (os := os) (r := ⟨A', c', (⟨(k : Int), false⟩ : Lk) :: cR⟩) (t := [.rw 0 (.slice fA (FR l k).length fc) 3 1 ((FR l k).map naC)]) (Sat.cast (by simp [orHr, orV, Nat.add_comm]) T1)
        exact T2.perm' List.perm_append_comm
      · show l.length - (k + 1 : Int).toNat < l.length - (k : Int).toNat
        omega
    · have hw1 := within_no hg hlt hc
      have hFs := FR_more hL hlt hc
      have hls : lopK l (k + 1) = lopK l k := by unfold lopK; rw [forS_no hL hc]
      (repeat' (first | apply cw_seq | apply cw_region | apply wl_nil | apply cw_block | apply cw_skip | (apply z2_callv; exact rfl; exact rfl; exact e_rWithin; (exact (by repeat' constructor)); exact (fun _ Sx => rWithin_n A cA l hl ho h6 hg fA fc (FR l k) hFm (by omega) (dat l k).ax (dat l k).to (dat l k).fr hf2 hf1 hne hw1 _ (Old.now O Sx) (Sat.rdmapN (l := FR l k) (en := naC) 0 Sx (by exact (by repeat' constructor)) rfl))) | (apply x_eqNilS rfl; exact rfl; exact rfl; exact rfl; exact rfl; exact rfl) | (apply cw_draw (id := 6) [(0, 0), (1, 0), (2, 0), (3, 0), (4, 0), (5, 0), (6, 0), (7, 0), (8, 0), (9, 0), (10, 0), (11, 0), (12, 0), (13, 0), (14, 0), (15, 0), (16, 0), (17, 2), (18, 0)]; assumption; exact mixed; kernel_rfl) | (apply x_append1; assumption; exact rfl; exact rfl; exact rfl; exact rfl; exact rfl; (exact (by repeat' constructor)); (exact (by repeat' constructor)); exact rfl; exact rfl; exact rfl; (first | assumption | omega | (simp; omega)); intro _ _ _ _) | (apply x_move; exact rfl; exact rfl; (exact (by repeat' constructor))) | (apply x_assign; exact rfl; exact rfl; (exact (by repeat' constructor))) | (apply x_bin; exact rfl; exact rfl; exact rfl; (first | exact .z (.wrap (by omega)) | exact (by repeat' constructor))) | (apply x_builtin; exact rfl; exact rfl; exact (fun _ => rfl); (exact (by repeat' constructor))) | (apply x_buildSlice; assumption; exact rfl; exact rfl; exact rfl; (exact (by repeat' constructor)); intro _ _ _) | (apply y_move; exact rfl; (exact (by repeat' constructor))) | (apply y_assign; exact rfl; (exact (by repeat' constructor))) | (apply y_fieldE; exact rfl; exact rfl; exact rfl; (constructor)) | (apply y_index; exact rfl; exact rfl; exact rfl; exact rfl; (constructor); (first | omega | exact size_pos (by assumption) | assumption); (first | exact rfl | assumption | exact Rd.some_ (by assumption) (by omega) | exact Rd.some_ (Old.rd (by assumption)) (by omega) | exact (Sat.rd (by assumption) (by exact (by repeat' constructor))).some_ (by omega))) | (apply y_loadR; exact rfl; exact rfl; assumption; (first | omega | exact size_pos (by assumption) | assumption); exact rfl; exact rfl; (exact (by repeat' constructor))) | (apply y_nil; intro _ _) | (apply cw_true; exact rfl) | (apply x_dec; exact rfl; all_goals (intro _; try omega))))
      rename_i _ g3 c3 w7 S7
      have e : (FR l (k + 1)).length = ((FR l k).map naC).length + 1 := by rw [hFs]; simp
      refine ⟨rfl, (by repeat (first | exact Agree.updl rfl (Agree.mask _ _ _) | refine Agree.upd rfl ?_)), ⟨k + 1, some ⟨g3, 0, none⟩, c3, ⟨oA, oc, os⟩, hlt, (by rw [e]; rfl), (by rw [hls]; exact hos), ?_⟩, ?_⟩
      · rw [e, hFs, List.map_append]
        exact S7.drop1
      · show l.length - (k + 1 : Int).toNat < l.length - (k : Int).toNat
        omega
  · have hkl : k = l.length := by omega
    subst hkl
    (repeat' (first | apply cw_seq | apply cw_region | apply wl_nil | apply cw_exit | apply cw_ret | (apply x_move; exact rfl; exact rfl; (exact (by repeat' constructor))) | (apply x_assign; exact rfl; exact rfl; (exact (by repeat' constructor))) | (apply x_bin; exact rfl; exact rfl; exact rfl; (first | exact .z (.wrap (by omega)) | exact (by repeat' constructor))) | (apply x_builtin; exact rfl; exact rfl; exact (fun _ => rfl); (exact (by repeat' constructor))) | (apply x_dec; exact rfl; all_goals (intro _; try omega))))
    (first | refine q_retS (by assumption) rfl (by repeat (first | exact .nil | (apply RV.tmp; exact (by repeat' constructor)) | (apply RV.cell; exact rfl; exact (by repeat' constructor); exact rfl; exact rfl; exact (by repeat' constructor)))) ?_ | (simp only [thenQ, blockQ]; refine q_retS (by assumption) rfl (by repeat (first | exact .nil | (apply RV.tmp; exact (by repeat' constructor)) | (apply RV.cell; exact rfl; exact (by repeat' constructor); exact rfl; exact rfl; exact (by repeat' constructor)))) ?_))
    exact ⟨⟨(⟨oA, oc, os⟩, fA, fc), hos⟩, rfl, Sr.drop1⟩
set_option maxRecDepth 100000 in
theorem e_rLoops : Ent Try.prog 23 := fun _ _ => rfl
set_option maxRecDepth 8000 in
set_option maxHeartbeats 8000000 in
theorem rLoops_c (A : Option Addr) (cA : Nat) (l : List Dm) (hl : l.length ≤ 9223372036854775807) (ho : ∀ i, i < l.length → (dat l i).ok) (h6 : givenE l = 0 → l.length ≤ 6) (w : World) (R : Rd w A 5 l.length (fun i => dmC (l.getD i dm0))) : Calls Try.prog 23 #[.slice A l.length cA] w (RetP fun v w' => ∃ q : { q : OQ // q.rs.map OR.xs = (lopS l).1 }, v = .tuple #[oqV q.1, .int .i64 (lopS l).2] ∧ Sat w [] (oqHr q.1) w') := by
  refine calls_of_cw (args := [.slice A l.length cA]) Try.func23 rfl rfl ?_
  have S := Sat.start [] w
  have O := R.old
  by_cases hg : givenE l = 0
  · replace h6 := h6 hg
    have h1 : lopS l = (lopK l l.length, 0) := if_pos hg
    rw [h1]
    (repeat' (first | apply cw_seq | apply cw_region | apply wl_nil | apply cw_skip | apply cw_ret | (apply x_callv; assumption; exact rfl; exact rfl; exact rfl; exact e_rGiven; (exact (by repeat' constructor)); with_reducible exact (rGiven_c A cA l hl ho _ (Old.now O (by assumption))); intro _ _ _) | (apply x_callH; assumption; exact rfl; exact rfl; exact rfl; exact e_rRound; (exact (by repeat' constructor)); (with_reducible exact rRound_c A cA l hl ho h6 hg _ (Old.now O (by assumption))); rintro ⟨⟨q1, fA, fc⟩, hq1⟩ w1 S1; dsimp only) | (apply x_move; exact rfl; exact rfl; (exact (by repeat' constructor))) | (apply x_assign; exact rfl; exact rfl; (exact (by repeat' constructor))) | (apply x_bin; exact rfl; exact rfl; exact rfl; (first | exact .z (.wrap (by omega)) | exact (by repeat' constructor))) | (apply x_extract; exact rfl; exact rfl; exact rfl; (exact (by repeat' constructor))) | (apply cw_ne; exact rfl; all_goals (intro _; try omega))))
    all_goals first
      | exact absurd hg (by assumption)
      | skip
    (first | refine q_retS (by assumption) rfl (by repeat (first | exact .nil | (apply RV.tmp; exact (by repeat' constructor)) | (apply RV.cell; exact rfl; exact (by repeat' constructor); exact rfl; exact rfl; exact (by repeat' constructor)))) ?_ | (simp only [thenQ, blockQ]; refine q_retS (by assumption) rfl (by repeat (first | exact .nil | (apply RV.tmp; exact (by repeat' constructor)) | (apply RV.cell; exact rfl; exact (by repeat' constructor); exact rfl; exact rfl; exact (by repeat' constructor)))) ?_))
    exact ⟨⟨q1, hq1⟩, rfl, Sat.cast (List.append_nil _) S1⟩
  · have h1 : lopS l = ([], givenE l) := if_neg hg
    rw [h1]
    (repeat' (first | apply cw_seq | apply cw_region | apply wl_nil | apply cw_ret | (apply x_callv; assumption; exact rfl; exact rfl; exact rfl; exact e_rGiven; (exact (by repeat' constructor)); with_reducible exact (rGiven_c A cA l hl ho _ (Old.now O (by assumption))); intro _ _ _) | (apply x_move; exact rfl; exact rfl; (exact (by repeat' constructor))) | (apply x_assign; exact rfl; exact rfl; (exact (by repeat' constructor))) | (apply x_bin; exact rfl; exact rfl; exact rfl; (first | exact .z (.wrap (by omega)) | exact (by repeat' constructor))) | (apply cw_ne; exact rfl; all_goals (intro _; try omega))))
    all_goals first
      | exact absurd (by assumption) hg
      | skip
    (first | refine q_retS (by assumption) rfl (by repeat (first | exact .nil | (apply RV.tmp; exact (by repeat' constructor)) | (apply RV.cell; exact rfl; exact (by repeat' constructor); exact rfl; exact rfl; exact (by repeat' constructor)))) ?_ | (simp only [thenQ, blockQ]; refine q_retS (by assumption) rfl (by repeat (first | exact .nil | (apply RV.tmp; exact (by repeat' constructor)) | (apply RV.cell; exact rfl; exact (by repeat' constructor); exact rfl; exact rfl; exact (by repeat' constructor)))) ?_))
    exact ⟨⟨⟨none, 0, []⟩, rfl⟩, rfl, ((Sat.start [] w).call (Sat.keeps (by assumption))).addNil _ _⟩
end Go.Proofs.Ytagapiflfnbfiaa
