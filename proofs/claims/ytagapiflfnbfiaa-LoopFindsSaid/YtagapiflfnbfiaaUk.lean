/- The reference's list of all chains in order. No statement of the seat is proved here. -/
import Derived.Test.YtagapiflfnbfiaaUj
namespace Go.Proofs.Ytagapiflfnbfiaa
set_option linter.unusedVariables false
set_option linter.unusedSimpArgs false
open Go Go.RowKit
section
variable {P : Program} {ro : Option Nat} {n : Nat} {Q : Post} {D : List Deferred} {f : Fm} {w w0 w' : World} {M : List Nat} {h : List HO}
variable {ops : Array Oper} {rest : List Oper} {prest : List (Nat × Oper)} {d ty : Nat} {ps : String} {af : Array Edge} {gd : Option (Nat × Bool)} {x y z : Operand}
theorem z2_append0R {T e size bytes k c c2 e2 s2 : Nat} {xs : List (List Value)} {A A2 : Option Addr} (hh : Has h (.rw 0 (.slice A k c) e2 s2 xs)) (hg : want ops f ⟨some d, .call ⟨.builtin .append, #[x, y], #[T, T]⟩, ty, ps, af, gd⟩ = true) (hk : apk P T = some (e, size, bytes)) (hx : fev f x = .slice A k c) (hy : fev f y = .slice A2 0 c2)
    (kk : PV P ro ops Q w0 M h prest D (upd f d (.slice A k c))) : PV P ro ops Q w0 M h ((2, ⟨some d, .call ⟨.builtin .append, #[x, y], #[T, T]⟩, ty, ps, af, gd⟩) :: prest) D f :=
  PV.step2 fun w S => beh_run hg (append0_run hk hx hy (S.rowCap hh)) ⟨h, S, St.keeps h (Keeps.refl _ _), kk⟩
theorem z2_appendNL {α : Type} {T e size bytes k c c' : Nat} {A : Option Addr} {ad : Addr} {l : List α} {en : α → List Value} {xs : List (List Value)} {F : HO → List HO} (z : α) (hs : ∀ a, (en a).length = size) (hone : ∀ a, ones (en a) = true) (R : ∀ w, Sat w0 M h w → Rd w (some ad) size l.length (fun i => en (l.getD i z)))
    (hg : want ops f ⟨some d, .call ⟨.builtin .append, #[x, y], #[T, T]⟩, ty, ps, af, gd⟩ = true) (hk : apk P T = some (e, size, bytes)) (hx : fev f x = .slice A k c) (hr : RepF h (.rw 0 (.slice A k c) e size xs) F) (hy : fev f y = .slice (some ad) l.length c') (hby : Nat.ble bytes 100000 = true) (hsm : xs.length + l.length < 1000000000)
    (kk : ∀ A' cap, PV P ro ops Q w0 M (F (.rw 0 (.slice A' (xs.length + l.length) cap) e size (xs ++ l.map en))) prest D (upd f d (.slice A' (xs.length + l.length) cap))) :
    PV P ro ops Q w0 M h ((2, ⟨some d, .call ⟨.builtin .append, #[x, y], #[T, T]⟩, ty, ps, af, gd⟩) :: prest) D f := z2_appendN z hs hone R hsm hg hk hx hr hy hby kk
end
theorem insR_xs {os : List OR} {c : OR} {a : Nat} : (os.take a ++ c :: os.drop a).map OR.xs = (os.map OR.xs).take a ++ c.xs :: (os.map OR.xs).drop a := by
  rw [List.map_append, List.map_cons, List.map_take, List.map_drop]
theorem map_getD {os : List OR} {i : Nat} : (os.map OR.xs).getD i [] = (os.getD i or0).xs := by
  by_cases h : i < os.length
  · simp [List.getD_eq_getElem?_getD, h]
  · simp [List.getD_eq_getElem?_getD, Nat.le_of_not_lt h]
    rfl
/-- a chain put into its place -/
theorem insR_ok {rs0 os : List OR} {k a : Nat} (hk : k < rs0.length) (hnd : (rs0.map OR.xs).Nodup) (hp : os.Perm (rs0.take k)) (hs : (os.map OR.xs).Pairwise cbef) (ha : a ≤ os.length)
    (h1 : 0 < a → ¬ cbef (rs0.getD k or0).xs (os.getD (a - 1) or0).xs) (h2 : ∀ i, a ≤ i → i < os.length → cbef (rs0.getD k or0).xs (os.getD i or0).xs) :
    (os.take a ++ rs0.getD k or0 :: os.drop a).Perm (rs0.take (k + 1)) ∧ ((os.take a ++ rs0.getD k or0 :: os.drop a).map OR.xs).Pairwise cbef := by
  have e : rs0.take (k + 1) = rs0.take k ++ [rs0.getD k or0] := by rw [List.take_add_one]; simp [List.getD_eq_getElem?_getD, hk]
  refine ⟨?_, ?_⟩
  · rw [e]
    exact ins_perm.trans (hp.append_right _)
  · rw [insR_xs]
    refine ins_sorted (R := cbef) (xs := os.map OR.xs) (c := (rs0.getD k or0).xs) (p := a) (z := []) (fun _ _ _ => cbef_trans) (by rw [List.length_map]; exact ha) hs (fun h0 => ?_) (fun i hi hi2 => ?_)
    · rw [map_getD]
      have hlt : a - 1 < os.length := by omega
      have hne : ¬ (os.getD (a - 1) or0).xs = (rs0.getD k or0).xs := fun eq => by
        have hm : os.getD (a - 1) or0 ∈ rs0.take k := hp.subset (getD_mem or0 hlt)
        obtain ⟨i, hi, hie⟩ := List.mem_iff_getElem.1 hm
        rw [List.length_take] at hi
        rw [List.getElem_take] at hie
        have h5 := List.pairwise_iff_getElem.1 hnd i k (by rw [List.length_map]; omega) (by rw [List.length_map]; omega) (by omega)
        rw [List.getElem_map, List.getElem_map] at h5
        apply h5
        rw [hie, eq]
        simp [List.getD_eq_getElem?_getD, hk]
      rcases cbef_total hne with h3 | h3
      · exact h3
      · exact absurd h3 (h1 h0)
    · rw [map_getD]
      exact h2 i hi (by rw [List.length_map] at hi2; exact hi2)
theorem is_sub1j {j : Nat} (h : (j : Int) ≤ 100000000) : Is (.int .i64 (IntKind.i64.wrap (((j + 1 : Nat) : Int) - 1))) (.int .i64 (j : Int)) := by
  have : IntKind.i64.wrap (((j + 1 : Nat) : Int) - 1) = (j : Int) := by rw [IntKind.wrap_i64]; omega
  rw [this]
  exact .z .any
set_option maxRecDepth 100000 in
theorem e_rAll : Ent Try.prog 18 := fun _ _ => rfl
set_option maxRecDepth 8000 in
set_option maxHeartbeats 20000000 in
theorem rAll_c (A : Option Addr) (cA : Nat) (l : List Dm) (hl : l.length ≤ 9223372036854775807) (ho : ∀ i, i < l.length → (dat l i).ok) (ax : Int) (fr to : ByteArray) (hfr : fr.size ≤ 9223372036854775807) (hto : to.size ≤ 9223372036854775807) (h6 : askE l ax fr to = 0 → l.length ≤ 6) (w : World) (R : Rd w A 5 l.length (fun i => dmC (l.getD i dm0))) : Calls Try.prog 18 #[.slice A l.length cA, .int .i64 ax, .string fr, .string to] w (RetP fun v w' => ∃ q : { q : OQ // q.rs.map OR.xs = (allS l ax fr to).1 }, v = .tuple #[oqV q.1, .int .i64 (allS l ax fr to).2] ∧ Sat w [] (oqHr q.1) w') := by
  refine calls_of_cw (args := [.slice A l.length cA, .int .i64 ax, .string fr, .string to]) Try.func18 rfl rfl ?_
  have S := Sat.start [] w
  have O := R.old
  by_cases he : askE l ax fr to = 0
  · replace h6 := h6 he
    have hg := askE_given he
    have hne := askE_ne he
    have hal := allS_eq he
    by_cases hP : (pthA l ax fr to).length ≤ 16384
    · rw [if_pos hP] at hal
      rw [hal]
      (repeat' (first | apply cw_seq | apply cw_region | apply wl_nil | apply cw_block | apply cw_skip | (apply x_callv; assumption; exact rfl; exact rfl; exact rfl; exact e_rasked; (exact (by repeat' constructor)); with_reducible exact (rasked_c A cA l hl ho ax fr to hfr hto _ (Old.now O (by assumption))); intro _ _ _) | (apply x_callH; assumption; exact rfl; exact rfl; exact rfl; exact e_rChains; (exact (by repeat' constructor)); (with_reducible exact rChains_c A cA l hl ho h6 hg ax fr hfr _ (Old.now O (by assumption))); rintro ⟨q0, hq0⟩ w1 S1; dsimp only; have hAQ := allQ h6 hg hq0; have hlx := leadQ_xs (to := to) hq0; obtain ⟨RQ, RQ2⟩ := oqr_rd (q := q0) S1 (fun o ho => by simp at ho ⊢; simp [ho])) | (apply x_callrowE (m := (leadQ l to q0).length); assumption; exact rfl; exact rfl; exact rfl; exact e_rLead; (exact (by repeat' constructor)); (with_reducible exact rLead_c A cA l hl ho q0.A q0.c q0.rs hAQ.len hAQ.xl hAQ.pos to hto _ (Old.now O (by assumption)) RQ RQ2); exact (List.length_map _); intro B1 c1 w2 S2; have hn2 : (leadQ l to q0).length = (pthA l ax fr to).length := by rw [← List.length_map (f := OR.xs), hlx]; exact (leadR_perm hg hne).length_eq) | (apply x_move; exact rfl; exact rfl; (exact (by repeat' constructor))) | (apply x_assign; exact rfl; exact rfl; (exact (by repeat' constructor))) | (apply x_bin; exact rfl; exact rfl; exact rfl; (first | exact .z (.wrap (by omega)) | exact (by repeat' constructor))) | (apply x_builtin; exact rfl; exact rfl; exact (fun _ => rfl); (exact (by repeat' constructor))) | (apply x_dec; exact rfl; all_goals (intro _; try omega)) | (apply cw_ne; exact rfl; all_goals (intro _; try omega))))
      all_goals first
        | exact absurd he (by assumption)
        | (exfalso; omega)
        | skip
      have hmr : ∀ r ∈ leadQ l to q0, r ∈ q0.rs := fun r hr => leadQ_sub hr
      have hnd : ((leadQ l to q0).map OR.xs).Nodup := by rw [hlx]; exact leadR_nodup hg
      have hsubl : ((leadQ l to q0).map orHr).Sublist (q0.rs.map orHr) := (List.filter_sublist).map orHr
      obtain ⟨rs0, hrs0⟩ : ∃ rs0, leadQ l to q0 = rs0 := ⟨_, rfl⟩
      rw [hrs0] at S2 hn2 hmr hlx hnd hsubl
      rw [hrs0]
      have hrow : ∀ r ∈ q0.rs, ∀ {h : List HO} {w' : World} (Sx : Sat w [] h w') (hs : ∀ o ∈ q0.rs.map orHr, o ∈ h), Rd w' r.A 2 r.xs.length (fun j => lkC (r.xs.getD j lk0)) := fun r hr {h w'} Sx hs =>
        Sat.rdmapN (en := lkC) lk0 Sx (hasOf (hs (orHr r) (List.mem_map_of_mem hr))) rfl
      replace S2 : Sat w [] (.rw 0 (.slice B1 rs0.length c1) 32 1 (rs0.map orV) :: .rw 0 (.slice q0.A q0.rs.length q0.c) 32 1 (q0.rs.map orV) :: q0.rs.map orHr) w2 := by
        refine Sat.cast ?_ S2
        rw [← hrs0]
        simp [oqHr, leadQ]
      replace S2 := S2.drop (.rw 0 (.slice B1 rs0.length c1) 32 1 (rs0.map orV) :: q0.rs.map orHr) (.cons_cons _ (List.sublist_cons_self _ _))
      refine cw_loop [12, 13, 14, 33, 34, 35, 36, 37, 38, 39, 40, 41, 42, 43, 44, 45, 46, 47, 48, 49, 50, 51, 52, 53, 54, 55, 56, 57, 58, 59, 60, 61, 62, 63, 64, 65, 66, 67, 68, 69, 70, 71] [13, 12] (fun us wr => ∃ (k : Nat) (oA : Option Addr) (oc : Nat) (os : List OR), k ≤ rs0.length ∧ us = [.int .i64 k, .slice oA os.length oc] ∧ os.Perm (rs0.take k) ∧ (os.map OR.xs).Pairwise cbef ∧ Sat w [] (.rw 0 (.slice oA os.length oc) 32 1 (os.map orV) :: .rw 0 (.slice B1 rs0.length c1) 32 1 (rs0.map orV) :: q0.rs.map orHr) wr) (fun us _ => rs0.length - (intOf (us.getD 0 undef)).toNat) ?_ ?_
      · exact ⟨0, none, 0, [], Nat.zero_le _, rfl, List.Perm.refl _, List.Pairwise.nil, S2.addNil _ _⟩
      clear S2 S1 S
      rintro g us wr ⟨k, oA, oc, os, hk, rfl, hpm, hso, Sr⟩
      have hol : os.length = k := by have := hpm.length_eq; rw [List.length_take] at this; omega
      by_cases hlt : k < rs0.length
      · obtain ⟨c, hc⟩ : ∃ c, rs0.getD k or0 = c := ⟨_, rfl⟩
        have hcm : c ∈ q0.rs := hmr _ (by rw [← hc]; exact getD_mem or0 hlt)
        have hcx := hAQ.xl c hcm
        have hos : ∀ i, i < os.length → os.getD i or0 ∈ q0.rs := fun i hi => hmr _ (List.mem_of_mem_take (hpm.subset (getD_mem or0 hi)))
        (repeat' (first | apply cw_seq | apply cw_region | apply wl_nil | apply cw_block | apply cw_skip | (apply x_move; exact rfl; exact rfl; (exact (by repeat' constructor))) | (apply x_assign; exact rfl; exact rfl; (exact (by repeat' constructor))) | (apply x_bin; exact rfl; exact rfl; exact rfl; (first | exact .z (.wrap (by omega)) | exact (by repeat' constructor))) | (apply x_builtin; exact rfl; exact rfl; exact (fun _ => rfl); (exact (by repeat' constructor))) | (apply x_dec; exact rfl; all_goals (intro _; try omega))))
        refine cw_loop [14, 41, 42, 43, 44, 45, 46, 47, 48, 49, 50, 51, 52, 53, 54, 55, 56] [14] (fun us wr => ∃ a : Nat, a ≤ os.length ∧ us = [.int .i64 a] ∧ (∀ i, a ≤ i → i < os.length → cbef c.xs (os.getD i or0).xs) ∧ Sat w [] (.rw 0 (.slice oA os.length oc) 32 1 (os.map orV) :: .rw 0 (.slice B1 rs0.length c1) 32 1 (rs0.map orV) :: q0.rs.map orHr) wr) (fun us _ => (intOf (us.getD 0 undef)).toNat) ?_ ?_
        · exact ⟨os.length, Nat.le_refl _, rfl, fun i h1 h2 => by omega, by assumption⟩
        clear Sr
        rintro g1 us1 wr1 ⟨a, ha, rfl, hbe, Sr⟩
        have hac : a ≤ oc := Nat.le_trans ha (Sr.rowCap .head)
        have hta : a = (os.take a).length := by rw [List.length_take]; omega
        have hRT : ∀ {h : List HO} {w' : World} (Sx : Sat w [] h w') (hh : Has h (.rw 0 (.slice oA os.length oc) 32 1 (os.map orV))), Rd w' oA 1 (os.take a).length (fun i => orV ((os.take a).getD i or0)) := fun {h w'} Sx hh => by
          refine ((Sat.rdmapN (l := os) (en := orV) or0 Sx hh rfl).take (by omega)).congr fun i hi => ?_
          have hi' : i < a := by omega
          simp [List.getD_eq_getElem?_getD, List.getElem?_take, hi']
        have hRD : ∀ {h : List HO} {w' : World} (Sx : Sat w [] h w') (hh : Has h (.rw 0 (.slice oA os.length oc) 32 1 (os.map orV))), Rd w' (sub oA a 1 oc) 1 (os.drop a).length (fun i => orV ((os.drop a).getD i or0)) := fun {h w'} Sx hh => by
          have h1 := (Sat.rdmapN (l := os) (en := orV) or0 Sx hh rfl).drop ha (Sx.rowCap hh)
          rw [List.length_drop]
          refine h1.congr fun i hi => ?_
          simp [List.getD_eq_getElem?_getD]
        have fin : ∀ (A' : Option Addr) (cap n : Nat) (xs : List (List Value)) (w' : World), Sat w [] (.rw 0 (.slice A' n cap) 32 1 xs :: .rw 0 (.slice B1 rs0.length c1) 32 1 (rs0.map orV) :: q0.rs.map orHr) w' → n = (os.take a ++ c :: os.drop a).length → xs = (os.take a ++ c :: os.drop a).map orV → (0 < a → ¬ cbef c.xs (os.getD (a - 1) or0).xs) →
            ∃ (k' : Nat) (oA : Option Addr) (oc : Nat) (os : List OR), k' ≤ rs0.length ∧ ([.int .i64 ((k : Int) + 1), .slice A' n cap] : List Value) = [.int .i64 k', .slice oA os.length oc] ∧ os.Perm (rs0.take k') ∧ (os.map OR.xs).Pairwise cbef ∧ Sat w [] (.rw 0 (.slice oA os.length oc) 32 1 (os.map orV) :: .rw 0 (.slice B1 rs0.length c1) 32 1 (rs0.map orV) :: q0.rs.map orHr) w' := fun A' cap n xs w' Sx hn hx h1 => by
          subst hn
          subst hx
          subst hc
          obtain ⟨h3, h4⟩ := insR_ok hlt hnd hpm hso ha h1 hbe
          exact ⟨k + 1, A', cap, _, hlt, rfl, h3, h4, Sx⟩
        by_cases ha0 : a = 0
        · subst ha0
          by_cases hl0 : os.length = 0
          · obtain hos0 : os = [] := List.length_eq_zero_iff.1 hl0
            (repeat' (first | apply cw_seq | apply cw_region | apply wl_nil | apply cw_exit | (apply y_loadRowM (l := rs0) (en := orV) or0; exact rfl; exact rfl; (exact (by repeat' constructor)); exact rfl; exact hlt; exact rfl; exact rfl; exact is_rowE hc) | (apply y_sliceHiS hta hac; exact rfl; exact rfl; exact rfl; exact rfl) | (apply y_sliceLoS rfl (show os.length - 0 = 0 by omega) ha; exact rfl; exact rfl; exact rfl; exact rfl) | (apply z1_append0; exact rfl; exact rfl; exact rfl; exact rfl; exact Nat.le_refl _) | (apply z2_appendOne; exact rfl; exact rfl; exact rfl; exact rfl; (exact (by repeat' constructor)); exact rfl; exact rfl; intro _ _) | (apply z2_append0R (by exact (by repeat' constructor)); exact rfl; exact rfl; exact rfl; exact rfl) | (apply cw_draw (id := 12) [(0, 0), (1, 0), (2, 0), (3, 0), (4, 0), (5, 0), (6, 0), (7, 0), (8, 0), (9, 0), (10, 0), (11, 0), (12, 2), (13, 0)]; assumption; exact mixed; kernel_rfl) | (apply cw_draw (id := 14) [(1, 0), (2, 0), (3, 0), (5, 0), (6, 0), (7, 0), (8, 0), (11, 0), (12, 0), (13, 3), (0, 4), (4, 1), (9, 4), (10, 2), (14, 2), (15, 0)]; assumption; exact mixed; kernel_rfl) | (apply x_move; exact rfl; exact rfl; (exact (by repeat' constructor))) | (apply x_assign; exact rfl; exact rfl; (exact (by repeat' constructor))) | (apply x_bin; exact rfl; exact rfl; exact rfl; (first | exact .z (.wrap (by omega)) | exact (by repeat' constructor))) | (apply y_not; exact rfl) | (apply y_move; exact rfl; (exact (by repeat' constructor))) | (apply y_assign; exact rfl; (exact (by repeat' constructor))) | (apply y_bin; exact rfl; exact (fun _ => rfl); (first | exact .z (.wrap (by omega)) | exact (by repeat' constructor))) | (apply y_pick; exact rfl; exact rfl; (exact (by repeat' constructor))) | (apply y_index; exact rfl; exact rfl; exact rfl; exact rfl; (constructor); (first | omega | exact size_pos (by assumption) | assumption); (first | exact rfl | assumption | exact Rd.some_ (by assumption) (by omega) | exact Rd.some_ (Old.rd (by assumption)) (by omega) | exact (Sat.rd (by assumption) (by exact (by repeat' constructor))).some_ (by omega))) | (apply z2_not; exact rfl) | (apply z3_buildSlice0; exact rfl; intro _) | (apply z3_buildSlice; exact rfl; (exact (by repeat' constructor)); intro _) | (apply PV.up3) | (apply y_nil; intro _ _) | (apply cw_false; exact rfl)))
            rename_i _ _ g3 c3 w7 S7
            refine ⟨rfl, (by repeat (first | exact Agree.updl rfl (Agree.mask _ _ _) | refine Agree.upd rfl ?_ | refine Agree.updl rfl ?_ | refine Agree.maskIn rfl ?_)), fin (some ⟨g3, 0, none⟩) c3 1 _ w7 (S7.drop _ (.cons_cons _ (.cons _ (.cons _ (.cons _ (List.Sublist.refl _)))))) (by simp [hos0]) (by simp [hos0]; rfl) (fun h => absurd h (Nat.lt_irrefl 0)), ?_⟩
            show rs0.length - ((k : Int) + 1).toNat < rs0.length - (k : Int).toNat
            omega
          · obtain ⟨ad, had⟩ : ∃ ad, sub oA 0 1 oc = some ad := Option.isSome_iff_exists.1 ((hRD Sr .head).some_ (by rw [List.length_drop]; omega))
            (repeat' (first | apply cw_seq | apply cw_region | apply wl_nil | apply cw_exit | (apply y_loadRowM (l := rs0) (en := orV) or0; exact rfl; exact rfl; (exact (by repeat' constructor)); exact rfl; exact hlt; exact rfl; exact rfl; exact is_rowE hc) | (apply y_sliceHiS hta hac; exact rfl; exact rfl; exact rfl; exact rfl) | (apply y_sliceLoS had List.length_drop.symm ha; exact rfl; exact rfl; exact rfl; exact rfl) | (apply z1_append0; exact rfl; exact rfl; exact rfl; exact rfl; exact Nat.le_refl _) | (apply z2_appendOne; exact rfl; exact rfl; exact rfl; exact rfl; (exact (by repeat' constructor)); exact rfl; exact rfl; intro _ _) | (apply z2_appendNL (l := os.drop _) (en := orV) or0 (fun _ => rfl) (fun _ => rfl) (fun _ Sx => had ▸ hRD Sx (by exact (by repeat' constructor))); exact rfl; exact rfl; exact rfl; (exact (by repeat' constructor)); exact rfl; exact rfl; (simp; omega); intro _ _) | (apply cw_draw (id := 12) [(0, 0), (1, 0), (2, 0), (3, 0), (4, 0), (5, 0), (6, 0), (7, 0), (8, 0), (9, 0), (10, 0), (11, 0), (12, 2), (13, 0)]; assumption; exact mixed; kernel_rfl) | (apply cw_draw (id := 14) [(1, 0), (2, 0), (3, 0), (5, 0), (6, 0), (7, 0), (8, 0), (11, 0), (12, 0), (13, 3), (0, 4), (4, 1), (9, 4), (10, 2), (14, 2), (15, 0)]; assumption; exact mixed; kernel_rfl) | (apply x_move; exact rfl; exact rfl; (exact (by repeat' constructor))) | (apply x_assign; exact rfl; exact rfl; (exact (by repeat' constructor))) | (apply x_bin; exact rfl; exact rfl; exact rfl; (first | exact .z (.wrap (by omega)) | exact (by repeat' constructor))) | (apply y_not; exact rfl) | (apply y_move; exact rfl; (exact (by repeat' constructor))) | (apply y_assign; exact rfl; (exact (by repeat' constructor))) | (apply y_bin; exact rfl; exact (fun _ => rfl); (first | exact .z (.wrap (by omega)) | exact (by repeat' constructor))) | (apply y_pick; exact rfl; exact rfl; (exact (by repeat' constructor))) | (apply y_index; exact rfl; exact rfl; exact rfl; exact rfl; (constructor); (first | omega | exact size_pos (by assumption) | assumption); (first | exact rfl | assumption | exact Rd.some_ (by assumption) (by omega) | exact Rd.some_ (Old.rd (by assumption)) (by omega) | exact (Sat.rd (by assumption) (by exact (by repeat' constructor))).some_ (by omega))) | (apply z2_not; exact rfl) | (apply z3_buildSlice0; exact rfl; intro _) | (apply z3_buildSlice; exact rfl; (exact (by repeat' constructor)); intro _) | (apply PV.up3) | (apply y_nil; intro _ _) | (apply cw_false; exact rfl)))
            rename_i _ _ g2 c2 A3 c3 w7 S7
            refine ⟨rfl, (by repeat (first | exact Agree.updl rfl (Agree.mask _ _ _) | refine Agree.upd rfl ?_ | refine Agree.updl rfl ?_ | refine Agree.maskIn rfl ?_)), fin A3 c3 _ _ w7 (S7.drop _ (.cons_cons _ (.cons _ (.cons _ (.cons _ (List.Sublist.refl _)))))) (by simp; omega) (by simp; rfl) (fun h => absurd h (Nat.lt_irrefl 0)), ?_⟩
            show rs0.length - ((k : Int) + 1).toNat < rs0.length - (k : Int).toNat
            omega
        · obtain ⟨b, rfl⟩ : ∃ b, a = b + 1 := ⟨a - 1, by omega⟩
          obtain ⟨r1, hr1⟩ : ∃ r1, os.getD b or0 = r1 := ⟨_, rfl⟩
          have hbl : b < os.length := by omega
          have hrm : r1 ∈ q0.rs := by rw [← hr1]; exact hos b hbl
          have hrx := hAQ.xl r1 hrm
          by_cases hb : cbef c.xs r1.xs
          · (repeat' (first | apply cw_seq | apply cw_region | apply wl_nil | apply cw_block | apply cw_skip | (apply y_loadRowM (l := rs0) (en := orV) or0; exact rfl; exact rfl; (exact (by repeat' constructor)); exact rfl; exact hlt; exact rfl; exact rfl; exact is_rowE hc) | (apply y_bin; exact rfl; exact (fun _ => rfl); exact is_sub1j (by omega)) | (apply x_bin; exact rfl; exact rfl; exact rfl; exact is_sub1j (by omega)) | (apply y_loadRowM (l := os) (en := orV) or0; exact rfl; exact rfl; (exact (by repeat' constructor)); exact rfl; exact hbl; exact rfl; exact rfl; exact is_rowE hr1) | (apply z2_callv; exact rfl; exact rfl; exact e_rBef; (exact (by repeat' constructor)); exact (fun _ Sx => val_of (rBef_c c.A r1.A c.c r1.c c.xs r1.xs (Nat.le_trans hcx (by decide)) (Nat.le_trans hrx (by decide)) _ (hrow c hcm Sx (fun o ho => by simp [ho])) (hrow r1 hrm Sx (fun o ho => by simp [ho]))) (by rw [befB_yes hb]))) | (apply cw_draw (id := 12) [(0, 0), (1, 0), (2, 0), (3, 0), (4, 0), (5, 0), (6, 0), (7, 0), (8, 0), (9, 0), (10, 0), (11, 0), (12, 2), (13, 0)]; assumption; exact mixed; kernel_rfl) | (apply x_move; exact rfl; exact rfl; (exact (by repeat' constructor))) | (apply x_assign; exact rfl; exact rfl; (exact (by repeat' constructor))) | (apply y_move; exact rfl; (exact (by repeat' constructor))) | (apply y_bin; exact rfl; exact (fun _ => rfl); (first | exact .z (.wrap (by omega)) | exact (by repeat' constructor))) | (apply y_pick; exact rfl; exact rfl; (exact (by repeat' constructor))) | (apply y_index; exact rfl; exact rfl; exact rfl; exact rfl; (constructor); (first | omega | exact size_pos (by assumption) | assumption); (first | exact rfl | assumption | exact Rd.some_ (by assumption) (by omega) | exact Rd.some_ (Old.rd (by assumption)) (by omega) | exact (Sat.rd (by assumption) (by exact (by repeat' constructor))).some_ (by omega))) | (apply y_nil; intro _ _) | (apply y_gdec; exact rfl; exact rfl; all_goals (intro _; try omega)) | (apply cw_true; exact rfl)))
            all_goals first
              | (exfalso; omega)
              | skip
            refine ⟨rfl, (by repeat (first | exact Agree.updl rfl (Agree.mask _ _ _) | refine Agree.upd rfl ?_)), ⟨b, by omega, rfl, fun i h1 h2 => ?_, by assumption⟩, ?_⟩
            · by_cases hi : i = b
              · rw [hi, hr1]; exact hb
              · exact hbe i (by omega) h2
            · show (b : Int).toNat < ((b + 1 : Nat) : Int).toNat
              omega
          · by_cases hl0 : os.length = b + 1
            · (repeat' (first | apply cw_seq | apply cw_region | apply wl_nil | apply cw_exit | (apply y_loadRowM (l := rs0) (en := orV) or0; exact rfl; exact rfl; (exact (by repeat' constructor)); exact rfl; exact hlt; exact rfl; exact rfl; exact is_rowE hc) | (apply y_bin; exact rfl; exact (fun _ => rfl); exact is_sub1j (by omega)) | (apply y_loadRowM (l := os) (en := orV) or0; exact rfl; exact rfl; (exact (by repeat' constructor)); exact rfl; exact hbl; exact rfl; exact rfl; exact is_rowE hr1) | (apply z2_callv; exact rfl; exact rfl; exact e_rBef; (exact (by repeat' constructor)); exact (fun _ Sx => val_of (rBef_c c.A r1.A c.c r1.c c.xs r1.xs (Nat.le_trans hcx (by decide)) (Nat.le_trans hrx (by decide)) _ (hrow c hcm Sx (fun o ho => by simp [ho])) (hrow r1 hrm Sx (fun o ho => by simp [ho]))) (by rw [befB_no hb]))) | (apply y_sliceHiS hta hac; exact rfl; exact rfl; exact rfl; exact rfl) | (apply y_sliceLoS rfl (show os.length - (b + 1) = 0 by omega) ha; exact rfl; exact rfl; exact rfl; exact rfl) | (apply z1_appendAll (l := os.take _) (en := orV) or0 (fun _ => rfl) (fun _ Sx => hRT Sx (by exact (by repeat' constructor))) (by omega) (by omega); exact rfl; exact rfl; exact rfl; exact rfl; (exact .inr ⟨_, rfl⟩); exact rfl; intro _ _ _) | (apply z2_append0R (by exact (by repeat' constructor)); exact rfl; exact rfl; exact rfl; exact rfl) | (apply cw_draw (id := 12) [(0, 0), (1, 0), (2, 0), (3, 0), (4, 0), (5, 0), (6, 0), (7, 0), (8, 0), (9, 0), (10, 0), (11, 0), (12, 2), (13, 0)]; assumption; exact mixed; kernel_rfl) | (apply cw_draw (id := 14) [(1, 0), (2, 0), (3, 0), (5, 0), (6, 0), (7, 0), (8, 0), (11, 0), (12, 0), (13, 3), (0, 4), (4, 1), (9, 4), (10, 2), (14, 2), (15, 0)]; assumption; exact mixed; kernel_rfl) | (apply x_move; exact rfl; exact rfl; (exact (by repeat' constructor))) | (apply x_assign; exact rfl; exact rfl; (exact (by repeat' constructor))) | (apply x_bin; exact rfl; exact rfl; exact rfl; (first | exact .z (.wrap (by omega)) | exact (by repeat' constructor))) | (apply z2_append1; exact rfl; exact rfl; exact rfl; exact rfl; exact (by repeat' constructor); exact (by repeat' constructor); exact rfl; exact rfl; exact rfl; (first | assumption | omega | (simp; omega)); intro _ _) | (apply y_move; exact rfl; (exact (by repeat' constructor))) | (apply y_assign; exact rfl; (exact (by repeat' constructor))) | (apply y_bin; exact rfl; exact (fun _ => rfl); (first | exact .z (.wrap (by omega)) | exact (by repeat' constructor))) | (apply y_pick; exact rfl; exact rfl; (exact (by repeat' constructor))) | (apply y_index; exact rfl; exact rfl; exact rfl; exact rfl; (constructor); (first | omega | exact size_pos (by assumption) | assumption); (first | exact rfl | assumption | exact Rd.some_ (by assumption) (by omega) | exact Rd.some_ (Old.rd (by assumption)) (by omega) | exact (Sat.rd (by assumption) (by exact (by repeat' constructor))).some_ (by omega))) | (apply z3_buildSlice0; exact rfl; intro _) | (apply z3_buildSlice; exact rfl; (exact (by repeat' constructor)); intro _) | (apply PV.up3) | (apply y_nil; intro _ _) | (apply y_gdec; exact rfl; exact rfl; all_goals (intro _; try omega)) | (apply cw_false; exact rfl)))
              rename_i _ g1 c1 _ _ g3 c3 w7 S7
              refine ⟨rfl, (by repeat (first | exact Agree.updl rfl (Agree.mask _ _ _) | refine Agree.upd rfl ?_ | refine Agree.updl rfl ?_ | refine Agree.maskIn rfl ?_)), fin (some ⟨g3, 0, none⟩) c3 _ _ w7 (S7.drop1.drop _ (.cons_cons _ (.cons _ (.cons _ (List.Sublist.refl _))))) (by simp; omega) (by rw [List.map_append, List.map_cons, List.drop_of_length_le (by omega)]; rfl) (fun _ => by rw [show b + 1 - 1 = b from rfl, hr1]; exact hb), ?_⟩
              show rs0.length - ((k : Int) + 1).toNat < rs0.length - (k : Int).toNat
              omega
            · obtain ⟨ad, had⟩ : ∃ ad, sub oA (b + 1) 1 oc = some ad := Option.isSome_iff_exists.1 ((hRD Sr .head).some_ (by rw [List.length_drop]; omega))
              (repeat' (first | apply cw_seq | apply cw_region | apply wl_nil | apply cw_exit | (apply y_loadRowM (l := rs0) (en := orV) or0; exact rfl; exact rfl; (exact (by repeat' constructor)); exact rfl; exact hlt; exact rfl; exact rfl; exact is_rowE hc) | (apply y_bin; exact rfl; exact (fun _ => rfl); exact is_sub1j (by omega)) | (apply y_loadRowM (l := os) (en := orV) or0; exact rfl; exact rfl; (exact (by repeat' constructor)); exact rfl; exact hbl; exact rfl; exact rfl; exact is_rowE hr1) | (apply z2_callv; exact rfl; exact rfl; exact e_rBef; (exact (by repeat' constructor)); exact (fun _ Sx => val_of (rBef_c c.A r1.A c.c r1.c c.xs r1.xs (Nat.le_trans hcx (by decide)) (Nat.le_trans hrx (by decide)) _ (hrow c hcm Sx (fun o ho => by simp [ho])) (hrow r1 hrm Sx (fun o ho => by simp [ho]))) (by rw [befB_no hb]))) | (apply y_sliceHiS hta hac; exact rfl; exact rfl; exact rfl; exact rfl) | (apply y_sliceLoS had List.length_drop.symm ha; exact rfl; exact rfl; exact rfl; exact rfl) | (apply z1_appendAll (l := os.take _) (en := orV) or0 (fun _ => rfl) (fun _ Sx => hRT Sx (by exact (by repeat' constructor))) (by omega) (by omega); exact rfl; exact rfl; exact rfl; exact rfl; (exact .inr ⟨_, rfl⟩); exact rfl; intro _ _ _) | (apply z2_appendNL (l := os.drop _) (en := orV) or0 (fun _ => rfl) (fun _ => rfl) (fun _ Sx => had ▸ hRD Sx (by exact (by repeat' constructor))); exact rfl; exact rfl; exact rfl; (exact (by repeat' constructor)); exact rfl; exact rfl; (simp; omega); intro _ _) | (apply cw_draw (id := 12) [(0, 0), (1, 0), (2, 0), (3, 0), (4, 0), (5, 0), (6, 0), (7, 0), (8, 0), (9, 0), (10, 0), (11, 0), (12, 2), (13, 0)]; assumption; exact mixed; kernel_rfl) | (apply cw_draw (id := 14) [(1, 0), (2, 0), (3, 0), (5, 0), (6, 0), (7, 0), (8, 0), (11, 0), (12, 0), (13, 3), (0, 4), (4, 1), (9, 4), (10, 2), (14, 2), (15, 0)]; assumption; exact mixed; kernel_rfl) | (apply x_move; exact rfl; exact rfl; (exact (by repeat' constructor))) | (apply x_assign; exact rfl; exact rfl; (exact (by repeat' constructor))) | (apply x_bin; exact rfl; exact rfl; exact rfl; (first | exact .z (.wrap (by omega)) | exact (by repeat' constructor))) | (apply z2_append1; exact rfl; exact rfl; exact rfl; exact rfl; exact (by repeat' constructor); exact (by repeat' constructor); exact rfl; exact rfl; exact rfl; (first | assumption | omega | (simp; omega)); intro _ _) | (apply y_move; exact rfl; (exact (by repeat' constructor))) | (apply y_assign; exact rfl; (exact (by repeat' constructor))) | (apply y_bin; exact rfl; exact (fun _ => rfl); (first | exact .z (.wrap (by omega)) | exact (by repeat' constructor))) | (apply y_pick; exact rfl; exact rfl; (exact (by repeat' constructor))) | (apply y_index; exact rfl; exact rfl; exact rfl; exact rfl; (constructor); (first | omega | exact size_pos (by assumption) | assumption); (first | exact rfl | assumption | exact Rd.some_ (by assumption) (by omega) | exact Rd.some_ (Old.rd (by assumption)) (by omega) | exact (Sat.rd (by assumption) (by exact (by repeat' constructor))).some_ (by omega))) | (apply z3_buildSlice0; exact rfl; intro _) | (apply z3_buildSlice; exact rfl; (exact (by repeat' constructor)); intro _) | (apply PV.up3) | (apply y_nil; intro _ _) | (apply y_gdec; exact rfl; exact rfl; all_goals (intro _; try omega)) | (apply cw_false; exact rfl)))
              rename_i _ g1 c1 _ _ g2 c2 A3 c3 w7 S7
              refine ⟨rfl, (by repeat (first | exact Agree.updl rfl (Agree.mask _ _ _) | refine Agree.upd rfl ?_ | refine Agree.updl rfl ?_ | refine Agree.maskIn rfl ?_)), fin A3 c3 _ _ w7 (S7.drop1.drop _ (.cons_cons _ (.cons _ (.cons _ (List.Sublist.refl _))))) (by simp; omega) (by simp; rfl) (fun _ => by rw [show b + 1 - 1 = b from rfl, hr1]; exact hb), ?_⟩
              show rs0.length - ((k : Int) + 1).toNat < rs0.length - (k : Int).toNat
              omega
      · have hkl : k = rs0.length := by omega
        subst hkl
        rw [List.take_length] at hpm
        have hxs := lead_sorted hg hne (hlx ▸ hpm.map OR.xs) hso
        (repeat' (first | apply cw_seq | apply cw_region | apply wl_nil | apply cw_exit | apply cw_ret | (apply x_move; exact rfl; exact rfl; (exact (by repeat' constructor))) | (apply x_assign; exact rfl; exact rfl; (exact (by repeat' constructor))) | (apply x_bin; exact rfl; exact rfl; exact rfl; (first | exact .z (.wrap (by omega)) | exact (by repeat' constructor))) | (apply x_builtin; exact rfl; exact rfl; exact (fun _ => rfl); (exact (by repeat' constructor))) | (apply x_dec; exact rfl; all_goals (intro _; try omega))))
        (first | refine q_retS (by assumption) rfl (by repeat (first | exact .nil | (apply RV.tmp; exact (by repeat' constructor)) | (apply RV.cell; exact rfl; exact (by repeat' constructor); exact rfl; exact rfl; exact (by repeat' constructor)))) ?_ | (simp only [thenQ, blockQ]; refine q_retS (by assumption) rfl (by repeat (first | exact .nil | (apply RV.tmp; exact (by repeat' constructor)) | (apply RV.cell; exact rfl; exact (by repeat' constructor); exact rfl; exact rfl; exact (by repeat' constructor)))) ?_))
        refine ⟨⟨⟨oA, oc, os⟩, hxs⟩, rfl, ?_⟩
        have S5 := Sr.drop (.rw 0 (.slice oA os.length oc) 32 1 (os.map orV) :: rs0.map orHr) (.cons_cons _ (.cons _ hsubl))
        exact S5.perm' (List.Perm.cons _ (hpm.symm.map orHr))
    · rw [if_neg hP] at hal
      rw [hal]
      (repeat' (first | apply cw_seq | apply cw_region | apply wl_nil | apply cw_skip | apply cw_ret | (apply x_callv; assumption; exact rfl; exact rfl; exact rfl; exact e_rasked; (exact (by repeat' constructor)); with_reducible exact (rasked_c A cA l hl ho ax fr to hfr hto _ (Old.now O (by assumption))); intro _ _ _) | (apply x_callH; assumption; exact rfl; exact rfl; exact rfl; exact e_rChains; (exact (by repeat' constructor)); (with_reducible exact rChains_c A cA l hl ho h6 hg ax fr hfr _ (Old.now O (by assumption))); rintro ⟨q0, hq0⟩ w1 S1; dsimp only; have hAQ := allQ h6 hg hq0; have hlx := leadQ_xs (to := to) hq0; obtain ⟨RQ, RQ2⟩ := oqr_rd (q := q0) S1 (fun o ho => by simp at ho ⊢; simp [ho])) | (apply x_callrowE (m := (leadQ l to q0).length); assumption; exact rfl; exact rfl; exact rfl; exact e_rLead; (exact (by repeat' constructor)); (with_reducible exact rLead_c A cA l hl ho q0.A q0.c q0.rs hAQ.len hAQ.xl hAQ.pos to hto _ (Old.now O (by assumption)) RQ RQ2); exact (List.length_map _); intro B1 c1 w2 S2; have hn2 : (leadQ l to q0).length = (pthA l ax fr to).length := by rw [← List.length_map (f := OR.xs), hlx]; exact (leadR_perm hg hne).length_eq) | (apply x_move; exact rfl; exact rfl; (exact (by repeat' constructor))) | (apply x_assign; exact rfl; exact rfl; (exact (by repeat' constructor))) | (apply x_bin; exact rfl; exact rfl; exact rfl; (first | exact .z (.wrap (by omega)) | exact (by repeat' constructor))) | (apply x_builtin; exact rfl; exact rfl; exact (fun _ => rfl); (exact (by repeat' constructor))) | (apply x_dec; exact rfl; all_goals (intro _; try omega)) | (apply cw_ne; exact rfl; all_goals (intro _; try omega))))
      all_goals first
        | exact absurd he (by assumption)
        | (exfalso; omega)
        | skip
      (first | refine q_retS (by assumption) rfl (by repeat (first | exact .nil | (apply RV.tmp; exact (by repeat' constructor)) | (apply RV.cell; exact rfl; exact (by repeat' constructor); exact rfl; exact rfl; exact (by repeat' constructor)))) ?_ | (simp only [thenQ, blockQ]; refine q_retS (by assumption) rfl (by repeat (first | exact .nil | (apply RV.tmp; exact (by repeat' constructor)) | (apply RV.cell; exact rfl; exact (by repeat' constructor); exact rfl; exact rfl; exact (by repeat' constructor)))) ?_))
      exact ⟨⟨⟨none, 0, []⟩, rfl⟩, rfl, ((Sat.start [] w).call (Sat.keeps (by assumption))).addNil _ _⟩
  · have h1 : allS l ax fr to = ([], askE l ax fr to) := if_neg he
    rw [h1]
    (repeat' (first | apply cw_seq | apply cw_region | apply wl_nil | apply cw_ret | (apply x_callv; assumption; exact rfl; exact rfl; exact rfl; exact e_rasked; (exact (by repeat' constructor)); with_reducible exact (rasked_c A cA l hl ho ax fr to hfr hto _ (Old.now O (by assumption))); intro _ _ _) | (apply x_move; exact rfl; exact rfl; (exact (by repeat' constructor))) | (apply x_assign; exact rfl; exact rfl; (exact (by repeat' constructor))) | (apply x_bin; exact rfl; exact rfl; exact rfl; (first | exact .z (.wrap (by omega)) | exact (by repeat' constructor))) | (apply cw_ne; exact rfl; all_goals (intro _; try omega))))
    all_goals first
      | exact absurd (by assumption) he
      | skip
    all_goals (first | refine q_retS (by assumption) rfl (by repeat (first | exact .nil | (apply RV.tmp; exact (by repeat' constructor)) | (apply RV.cell; exact rfl; exact (by repeat' constructor); exact rfl; exact rfl; exact (by repeat' constructor)))) ?_ | (simp only [thenQ, blockQ]; refine q_retS (by assumption) rfl (by repeat (first | exact .nil | (apply RV.tmp; exact (by repeat' constructor)) | (apply RV.cell; exact rfl; exact (by repeat' constructor); exact rfl; exact rfl; exact (by repeat' constructor)))) ?_))
    all_goals exact ⟨⟨⟨none, 0, []⟩, rfl⟩, rfl, ((Sat.start [] w).call (Sat.keeps (by assumption))).addNil _ _⟩
end Go.Proofs.Ytagapiflfnbfiaa
