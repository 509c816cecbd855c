/- Tasks of choices: the search, the least cost of a front for a width. No statement of the seat is proved here. -/
import Derived.Test.YtdkknknebehkgaaGreatDoorVg
import Derived.Test.YtdkknknebehkgaaGreatDoorEngT
namespace Go.Proofs.YtdkknknebehkgaaGreatDoor.Al
set_option linter.unusedVariables false
set_option linter.unusedSimpArgs false
open Go Go.RowKit
section
variable {P : Program} {ro : Option Nat} {n : Nat} {Q : Post} {D : List Deferred} {f : Fm} {w w0 : World} {M : List Nat} {h : List HO}
variable {ops : Array Oper} {rest : List Oper} {prest : List (Nat × Oper)} {d ty : Nat} {ps : String} {af : Array Edge} {gd : Option (Nat × Bool)} {x y : Operand} {T : TypeId}
theorem x_indexArrE {A : Option Addr} {e j off size m r : Nat} {z : Int} {kd : IntKind} (hg : want ops f ⟨some d, .indexAddr T x y, ty, ps, af, gd⟩ = true) (hdn : Nat.blt d n = true)
    (hx : fev f x = .pointer (some (ea A e j off))) (hy : fev f y = .int kd z) (hs : arrSize P T = some (m, size)) (h0 : 0 ≤ z) (h1 : z < m) (hn : IsN (off + z.toNat * size) r)
    (k : WL P ro n ops Q rest D (upd f d (.pointer (some (ea A e j r)))) w) : WL P ro n ops Q (⟨some d, .indexAddr T x y, ty, ps, af, gd⟩ :: rest) D f w :=
  x_indexArr hg hdn hx hy hs h0 h1 (by rw [← hn.eq]; exact .ptre) k
theorem y_indexArrE {A : Option Addr} {e j off size m r : Nat} {z : Int} {kd : IntKind} (hg : want ops f ⟨some d, .indexAddr T x y, ty, ps, af, gd⟩ = true)
    (hx : fev f x = .pointer (some (ea A e j off))) (hy : fev f y = .int kd z) (hs : arrSize P T = some (m, size)) (h0 : 0 ≤ z) (h1 : z < m) (hn : IsN (off + z.toNat * size) r)
    (k : PV P ro ops Q w0 M h prest D (upd f d (.pointer (some (ea A e j r))))) : PV P ro ops Q w0 M h ((0, ⟨some d, .indexAddr T x y, ty, ps, af, gd⟩) :: prest) D f :=
  y_indexArr hg hx hy hs h0 h1 (by rw [← hn.eq]; exact .ptre) k
end
theorem is_half {i j : Nat} (h : i + j ≤ 9223372036854775807) : Is (.int .i64 (IntKind.i64.wrap ((IntKind.u64.wrap ((i : Int) + (j : Int))).fdiv (2 ^ min (Int.toNat 1) IntKind.u64.bits)))) (.int .i64 (((i + j) / 2 : Nat) : Int)) := by
  have h1 : IntKind.u64.wrap ((i : Int) + (j : Int)) = ((i + j : Nat) : Int) := by
    rw [IntKind.wrap_u64]; omega
  have h2 : (2 : Int) ^ min (Int.toNat 1) IntKind.u64.bits = 2 := rfl
  have h3 : IntKind.i64.wrap ((IntKind.u64.wrap ((i : Int) + (j : Int))).fdiv (2 ^ min (Int.toNat 1) IntKind.u64.bits)) = (((i + j) / 2 : Nat) : Int) := by
    rw [h1, h2, Int.fdiv_eq_ediv_of_nonneg _ (by omega), IntKind.wrap_i64]; omega
  rw [h3]
  exact .z .any
theorem is_sub1 {j : Nat} (h : (j : Int) ≤ 1000000000) : Is (.int .i64 (IntKind.i64.wrap (((j + 1 : Nat) : Int) - 1))) (.int .i64 (j : Int)) := by
  have : IntKind.i64.wrap (((j + 1 : Nat) : Int) - 1) = (j : Int) := by rw [IntKind.wrap_i64]; omega
  rw [this]
  exact .z .any
set_option maxRecDepth 100000 in
theorem e_Search : Ent Tryz.prog 28 := fun _ _ => rfl
set_option maxRecDepth 4000 in
set_option maxHeartbeats 2000000 in
theorem Search_c (n : Nat) (hn : n ≤ 4611686018427387904) (φ : Nat → Bool) (K : Nat) (hK : K ≤ n) (hm : ∀ a, a < n → (φ a = true ↔ K ≤ a)) (g : FuncId) (cap : List Value) (hE : Ent Tryz.prog g) (w : World) (hF : ∀ k, k < n → ∀ w', Keeps [] w w' → Calls Tryz.prog g (.int .i64 (k : Int) :: cap).toArray w' (RetP (Val (.bool (φ k)) w'))) : Calls Tryz.prog 28 #[.int .i64 (n : Int), .func (.func g) #[] cap.toArray] w (RetP (Val (.int .i64 (K : Int)) w)) := by
  refine calls_of_cw (args := [.int .i64 (n : Int), .func (.func g) #[] cap.toArray]) Tryz.func28 rfl rfl ?_
  have S := Sat.start [] w
  (repeat' (first | apply cw_seq | apply cw_region | apply wl_nil | apply cw_block | (apply x_move; exact rfl; exact rfl; (exact (by repeat' constructor))) | (apply x_assign; exact rfl; exact rfl; (exact (by repeat' constructor)))))
  refine cw_loop [5, 6, 7, 9, 10, 11, 12, 13, 14, 15, 16, 17, 18, 19, 20, 21, 22, 23, 24] [5, 6] (fun us wr => ∃ i j : Nat, i ≤ j ∧ j ≤ n ∧ us = [.int .i64 i, .int .i64 j] ∧ Sat w [] [] wr ∧ (i ≤ K) ∧ K ≤ j) (fun us _ => ((intOf (us.getD 1 undef)) - (intOf (us.getD 0 undef))).toNat) ?_ ?_
  · exact ⟨0, n, by omega, by omega, rfl, S, by omega, hK⟩
  clear S
  rintro g' us wr ⟨i, j, hij, hj, rfl, Sr, h1, h2⟩
  by_cases hlt : i < j
  · have hh : (i + j) / 2 < n := by omega
    have hmm := hm _ hh
    (repeat' (first | apply cw_seq | apply cw_region | apply wl_nil | apply cw_block | apply cw_skip | (apply x_conv; exact rfl; exact rfl; exact rfl; exact is_half (by omega)) | (apply x_callv; assumption; exact rfl; exact rfl; exact rfl; exact hE; (exact NA.cons (by exact (by repeat' constructor)) (NA.rfl_ _)); exact hF _ hh _ (Sat.keeps (by assumption)); intro _ _ _) | (apply x_move; exact rfl; exact rfl; (exact (by repeat' constructor))) | (apply x_assign; exact rfl; exact rfl; (exact (by repeat' constructor))) | (apply x_bin; exact rfl; exact rfl; exact rfl; (first | exact .z (.wrap (by omega)) | exact (by repeat' constructor))) | (apply x_un; exact rfl; exact rfl; exact rfl; (first | exact .z (.wrap (by omega)) | exact (by repeat' constructor))) | (apply x_conv; exact rfl; exact rfl; exact rfl; (first | exact .z (.wrap (by omega)) | exact (by repeat' constructor))) | (apply x_dec; exact rfl; all_goals (intro _; try omega)) | (apply cw_not; exact rfl; all_goals (intro _; try omega))))
    · refine ⟨rfl, (by repeat (first | exact Agree.updl rfl (Agree.mask _ _ _) | refine Agree.upd rfl ?_)), ⟨(i + j) / 2 + 1, j, by omega, hj, rfl, by assumption, ?_, h2⟩, ?_⟩
      · have h3 : ¬ K ≤ (i + j) / 2 := fun h => by have := hmm.2 h; simp_all
        omega
      · show ((j : Int) - ((i + j) / 2 + 1 : Nat)).toNat < ((j : Int) - (i : Int)).toNat
        omega
    · refine ⟨rfl, (by repeat (first | exact Agree.updl rfl (Agree.mask _ _ _) | refine Agree.upd rfl ?_)), ⟨i, (i + j) / 2, by omega, by omega, rfl, by assumption, h1, hmm.1 (by assumption)⟩, ?_⟩
      show ((((i + j) / 2 : Nat) : Int) - (i : Int)).toNat < ((j : Int) - (i : Int)).toNat
      omega
  · have e : i = K := by omega
    subst e
    (repeat' (first | apply cw_seq | apply cw_region | apply wl_nil | apply cw_exit | apply cw_ret | (apply x_move; exact rfl; exact rfl; (exact (by repeat' constructor))) | (apply x_assign; exact rfl; exact rfl; (exact (by repeat' constructor))) | (apply x_bin; exact rfl; exact rfl; exact rfl; (first | exact .z (.wrap (by omega)) | exact (by repeat' constructor))) | (apply x_dec; exact rfl; all_goals (intro _; try omega))))
    (first | refine q_retS (by assumption) rfl (by repeat (first | exact .nil | (apply RV.tmp; exact (by repeat' constructor)) | (apply RV.cell; exact rfl; exact (by repeat' constructor); exact rfl; exact rfl; exact (by repeat' constructor)))) ?_ | (simp only [thenQ, blockQ]; refine q_retS (by assumption) rfl (by repeat (first | exact .nil | (apply RV.tmp; exact (by repeat' constructor)) | (apply RV.cell; exact rfl; exact (by repeat' constructor); exact rfl; exact rfl; exact (by repeat' constructor)))) ?_))
    exact ⟨rfl, Sat.keeps (by assumption)⟩
abbrev prC (x : Pr2) : List Value := [.int .i64 x.1, .int .i64 x.2]
abbrev fat (F : List Pr2) (i : Nat) : Pr2 := F.getD i (0, 0)
abbrev Asc (F : List Pr2) : Prop := F.Pairwise fun a b => a.1 < b.1 ∧ b.2 < a.2
set_option maxRecDepth 100000 in
theorem e_cheapest1 : Ent Tryz.prog 29 := fun _ _ => rfl
set_option maxRecDepth 4000 in
set_option maxHeartbeats 2000000 in
theorem cheapest1_c (A : Option Addr) (cA : Nat) (F : List Pr2) (hF : F.length ≤ 9223372036854775807) (m : Int) (k : Nat) (hk : k < F.length) (w : World) (R : Rd w A 2 F.length (fun i => prC (F.getD i (0, 0)))) (b1 b2 : Nat) (O1 : OldB w [] b1 61 [.slice A F.length cA]) (O2 : OldB w [] b2 3 [.int .i64 m]) : Calls Tryz.prog 29 #[.int .i64 (k : Int), .pointer (some ⟨b1, 0, none⟩), .pointer (some ⟨b2, 0, none⟩)] w (RetP (Val (.bool (decide ((F.getD k (0, 0)).1 > m))) w)) := by
  refine calls_of_cw (args := [.int .i64 (k : Int), .pointer (some ⟨b1, 0, none⟩), .pointer (some ⟨b2, 0, none⟩)]) Tryz.func29 rfl rfl ?_
  have S := Sat.start [] w
  have O := (R).old
  (repeat' (first | apply cw_seq | apply cw_region | apply wl_nil | apply cw_ret | (apply y_indexArrE; exact rfl; exact rfl; exact rfl; exact rfl; decide; decide; (constructor)) | (apply cw_draw (id := 1) [(0, 0), (1, 0), (2, 0), (3, 0), (4, 0), (5, 0), (6, 0), (7, 0)]; assumption; exact mixed; kernel_rfl) | (apply x_assign; exact rfl; exact rfl; (exact (by repeat' constructor))) | (apply y_move; exact rfl; (exact (by repeat' constructor))) | (apply y_assign; exact rfl; (exact (by repeat' constructor))) | (apply y_bin; exact rfl; exact (fun _ => rfl); (first | exact .z (.wrap (by omega)) | exact (by repeat' constructor))) | (apply y_loadB; exact rfl; exact rfl; assumption; exact rfl; exact rfl; (exact (by repeat' constructor))) | (apply y_index; exact rfl; exact rfl; exact rfl; exact rfl; (constructor); (first | omega | exact size_pos (by assumption) | assumption); (first | exact rfl | assumption | exact Rd.some_ (by assumption) (by omega) | exact Rd.some_ (Old.rd (by assumption)) (by omega) | exact (Sat.rd (by assumption) (by exact (by repeat' constructor))).some_ (by omega))) | (apply y_loadR; exact rfl; exact rfl; assumption; (first | omega | exact size_pos (by assumption) | assumption); exact rfl; exact rfl; (exact (by repeat' constructor))) | (apply y_nil; intro _ _)))
  all_goals (first | refine q_retS (by assumption) rfl (by repeat (first | exact .nil | (apply RV.tmp; exact (by repeat' constructor)) | (apply RV.cell; exact rfl; exact (by repeat' constructor); exact rfl; exact rfl; exact (by repeat' constructor)))) ?_ | (simp only [thenQ, blockQ]; refine q_retS (by assumption) rfl (by repeat (first | exact .nil | (apply RV.tmp; exact (by repeat' constructor)) | (apply RV.cell; exact rfl; exact (by repeat' constructor); exact rfl; exact rfl; exact (by repeat' constructor)))) ?_))
  all_goals refine ⟨?_, Sat.keeps (by assumption)⟩
  all_goals rfl
theorem searchF {w0 w' : World} {h : List HO} {b1 b2 : Nat} (A : Option Addr) (cA : Nat) (F : List Pr2) (hF : F.length ≤ 1000000) (hA : Asc F) (m : Int) (R : Rd w0 A 2 F.length (fun i => prC (F.getD i (0, 0))))
    (S : Sat w0 [] h w') (H1 : Has h (.cl b1 61 [.slice A F.length cA])) (H2 : Has h (.cl b2 3 [.int .i64 m])) :
    Calls Tryz.prog 28 #[.int .i64 (F.length : Int), .func (.func 29) #[] ([.pointer (some ⟨b1, 0, none⟩), .pointer (some ⟨b2, 0, none⟩)] : List Value).toArray] w' (RetP (Val (.int .i64 (cntW F m : Int)) w')) := by
  refine Search_c F.length (by omega) (fun k => decide ((F.getD k (0, 0)).1 > m)) (cntW F m) (cnt_le F m) (fun a ha => ?_) _ _ e_cheapest1 w' (fun k hk w2 hk2 => cheapest1_c A cA F (by omega) m k hk w2 (Rd.call ((Rd.old R).now S) hk2) b1 b2 (S.oldb H1 hk2) (S.oldb H2 hk2))
  have := asc_cnt (w := m) hA a ha
  rw [decide_eq_true_eq]
  omega
def chpV (F : List Pr2) (m : Int) : List Value := match chpS F m with | none => [.int .i64 0, .bool false] | some c => [.int .i64 c, .bool true]
theorem chpV_0 {F : List Pr2} {m : Int} (h : cntW F m = 0) : chpV F m = [.int .i64 0, .bool false] := by rw [chpV, chpS, if_pos h]
theorem chpV_1 {F : List Pr2} {m : Int} {j : Nat} (h : cntW F m = j + 1) : chpV F m = [.int .i64 (F.getD j (0, 0)).2, .bool true] := by rw [chpV, chpS, if_neg (by omega), h]; rfl
set_option maxRecDepth 100000 in
theorem e_cheapest : Ent Tryz.prog 16 := fun _ _ => rfl
set_option maxRecDepth 8000 in
set_option maxHeartbeats 4000000 in
theorem cheapest_c (A : Option Addr) (cA : Nat) (F : List Pr2) (hF : F.length ≤ 1000000) (hA : Asc F) (m : Int) (w : World) (R : Rd w A 2 F.length (fun i => prC (F.getD i (0, 0)))) : Calls Tryz.prog 16 #[.slice A F.length cA, .int .i64 m] w (RetP (Val (.tuple (chpV F m).toArray) w)) := by
  refine calls_of_cw (args := [.slice A F.length cA, .int .i64 m]) Tryz.func16 rfl rfl ?_
  have S := Sat.start [] w
  have O := R.old
  have hcn := cnt_le F m
  by_cases h0 : cntW F m = 0
  · rw [chpV_0 h0]
    (repeat' (first | apply cw_seq | apply cw_region | apply wl_nil | apply cw_ret | (apply x_callv; assumption; exact rfl; exact rfl; exact rfl; exact e_Search; (exact (by repeat' constructor)); with_reducible exact (searchF A cA F hF hA m R (by assumption) (by exact (by repeat' constructor)) (by exact (by repeat' constructor))); intro _ _ _) | (apply x_move; exact rfl; exact rfl; (exact (by repeat' constructor))) | (apply x_assign; exact rfl; exact rfl; (exact (by repeat' constructor))) | (apply x_load; assumption; exact rfl; exact rfl; exact rfl; (exact (by repeat' constructor)); exact rfl; exact rfl; (exact (by repeat' constructor))) | (apply x_bin; exact rfl; exact rfl; exact rfl; (first | exact .z (.wrap (by omega)) | exact (by repeat' constructor))) | (apply x_box; assumption; exact rfl; exact rfl; (exact (by repeat' constructor)); (exact (by repeat' constructor)); intro _ _ _) | (apply x_builtin; exact rfl; exact rfl; exact (fun _ => rfl); (exact (by repeat' constructor))) | (apply x_makeFunc; exact rfl; exact rfl; (exact (by repeat' constructor))) | (apply x_dec; exact rfl; all_goals (intro _; try omega))))
    all_goals first
      | (exfalso; omega)
      | ((first | refine q_retS (by assumption) rfl (by repeat (first | exact .nil | (apply RV.tmp; exact (by repeat' constructor)) | (apply RV.cell; exact rfl; exact (by repeat' constructor); exact rfl; exact rfl; exact (by repeat' constructor)))) ?_ | (simp only [thenQ, blockQ]; refine q_retS (by assumption) rfl (by repeat (first | exact .nil | (apply RV.tmp; exact (by repeat' constructor)) | (apply RV.cell; exact rfl; exact (by repeat' constructor); exact rfl; exact rfl; exact (by repeat' constructor)))) ?_))
         exact ⟨rfl, Sat.keeps (by assumption)⟩)
  · obtain ⟨j, hj⟩ : ∃ j, cntW F m = j + 1 := ⟨cntW F m - 1, by omega⟩
    rw [chpV_1 hj]
    have hs : ∀ (w' : World) (h : List HO) (b1 b2 : Nat) (S : Sat w [] h w') (H1 : Has h (.cl b1 61 [.slice A F.length cA])) (H2 : Has h (.cl b2 3 [.int .i64 m])), Calls Tryz.prog 28 #[.int .i64 (F.length : Int), .func (.func 29) #[] ([.pointer (some ⟨b1, 0, none⟩), .pointer (some ⟨b2, 0, none⟩)] : List Value).toArray] w' (RetP (Val (.int .i64 ((j + 1 : Nat) : Int)) w')) := fun w' h b1 b2 S H1 H2 => by
      have := searchF A cA F hF hA m R S H1 H2
      rw [hj] at this
      exact this
    have hjl : j < F.length := by omega
    (repeat' (first | apply cw_seq | apply cw_region | apply wl_nil | apply cw_skip | apply cw_ret | (apply x_callv; assumption; exact rfl; exact rfl; exact rfl; exact e_Search; (exact (by repeat' constructor)); with_reducible exact (hs _ _ _ _ (by assumption) (by exact (by repeat' constructor)) (by exact (by repeat' constructor))); intro _ _ _) | (apply x_indexArrE; exact rfl; exact rfl; exact rfl; exact rfl; exact rfl; decide; decide; (constructor)) | (apply x_bin; exact rfl; exact rfl; exact rfl; exact is_sub1 (by omega)) | (apply x_move; exact rfl; exact rfl; (exact (by repeat' constructor))) | (apply x_assign; exact rfl; exact rfl; (exact (by repeat' constructor))) | (apply x_load; assumption; exact rfl; exact rfl; exact rfl; (exact (by repeat' constructor)); exact rfl; exact rfl; (exact (by repeat' constructor))) | (apply x_bin; exact rfl; exact rfl; exact rfl; (first | exact .z (.wrap (by omega)) | exact (by repeat' constructor))) | (apply x_box; assumption; exact rfl; exact rfl; (exact (by repeat' constructor)); (exact (by repeat' constructor)); intro _ _ _) | (apply x_builtin; exact rfl; exact rfl; exact (fun _ => rfl); (exact (by repeat' constructor))) | (apply x_makeFunc; exact rfl; exact rfl; (exact (by repeat' constructor))) | (apply x_index; exact rfl; exact rfl; exact rfl; exact rfl; exact rfl; (constructor); (first | omega | exact size_pos (by assumption) | assumption); (first | exact rfl | assumption | exact Rd.some_ (by assumption) (by omega) | exact Rd.some_ (Old.rd (by assumption)) (by omega) | exact (Sat.rd (by assumption) (by exact (by repeat' constructor))).some_ (by omega))) | (apply x_loadR; exact rfl; exact rfl; exact rfl; (first | exact Old.now (by assumption) (by assumption) | exact Sat.rdpr (by assumption) (by exact (by repeat' constructor)) | exact Sat.rd (by assumption) (by exact (by repeat' constructor))); (first | omega | exact size_pos (by assumption) | assumption); exact rfl; exact rfl; (exact (by repeat' constructor))) | (apply cw_false; exact rfl)))
    all_goals first
      | (exfalso; omega)
      | ((first | refine q_retS (by assumption) rfl (by repeat (first | exact .nil | (apply RV.tmp; exact (by repeat' constructor)) | (apply RV.cell; exact rfl; exact (by repeat' constructor); exact rfl; exact rfl; exact (by repeat' constructor)))) ?_ | (simp only [thenQ, blockQ]; refine q_retS (by assumption) rfl (by repeat (first | exact .nil | (apply RV.tmp; exact (by repeat' constructor)) | (apply RV.cell; exact rfl; exact (by repeat' constructor); exact rfl; exact rfl; exact (by repeat' constructor)))) ?_))
         exact ⟨rfl, Sat.keeps (by assumption)⟩)
end Go.Proofs.YtdkknknebehkgaaGreatDoor.Al
