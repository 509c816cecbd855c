/- Records of calibrations: the search, the valid record. No statement of the seat is proved here. -/
import Derived.Test.YtnndkdcciojpiaaKb
namespace Go.Proofs.Ytnndkdcciojpiaa
set_option linter.unusedVariables false
set_option linter.unusedSimpArgs false
open Go Go.RowKit
theorem search_at {φ : Nat → Bool} {n i j : Nat} (hm : ∀ a b, a ≤ b → b < n → φ a = true → φ b = true) (hij : i ≤ j) (hj : j ≤ n) (h1 : ∀ a, a < i → φ a = false) (h2 : j = n ∨ φ j = true) (he : i = j) : firstI φ n = i :=
  firstI_eq (by omega) h1 (by rcases h2 with h2 | h2; exact .inl (by omega); exact .inr (by rw [he]; exact h2))
theorem is_half {i j : Nat} (h : i + j ≤ 9223372036854775807) : Is (.int .i64 (IntKind.i64.wrap ((IntKind.u64.wrap ((i : Int) + (j : Int))).fdiv (2 ^ min (Int.toNat 1) IntKind.u64.bits)))) (.int .i64 (((i + j) / 2 : Nat) : Int)) := by
  have h1 : IntKind.u64.wrap ((i : Int) + (j : Int)) = ((i + j : Nat) : Int) := by
    rw [IntKind.wrap_u64]; omega
  have h2 : (2 : Int) ^ min (Int.toNat 1) IntKind.u64.bits = 2 := rfl
  have h3 : IntKind.i64.wrap ((IntKind.u64.wrap ((i : Int) + (j : Int))).fdiv (2 ^ min (Int.toNat 1) IntKind.u64.bits)) = (((i + j) / 2 : Nat) : Int) := by
    rw [h1, h2, Int.fdiv_eq_ediv_of_nonneg _ (by omega), IntKind.wrap_i64]; omega
  rw [h3]
  exact .z .any
set_option maxRecDepth 100000 in
theorem e_Search : Ent Try.prog 54 := fun _ _ => rfl
set_option maxRecDepth 4000 in
set_option maxHeartbeats 2000000 in
theorem Search_c (n : Nat) (hn : n ≤ 4611686018427387904) (φ : Nat → Bool) (hm : ∀ a b, a ≤ b → b < n → φ a = true → φ b = true) (g : FuncId) (cap : List Value) (hE : Ent Try.prog g) (w : World) (hF : ∀ k, k < n → ∀ w', Keeps [] w w' → Calls Try.prog g (.int .i64 (k : Int) :: cap).toArray w' (RetP (Val (.bool (φ k)) w'))) : Calls Try.prog 54 #[.int .i64 (n : Int), .func (.func g) #[] cap.toArray] w (RetP (Val (.int .i64 (firstI φ n)) w)) := by
  refine calls_of_cw (args := [.int .i64 (n : Int), .func (.func g) #[] cap.toArray]) Try.func54 rfl rfl ?_
  have S := Sat.start [] w
  (repeat' (first | apply cw_seq | apply cw_region | apply wl_nil | apply cw_block | (apply x_move; exact rfl; exact rfl; (exact (by repeat' constructor))) | (apply x_assign; exact rfl; exact rfl; (exact (by repeat' constructor)))))
  refine cw_loop [5, 6, 7, 9, 10, 11, 12, 13, 14, 15, 16, 17, 18, 19, 20, 21, 22, 23, 24] [5, 6] (fun us wr => ∃ i j : Nat, i ≤ j ∧ j ≤ n ∧ us = [.int .i64 i, .int .i64 j] ∧ Sat w [] [] wr ∧ (∀ a, a < i → φ a = false) ∧ (j = n ∨ φ j = true)) (fun us _ => ((intOf (us.getD 1 undef)) - (intOf (us.getD 0 undef))).toNat) ?_ ?_
  · exact ⟨0, n, by omega, by omega, rfl, S, fun a h => by omega, .inl rfl⟩
  clear S
  rintro g' us wr ⟨i, j, hij, hj, rfl, Sr, h1, h2⟩
  by_cases hlt : i < j
  · have hh : (i + j) / 2 < n := by omega
    (repeat' (first | apply cw_seq | apply cw_region | apply wl_nil | apply cw_block | apply cw_skip | (apply x_conv; exact rfl; exact rfl; exact rfl; exact is_half (by omega)) | (apply x_callv; assumption; exact rfl; exact rfl; exact rfl; exact hE; (exact NA.cons (by exact (by repeat' constructor)) (NA.rfl_ _)); exact hF _ hh _ (Sat.keeps (by assumption)); intro _ _ _) | (apply x_move; exact rfl; exact rfl; (exact (by repeat' constructor))) | (apply x_assign; exact rfl; exact rfl; (exact (by repeat' constructor))) | (apply x_bin; exact rfl; exact rfl; exact rfl; (first | exact .z (.wrap (by omega)) | exact (by repeat' constructor))) | (apply x_un; exact rfl; exact rfl; exact rfl; (first | exact .z (.wrap (by omega)) | exact (by repeat' constructor))) | (apply x_conv; exact rfl; exact rfl; exact rfl; (first | exact .z (.wrap (by omega)) | exact (by repeat' constructor))) | (apply x_dec; exact rfl; all_goals (intro _; try omega)) | (apply cw_not; exact rfl; all_goals (intro _; try omega))))
    · refine ⟨rfl, (by repeat (first | exact Agree.updl rfl (Agree.mask _ _ _) | refine Agree.upd rfl ?_)), ⟨(i + j) / 2 + 1, j, by omega, hj, rfl, by assumption, fun a ha => ?_, h2⟩, ?_⟩
      · cases h : φ a with
        | false => rfl
        | true => exact absurd (hm a ((i + j) / 2) (by omega) hh h) (by simp [*])
      · show ((j : Int) - ((i + j) / 2 + 1 : Nat)).toNat < ((j : Int) - (i : Int)).toNat
        omega
    · refine ⟨rfl, (by repeat (first | exact Agree.updl rfl (Agree.mask _ _ _) | refine Agree.upd rfl ?_)), ⟨i, (i + j) / 2, by omega, by omega, rfl, by assumption, h1, .inr (by assumption)⟩, ?_⟩
      show ((((i + j) / 2 : Nat) : Int) - (i : Int)).toNat < ((j : Int) - (i : Int)).toNat
      omega
  · (repeat' (first | apply cw_seq | apply cw_region | apply wl_nil | apply cw_exit | apply cw_ret | (apply x_move; exact rfl; exact rfl; (exact (by repeat' constructor))) | (apply x_assign; exact rfl; exact rfl; (exact (by repeat' constructor))) | (apply x_bin; exact rfl; exact rfl; exact rfl; (first | exact .z (.wrap (by omega)) | exact (by repeat' constructor))) | (apply x_dec; exact rfl; all_goals (intro _; try omega))))
    (first | refine q_retS (by assumption) rfl (by repeat (first | exact .nil | (apply RV.tmp; exact (by repeat' constructor)) | (apply RV.cell; exact rfl; exact (by repeat' constructor); exact rfl; exact rfl; exact (by repeat' constructor)))) ?_ | (simp only [thenQ, blockQ]; refine q_retS (by assumption) rfl (by repeat (first | exact .nil | (apply RV.tmp; exact (by repeat' constructor)) | (apply RV.cell; exact rfl; exact (by repeat' constructor); exact rfl; exact rfl; exact (by repeat' constructor)))) ?_))
    refine ⟨?_, Sat.keeps (by assumption)⟩
    rw [search_at hm hij hj h1 h2 (by omega)]
    rfl
theorem sl_gt (a b : ByteArray) : (!(sl a b || decide (a = b))) = decide (sl b a = true) := by
  cases hb : sl b a with
  | true => simp only [sl_asym hb]; rw [decide_eq_false (fun e => by rw [e, sl_irr] at hb; cases hb)]; rfl
  | false =>
    cases ha : sl a b with
    | true => rfl
    | false => rw [decide_eq_true (sl_tri ha hb)]; rfl
section
variable {P : Program} {ro : Option Nat} {n : Nat} {Q : Post} {D : List Deferred} {f : Fm} {w w0 : World} {M : List Nat} {h : List HO}
theorem r_gtS {x y : Operand} {o : Oper} {T T' : TypeId} {a b : ByteArray} (hop : o.op = .binOp .gtr T x y T') (hx : fev f x = .string a) (hy : fev f y = .string b) : (execOp (fev f) o).run P w = .ok (.value (.bool (decide (sl b a = true)))) w := by
  have h : (execOp (fev f) o).run P w = .ok (.value (.bool (!(Op.bytesLess a.toList b.toList || (a.toList == b.toList))))) w := by
    unfold execOp
    rw [hop]
    simp only [hx, hy]
    rfl
  rw [h, str_beq, ← sl_gt]
theorem y_gtS {ops : Array Oper} {prest : List (Nat × Oper)} {d ty : Nat} {ps : String} {af : Array Edge} {gd : Option (Nat × Bool)} {x y : Operand} {T T' : TypeId} {a b : ByteArray} (hg : want ops f ⟨some d, .binOp .gtr T x y T', ty, ps, af, gd⟩ = true) (hx : fev f x = .string a) (hy : fev f y = .string b)
    (k : PV P ro ops Q w0 M h prest D (upd f d (.bool (decide (sl b a = true))))) : PV P ro ops Q w0 M h ((0, ⟨some d, .binOp .gtr T x y T', ty, ps, af, gd⟩) :: prest) D f :=
  y_val hg rfl (fun _ _ => r_gtS rfl hx hy) (.z .bool) k
end
theorem beh_A {l : List Rc} {name : ByteArray} {day : Int} {i : Nat} (h : sl name (rat l i).nm = true) : beh l name day i = true := beh_true.2 (.inl h)
theorem beh_B {l : List Rc} {name : ByteArray} {day : Int} {i : Nat} (h : ¬ sl name (rat l i).nm = true) (h2 : (rat l i).nm = name) : beh l name day i = decide (day < (rat l i).fr) := by
  rw [Bool.eq_iff_iff, beh_true, decide_eq_true_eq]
  exact ⟨fun e => e.elim (fun e => absurd e h) And.right, fun e => .inr ⟨h2, e⟩⟩
theorem beh_C {l : List Rc} {name : ByteArray} {day : Int} {i : Nat} (h : ¬ sl name (rat l i).nm = true) (h2 : ¬ (rat l i).nm = name) : beh l name day i = false := by
  rw [← Bool.not_eq_true, beh_true]
  exact fun e => e.elim h fun e => h2 e.1
set_option maxRecDepth 100000 in
theorem e_valid1 : Ent Try.prog 55 := fun _ _ => rfl
set_option maxRecDepth 4000 in
set_option maxHeartbeats 2000000 in
theorem valid1_c (A : Option Addr) (c : Nat) (l : List Rc) (hl : l.length ≤ 9223372036854775807) (ho : ∀ i, i < l.length → (rat l i).ok) (name : ByteArray) (k : Nat) (hk : k < l.length) (w : World) (R : Rd w A 6 l.length (fun i => rcC (l.getD i rc0))) (b1 b2 : Nat) (O1 : OldB w [] b1 22 [.slice A l.length c]) (O2 : OldB w [] b2 9 [.string name]) : Calls Try.prog 55 #[.int .i64 (k : Int), .pointer (some ⟨b1, 0, none⟩), .pointer (some ⟨b2, 0, none⟩)] w (RetP (Val (.bool (nbe l name k)) w)) := by
  refine calls_of_cw (args := [.int .i64 (k : Int), .pointer (some ⟨b1, 0, none⟩), .pointer (some ⟨b2, 0, none⟩)]) Try.func55 rfl rfl ?_
  have S := Sat.start [] w
  have O := (R).old
  (repeat' (first | apply cw_seq | apply cw_region | apply wl_nil | apply cw_ret | (apply cw_draw (id := 1) [(0, 0), (1, 0), (2, 0), (3, 0), (4, 0), (5, 0), (6, 0), (7, 0)]; assumption; exact mixed; kernel_rfl) | (apply x_assign; exact rfl; exact rfl; (exact (by repeat' constructor))) | (apply y_move; exact rfl; (exact (by repeat' constructor))) | (apply y_assign; exact rfl; (exact (by repeat' constructor))) | (apply y_bin; exact rfl; exact (fun _ => rfl); (first | exact .z (.wrap (by omega)) | exact (by repeat' constructor))) | (apply y_fieldE; exact rfl; exact rfl; exact rfl; (constructor)) | (apply y_loadB; exact rfl; exact rfl; assumption; exact rfl; exact rfl; (exact (by repeat' constructor))) | (apply y_index; exact rfl; exact rfl; exact rfl; exact rfl; (constructor); (first | omega | exact size_pos (by assumption) | assumption); (first | exact rfl | assumption | exact Rd.some_ (by assumption) (by omega) | exact Rd.some_ (Old.rd (by assumption)) (by omega) | exact (Sat.rd (by assumption) (by exact (by repeat' constructor))).some_ (by omega))) | (apply y_loadR; exact rfl; exact rfl; assumption; (first | omega | exact size_pos (by assumption) | assumption); exact rfl; exact rfl; (exact (by repeat' constructor))) | (apply y_nil; intro _ _)))
  all_goals (first | refine q_retS (by assumption) rfl (by repeat (first | exact .nil | (apply RV.tmp; exact (by repeat' constructor)) | (apply RV.cell; exact rfl; exact (by repeat' constructor); exact rfl; exact rfl; exact (by repeat' constructor)))) ?_ | (simp only [thenQ, blockQ]; refine q_retS (by assumption) rfl (by repeat (first | exact .nil | (apply RV.tmp; exact (by repeat' constructor)) | (apply RV.cell; exact rfl; exact (by repeat' constructor); exact rfl; exact rfl; exact (by repeat' constructor)))) ?_))
  all_goals refine ⟨?_, Sat.keeps (by assumption)⟩
  all_goals rfl
set_option maxRecDepth 100000 in
theorem e_valid2 : Ent Try.prog 56 := fun _ _ => rfl
set_option maxRecDepth 4000 in
set_option maxHeartbeats 2000000 in
theorem valid2_c (A : Option Addr) (c : Nat) (l : List Rc) (hl : l.length ≤ 9223372036854775807) (ho : ∀ i, i < l.length → (rat l i).ok) (name : ByteArray) (day : Int) (k : Nat) (hk : k < l.length) (w : World) (R : Rd w A 6 l.length (fun i => rcC (l.getD i rc0))) (b1 b2 b3 : Nat) (O1 : OldB w [] b1 22 [.slice A l.length c]) (O2 : OldB w [] b2 9 [.string name]) (O3 : OldB w [] b3 3 [.int .i64 day]) : Calls Try.prog 56 #[.int .i64 (k : Int), .pointer (some ⟨b1, 0, none⟩), .pointer (some ⟨b2, 0, none⟩), .pointer (some ⟨b3, 0, none⟩)] w (RetP (Val (.bool (beh l name day k)) w)) := by
  refine calls_of_cw (args := [.int .i64 (k : Int), .pointer (some ⟨b1, 0, none⟩), .pointer (some ⟨b2, 0, none⟩), .pointer (some ⟨b3, 0, none⟩)]) Try.func56 rfl rfl ?_
  have S := Sat.start [] w
  have O := (R).old
  (repeat' (first | apply cw_seq | apply cw_region | apply wl_nil | apply cw_ret | (apply y_gdec; exact rfl; exact rfl; all_goals (intro _; try omega)) | (apply y_gtS; exact rfl; exact rfl; exact rfl) | (apply y_fieldE; exact rfl; exact rfl; exact rfl; (constructor)) | (apply cw_draw (id := 1) [(0, 0), (1, 0), (2, 0), (3, 0), (4, 0), (5, 0), (6, 0), (7, 0), (8, 0), (9, 0), (10, 0), (11, 0), (12, 0), (13, 0), (14, 0), (15, 0), (16, 0), (17, 0), (18, 0), (19, 0), (20, 0), (21, 0), (22, 0), (23, 0), (24, 0), (25, 0)]; assumption; exact mixed; kernel_rfl) | (apply x_assign; exact rfl; exact rfl; (exact (by repeat' constructor))) | (apply y_eqStr; exact rfl; exact rfl; exact rfl) | (apply y_not; exact rfl) | (apply y_move; exact rfl; (exact (by repeat' constructor))) | (apply y_assign; exact rfl; (exact (by repeat' constructor))) | (apply y_bin; exact rfl; exact (fun _ => rfl); (first | exact .z (.wrap (by omega)) | exact (by repeat' constructor))) | (apply y_pick; exact rfl; exact rfl; (exact (by repeat' constructor))) | (apply y_loadB; exact rfl; exact rfl; assumption; exact rfl; exact rfl; (exact (by repeat' constructor))) | (apply y_index; exact rfl; exact rfl; exact rfl; exact rfl; (constructor); (first | omega | exact size_pos (by assumption) | assumption); (first | exact rfl | assumption | exact Rd.some_ (by assumption) (by omega) | exact Rd.some_ (Old.rd (by assumption)) (by omega) | exact (Sat.rd (by assumption) (by exact (by repeat' constructor))).some_ (by omega))) | (apply y_loadR; exact rfl; exact rfl; assumption; (first | omega | exact size_pos (by assumption) | assumption); exact rfl; exact rfl; (exact (by repeat' constructor))) | (apply y_nil; intro _ _)))
  all_goals (first | refine q_retS (by assumption) rfl (by repeat (first | exact .nil | (apply RV.tmp; exact (by repeat' constructor)) | (apply RV.cell; exact rfl; exact (by repeat' constructor); exact rfl; exact rfl; exact (by repeat' constructor)))) ?_ | (simp only [thenQ, blockQ]; refine q_retS (by assumption) rfl (by repeat (first | exact .nil | (apply RV.tmp; exact (by repeat' constructor)) | (apply RV.cell; exact rfl; exact (by repeat' constructor); exact rfl; exact rfl; exact (by repeat' constructor)))) ?_))
  all_goals refine ⟨?_, Sat.keeps (by assumption)⟩
  · rw [beh_A (by assumption)]; rfl
  · rw [beh_B (by assumption) (by assumption)]; rfl
  · rw [beh_C (by assumption) (by assumption)]; rfl
theorem search1 {w0 w' : World} {h : List HO} {b1 b2 : Nat} (A : Option Addr) (c : Nat) (l : List Rc) (hl : l.length ≤ 9223372036854775807) (ho : ∀ i, i < l.length → (rat l i).ok) (hr : Right l) (name : ByteArray) (R : Rd w0 A 6 l.length (fun i => rcC (l.getD i rc0))) (F1 : Nat) (e1 : firstI (nbe l name) l.length = F1)
    (S : Sat w0 [] h w') (H1 : Has h (.cl b1 22 [.slice A l.length c])) (H2 : Has h (.cl b2 9 [.string name])) :
    Calls Try.prog 54 #[.int .i64 (l.length : Int), .func (.func 55) #[] ([.pointer (some ⟨b1, 0, none⟩), .pointer (some ⟨b2, 0, none⟩)] : List Value).toArray] w' (RetP (Val (.int .i64 (F1 : Int)) w')) := by
  have hl2 := hr.1
  exact val_of (Search_c l.length (by omega) (nbe l name) (fun a b hab hb ha => nbe_mono hr hab hb ha) _ _ e_valid1 w' (fun k hk w2 hk2 => valid1_c A c l hl ho name k hk w2 (Rd.call ((Rd.old R).now S) hk2) b1 b2 (S.oldb H1 hk2) (S.oldb H2 hk2))) (by rw [e1])
theorem search2 {w0 w' : World} {h : List HO} {b1 b2 b3 : Nat} (A : Option Addr) (c : Nat) (l : List Rc) (hl : l.length ≤ 9223372036854775807) (ho : ∀ i, i < l.length → (rat l i).ok) (hr : Right l) (name : ByteArray) (day : Int) (R : Rd w0 A 6 l.length (fun i => rcC (l.getD i rc0))) (F2 : Nat) (e2 : firstI (beh l name day) l.length = F2)
    (S : Sat w0 [] h w') (H1 : Has h (.cl b1 22 [.slice A l.length c])) (H2 : Has h (.cl b2 9 [.string name])) (H3 : Has h (.cl b3 3 [.int .i64 day])) :
    Calls Try.prog 54 #[.int .i64 (l.length : Int), .func (.func 56) #[] ([.pointer (some ⟨b1, 0, none⟩), .pointer (some ⟨b2, 0, none⟩), .pointer (some ⟨b3, 0, none⟩)] : List Value).toArray] w' (RetP (Val (.int .i64 (F2 : Int)) w')) := by
  have hl2 := hr.1
  exact val_of (Search_c l.length (by omega) (beh l name day) (fun a b hab hb ha => beh_mono hr hab hb ha) _ _ e_valid2 w' (fun k hk w2 hk2 => valid2_c A c l hl ho name day k hk w2 (Rd.call ((Rd.old R).now S) hk2) b1 b2 b3 (S.oldb H1 hk2) (S.oldb H2 hk2) (S.oldb H3 hk2))) (by rw [e2])
end Go.Proofs.Ytnndkdcciojpiaa
