/- Beaten pairs; fronts by insertion, in plain words. No statement of the seat is proved here. -/
import Derived.Test.YtecmgjhnfgeldaaV13
import Derived.Test.YtecmgjhnfgeldaaEngAp
namespace Go.Proofs.Ytecmgjhnfgeldaa.Al
set_option linter.unusedVariables false
set_option linter.unusedSimpArgs false
open Go Go.RowKit
section
variable {P : Program} {ro : Option Nat} {n : Nat} {Q : Post} {D : List Deferred} {f : Fm} {w w0 w' : World} {M : List Nat} {h : List HO}
variable {ops : Array Oper} {rest : List Oper} {prest : List (Nat × Oper)} {d ty : Nat} {ps : String} {af : Array Edge} {gd : Option (Nat × Bool)} {x y z : Operand}
theorem z2_append0R {T e size bytes k c c2 e2 s2 : Nat} {xs : List (List Value)} {A A2 : Option Addr} (hh : Has h (.rw 0 (.slice A k c) e2 s2 xs)) (hg : want ops f ⟨some d, .call ⟨.builtin .append, #[x, y], #[T, T]⟩, ty, ps, af, gd⟩ = true) (hk : apk P T = some (e, size, bytes)) (hx : fev f x = .slice A k c) (hy : fev f y = .slice A2 0 c2)
    (kk : PV P ro ops Q w0 M h prest D (upd f d (.slice A k c))) : PV P ro ops Q w0 M h ((2, ⟨some d, .call ⟨.builtin .append, #[x, y], #[T, T]⟩, ty, ps, af, gd⟩) :: prest) D f :=
  PV.step2 fun w S => beh_run hg (append0_run hk hx hy (S.rowCap hh)) ⟨h, S, St.keeps h (Keeps.refl _ _), kk⟩
theorem z2_appendNL {α : Type} {T e size bytes k c c' : Nat} {A : Option Addr} {ad : Addr} {l : List α} {en : α → List Value} {xs : List (List Value)} {F : HO → List HO} (z : α) (hs : ∀ a, (en a).length = size) (hone : ∀ a, ones (en a) = true) (R : ∀ w, Sat w0 M h w → Rd w (some ad) size l.length (fun i => en (l.getD i z)))
    (hg : want ops f ⟨some d, .call ⟨.builtin .append, #[x, y], #[T, T]⟩, ty, ps, af, gd⟩ = true) (hk : apk P T = some (e, size, bytes)) (hx : fev f x = .slice A k c) (hr : RepF h (.rw 0 (.slice A k c) e size xs) F) (hy : fev f y = .slice (some ad) l.length c') (hby : Nat.ble bytes 100000 = true) (hsm : xs.length + l.length < 1000000000)
    (kk : ∀ A' cap, PV P ro ops Q w0 M (F (.rw 0 (.slice A' (xs.length + l.length) cap) e size (xs ++ l.map en))) prest D (upd f d (.slice A' (xs.length + l.length) cap))) :
    PV P ro ops Q w0 M h ((2, ⟨some d, .call ⟨.builtin .append, #[x, y], #[T, T]⟩, ty, ps, af, gd⟩) :: prest) D f := z2_appendN z hs hone R hsm hg hk hx hr hy hby kk
theorem y_sliceLoS {T : TypeId} {A B : Option Addr} {m c size k m' : Nat} {kd : IntKind} (hB : sub A k size c = B) (hm : m - k = m') (h1 : k ≤ m) (hg : want ops f ⟨some d, .slice T x (some y) none none, ty, ps, af, gd⟩ = true) (hx : fev f x = .slice A m c) (hy : fev f y = .int kd (k : Int)) (hs : elemSize P T = some size)
    (kk : PV P ro ops Q w0 M h prest D (upd f d (.slice B m' (c - k)))) : PV P ro ops Q w0 M h ((0, ⟨some d, .slice T x (some y) none none, ty, ps, af, gd⟩) :: prest) D f := by
  subst hB
  subst hm
  have := y_sliceLo (P := P) (ro := ro) (Q := Q) (D := D) (w0 := w0) (M := M) (h := h) (prest := prest) hg hx hy hs (by omega) (by omega)
  simp only [Int.toNat_natCast] at this
  exact this kk
theorem y_sliceHiS {T : TypeId} {A : Option Addr} {m c size k m' : Nat} {kd : IntKind} (hm : k = m') (h1 : k ≤ c) (hg : want ops f ⟨some d, .slice T x none (some y) none, ty, ps, af, gd⟩ = true) (hx : fev f x = .slice A m c) (hy : fev f y = .int kd (k : Int)) (hs : elemSize P T = some size)
    (kk : PV P ro ops Q w0 M h prest D (upd f d (.slice A m' c))) : PV P ro ops Q w0 M h ((0, ⟨some d, .slice T x none (some y) none, ty, ps, af, gd⟩) :: prest) D f := by
  subst hm
  have := y_sliceHi (P := P) (ro := ro) (Q := Q) (D := D) (w0 := w0) (M := M) (h := h) (prest := prest) hg hx hy hs (by omega) (by omega)
  simp only [Int.toNat_natCast] at this
  exact this kk
end
/-! ### beaten pairs -/
def btP (y x : Pr2) : Prop := ¬ y = x ∧ y.1 ≤ x.1 ∧ y.2 ≤ x.2
def btn (l : List Pr2) (x : Pr2) : Prop := ∃ y ∈ l, btP y x
theorem eqc_pr (p x : Pr2) : eqc [0, 0] (prC p) (prC x) = some (@decide (p = x) (Classical.propDecidable _)) := by
  show some (decide (p.1 = x.1) && (decide (p.2 = x.2) && true)) = _
  congr 1
  by_cases h1 : p.1 = x.1
  · by_cases h2 : p.2 = x.2
    · simp [h1, h2, pr2_eta h1 h2]
    · have : ¬ p = x := fun e => h2 (by rw [e])
      simp [h1, h2, this]
  · have : ¬ p = x := fun e => h1 (by rw [e])
    simp [h1, this]
theorem eqc_y {p x : Pr2} (h : p = x) : eqc [0, 0] (prC p) (prC x) = some true := by rw [eqc_pr]; simp [h]
theorem eqc_n {p x : Pr2} (h : ¬ p = x) : eqc [0, 0] (prC p) (prC x) = some false := by rw [eqc_pr]; simp [h]
set_option maxRecDepth 100000 in
theorem e_rBeaten : Ent Try.prog 39 := fun _ _ => rfl
set_option maxRecDepth 8000 in
set_option maxHeartbeats 4000000 in
theorem rBeaten_c (A : Option Addr) (c : Nat) (l : List Pr2) (x : Pr2) (hl : l.length ≤ 9223372036854775807) (w : World) (R : Rd w A 2 l.length (fun i => prC (l.getD i (0, 0)))) : Calls Try.prog 39 #[.slice A l.length c, .agg #[.int .i64 x.1, .int .i64 x.2]] w (RetP (Val (.bool (@decide (btn l x) (Classical.propDecidable _))) w)) := by
  refine calls_of_cw (args := [.slice A l.length c, .agg #[.int .i64 x.1, .int .i64 x.2]]) Try.func39 rfl rfl ?_
  have S := Sat.start [] w
  have O := R.old
  (repeat' (first | apply cw_seq | apply cw_region | apply wl_nil | apply cw_block | (apply x_assign; exact rfl; exact rfl; (exact (by repeat' constructor))) | (apply x_box; assumption; exact rfl; exact rfl; (exact (by repeat' constructor)); (exact (by repeat' constructor)); intro _ _ _)))
  rename_i b1 w1 S1
  refine cw_loop [4, 5, 6, 7, 8, 9, 10, 11, 12, 13, 14, 15, 16, 17, 18, 19, 20, 21, 22, 23, 24, 25, 26, 27, 28, 29, 30, 31, 32, 33, 34, 35, 36, 37] [5] (fun us wr => ∃ i : Nat, i ≤ l.length ∧ us = [.int .i64 i] ∧ (∀ j, j < i → ¬ btP (l.getD j (0, 0)) x) ∧ Sat w [] [.cl b1 51 (prC x)] wr) (fun us _ => l.length - (intOf (us.getD 0 undef)).toNat) ?_ ?_
  · exact ⟨0, Nat.zero_le _, rfl, fun j hj => absurd hj (Nat.not_lt_zero _), S1⟩
  clear S S1
  rintro g us wr ⟨i, hi, rfl, hall, Sr⟩
  by_cases hlt : i < l.length
  · obtain ⟨p, hp⟩ : ∃ p, l.getD i (0, 0) = p := ⟨_, rfl⟩
    have hnext : ¬ btP p x → ∀ j, j < i + 1 → ¬ btP (l.getD j (0, 0)) x := fun h j hj => by
      rcases Nat.lt_succ_iff_lt_or_eq.1 hj with hj | rfl
      · exact hall j hj
      · rw [hp]; exact h
    have hin : p ∈ l := by rw [← hp]; exact getD_memP hlt
    have hcs : p = x ∨ (¬ p = x ∧ p.1 ≤ x.1 ∧ p.2 ≤ x.2) ∨ (¬ p = x ∧ p.1 ≤ x.1 ∧ ¬ p.2 ≤ x.2) ∨ (¬ p = x ∧ ¬ p.1 ≤ x.1) := by
      by_cases h1 : p = x
      · exact .inl h1
      · by_cases h2 : p.1 ≤ x.1
        · by_cases h3 : p.2 ≤ x.2
          · exact .inr (.inl ⟨h1, h2, h3⟩)
          · exact .inr (.inr (.inl ⟨h1, h2, h3⟩))
        · exact .inr (.inr (.inr ⟨h1, h2⟩))
    rw [← hp] at hcs
    rcases hcs with h1 | ⟨h1, h2, h3⟩ | ⟨h1, h2, h3⟩ | ⟨h1, h2⟩
    · (repeat' (first | apply cw_seq | apply cw_region | apply wl_nil | apply cw_block | apply cw_skip | (apply y_neArr2; exact rfl; exact rfl; exact rfl; exact arr2_P; kernel_rfl; exact eqc_y h1) | (apply cw_draw (id := 4) [(0, 0), (1, 0), (2, 0), (3, 0), (4, 0), (5, 0), (6, 0), (7, 0), (8, 0), (9, 0), (10, 0), (11, 0), (12, 0), (13, 0), (14, 0), (15, 0), (16, 0), (17, 0), (18, 0), (19, 0), (20, 0), (21, 0), (22, 0), (23, 0), (24, 0), (25, 0)]; assumption; exact mixed; kernel_rfl) | (apply x_move; exact rfl; exact rfl; (exact (by repeat' constructor))) | (apply x_assign; exact rfl; exact rfl; (exact (by repeat' constructor))) | (apply x_bin; exact rfl; exact rfl; exact rfl; (first | exact .z (.wrap (by omega)) | exact (by repeat' constructor))) | (apply x_builtin; exact rfl; exact rfl; exact (fun _ => rfl); (exact (by repeat' constructor))) | (apply y_not; exact rfl) | (apply y_move; exact rfl; (exact (by repeat' constructor))) | (apply y_load; exact rfl; exact rfl; (exact (by repeat' constructor)); exact rfl; exact rfl; (exact (by repeat' constructor))) | (apply y_pick; exact rfl; exact rfl; (exact (by repeat' constructor))) | (apply y_index; exact rfl; exact rfl; exact rfl; exact rfl; (constructor); (first | omega | exact size_pos (by assumption) | assumption); (first | exact rfl | assumption | exact Rd.some_ (by assumption) (by omega) | exact Rd.some_ (Old.rd (by assumption)) (by omega) | exact (Sat.rd (by assumption) (by exact (by repeat' constructor))).some_ (by omega))) | (apply y_loadR; exact rfl; exact rfl; assumption; (first | omega | exact size_pos (by assumption) | assumption); exact rfl; exact rfl; (exact (by repeat' constructor))) | (apply y_nil; intro _ _) | (apply cw_false; exact rfl) | (apply x_dec; exact rfl; all_goals (intro _; try omega))))
      refine ⟨rfl, (by repeat (first | exact Agree.updl rfl (Agree.mask _ _ _) | refine Agree.upd rfl ?_ | refine Agree.updl rfl ?_ | refine Agree.maskIn rfl ?_)), ⟨i + 1, hlt, rfl, hnext (fun h => h.1 (hp ▸ h1)), by assumption⟩, ?_⟩
      show l.length - (i + 1 : Int).toNat < l.length - (i : Int).toNat
      omega
    · (repeat' (first | apply cw_seq | apply cw_region | apply wl_nil | apply cw_block | apply cw_skip | apply cw_ret | (apply y_indexArrE; exact rfl; exact rfl; exact rfl; exact rfl; decide; decide; (constructor)) | (apply y_neArr2; exact rfl; exact rfl; exact rfl; exact arr2_P; kernel_rfl; exact eqc_n h1) | (apply cw_draw (id := 4) [(0, 0), (1, 0), (2, 0), (3, 0), (4, 0), (5, 0), (6, 0), (7, 0), (8, 0), (9, 0), (10, 0), (11, 0), (12, 0), (13, 0), (14, 0), (15, 0), (16, 0), (17, 0), (18, 0), (19, 0), (20, 0), (21, 0), (22, 0), (23, 0), (24, 0), (25, 0)]; assumption; exact mixed; kernel_rfl) | (apply x_move; exact rfl; exact rfl; (exact (by repeat' constructor))) | (apply x_assign; exact rfl; exact rfl; (exact (by repeat' constructor))) | (apply x_bin; exact rfl; exact rfl; exact rfl; (first | exact .z (.wrap (by omega)) | exact (by repeat' constructor))) | (apply x_builtin; exact rfl; exact rfl; exact (fun _ => rfl); (exact (by repeat' constructor))) | (apply y_move; exact rfl; (exact (by repeat' constructor))) | (apply y_load; exact rfl; exact rfl; (exact (by repeat' constructor)); exact rfl; exact rfl; (exact (by repeat' constructor))) | (apply y_bin; exact rfl; exact (fun _ => rfl); (first | exact .z (.wrap (by omega)) | exact (by repeat' constructor))) | (apply y_pick; exact rfl; exact rfl; (exact (by repeat' constructor))) | (apply y_index; exact rfl; exact rfl; exact rfl; exact rfl; (constructor); (first | omega | exact size_pos (by assumption) | assumption); (first | exact rfl | assumption | exact Rd.some_ (by assumption) (by omega) | exact Rd.some_ (Old.rd (by assumption)) (by omega) | exact (Sat.rd (by assumption) (by exact (by repeat' constructor))).some_ (by omega))) | (apply y_indexArrB; exact rfl; exact rfl; exact rfl; exact rfl; decide; decide; (constructor)) | (apply y_loadR; exact rfl; exact rfl; assumption; (first | omega | exact size_pos (by assumption) | assumption); exact rfl; exact rfl; (exact (by repeat' constructor))) | (apply y_nil; intro _ _) | (apply y_gdec; exact rfl; exact rfl; all_goals (intro _; try omega)) | (apply x_dec; exact rfl; all_goals (intro _; try omega))))
      have hyes : btn l x := ⟨p, hin, hp ▸ h1, hp ▸ h2, hp ▸ h3⟩
      (first | refine q_retS (by assumption) rfl (by repeat (first | exact .nil | (apply RV.tmp; exact (by repeat' constructor)) | (apply RV.cell; exact rfl; exact (by repeat' constructor); exact rfl; exact rfl; exact (by repeat' constructor)))) ?_ | (simp only [thenQ, blockQ]; refine q_retS (by assumption) rfl (by repeat (first | exact .nil | (apply RV.tmp; exact (by repeat' constructor)) | (apply RV.cell; exact rfl; exact (by repeat' constructor); exact rfl; exact rfl; exact (by repeat' constructor)))) ?_))
      exact ⟨by simp [hyes, pack], Sat.keeps (by assumption)⟩
    · (repeat' (first | apply cw_seq | apply cw_region | apply wl_nil | apply cw_block | apply cw_skip | (apply y_indexArrE; exact rfl; exact rfl; exact rfl; exact rfl; decide; decide; (constructor)) | (apply y_neArr2; exact rfl; exact rfl; exact rfl; exact arr2_P; kernel_rfl; exact eqc_n h1) | (apply cw_draw (id := 4) [(0, 0), (1, 0), (2, 0), (3, 0), (4, 0), (5, 0), (6, 0), (7, 0), (8, 0), (9, 0), (10, 0), (11, 0), (12, 0), (13, 0), (14, 0), (15, 0), (16, 0), (17, 0), (18, 0), (19, 0), (20, 0), (21, 0), (22, 0), (23, 0), (24, 0), (25, 0)]; assumption; exact mixed; kernel_rfl) | (apply x_move; exact rfl; exact rfl; (exact (by repeat' constructor))) | (apply x_assign; exact rfl; exact rfl; (exact (by repeat' constructor))) | (apply x_bin; exact rfl; exact rfl; exact rfl; (first | exact .z (.wrap (by omega)) | exact (by repeat' constructor))) | (apply x_builtin; exact rfl; exact rfl; exact (fun _ => rfl); (exact (by repeat' constructor))) | (apply y_move; exact rfl; (exact (by repeat' constructor))) | (apply y_load; exact rfl; exact rfl; (exact (by repeat' constructor)); exact rfl; exact rfl; (exact (by repeat' constructor))) | (apply y_bin; exact rfl; exact (fun _ => rfl); (first | exact .z (.wrap (by omega)) | exact (by repeat' constructor))) | (apply y_pick; exact rfl; exact rfl; (exact (by repeat' constructor))) | (apply y_index; exact rfl; exact rfl; exact rfl; exact rfl; (constructor); (first | omega | exact size_pos (by assumption) | assumption); (first | exact rfl | assumption | exact Rd.some_ (by assumption) (by omega) | exact Rd.some_ (Old.rd (by assumption)) (by omega) | exact (Sat.rd (by assumption) (by exact (by repeat' constructor))).some_ (by omega))) | (apply y_indexArrB; exact rfl; exact rfl; exact rfl; exact rfl; decide; decide; (constructor)) | (apply y_loadR; exact rfl; exact rfl; assumption; (first | omega | exact size_pos (by assumption) | assumption); exact rfl; exact rfl; (exact (by repeat' constructor))) | (apply y_nil; intro _ _) | (apply y_gdec; exact rfl; exact rfl; all_goals (intro _; try omega)) | (apply x_dec; exact rfl; all_goals (intro _; try omega))))
      refine ⟨rfl, (by repeat (first | exact Agree.updl rfl (Agree.mask _ _ _) | refine Agree.upd rfl ?_ | refine Agree.updl rfl ?_ | refine Agree.maskIn rfl ?_)), ⟨i + 1, hlt, rfl, hnext (fun h => h3 (hp ▸ h.2.2)), by assumption⟩, ?_⟩
      show l.length - (i + 1 : Int).toNat < l.length - (i : Int).toNat
      omega
    · (repeat' (first | apply cw_seq | apply cw_region | apply wl_nil | apply cw_block | apply cw_skip | (apply y_indexArrE; exact rfl; exact rfl; exact rfl; exact rfl; decide; decide; (constructor)) | (apply y_neArr2; exact rfl; exact rfl; exact rfl; exact arr2_P; kernel_rfl; exact eqc_n h1) | (apply cw_draw (id := 4) [(0, 0), (1, 0), (2, 0), (3, 0), (4, 0), (5, 0), (6, 0), (7, 0), (8, 0), (9, 0), (10, 0), (11, 0), (12, 0), (13, 0), (14, 0), (15, 0), (16, 0), (17, 0), (18, 0), (19, 0), (20, 0), (21, 0), (22, 0), (23, 0), (24, 0), (25, 0)]; assumption; exact mixed; kernel_rfl) | (apply x_move; exact rfl; exact rfl; (exact (by repeat' constructor))) | (apply x_assign; exact rfl; exact rfl; (exact (by repeat' constructor))) | (apply x_bin; exact rfl; exact rfl; exact rfl; (first | exact .z (.wrap (by omega)) | exact (by repeat' constructor))) | (apply x_builtin; exact rfl; exact rfl; exact (fun _ => rfl); (exact (by repeat' constructor))) | (apply y_not; exact rfl) | (apply y_move; exact rfl; (exact (by repeat' constructor))) | (apply y_load; exact rfl; exact rfl; (exact (by repeat' constructor)); exact rfl; exact rfl; (exact (by repeat' constructor))) | (apply y_bin; exact rfl; exact (fun _ => rfl); (first | exact .z (.wrap (by omega)) | exact (by repeat' constructor))) | (apply y_pick; exact rfl; exact rfl; (exact (by repeat' constructor))) | (apply y_index; exact rfl; exact rfl; exact rfl; exact rfl; (constructor); (first | omega | exact size_pos (by assumption) | assumption); (first | exact rfl | assumption | exact Rd.some_ (by assumption) (by omega) | exact Rd.some_ (Old.rd (by assumption)) (by omega) | exact (Sat.rd (by assumption) (by exact (by repeat' constructor))).some_ (by omega))) | (apply y_indexArrB; exact rfl; exact rfl; exact rfl; exact rfl; decide; decide; (constructor)) | (apply y_loadR; exact rfl; exact rfl; assumption; (first | omega | exact size_pos (by assumption) | assumption); exact rfl; exact rfl; (exact (by repeat' constructor))) | (apply y_nil; intro _ _) | (apply y_gdec; exact rfl; exact rfl; all_goals (intro _; try omega)) | (apply cw_false; exact rfl) | (apply x_dec; exact rfl; all_goals (intro _; try omega))))
      refine ⟨rfl, (by repeat (first | exact Agree.updl rfl (Agree.mask _ _ _) | refine Agree.upd rfl ?_ | refine Agree.updl rfl ?_ | refine Agree.maskIn rfl ?_)), ⟨i + 1, hlt, rfl, hnext (fun h => h2 (hp ▸ h.2.1)), by assumption⟩, ?_⟩
      show l.length - (i + 1 : Int).toNat < l.length - (i : Int).toNat
      omega
  · have hno : ¬ btn l x := by
      rintro ⟨y, hy, hb⟩
      obtain ⟨j, hj, rfl⟩ := mem_getDP hy
      exact hall j (by omega) hb
    (repeat' (first | apply cw_seq | apply cw_region | apply wl_nil | apply cw_exit | apply cw_ret | (apply x_move; exact rfl; exact rfl; (exact (by repeat' constructor))) | (apply x_assign; exact rfl; exact rfl; (exact (by repeat' constructor))) | (apply x_bin; exact rfl; exact rfl; exact rfl; (first | exact .z (.wrap (by omega)) | exact (by repeat' constructor))) | (apply x_builtin; exact rfl; exact rfl; exact (fun _ => rfl); (exact (by repeat' constructor))) | (apply x_dec; exact rfl; all_goals (intro _; try omega))))
    (first | refine q_retS (by assumption) rfl (by repeat (first | exact .nil | (apply RV.tmp; exact (by repeat' constructor)) | (apply RV.cell; exact rfl; exact (by repeat' constructor); exact rfl; exact rfl; exact (by repeat' constructor)))) ?_ | (simp only [thenQ, blockQ]; refine q_retS (by assumption) rfl (by repeat (first | exact .nil | (apply RV.tmp; exact (by repeat' constructor)) | (apply RV.cell; exact rfl; exact (by repeat' constructor); exact rfl; exact rfl; exact (by repeat' constructor)))) ?_))
    exact ⟨by simp [hno, pack], Sat.keeps (by assumption)⟩
theorem rBeaten_y {m : Nat} {A : Option Addr} {c : Nat} (l : List Pr2) (x : Pr2) {b : Bool} (hm : m = l.length) (hl : l.length ≤ 9223372036854775807) (hb : @decide (btn l x) (Classical.propDecidable _) = b) (w : World) (R : Rd w A 2 l.length (fun i => prC (l.getD i (0, 0)))) : Calls Try.prog 39 #[.slice A m c, .agg #[.int .i64 x.1, .int .i64 x.2]] w (RetP (Val (.bool b) w)) := by
  subst hm
  subst hb
  exact rBeaten_c A c l x hl w R
/-! ### a front by insertion -/
def insAt (o : List Pr2) (a : Nat) (x : Pr2) : List Pr2 := o.take a ++ x :: o.drop a
/-- what the insertion has made of the first pairs -/
structure InsOk (F S : List Pr2) (k : Nat) (o : List Pr2) : Prop where
  asc : Asc o
  mem : ∀ x, x ∈ o ↔ x ∈ S.take k ∧ x ∈ F
theorem asc_nodup {F : List Pr2} (h : Asc F) : F.Nodup := h.imp fun {a b} hab e => by rw [e] at hab; omega
theorem btn_front {F S : List Pr2} (h : IsFront F S) {x : Pr2} (hx : x ∈ S) : btn S x ↔ ¬ x ∈ F := by
  constructor
  · rintro ⟨y, hy, hne, h1, h2⟩ hxF
    obtain ⟨g, hg, g1, g2⟩ := h.dom y hy
    have e := asc_eq h.asc hg hxF (by omega) (by omega)
    subst e
    exact hne (pr2_eta (by omega) (by omega))
  · intro hn
    obtain ⟨f, hf, f1, f2⟩ := h.dom x hx
    exact ⟨f, h.sub f hf, fun e => hn (e ▸ hf), f1, f2⟩
theorem ins_end {F S : List Pr2} {o : List Pr2} (h : IsFront F S) (ho : InsOk F S S.length o) : o = F := by
  refine sort_uniq (R := fun a b : Pr2 => a.1 < b.1 ∧ b.2 < a.2) (fun a b h1 h2 => by omega) ?_ ho.asc h.asc
  refine (List.perm_ext_iff_of_nodup (asc_nodup ho.asc) (asc_nodup h.asc)).2 fun x => ?_
  rw [ho.mem, List.take_length]
  exact ⟨fun h => h.2, fun hx => ⟨h.sub x hx, hx⟩⟩
theorem take_mem {S : List Pr2} {k : Nat} (hk : k < S.length) {x : Pr2} : x ∈ S.take (k + 1) ↔ x ∈ S.take k ∨ x = S.getD k (0, 0) := by
  rw [take_suc (d := ((0, 0) : Pr2)) hk, List.mem_append, List.mem_singleton]
theorem ins_skip {F S o : List Pr2} {k : Nat} (hk : k < S.length) (ho : InsOk F S k o) (h : ¬ S.getD k (0, 0) ∈ F ∨ S.getD k (0, 0) ∈ o) : InsOk F S (k + 1) o where
  asc := ho.asc
  mem x := by
    rw [take_mem hk, ho.mem]
    constructor
    · rintro ⟨h1, h2⟩; exact ⟨.inl h1, h2⟩
    · rintro ⟨h1 | rfl, h2⟩
      · exact ⟨h1, h2⟩
      · rcases h with h | h
        · exact absurd h2 h
        · exact (ho.mem _).1 h
theorem ins_put {F S o : List Pr2} {k a : Nat} (hF : Asc F) (hk : k < S.length) (ho : InsOk F S k o) (hx : S.getD k (0, 0) ∈ F) (ha : a ≤ o.length)
    (h1 : ∀ i, i < a → (o.getD i (0, 0)).1 < (S.getD k (0, 0)).1) (h2 : a < o.length → ¬ (o.getD a (0, 0)).1 < (S.getD k (0, 0)).1 ∧ ¬ o.getD a (0, 0) = S.getD k (0, 0)) : InsOk F S (k + 1) (insAt o a (S.getD k (0, 0))) where
  mem x := by
    unfold insAt
    rw [take_mem hk, List.mem_append, List.mem_cons]
    constructor
    · rintro (h | rfl | h)
      · have := (ho.mem x).1 (List.mem_of_mem_take h); exact ⟨.inl this.1, this.2⟩
      · exact ⟨.inr rfl, hx⟩
      · have := (ho.mem x).1 (List.mem_of_mem_drop h); exact ⟨.inl this.1, this.2⟩
    · rintro ⟨h | rfl, h3⟩
      · have h4 := (ho.mem x).2 ⟨h, h3⟩
        rw [← List.take_append_drop a o] at h4
        rcases List.mem_append.1 h4 with h4 | h4
        · exact .inl h4
        · exact .inr (.inr h4)
      · exact .inr (.inl rfl)
  asc := by
    have hmF : ∀ y ∈ o, y ∈ F := fun y hy => ((ho.mem y).1 hy).2
    have hlt : ∀ y ∈ o, y.1 < (S.getD k (0, 0)).1 → y.1 < (S.getD k (0, 0)).1 ∧ (S.getD k (0, 0)).2 < y.2 := fun y hy h => by
      refine ⟨h, ?_⟩
      by_cases h3 : (S.getD k (0, 0)).2 < y.2
      · exact h3
      · have := asc_eq hF (hmF y hy) hx (by omega) (by omega)
        rw [this] at h; omega
    have hgt : ∀ y ∈ o, ¬ y.1 < (S.getD k (0, 0)).1 → ¬ y = S.getD k (0, 0) → (S.getD k (0, 0)).1 < y.1 ∧ y.2 < (S.getD k (0, 0)).2 := fun y hy h hne => by
      have h3 : (S.getD k (0, 0)).1 < y.1 ∨ y.1 = (S.getD k (0, 0)).1 := by omega
      have h4 : ¬ y.1 = (S.getD k (0, 0)).1 := fun e => by
        by_cases h5 : y.2 ≤ (S.getD k (0, 0)).2
        · exact hne (asc_eq hF (hmF y hy) hx (by omega) h5)
        · exact hne (asc_eq hF hx (hmF y hy) (by omega) (by omega)).symm
      refine ⟨by omega, ?_⟩
      by_cases h5 : y.2 < (S.getD k (0, 0)).2
      · exact h5
      · exact absurd (asc_eq hF hx (hmF y hy) (by omega) (by omega)).symm hne
    unfold insAt Asc
    rw [List.pairwise_append, List.pairwise_cons]
    have hp := ho.asc
    rw [show o = o.take a ++ o.drop a from (List.take_append_drop a o).symm, Asc, List.pairwise_append] at hp
    have hdrop : ∀ y ∈ o.drop a, (S.getD k (0, 0)).1 < y.1 ∧ y.2 < (S.getD k (0, 0)).2 := fun y hy => by
      by_cases hal : a < o.length
      · obtain ⟨h3, h4⟩ := h2 hal
        have h5 := hgt _ (getD_memP hal) h3 h4
        obtain ⟨i, hi, rfl⟩ := List.mem_iff_getElem.1 hy
        rw [List.length_drop] at hi
        rw [List.getElem_drop]
        have ea : o.getD a (0, 0) = o[a] := by simp [List.getD_eq_getElem?_getD, hal]
        rw [ea] at h5
        by_cases hi0 : i = 0
        · subst hi0; exact h5
        · have h6 := List.pairwise_iff_getElem.1 ho.asc a (a + i) hal (by omega) (by omega)
          omega
      · rw [List.drop_of_length_le (by omega)] at hy; cases hy
    have htake : ∀ y ∈ o.take a, y.1 < (S.getD k (0, 0)).1 ∧ (S.getD k (0, 0)).2 < y.2 := fun y hy => by
      refine hlt y (List.mem_of_mem_take hy) ?_
      obtain ⟨i, hi, rfl⟩ := List.mem_iff_getElem.1 hy
      rw [List.length_take] at hi
      have h3 := h1 i (by omega)
      rw [List.getElem_take]
      have ei : o.getD i (0, 0) = o[i]'(by omega) := by
        rw [List.getD_eq_getElem?_getD, List.getElem?_eq_getElem (by omega)]; rfl
      rw [ei] at h3
      exact h3
    refine ⟨hp.1, ⟨fun y hy => ?_, hp.2.1⟩, fun y hy z hz => ?_⟩
    · have := hdrop y hy; exact ⟨this.1, this.2⟩
    · have h3 := htake y hy
      rcases List.mem_cons.1 hz with rfl | hz
      · exact h3
      · have := hdrop z hz
        exact ⟨by omega, by omega⟩
end Go.Proofs.Ytecmgjhnfgeldaa.Al
