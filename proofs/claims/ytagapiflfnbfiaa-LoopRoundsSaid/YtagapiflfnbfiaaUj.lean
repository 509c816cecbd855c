/- The reference's shortest chain and all chains in order. No statement of the seat is proved here. -/
import Derived.Test.YtagapiflfnbfiaaUi
namespace Go.Proofs.Ytagapiflfnbfiaa
set_option linter.unusedVariables false
set_option linter.unusedSimpArgs false
open Go Go.RowKit
section
variable {P : Program} {ro : Option Nat} {n : Nat} {Q : Post} {D : List Deferred} {f : Fm} {w w0 w' : World} {M : List Nat} {h : List HO}
variable {ops : Array Oper} {rest : List Oper} {prest : List (Nat × Oper)} {d ty : Nat} {ps : String} {af : Array Edge} {gd : Option (Nat × Bool)} {x y z : Operand}
theorem y_sliceLoS {T : TypeId} {A B : Option Addr} {m c size k m' : Nat} {kd : IntKind} (hB : sub A k size c = B) (hm : m - k = m') (h1 : k ≤ m) (hg : want ops f ⟨some d, .slice T x (some y) none none, ty, ps, af, gd⟩ = true) (hx : fev f x = .slice A m c) (hy : fev f y = .int kd (k : Int)) (hs : elemSize P T = some size)
    (kk : PV P ro ops Q w0 M h prest D (upd f d (.slice B m' (c - k)))) : PV P ro ops Q w0 M h ((0, ⟨some d, .slice T x (some y) none none, ty, ps, af, gd⟩) :: prest) D f := by
  subst hB
  subst hm
  have := y_sliceLo (P := P) (ro := ro) (Q := Q) (D := D) (w0 := w0) (M := M) (h := h) (prest := prest) hg hx hy hs (by omega) (by omega)
  simp only [Int.toNat_natCast] at this
  exact this kk
theorem y_sliceHiS {T : TypeId} {A : Option Addr} {m c size k m' : Nat} {kd : IntKind} (hm : k = m') (h1 : k ≤ c) (hg : want ops f ⟨some d, .slice T x none (some y) none, ty, ps, af, gd⟩ = true) (hx : fev f x = .slice A m c) (hy : fev f y = .int kd (k : Int)) (hs : elemSize P T = some size)
    (kk : PV P ro ops Q w0 M h prest D (upd f d (.slice A m' c))) : PV P ro ops Q w0 M h ((0, ⟨some d, .slice T x none (some y) none, ty, ps, af, gd⟩) :: prest) D f := by
  subst hm
  exact y_sliceHiN hg hx hy hs h1 kk
end
theorem from_len {l : List Dm} {ax : Int} {fr : ByteArray} (h6 : l.length ≤ 6) : ∀ (m k : Nat) (last : List (List Lk)), last.length ≤ 12 ^ k → (fromR l ax fr m last).length ≤ m * 12 ^ (k + m)
  | 0, k, last, _ => by simp [fromR]
  | m + 1, k, last, h => by
    have h1 := next_len (ax := ax) (fr := fr) (last := last) h6
    have h2 : (nextR l ax fr last).length ≤ 12 ^ (k + 1) := by rw [Nat.pow_succ]; omega
    have h3 := from_len (ax := ax) (fr := fr) h6 m (k + 1) _ h2
    have h4 : 12 ^ (k + 1) ≤ 12 ^ (k + (m + 1)) := Nat.pow_le_pow_right (by decide) (by omega)
    rw [fromR, List.length_append, Nat.succ_mul]
    rw [show k + 1 + m = k + (m + 1) by omega] at h3
    omega
theorem allR_len {l : List Dm} {ax : Int} {fr : ByteArray} (h6 : l.length ≤ 6) : (allR l ax fr).length ≤ 20000000 := by
  have h1 := from_len (ax := ax) (fr := fr) h6 l.length 0 [[]] (by simp)
  have h2 : 12 ^ (0 + l.length) ≤ 12 ^ 6 := Nat.pow_le_pow_right (by decide) (by omega)
  have h3 : 12 ^ 6 = 2985984 := by decide
  have h4 : l.length * 12 ^ (0 + l.length) ≤ 6 * 2985984 := Nat.mul_le_mul h6 (by omega)
  unfold allR
  omega
/-- what is known of the rows of all chains -/
structure AllQ (l : List Dm) (ax : Int) (fr : ByteArray) (q : OQ) : Prop where
  len : q.rs.length ≤ 20000000
  xl : ∀ r ∈ q.rs, r.xs.length ≤ 1000000
  pos : ∀ r ∈ q.rs, 0 < r.xs.length ∧ ∀ x ∈ r.xs, inR l x
theorem allQ {l : List Dm} {ax : Int} {fr : ByteArray} {q : OQ} (h6 : l.length ≤ 6) (hg : givenE l = 0) (h : q.rs.map OR.xs = allR l ax fr) : AllQ l ax fr q := by
  have hm : ∀ r ∈ q.rs, 0 < r.xs.length ∧ ∃ b, gp l (netL l ax) fr r.xs b := fun r hr => (allR_mem hg).1 (by rw [← h]; exact List.mem_map_of_mem hr)
  refine ⟨?_, fun r hr => ?_, fun r hr => ?_⟩
  · have := allR_len (ax := ax) (fr := fr) h6
    rw [← h, List.length_map] at this
    exact this
  · obtain ⟨h1, b, h2⟩ := hm r hr
    have := rc_len (gp_rc h2 h1)
    omega
  · obtain ⟨h1, b, h2⟩ := hm r hr
    exact ⟨h1, fun x hx => (nlk_ok l ax allU (givenE_len hg)).inr x (lnk_mem h2.1 x hx)⟩
def leadQ (l : List Dm) (to : ByteArray) (q : OQ) : List OR := q.rs.filter fun r => leadB l to r.xs
theorem leadQ_xs {l : List Dm} {ax : Int} {fr to : ByteArray} {q : OQ} (h : q.rs.map OR.xs = allR l ax fr) : (leadQ l to q).map OR.xs = leadR l ax fr to := by
  unfold leadQ leadR
  rw [← h, List.filter_map]
  rfl
theorem leadQ_sub {l : List Dm} {to : ByteArray} {q : OQ} {r : OR} (h : r ∈ leadQ l to q) : r ∈ q.rs := (List.mem_filter.1 h).1
theorem lead_cons {rs : List OR} {p : List Lk} {t : List (List Lk)} (h : rs.map OR.xs = p :: t) : (rs.getD 0 or0).xs = p := by
  cases rs with
  | nil => cases h
  | cons r rs => injection h
theorem lead_len {rs : List OR} {p : List Lk} {t : List (List Lk)} (h : rs.map OR.xs = p :: t) : 0 < rs.length := by
  cases rs with
  | nil => cases h
  | cons r rs => simp
set_option maxRecDepth 100000 in
theorem e_rFind : Ent Try.prog 16 := fun _ _ => rfl
set_option maxRecDepth 8000 in
set_option maxHeartbeats 8000000 in
theorem rFind_c (A : Option Addr) (cA : Nat) (l : List Dm) (hl : l.length ≤ 9223372036854775807) (ho : ∀ i, i < l.length → (dat l i).ok) (ax : Int) (fr to : ByteArray) (hfr : fr.size ≤ 9223372036854775807) (hto : to.size ≤ 9223372036854775807) (h6 : askE l ax fr to = 0 → l.length ≤ 6) (w : World) (R : Rd w A 5 l.length (fun i => dmC (l.getD i dm0))) : Calls Try.prog 16 #[.slice A l.length cA, .int .i64 ax, .string fr, .string to] w (RetP (RowR (fun v => .tuple #[v, .int .i64 (findS l ax fr to).2]) 75 2 ((findS l ax fr to).1.map lkC) w)) := by
  refine calls_of_cw (args := [.slice A l.length cA, .int .i64 ax, .string fr, .string to]) Try.func16 rfl rfl ?_
  have S := Sat.start [] w
  have O := R.old
  by_cases he : askE l ax fr to = 0
  · replace h6 := h6 he
    have hg := askE_given he
    have hne := askE_ne he
    by_cases hsh : (shS l (netL l ax) fr to).2 = true
    · have h1 : findS l ax fr to = ((shS l (netL l ax) fr to).1, 0) := (if_pos he).trans (if_pos hsh)
      rw [h1]
      obtain ⟨t, hft⟩ := sh_first hg hne hsh
      obtain ⟨p, hp⟩ : ∃ p, (shS l (netL l ax) fr to).1 = p := ⟨_, rfl⟩
      rw [hp] at hft
      rw [hp]
      (repeat' (first | apply cw_seq | apply cw_region | apply wl_nil | apply cw_skip | apply cw_ret | (apply x_callv; assumption; exact rfl; exact rfl; exact rfl; exact e_rasked; (exact (by repeat' constructor)); with_reducible exact (rasked_c A cA l hl ho ax fr to hfr hto _ (Old.now O (by assumption))); intro _ _ _) | (apply x_callH; assumption; exact rfl; exact rfl; exact rfl; exact e_rChains; (exact (by repeat' constructor)); (with_reducible exact rChains_c A cA l hl ho h6 hg ax fr hfr _ (Old.now O (by assumption))); rintro ⟨q0, hq0⟩ w1 S1; dsimp only; have hAQ := allQ h6 hg hq0; have hlx := leadQ_xs (to := to) hq0; obtain ⟨RQ, RQ2⟩ := oqr_rd (q := q0) S1 (fun o ho => by simp at ho ⊢; simp [ho])) | (apply x_callrowE (m := (leadQ l to q0).length); assumption; exact rfl; exact rfl; exact rfl; exact e_rLead; (exact (by repeat' constructor)); (with_reducible exact rLead_c A cA l hl ho q0.A q0.c q0.rs hAQ.len hAQ.xl hAQ.pos to hto _ (Old.now O (by assumption)) RQ RQ2); exact (List.length_map _); intro B1 c1 w2 S2; rw [hft] at hlx; have hr0 := lead_cons hlx; have hlt0 := lead_len hlx; clear hlx) | (apply x_indexK; exact rfl; exact rfl; exact rfl; exact rfl; exact rfl; (constructor); (constructor); (exact (by decide)); exact hlt0; (exact (Sat.rdmapN (l := leadQ l to q0) (en := orV) or0 S2 .head rfl).some_ hlt0)) | (apply x_loadR; exact rfl; exact rfl; exact rfl; exact Sat.rdmapN (l := leadQ l to q0) (en := orV) or0 (by assumption) .head rfl; exact hlt0; exact rfl; exact rfl; exact is_rowE rfl) | (apply x_move; exact rfl; exact rfl; (exact (by repeat' constructor))) | (apply x_assign; exact rfl; exact rfl; (exact (by repeat' constructor))) | (apply x_bin; exact rfl; exact rfl; exact rfl; (first | exact .z (.wrap (by omega)) | exact (by repeat' constructor))) | (apply x_builtin; exact rfl; exact rfl; exact (fun _ => rfl); (exact (by repeat' constructor))) | (apply x_dec; exact rfl; all_goals (intro _; try omega)) | (apply cw_ne; exact rfl; all_goals (intro _; try omega))))
      all_goals first
        | exact absurd he (by assumption)
        | (exfalso; omega)
        | skip
      (first | refine q_retS (by assumption) rfl (by repeat (first | exact .nil | (apply RV.tmp; exact (by repeat' constructor)) | (apply RV.cell; exact rfl; exact (by repeat' constructor); exact rfl; exact rfl; exact (by repeat' constructor)))) ?_ | (simp only [thenQ, blockQ]; refine q_retS (by assumption) rfl (by repeat (first | exact .nil | (apply RV.tmp; exact (by repeat' constructor)) | (apply RV.cell; exact rfl; exact (by repeat' constructor); exact rfl; exact rfl; exact (by repeat' constructor)))) ?_))
      rw [← hr0]
      refine rowR_n (V := fun v => .tuple #[v, .int .i64 0]) (List.length_map _).symm (by assumption) (hasOf ?_)
      have hm := leadQ_sub (getD_mem or0 hlt0)
      exact List.mem_cons_of_mem _ (List.mem_append_left _ (List.mem_cons_of_mem _ (List.mem_map_of_mem (f := orHr) hm)))
    · have h1 : findS l ax fr to = ([], 6) := (if_pos he).trans (if_neg hsh)
      rw [h1]
      have hft := sh_none hg hne hsh
      (repeat' (first | apply cw_seq | apply cw_region | apply wl_nil | apply cw_skip | apply cw_ret | (apply x_callv; assumption; exact rfl; exact rfl; exact rfl; exact e_rasked; (exact (by repeat' constructor)); with_reducible exact (rasked_c A cA l hl ho ax fr to hfr hto _ (Old.now O (by assumption))); intro _ _ _) | (apply x_callH; assumption; exact rfl; exact rfl; exact rfl; exact e_rChains; (exact (by repeat' constructor)); (with_reducible exact rChains_c A cA l hl ho h6 hg ax fr hfr _ (Old.now O (by assumption))); rintro ⟨q0, hq0⟩ w1 S1; dsimp only; have hAQ := allQ h6 hg hq0; have hlx := leadQ_xs (to := to) hq0; obtain ⟨RQ, RQ2⟩ := oqr_rd (q := q0) S1 (fun o ho => by simp at ho ⊢; simp [ho])) | (apply x_callrowE (m := (leadQ l to q0).length); assumption; exact rfl; exact rfl; exact rfl; exact e_rLead; (exact (by repeat' constructor)); (with_reducible exact rLead_c A cA l hl ho q0.A q0.c q0.rs hAQ.len hAQ.xl hAQ.pos to hto _ (Old.now O (by assumption)) RQ RQ2); exact (List.length_map _); intro B1 c1 w2 S2; rw [hft] at hlx; have hlt0 : (leadQ l to q0).length = 0 := by rw [← List.length_map (f := OR.xs), hlx]; rfl) | (apply x_move; exact rfl; exact rfl; (exact (by repeat' constructor))) | (apply x_assign; exact rfl; exact rfl; (exact (by repeat' constructor))) | (apply x_bin; exact rfl; exact rfl; exact rfl; (first | exact .z (.wrap (by omega)) | exact (by repeat' constructor))) | (apply x_builtin; exact rfl; exact rfl; exact (fun _ => rfl); (exact (by repeat' constructor))) | (apply x_dec; exact rfl; all_goals (intro _; try omega)) | (apply cw_ne; exact rfl; all_goals (intro _; try omega))))
      all_goals first
        | exact absurd he (by assumption)
        | (exfalso; omega)
        | skip
      (first | refine q_retS (by assumption) rfl (by repeat (first | exact .nil | (apply RV.tmp; exact (by repeat' constructor)) | (apply RV.cell; exact rfl; exact (by repeat' constructor); exact rfl; exact rfl; exact (by repeat' constructor)))) ?_ | (simp only [thenQ, blockQ]; refine q_retS (by assumption) rfl (by repeat (first | exact .nil | (apply RV.tmp; exact (by repeat' constructor)) | (apply RV.cell; exact rfl; exact (by repeat' constructor); exact rfl; exact rfl; exact (by repeat' constructor)))) ?_))
      exact rowR_nil (V := fun v => .tuple #[v, .int .i64 6]) rfl (Sat.keeps (by assumption))
  · have h1 : findS l ax fr to = ([], askE l ax fr to) := if_neg he
    rw [h1]
    (repeat' (first | apply cw_seq | apply cw_region | apply wl_nil | apply cw_ret | (apply x_callv; assumption; exact rfl; exact rfl; exact rfl; exact e_rasked; (exact (by repeat' constructor)); with_reducible exact (rasked_c A cA l hl ho ax fr to hfr hto _ (Old.now O (by assumption))); intro _ _ _) | (apply x_move; exact rfl; exact rfl; (exact (by repeat' constructor))) | (apply x_assign; exact rfl; exact rfl; (exact (by repeat' constructor))) | (apply x_bin; exact rfl; exact rfl; exact rfl; (first | exact .z (.wrap (by omega)) | exact (by repeat' constructor))) | (apply cw_ne; exact rfl; all_goals (intro _; try omega))))
    all_goals first
      | exact absurd (by assumption) he
      | skip
    all_goals (first | refine q_retS (by assumption) rfl (by repeat (first | exact .nil | (apply RV.tmp; exact (by repeat' constructor)) | (apply RV.cell; exact rfl; exact (by repeat' constructor); exact rfl; exact rfl; exact (by repeat' constructor)))) ?_ | (simp only [thenQ, blockQ]; refine q_retS (by assumption) rfl (by repeat (first | exact .nil | (apply RV.tmp; exact (by repeat' constructor)) | (apply RV.cell; exact rfl; exact (by repeat' constructor); exact rfl; exact rfl; exact (by repeat' constructor)))) ?_))
    all_goals exact rowR_nil (V := fun v => .tuple #[v, .int .i64 (askE l ax fr to)]) rfl (Sat.keeps (by assumption))
end Go.Proofs.Ytagapiflfnbfiaa
