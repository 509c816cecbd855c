/- Stacks of dimensions: copies of dimensions, wider limits. No statement of the seat is proved here. -/
import Derived.Test.YtkkgkghkmkigjaaM8
namespace Go.Proofs.Ytkkgkghkmkigjaa
set_option linter.unusedVariables false
set_option linter.unusedSimpArgs false
open Go Go.RowKit
set_option maxRecDepth 100000 in
theorem e_Clone : Ent Try.prog 21 := fun _ _ => rfl
set_option maxRecDepth 8000 in
set_option maxHeartbeats 20000000 in
theorem Clone_c (A : Option Addr) (cA : Nat) (l : List Dm) (hl : l.length < 1000000000) (hp : 0 < l.length) (w : World) (R : Rd w A 5 l.length (fun i => dmC (l.getD i dm0))) :
    Calls Try.prog 21 #[.slice A l.length cA] w (RetP (RowR (fun v => v) 50 5 (l.map dmC) w)) := by
  refine calls_of_cw (args := [.slice A l.length cA]) Try.func21 rfl rfl ?_
  have S := Sat.start [] w
  have O := R.old
  obtain ⟨a, rfl⟩ := Option.isSome_iff_exists.1 (R.some_ hp)
  (repeat' (first | apply cw_seq | apply cw_region | apply wl_nil | apply cw_block | apply cw_skip | apply cw_exit | apply cw_ret | (apply x_appendAllB (l := l) (en := dmC) dm0 dmC_len (Old.now O (by assumption)) hl hp; assumption; exact rfl; exact rfl; exact rfl; exact rfl; exact rfl; exact .inr ⟨_, rfl⟩; exact rfl; intro _ _ _ _ _) | (apply x_buildSlice0; assumption; exact rfl; exact rfl; exact rfl; intro _ _ _ _ _) | (apply x_append1; assumption; exact rfl; exact rfl; exact rfl; exact rfl; exact rfl; (exact (by repeat' constructor)); (exact (by repeat' constructor)); exact rfl; exact rfl; exact rfl; (first | assumption | omega | (simp; omega)); intro _ _ _ _) | (apply x_move; exact rfl; exact rfl; (exact (by repeat' constructor))) | (apply x_assign; exact rfl; exact rfl; (exact (by repeat' constructor))) | (apply x_eqStr; exact rfl; exact rfl; exact rfl; exact rfl) | (apply x_bin; exact rfl; exact rfl; exact rfl; (first | exact .z (.wrap (by omega)) | exact (by repeat' constructor))) | (apply x_builtin; exact rfl; exact rfl; exact (fun _ => rfl); (exact (by repeat' constructor))) | (apply x_buildSlice; assumption; exact rfl; exact rfl; exact rfl; (exact (by repeat' constructor)); intro _ _ _) | (apply cw_true; exact rfl) | (apply cw_false; exact rfl) | (apply x_ndec; exact rfl; with_reducible exact rfl; all_goals (intro _; try omega)) | (apply x_dec; exact rfl; all_goals (intro _; try omega)) | (apply cw_ne; exact rfl; all_goals (intro _; try omega)) | (apply cw_eq; exact rfl; all_goals (intro _; try omega)) | (apply cw_not; exact rfl; all_goals (intro _; try omega)) | (apply cw_cond; exact rfl; all_goals (intro _; try omega))))
  (first | refine q_retS (by assumption) rfl (by repeat (first | exact .nil | (apply RV.tmp; exact (by repeat' constructor)) | (apply RV.cell; exact rfl; exact (by repeat' constructor); exact rfl; exact rfl; exact (by repeat' constructor)))) ?_ | (simp only [thenQ, blockQ]; refine q_retS (by assumption) rfl (by repeat (first | exact .nil | (apply RV.tmp; exact (by repeat' constructor)) | (apply RV.cell; exact rfl; exact (by repeat' constructor); exact rfl; exact rfl; exact (by repeat' constructor)))) ?_))
  exact rowR_n (V := fun v => v) (List.length_map _).symm (by assumption) .head
section
variable {P : Program} {ro : Option Nat} {n : Nat} {Q : Post} {D : List Deferred} {f : Fm} {w w0 w' : World} {M : List Nat} {h : List HO}
variable {ops : Array Oper} {rest : List Oper} {prest : List (Nat × Oper)} {d ty xt yt : Nat} {ps : String} {af : Array Edge} {gd : Option (Nat × Bool)} {x y z : Operand}
theorem x_storeRowE {T E size i off m c : Nat} {A : Option Addr} {v : Value} {xs ys : List (List Value)} {F : HO → List HO} (S : Sat w0 M h w) (hg : want ops f ⟨none, .store T x y, ty, ps, af, gd⟩ = true)
    (hx : fev f x = .pointer (some (ea A size i off))) (hy : Is (fev f y) v) (h1 : one v = true) (hs : (P.info? T).map (·.size) = some 1) (hr : RepF h (.rw 0 (.slice A m c) E size xs) F) (hi : i < xs.length) (ho : off < size) (he : xs.set i ((xs.getD i []).set off v) = ys)
    (k : ∀ w', Sat w0 M (F (.rw 0 (.slice A m c) E size ys)) w' → WL P ro n ops Q rest D f w') :
    WL P ro n ops Q (⟨none, .store T x y, ty, ps, af, gd⟩ :: rest) D f w := by
  subst he
  exact x_storeRow S hg hx hy h1 hs hr hi ho k
theorem x_storeRowNE {T E size i off m c : Nat} {A : Option Addr} {v : Value} {xs ys : List (List Value)} {F : HO → List HO} (S : Sat w0 M h w) (hg : want ops f ⟨none, .store T x y, ty, ps, af, gd⟩ = true)
    (hx : fev f x = .pointer (some (ea A size i off))) (hy : Is (fev f y) v) (h1 : ones (cl1 v) = true) (hs : (P.info? T).map (·.size) = some (cl1 v).length) (hp : 0 < (cl1 v).length) (hr : RepF h (.rw 0 (.slice A m c) E size xs) F) (hi : i < xs.length) (ho : off + (cl1 v).length ≤ size) (he : xs.set i (spl (xs.getD i []) off (cl1 v)) = ys)
    (k : ∀ w', Sat w0 M (F (.rw 0 (.slice A m c) E size ys)) w' → WL P ro n ops Q rest D f w') :
    WL P ro n ops Q (⟨none, .store T x y, ty, ps, af, gd⟩ :: rest) D f w := by
  subst he
  exact x_storeRowN S hg hx hy h1 hs hp hr hi ho k
end
theorem limE_hi (l : List Dm) (i : Nat) (b : Int) (hi : i < l.length) : (l.map dmC).set i (((l.map dmC).getD i []).set 4 (.int .i64 b)) = (limE l i (dat l i).lo b).map dmC := by
  have e : (l.map dmC).getD i [] = dmC (dat l i) := by simp [List.getD_eq_getElem?_getD, hi]
  rw [e, limE, List.map_set]
  rfl
theorem bnd_mono {l l' : List Dm} : ∀ (c : List Lk), (∀ x ∈ c, (conL l' x).1 ≤ (conL l x).1 ∧ (conL l x).2 ≤ (conL l' x).2) → (bndE l' c).1 ≤ (bndE l c).1 ∧ (bndE l c).2 ≤ (bndE l' c).2
  | [], _ => by simp [bndE]
  | x :: c, h => by
    have h1 := h x List.mem_cons_self
    have h2 := bnd_mono c fun y hy => h y (List.mem_cons_of_mem _ hy)
    rw [bnd_cons, bnd_cons]
    dsimp only
    omega
theorem bnd_wide {l : List Dm} {i : Nat} {m : Int} (hm : 0 ≤ m) (c : List Lk) (hr : ∀ x ∈ c, inR l x) : (bndE (limE l i (dat l i).lo ((dat l i).hi + m)) c).1 ≤ (bndE l c).1 ∧ (bndE l c).2 ≤ (bndE (limE l i (dat l i).lo ((dat l i).hi + m)) c).2 := by
  refine bnd_mono c fun x hx => ?_
  by_cases e : i = x.dm.toNat
  · have ed : dOf (limE l i (dat l i).lo ((dat l i).hi + m)) x = wlim (dOf l x) (dOf l x).lo ((dOf l x).hi + m) := by
      show dat (limE l i (dat l i).lo ((dat l i).hi + m)) x.dm.toNat = _
      rw [limE_at, if_pos ⟨e, in_dat (hr x hx)⟩, e]
    by_cases hb : x.bk = true
    · rw [conL_b hb, conL_b hb, ed]; unfold wlim; dsimp only; omega
    · rw [conL_f hb, conL_f hb, ed]; unfold wlim; dsimp only; omega
  · rw [conL_lim e]; omega
theorem keeL_v {l : List Dm} {c : List Lk} {lo hi : Int} (h : stkE l c lo hi = 0) : (lo ≤ (bndE l c).1 ∧ (bndE l c).2 ≤ hi ∧ keeL l c lo hi = ((true, 0), [])) ∨ (¬ (lo ≤ (bndE l c).1 ∧ (bndE l c).2 ≤ hi) ∧ ∃ b, keeL l c lo hi = ((false, 0), extS l c b) ∧ ((if b = true then (bndE l c).2 else (bndE l c).1) < lo ∨ hi < (if b = true then (bndE l c).2 else (bndE l c).1))) := by
  have hb := bnd_rng (stkE_ok h).1
  by_cases h1 : (bndE l c).1 < lo ∨ hi < (bndE l c).1
  · exact .inr ⟨by omega, false, keeL_lo h h1, by simpa using h1⟩
  · by_cases h2 : (bndE l c).2 < lo ∨ hi < (bndE l c).2
    · exact .inr ⟨by omega, true, keeL_hi h h1 h2, by simpa using h2⟩
    · exact .inl ⟨by omega, by omega, keeL_yes h h1 h2⟩
end Go.Proofs.Ytkkgkghkmkigjaa
