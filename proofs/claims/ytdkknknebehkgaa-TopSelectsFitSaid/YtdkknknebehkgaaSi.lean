/- Pairs of holes and pins: a pair made by force, then grown again: the plain part; lists copied. No statement of the seat is proved here. -/
import Derived.Test.YtdkknknebehkgaaSh
namespace Go.Proofs.Ytdkknknebehkgaa.Sl
set_option linter.unusedVariables false
set_option linter.unusedSimpArgs false
open Go Go.RowKit
/-- what is known while the matching grows again: A says that all is as it should be -/
structure WI (nx ny : Nat) (gv : List Bool) (A : Prop) (sz i : Nat) (p0 oh op : List Int) : Prop where
  cons : Cons nx ny oh op
  kept : ∀ q, q < ny → gB gv q = true → gI op q = gI p0 q
  all : A → (mt nx oh).length = sz ∨ ((mt nx oh).length + 1 = sz ∧ (∃ h, i ≤ h ∧ h < nx ∧ gI oh h = -1) ∧ ∃ q, q < ny ∧ gB gv q = false ∧ gI op q = -1)
section
variable {nx ny : Nat} {gv : List Bool} {A : Prop} {sz i hole pin : Nat} {p0 oh op : List Int}
theorem WI.start (C : Cons nx ny oh op) (hh : hole < nx) (hp : pin < ny) (hl : gv.length = ny) (hF : A → Full nx ny oh op) (hg : A → ∀ q, q < ny → gB gv q = true → gI op q ≠ hole) :
    WI nx ny (gv.set pin true) A (mt nx oh).length 0 (swP oh op hole pin) (swH oh op hole pin) (swP oh op hole pin) := by
  refine ⟨sw_cons C hh hp, fun _ _ _ => rfl, fun a => ?_⟩
  rcases sw_size C (hF a) hh hp with h | ⟨h1, ⟨h, h2, h3⟩, q, h4, h5, h6, h7⟩
  · exact .inl h
  · refine .inr ⟨h1, ⟨h, Nat.zero_le _, h2, h3⟩, q, h4, ?_, h7⟩
    rw [gB_set (by omega), if_neg (fun e => h5 e.symm)]
    cases hb : gB gv q with
    | false => rfl
    | true => exact absurd h6 (hg a q h4 hb)
theorem WI.skip (W : WI nx ny gv A sz i p0 oh op) (h : 0 ≤ gI oh i) : WI nx ny gv A sz (i + 1) p0 oh op :=
  ⟨W.cons, W.kept, fun a => (W.all a).imp id fun ⟨h1, ⟨h2, h3, h4, h5⟩, h6⟩ => ⟨h1, ⟨h2, by
    have : h2 ≠ i := by rintro rfl; omega
    omega, h4, h5⟩, h6⟩⟩
theorem WI.grow (W : WI nx ny gv A sz i p0 oh op) (hi : i < nx) (hf : gI oh i = -1) (hs : (mt nx oh).length ≠ sz) (r : GRes nx ny gv A i oh op) : WI nx ny gv A sz (i + 1) p0 r.oh' r.op' := by
  cases hb : r.b with
  | true =>
    have N := r.yes hb
    refine ⟨r.cons, fun q hq hg => (N.given q hq hg).trans (W.kept q hq hg), fun a => .inl ?_⟩
    have h1 := N.size W.cons hi hf
    rcases W.all a with h2 | ⟨h2, _⟩
    · exact absurd h2 hs
    · omega
  | false =>
    obtain ⟨e1, e2⟩ := r.no hb
    rw [e1, e2]
    refine ⟨W.cons, W.kept, fun a => ?_⟩
    rcases W.all a with h2 | ⟨h2, _, q, h3, h4, h5⟩
    · exact absurd h2 hs
    · exact absurd h5 (r.all hb a q h3 h4)
theorem WI.done (W : WI nx ny gv A sz nx p0 oh op) (a : A) : (mt nx oh).length = sz := by
  rcases W.all a with h | ⟨_, ⟨h, h1, h2, _⟩, _⟩
  · exact h
  · omega
end
theorem Szs.next {w0 w : World} {M : List Nat} {hc fr : List HO} {xs ys : List Int} {lo hi : Int} {b3 b4 b5 : Nat} {X Y : Option Addr} {cx cy : Nat} (Z : Szs w0 M xs ys lo hi b3 b4 b5 X Y cx cy) (S : Sat w0 M (hc ++ fr) w) : Szs w (blks hc) xs ys lo hi b3 b4 b5 X Y cx cy :=
  ⟨Z.rx.next (fun i _ => by simp [zC]) S, Z.ry.next (fun i _ => by simp [zC]) S, OldB.next Z.e3 S, OldB.next Z.e4 S, OldB.next Z.e5 S⟩
theorem zC_len (a : Int) : (zC a).length = 1 := rfl
theorem bC_len (a : Bool) : (bC a).length = 1 := rfl
set_option maxRecDepth 100000 in
theorem e_CloneI : Ent Try.prog 36 := fun _ _ => rfl
set_option maxRecDepth 8000 in
set_option maxHeartbeats 4000000 in
theorem CloneI_c (A : Option Addr) (cA : Nat) (l : List Int) (hl : l.length < 1000000000) (hp : 0 < l.length) (w : World) (R : Rd w A 1 l.length (fun i => zC (l.getD i (-1)))) :
    Calls Try.prog 36 #[.slice A l.length cA] w (RetP (RowR (fun v => v) 3 1 (l.map zC) w)) := by
  refine calls_of_cw (args := [.slice A l.length cA]) Try.func36 rfl rfl ?_
  have S := Sat.start [] w
  have O := R.old
  obtain ⟨a, rfl⟩ := Option.isSome_iff_exists.1 (R.some_ hp)
  (repeat' (first | apply cw_seq | apply cw_region | apply wl_nil | apply cw_skip | apply cw_ret | (apply x_appendAllB (l := l) (en := zC) (-1 : Int) zC_len (Old.now O (by assumption)) hl hp; assumption; exact rfl; exact rfl; exact rfl; exact rfl; exact rfl; exact .inr ⟨_, rfl⟩; exact rfl; intro _ _ _ _ _) | (apply x_buildSlice0; assumption; exact rfl; exact rfl; exact rfl; intro _ _ _ _ _) | (apply x_move; exact rfl; exact rfl; (exact (by repeat' constructor))) | (apply x_assign; exact rfl; exact rfl; (exact (by repeat' constructor))) | (apply x_bin; exact rfl; exact rfl; exact rfl; (first | exact .z (.wrap (by omega)) | exact (by repeat' constructor))) | (apply cw_false; exact rfl)))
  (first | refine q_retS (by assumption) rfl (by repeat (first | exact .nil | (apply RV.tmp; exact (by repeat' constructor)) | (apply RV.cell; exact rfl; exact (by repeat' constructor); exact rfl; exact rfl; exact (by repeat' constructor)))) ?_ | (simp only [thenQ, blockQ]; refine q_retS (by assumption) rfl (by repeat (first | exact .nil | (apply RV.tmp; exact (by repeat' constructor)) | (apply RV.cell; exact rfl; exact (by repeat' constructor); exact rfl; exact rfl; exact (by repeat' constructor)))) ?_))
  exact rowR_n (V := fun v => v) (List.length_map _).symm (by assumption) .head
set_option maxRecDepth 100000 in
theorem e_CloneB : Ent Try.prog 37 := fun _ _ => rfl
set_option maxRecDepth 8000 in
set_option maxHeartbeats 4000000 in
theorem CloneB_c (A : Option Addr) (cA : Nat) (l : List Bool) (hl : l.length < 1000000000) (hp : 0 < l.length) (w : World) (R : Rd w A 1 l.length (fun i => bC (l.getD i false))) :
    Calls Try.prog 37 #[.slice A l.length cA] w (RetP (RowR (fun v => v) 4 1 (l.map bC) w)) := by
  refine calls_of_cw (args := [.slice A l.length cA]) Try.func37 rfl rfl ?_
  have S := Sat.start [] w
  have O := R.old
  obtain ⟨a, rfl⟩ := Option.isSome_iff_exists.1 (R.some_ hp)
  (repeat' (first | apply cw_seq | apply cw_region | apply wl_nil | apply cw_skip | apply cw_ret | (apply x_appendAllB (l := l) (en := bC) false bC_len (Old.now O (by assumption)) hl hp; assumption; exact rfl; exact rfl; exact rfl; exact rfl; exact rfl; exact .inr ⟨_, rfl⟩; exact rfl; intro _ _ _ _ _) | (apply x_buildSlice0; assumption; exact rfl; exact rfl; exact rfl; intro _ _ _ _ _) | (apply x_move; exact rfl; exact rfl; (exact (by repeat' constructor))) | (apply x_assign; exact rfl; exact rfl; (exact (by repeat' constructor))) | (apply x_bin; exact rfl; exact rfl; exact rfl; (first | exact .z (.wrap (by omega)) | exact (by repeat' constructor))) | (apply cw_false; exact rfl)))
  (first | refine q_retS (by assumption) rfl (by repeat (first | exact .nil | (apply RV.tmp; exact (by repeat' constructor)) | (apply RV.cell; exact rfl; exact (by repeat' constructor); exact rfl; exact rfl; exact (by repeat' constructor)))) ?_ | (simp only [thenQ, blockQ]; refine q_retS (by assumption) rfl (by repeat (first | exact .nil | (apply RV.tmp; exact (by repeat' constructor)) | (apply RV.cell; exact rfl; exact (by repeat' constructor); exact rfl; exact rfl; exact (by repeat' constructor)))) ?_))
  exact rowR_n (V := fun v => v) (List.length_map _).symm (by assumption) .head
theorem CloneI_n (A : Option Addr) (cA n : Nat) (l : List Int) (hn : l.length = n) (hl : n < 1000000000) (hp : 0 < n) (w : World) (R : Rd w A 1 n (fun i => zC (l.getD i (-1)))) :
    Calls Try.prog 36 #[.slice A n cA] w (RetP (RowR (fun v => v) 3 1 (l.map zC) w)) := by
  subst hn; exact CloneI_c A cA l hl hp w R
theorem CloneB_n (A : Option Addr) (cA n : Nat) (l : List Bool) (hn : l.length = n) (hl : n < 1000000000) (hp : 0 < n) (w : World) (R : Rd w A 1 n (fun i => bC (l.getD i false))) :
    Calls Try.prog 37 #[.slice A n cA] w (RetP (RowR (fun v => v) 4 1 (l.map bC) w)) := by
  subst hn; exact CloneB_c A cA l hl hp w R
theorem size_n {bm n : Nat} {T : TypeId} {F OP FX GV : Value} {H : Option Addr} {cH : Nat} {oh : List Int} (hl : oh.length = n) (hn : n ≤ 100000) (w : World) (B : OldB w [] bm T (mCs F (.slice H n cH) OP FX GV)) (R : Rd w H 1 n (fun i => zC (oh.getD i (-1)))) :
    Calls Try.prog 38 #[.pointer (some ⟨bm, 0, none⟩)] w (RetP (Val (.int .i64 ((mt n oh).length : Nat)) w)) := by
  subst hl; exact size_c hn w B R
theorem bset {l : List Bool} {n i : Nat} {v : Bool} (hl : l.length = n) (hi : i < n) : (l.map bC).set i (((l.map bC).getD i []).set 0 (.bool v)) = (l.set i v).map bC := by
  have e : (l.map bC).getD i [] = bC (l.getD i false) := by simp [List.getD_eq_getElem?_getD, hl, hi]
  rw [e, List.map_set]; rfl
end Go.Proofs.Ytdkknknebehkgaa.Sl
