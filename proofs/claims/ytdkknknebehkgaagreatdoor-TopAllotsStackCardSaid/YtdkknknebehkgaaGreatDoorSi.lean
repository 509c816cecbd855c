/- Pairs of holes and pins: most. No statement of the seat is proved here. -/
/- Pairs of holes and pins: a pair made by force, then grown again: the plain part; lists copied. No statement of the seat is proved here. -/
import Derived.Test.YtdkknknebehkgaaGreatDoorSf
namespace Go.Proofs.YtdkknknebehkgaaGreatDoor.Sl
set_option linter.unusedVariables false
set_option linter.unusedSimpArgs false
open Go Go.RowKit
theorem Sat.one {w0 w : World} {M : List Nat} {h : List HO} {o : HO} (S : Sat w0 M h w) (hm : o ∈ h) : Sat w0 M [o] w :=
  ⟨S.keeps, fun x hx => by rw [List.mem_singleton.1 hx]; exact S.ok o hm, List.pairwise_singleton ..⟩
theorem Sat.oldRow {α : Type} {en : α → List Value} (z : α) {w0 w : World} {M : List Nat} {hc fr : List HO} {E size n c : Nat} {A : Option Addr} {l : List α} (S : Sat w0 M (hc ++ fr) w) (hm : HO.rw 0 (.slice A n c) E size (l.map en) ∈ fr) (hn : n = l.length) :
    Old w (blks hc) A size l.length (fun i => en (l.getD i z)) := by
  have S1 := Sat.one S (List.mem_append_right hc hm)
  refine ⟨Sat.rdmapN z S1 .head hn, fun h0 a ha hb => ?_⟩
  subst ha
  obtain ⟨_, _, hap⟩ := List.pairwise_append.1 S.apart
  obtain ⟨o2, h2, h3⟩ := blks_mem hb
  exact hap o2 h2 _ hm a.block h3 rfl
theorem Sat.oldOf {w0 w : World} {M : List Nat} {hc fr : List HO} {b : Nat} {T : TypeId} {cs : List Value} (S : Sat w0 M (hc ++ fr) w) (hm : HO.cl b T cs ∈ fr) : OldB w (blks hc) b T cs := by
  obtain ⟨_, _, hap⟩ := List.pairwise_append.1 S.apart
  refine ⟨(S.ok _ (List.mem_append_right _ hm)).1, fun hb => ?_⟩
  obtain ⟨o2, h2, h3⟩ := blks_mem hb
  exact hap o2 h2 _ hm b h3 rfl
/-- what is known of the sizes while pairs are made -/
structure Szs (w0 : World) (M : List Nat) (xs ys : List Int) (lo hi : Int) (b3 b4 b5 : Nat) (X Y : Option Addr) (cx cy : Nat) : Prop where
  rx : Old w0 M X 1 xs.length (fun i => zC (xs.getD i 0))
  ry : Old w0 M Y 1 ys.length (fun i => zC (ys.getD i 0))
  e3 : OldB w0 M b3 40 [.slice X xs.length cx]
  e4 : OldB w0 M b4 40 [.slice Y ys.length cy]
  e5 : OldB w0 M b5 47 [.int .i64 lo, .int .i64 hi]
abbrev szR (xs : List Int) : Prop := ∀ i, i < xs.length → 0 ≤ xs.getD i 0 ∧ xs.getD i 0 ≤ 100000
abbrev ftB (xs ys : List Int) (lo hi : Int) (i j : Nat) : Bool := fitB lo hi (xs.getD i 0) (ys.getD j 0)
theorem OldB.now0 {w0 w : World} {M : List Nat} {h : List HO} {b : Nat} {T : TypeId} {cs : List Value} (O : OldB w0 M b T cs) (S : Sat w0 M h w) : OldB w [] b T cs := ⟨O.now S, by simp⟩
theorem Szs.ft {w0 : World} {M : List Nat} {xs ys : List Int} {lo hi : Int} {b3 b4 b5 : Nat} {X Y : Option Addr} {cx cy : Nat} (Z : Szs w0 M xs ys lo hi b3 b4 b5 X Y cx cy) (hx : szR xs) (hy : szR ys) :
    ∀ i j, i < xs.length → j < ys.length → ∀ h w, Sat w0 M h w → Calls Tryz.prog 36 #[.int .i64 (i : Int), .int .i64 (j : Int), .pointer (some ⟨b3, 0, none⟩), .pointer (some ⟨b4, 0, none⟩), .pointer (some ⟨b5, 0, none⟩)] w (RetP (Val (.bool (ftB xs ys lo hi i j)) w)) :=
  fun i j hi' hj _ w S => most1_c hx hy i j hi' hj w (Z.rx.now S) (Z.ry.now S) (OldB.now0 Z.e3 S) (OldB.now0 Z.e4 S) (OldB.now0 Z.e5 S)
/-- a matching in memory -/
structure Mt where
  bm : Nat
  H : Option Addr
  cH : Nat
  P : Option Addr
  cP : Nat
  V : Option Addr
  cV : Nat
  G : Option Addr
  cG : Nat
  oh : List Int
  op : List Int
  fx : List Bool
  gv : List Bool
abbrev Mt.hs (m : Mt) (b3 b4 b5 nx ny : Nat) : List HO :=
  [.cl m.bm 84 [hF b3 b4 b5, .slice m.H nx m.cH, .slice m.P ny m.cP, .slice m.V nx m.cV, .slice m.G ny m.cG], .rw 0 (.slice m.H nx m.cH) 3 1 (m.oh.map zC), .rw 0 (.slice m.P ny m.cP) 3 1 (m.op.map zC),
   .rw 0 (.slice m.V nx m.cV) 4 1 (m.fx.map bC), .rw 0 (.slice m.G ny m.cG) 4 1 (m.gv.map bC)]
abbrev szB (b3 b4 b5 : Nat) (X Y : Option Addr) (nx ny cx cy : Nat) (lo hi : Int) : List HO :=
  [.cl b3 40 [.slice X nx cx], .cl b4 40 [.slice Y ny cy], .cl b5 47 [.int .i64 lo, .int .i64 hi]]
theorem Sat.asRowN {α : Type} {en : α → List Value} {z : α} {w0 w : World} {M : List Nat} {h : List HO} {b E n : Nat} {v : Value} {F : HO → List HO} (he : en z = [v]) (S : Sat w0 M h w) (hr : RepF h (.cl b E (List.replicate n v)) F) (hn : n ≤ 1000000) :
    Sat w0 M (F (.rw 0 (.slice (some ⟨b, 0, none⟩) n n) E 1 ((List.replicate n z).map en))) w := by
  have S1 := S.asRow hr (by rw [List.length_replicate]; exact hn)
  rw [List.length_replicate, List.map_replicate] at S1
  rw [List.map_replicate, he]
  exact S1
theorem perm10 {α : Type} (a b c d e f g h i j : α) : [a, b, c, d, e, f, g, h, i, j].Perm ([a, i, j, c, b, h, g, f] ++ [d, e]) :=
  show (([0, 1, 2, 3, 4, 5, 6, 7, 8, 9] : List Nat).map fun k => [a, b, c, d, e, f, g, h, i, j].getD k a).Perm (([0, 8, 9, 2, 1, 7, 6, 5, 3, 4] : List Nat).map fun k => [a, b, c, d, e, f, g, h, i, j].getD k a) from List.Perm.map _ (by decide)
/-- what is known when all holes up to i were grown -/
structure MI (nx ny : Nat) (AF : Prop) (i : Nat) (oh op : List Int) : Prop where
  cons : Cons nx ny oh op
  free : ∀ h, i ≤ h → h < nx → gI oh h = -1
  full : AF → (∀ h, h < i → 0 ≤ gI oh h) ∨ ∀ p, p < ny → 0 ≤ gI op p
theorem gI_rep (n j : Nat) : gI (List.replicate n (-1)) j = -1 := by
  simp only [gI, List.getD_eq_getElem?_getD, List.getElem?_replicate]
  split <;> rfl
theorem MI.start (nx ny : Nat) (AF : Prop) : MI nx ny AF 0 (List.replicate nx (-1)) (List.replicate ny (-1)) :=
  ⟨⟨List.length_replicate .., List.length_replicate .., fun h _ => by rw [gI_rep]; omega, fun p _ => by rw [gI_rep]; omega, fun h p _ _ => by rw [gI_rep, gI_rep]; omega⟩, fun h _ _ => gI_rep .., fun _ => .inl fun h hh => absurd hh (Nat.not_lt_zero _)⟩
theorem MI.step {nx ny i : Nat} {AF : Prop} {oh op : List Int} (I : MI nx ny AF i oh op) (hi : i < nx) (r : GRes nx ny (List.replicate ny false) AF i oh op) : MI nx ny AF (i + 1) r.oh' r.op' := by
  cases hb : r.b with
  | false =>
    obtain ⟨e1, e2⟩ := r.no hb
    rw [e1, e2]
    refine ⟨I.cons, fun h h1 h2 => I.free h (by omega) h2, fun a => .inr fun p hp => ?_⟩
    have h1 := r.all hb a p hp (gB_rep _ _)
    have h2 := I.cons.rp p hp
    omega
  | true =>
    have N := r.yes hb
    refine ⟨r.cons, fun h h1 h2 => (N.same h h2 (by omega)).2 (I.free h (by omega) h2), fun a => ?_⟩
    rcases I.full a with h1 | h1
    · refine .inl fun h hh => ?_
      by_cases e : h = i
      · subst e; exact N.got
      · have h2 := h1 h (by omega)
        have h3 := N.same h (by omega) e
        have h4 := N.rh h (by omega)
        omega
    · exfalso
      have h2 := N.size I.cons hi (I.free i (Nat.le_refl _) hi)
      have h3 := I.cons.cnt
      have h4 := mt_all.2 h1
      have h5 := r.cons.cnt
      have h6 := mt_le ny r.op'
      omega
theorem MI.done {nx ny : Nat} {AF : Prop} {oh op : List Int} (I : MI nx ny AF nx oh op) (a : AF) : Full nx ny oh op := I.full a
set_option maxRecDepth 100000 in
theorem e_most : Ent Tryz.prog 23 := fun _ _ => rfl
set_option maxRecDepth 8000 in
set_option maxHeartbeats 4000000 in
theorem most_c {X Y : Option Addr} {cx cy : Nat} {xs ys : List Int} {lo hi : Int} (hx : szR xs) (hy : szR ys) (hnx : xs.length ≤ 8) (hny : ys.length ≤ 8) (w : World)
    (RX : Rd w X 1 xs.length (fun i => zC (xs.getD i 0))) (RY : Rd w Y 1 ys.length (fun i => zC (ys.getD i 0))) :
    Calls Tryz.prog 23 #[.slice X xs.length cx, .slice Y ys.length cy, .agg #[.int .i64 lo, .int .i64 hi]] w (RetP fun v w' => ∃ r : Mt × Nat × Nat × Nat, v = .pointer (some ⟨r.1.bm, 0, none⟩) ∧ (Cons xs.length ys.length r.1.oh r.1.op ∧ r.1.fx = List.replicate xs.length false ∧ r.1.gv = List.replicate ys.length false ∧ ((∀ i j, i < xs.length → j < ys.length → ftB xs ys lo hi i j = true) → Full xs.length ys.length r.1.oh r.1.op)) ∧ Sat w [] (r.1.hs r.2.1 r.2.2.1 r.2.2.2 xs.length ys.length ++ szB r.2.1 r.2.2.1 r.2.2.2 X Y xs.length ys.length cx cy lo hi) w') := by
  refine calls_of_cw (args := [.slice X xs.length cx, .slice Y ys.length cy, .agg #[.int .i64 lo, .int .i64 hi]]) Tryz.func23 rfl rfl ?_
  have S := Sat.start [] w
  have OX := RX.old
  have OY := RY.old
  (repeat' (first | apply cw_seq | apply cw_region | apply wl_nil | apply cw_block | (apply z3_makeSlice; exact rfl; exact rfl; exact rfl; exact rfl; exact rfl; exact rfl; (exact by omega); intro _) | (apply Rl.z1_callT; exact rfl; exact rfl; exact e_Repeat; (exact (by repeat' constructor)); (exact fun _ Sx => Repeat_c _ (by assumption) _ (Sat.oldb Sx (by exact (by repeat' constructor)) (Keeps.refl _ _))); intro _) | (apply cw_draw (id := 1) [(0, 0), (2, 0), (3, 0), (6, 0), (7, 0), (9, 0), (10, 0), (12, 0), (13, 0), (1, 4), (4, 1), (5, 4), (8, 1), (11, 4), (14, 4), (15, 0), (16, 2), (17, 0)]; assumption; exact mixed; kernel_rfl) | (apply x_move; exact rfl; exact rfl; (exact (by repeat' constructor))) | (apply x_assign; exact rfl; exact rfl; (exact (by repeat' constructor))) | (apply x_load; assumption; exact rfl; exact rfl; exact rfl; (exact (by repeat' constructor)); exact rfl; exact rfl; (exact (by repeat' constructor))) | (apply x_box; assumption; exact rfl; exact rfl; (exact (by repeat' constructor)); (exact (by repeat' constructor)); intro _ _ _) | (apply x_builtin; exact rfl; exact rfl; exact (fun _ => rfl); (exact (by repeat' constructor))) | (apply y_assign; exact rfl; (exact (by repeat' constructor))) | (apply y_load; exact rfl; exact rfl; (exact (by repeat' constructor)); exact rfl; exact rfl; (exact (by repeat' constructor))) | (apply y_build; exact rfl; exact rfl; (exact (by repeat' constructor))) | (apply y_builtin; exact rfl; exact (fun _ _ => rfl); (exact (by repeat' constructor))) | (apply y_makeFunc; exact rfl; (exact (by repeat' constructor))) | (apply z2_box; exact rfl; (exact (by repeat' constructor)); (exact (by repeat' constructor)); intro _) | (apply z3_buildSlice; exact rfl; (exact (by repeat' constructor)); intro _) | (apply y_nil; intro _ _)))
  rename_i b3 w1 S1 b4 w2 S2 b5 w3 S3 bX aH bY aP bV bG bm w4 S4
  replace S4 := (S4.perm' (perm10 _ _ _ _ _ _ _ _ _ _)).drop _ (List.sublist_append_left _ _)
  replace S4 := Sat.asRowN (en := zC) (z := (-1 : Int)) rfl S4 (.tail .head) (by omega)
  replace S4 := Sat.asRowN (en := zC) (z := (-1 : Int)) rfl S4 (.tail (.tail .head)) (by omega)
  replace S4 := Sat.asRowN (en := bC) (z := false) rfl S4 (.tail (.tail (.tail .head))) (by omega)
  replace S4 := Sat.asRowN (en := bC) (z := false) rfl S4 (.tail (.tail (.tail (.tail .head)))) (by omega)
  refine cw_loop [8, 28, 29, 30, 31, 32, 33, 34] [28] (fun us wr => ∃ (i : Nat) (oh op : List Int), i ≤ xs.length ∧ us = [.int .i64 i] ∧ MI xs.length ys.length (∀ i j, i < xs.length → j < ys.length → ftB xs ys lo hi i j = true) i oh op ∧
    Sat w [] ((⟨bm, some ⟨aH, 0, none⟩, xs.length, some ⟨aP, 0, none⟩, ys.length, some ⟨bV, 0, none⟩, xs.length, some ⟨bG, 0, none⟩, ys.length, oh, op, List.replicate xs.length false, List.replicate ys.length false⟩ : Mt).hs b3 b4 b5 xs.length ys.length ++ szB b3 b4 b5 X Y xs.length ys.length cx cy lo hi) wr) (fun us _ => xs.length - (intOf (us.getD 0 undef)).toNat) ?_ ?_
  · exact ⟨0, _, _, Nat.zero_le _, rfl, MI.start _ _ _, S4⟩
  clear S S1 S2 S3 S4
  rintro g us wr ⟨i, oh, op, hi', rfl, I, Sr⟩
  by_cases hlt : i < xs.length
  · have SP : Sat w [] (mF bm (hF b3 b4 b5) (.slice (some ⟨bV, 0, none⟩) xs.length xs.length) (some ⟨bG, 0, none⟩) ys.length (some ⟨aH, 0, none⟩) xs.length (some ⟨aP, 0, none⟩) ys.length xs.length ys.length oh op ++
      (.rw 0 (.slice (some ⟨bV, 0, none⟩) xs.length xs.length) 4 1 ((List.replicate xs.length false).map bC) :: .rw 0 (.slice (some ⟨bG, 0, none⟩) ys.length ys.length) 4 1 ((List.replicate ys.length false).map bC) :: szB b3 b4 b5 X Y xs.length ys.length cx cy lo hi)) wr := Sr
    have Z : Szs wr (blks (mF bm (hF b3 b4 b5) (.slice (some ⟨bV, 0, none⟩) xs.length xs.length) (some ⟨bG, 0, none⟩) ys.length (some ⟨aH, 0, none⟩) xs.length (some ⟨aP, 0, none⟩) ys.length xs.length ys.length oh op)) xs ys lo hi b3 b4 b5 X Y cx cy :=
      ⟨OX.next (fun i _ => by simp [zC]) SP, OY.next (fun i _ => by simp [zC]) SP, Sat.oldOf SP (.tail _ (.tail _ (.head _))), Sat.oldOf SP (.tail _ (.tail _ (.tail _ (.head _)))), Sat.oldOf SP (.tail _ (.tail _ (.tail _ (.tail _ (.head _)))))⟩
    have OG := Sat.oldRow (en := bC) false SP (.tail _ (.head _)) (List.length_replicate ..).symm
    rw [List.length_replicate] at OG
    replace Sr : Sat w [] (_ :: _ :: _ :: _ :: _ :: _ :: _ :: _ :: []) wr := Sr
    (repeat' (first | apply cw_seq | apply cw_region | apply wl_nil | apply cw_block | apply cw_skip | (apply x_callC (bd := []) (hc := mF bm (hF b3 b4 b5) (.slice (some ⟨bV, 0, none⟩) xs.length xs.length) (some ⟨bG, 0, none⟩) ys.length (some ⟨aH, 0, none⟩) xs.length (some ⟨aP, 0, none⟩) ys.length xs.length ys.length oh op) (fr := .rw 0 (.slice (some ⟨bV, 0, none⟩) xs.length xs.length) 4 1 ((List.replicate xs.length false).map bC) :: .rw 0 (.slice (some ⟨bG, 0, none⟩) ys.length ys.length) 4 1 ((List.replicate ys.length false).map bC) :: szB b3 b4 b5 X Y xs.length ys.length cx cy lo hi); assumption; exact rfl; exact rfl; exact rfl; exact e_grow; (exact (by repeat' constructor)); exact List.Perm.refl _; (exact fun Sc => grow_c (by omega) (by omega) (Z.ft hx hy) (fun a => a) (List.length_replicate ..) OG i oh op _ hlt I.cons (I.free i (Nat.le_refl _) hlt) Sc); (intro r w2 S2); (replace S2 : Sat w [] (_ :: _ :: _ :: _ :: _ :: _ :: _ :: _ :: []) w2 := S2)) | (apply x_move; exact rfl; exact rfl; (exact (by repeat' constructor))) | (apply x_assign; exact rfl; exact rfl; (exact (by repeat' constructor))) | (apply x_bin; exact rfl; exact rfl; exact rfl; (first | exact .z (.wrap (by omega)) | exact (by repeat' constructor))) | (apply x_dec; exact rfl; all_goals (intro _; try omega))))
    refine ⟨rfl, (by repeat (first | exact Agree.updl rfl (Agree.mask _ _ _) | refine Agree.upd rfl ?_)), ⟨i + 1, r.oh', r.op', hlt, rfl, I.step hlt r, by assumption⟩, ?_⟩
    show xs.length - (i + 1 : Int).toNat < xs.length - (i : Int).toNat
    omega
  · have hie : i = xs.length := by omega
    subst hie
    replace Sr : Sat w [] (_ :: _ :: _ :: _ :: _ :: _ :: _ :: _ :: []) wr := Sr
    (repeat' (first | apply cw_seq | apply cw_region | apply wl_nil | apply cw_exit | apply cw_ret | (apply x_move; exact rfl; exact rfl; (exact (by repeat' constructor))) | (apply x_assign; exact rfl; exact rfl; (exact (by repeat' constructor))) | (apply x_bin; exact rfl; exact rfl; exact rfl; (first | exact .z (.wrap (by omega)) | exact (by repeat' constructor))) | (apply x_dec; exact rfl; all_goals (intro _; try omega))))
    (first | refine q_retS (by assumption) rfl (by repeat (first | exact .nil | (apply RV.tmp; exact (by repeat' constructor)) | (apply RV.cell; exact rfl; exact (by repeat' constructor); exact rfl; exact rfl; exact (by repeat' constructor)))) ?_ | (simp only [thenQ, blockQ]; refine q_retS (by assumption) rfl (by repeat (first | exact .nil | (apply RV.tmp; exact (by repeat' constructor)) | (apply RV.cell; exact rfl; exact (by repeat' constructor); exact rfl; exact rfl; exact (by repeat' constructor)))) ?_))
    exact ⟨(⟨bm, some ⟨aH, 0, none⟩, xs.length, some ⟨aP, 0, none⟩, ys.length, some ⟨bV, 0, none⟩, xs.length, some ⟨bG, 0, none⟩, ys.length, oh, op, List.replicate xs.length false, List.replicate ys.length false⟩, b3, b4, b5), rfl, ⟨I.cons, rfl, rfl, I.done⟩, by assumption⟩
end Go.Proofs.YtdkknknebehkgaaGreatDoor.Sl

namespace Go.Proofs.YtdkknknebehkgaaGreatDoor.Sl
set_option linter.unusedVariables false
set_option linter.unusedSimpArgs false
open Go Go.RowKit
/-- what is known while the matching grows again: A says that all is as it should be -/
structure WI (nx ny : Nat) (gv : List Bool) (A : Prop) (sz i : Nat) (p0 oh op : List Int) : Prop where
  cons : Cons nx ny oh op
  kept : ∀ q, q < ny → gB gv q = true → gI op q = gI p0 q
  all : A → (mt nx oh).length = sz ∨ ((mt nx oh).length + 1 = sz ∧ (∃ h, i ≤ h ∧ h < nx ∧ gI oh h = -1) ∧ ∃ q, q < ny ∧ gB gv q = false ∧ gI op q = -1)
section
variable {nx ny : Nat} {gv : List Bool} {A : Prop} {sz i hole pin : Nat} {p0 oh op : List Int}
theorem WI.start (C : Cons nx ny oh op) (hh : hole < nx) (hp : pin < ny) (hl : gv.length = ny) (hF : A → Full nx ny oh op) (hg : A → ∀ q, q < ny → gB gv q = true → gI op q ≠ hole) :
    WI nx ny (gv.set pin true) A (mt nx oh).length 0 (swP oh op hole pin) (swH oh op hole pin) (swP oh op hole pin) := by
  refine ⟨sw_cons C hh hp, fun _ _ _ => rfl, fun a => ?_⟩
  rcases sw_size C (hF a) hh hp with h | ⟨h1, ⟨h, h2, h3⟩, q, h4, h5, h6, h7⟩
  · exact .inl h
  · refine .inr ⟨h1, ⟨h, Nat.zero_le _, h2, h3⟩, q, h4, ?_, h7⟩
    rw [gB_set (by omega), if_neg (fun e => h5 e.symm)]
    cases hb : gB gv q with
    | false => rfl
    | true => exact absurd h6 (hg a q h4 hb)
theorem WI.skip (W : WI nx ny gv A sz i p0 oh op) (h : 0 ≤ gI oh i) : WI nx ny gv A sz (i + 1) p0 oh op :=
  ⟨W.cons, W.kept, fun a => (W.all a).imp id fun ⟨h1, ⟨h2, h3, h4, h5⟩, h6⟩ => ⟨h1, ⟨h2, by
    have : h2 ≠ i := by rintro rfl; omega
    omega, h4, h5⟩, h6⟩⟩
theorem WI.grow (W : WI nx ny gv A sz i p0 oh op) (hi : i < nx) (hf : gI oh i = -1) (hs : (mt nx oh).length ≠ sz) (r : GRes nx ny gv A i oh op) : WI nx ny gv A sz (i + 1) p0 r.oh' r.op' := by
  cases hb : r.b with
  | true =>
    have N := r.yes hb
    refine ⟨r.cons, fun q hq hg => (N.given q hq hg).trans (W.kept q hq hg), fun a => .inl ?_⟩
    have h1 := N.size W.cons hi hf
    rcases W.all a with h2 | ⟨h2, _⟩
    · exact absurd h2 hs
    · omega
  | false =>
    obtain ⟨e1, e2⟩ := r.no hb
    rw [e1, e2]
    refine ⟨W.cons, W.kept, fun a => ?_⟩
    rcases W.all a with h2 | ⟨h2, _, q, h3, h4, h5⟩
    · exact absurd h2 hs
    · exact absurd h5 (r.all hb a q h3 h4)
theorem WI.done (W : WI nx ny gv A sz nx p0 oh op) (a : A) : (mt nx oh).length = sz := by
  rcases W.all a with h | ⟨_, ⟨h, h1, h2, _⟩, _⟩
  · exact h
  · omega
end
theorem Szs.next {w0 w : World} {M : List Nat} {hc fr : List HO} {xs ys : List Int} {lo hi : Int} {b3 b4 b5 : Nat} {X Y : Option Addr} {cx cy : Nat} (Z : Szs w0 M xs ys lo hi b3 b4 b5 X Y cx cy) (S : Sat w0 M (hc ++ fr) w) : Szs w (blks hc) xs ys lo hi b3 b4 b5 X Y cx cy :=
  ⟨Z.rx.next (fun i _ => by simp [zC]) S, Z.ry.next (fun i _ => by simp [zC]) S, OldB.next Z.e3 S, OldB.next Z.e4 S, OldB.next Z.e5 S⟩
theorem zC_len (a : Int) : (zC a).length = 1 := rfl
theorem bC_len (a : Bool) : (bC a).length = 1 := rfl
set_option maxRecDepth 100000 in
theorem e_CloneI : Ent Tryz.prog 40 := fun _ _ => rfl
set_option maxRecDepth 8000 in
set_option maxHeartbeats 4000000 in
theorem CloneI_c (A : Option Addr) (cA : Nat) (l : List Int) (hl : l.length < 1000000000) (hp : 0 < l.length) (w : World) (R : Rd w A 1 l.length (fun i => zC (l.getD i (-1)))) :
    Calls Tryz.prog 40 #[.slice A l.length cA] w (RetP (RowR (fun v => v) 3 1 (l.map zC) w)) := by
  refine calls_of_cw (args := [.slice A l.length cA]) Tryz.func40 rfl rfl ?_
  have S := Sat.start [] w
  have O := R.old
  obtain ⟨a, rfl⟩ := Option.isSome_iff_exists.1 (R.some_ hp)
  (repeat' (first | apply cw_seq | apply cw_region | apply wl_nil | apply cw_skip | apply cw_ret | (apply x_appendAllB (l := l) (en := zC) (-1 : Int) zC_len (Old.now O (by assumption)) hl hp; assumption; exact rfl; exact rfl; exact rfl; exact rfl; exact rfl; exact .inr ⟨_, rfl⟩; exact rfl; intro _ _ _ _ _) | (apply x_buildSlice0; assumption; exact rfl; exact rfl; exact rfl; intro _ _ _ _ _) | (apply x_move; exact rfl; exact rfl; (exact (by repeat' constructor))) | (apply x_assign; exact rfl; exact rfl; (exact (by repeat' constructor))) | (apply x_bin; exact rfl; exact rfl; exact rfl; (first | exact .z (.wrap (by omega)) | exact (by repeat' constructor))) | (apply cw_false; exact rfl)))
  (first | refine q_retS (by assumption) rfl (by repeat (first | exact .nil | (apply RV.tmp; exact (by repeat' constructor)) | (apply RV.cell; exact rfl; exact (by repeat' constructor); exact rfl; exact rfl; exact (by repeat' constructor)))) ?_ | (simp only [thenQ, blockQ]; refine q_retS (by assumption) rfl (by repeat (first | exact .nil | (apply RV.tmp; exact (by repeat' constructor)) | (apply RV.cell; exact rfl; exact (by repeat' constructor); exact rfl; exact rfl; exact (by repeat' constructor)))) ?_))
  exact rowR_n (V := fun v => v) (List.length_map _).symm (by assumption) .head
set_option maxRecDepth 100000 in
theorem e_CloneB : Ent Tryz.prog 41 := fun _ _ => rfl
set_option maxRecDepth 8000 in
set_option maxHeartbeats 4000000 in
theorem CloneB_c (A : Option Addr) (cA : Nat) (l : List Bool) (hl : l.length < 1000000000) (hp : 0 < l.length) (w : World) (R : Rd w A 1 l.length (fun i => bC (l.getD i false))) :
    Calls Tryz.prog 41 #[.slice A l.length cA] w (RetP (RowR (fun v => v) 4 1 (l.map bC) w)) := by
  refine calls_of_cw (args := [.slice A l.length cA]) Tryz.func41 rfl rfl ?_
  have S := Sat.start [] w
  have O := R.old
  obtain ⟨a, rfl⟩ := Option.isSome_iff_exists.1 (R.some_ hp)
  (repeat' (first | apply cw_seq | apply cw_region | apply wl_nil | apply cw_skip | apply cw_ret | (apply x_appendAllB (l := l) (en := bC) false bC_len (Old.now O (by assumption)) hl hp; assumption; exact rfl; exact rfl; exact rfl; exact rfl; exact rfl; exact .inr ⟨_, rfl⟩; exact rfl; intro _ _ _ _ _) | (apply x_buildSlice0; assumption; exact rfl; exact rfl; exact rfl; intro _ _ _ _ _) | (apply x_move; exact rfl; exact rfl; (exact (by repeat' constructor))) | (apply x_assign; exact rfl; exact rfl; (exact (by repeat' constructor))) | (apply x_bin; exact rfl; exact rfl; exact rfl; (first | exact .z (.wrap (by omega)) | exact (by repeat' constructor))) | (apply cw_false; exact rfl)))
  (first | refine q_retS (by assumption) rfl (by repeat (first | exact .nil | (apply RV.tmp; exact (by repeat' constructor)) | (apply RV.cell; exact rfl; exact (by repeat' constructor); exact rfl; exact rfl; exact (by repeat' constructor)))) ?_ | (simp only [thenQ, blockQ]; refine q_retS (by assumption) rfl (by repeat (first | exact .nil | (apply RV.tmp; exact (by repeat' constructor)) | (apply RV.cell; exact rfl; exact (by repeat' constructor); exact rfl; exact rfl; exact (by repeat' constructor)))) ?_))
  exact rowR_n (V := fun v => v) (List.length_map _).symm (by assumption) .head
theorem CloneI_n (A : Option Addr) (cA n : Nat) (l : List Int) (hn : l.length = n) (hl : n < 1000000000) (hp : 0 < n) (w : World) (R : Rd w A 1 n (fun i => zC (l.getD i (-1)))) :
    Calls Tryz.prog 40 #[.slice A n cA] w (RetP (RowR (fun v => v) 3 1 (l.map zC) w)) := by
  subst hn; exact CloneI_c A cA l hl hp w R
theorem CloneB_n (A : Option Addr) (cA n : Nat) (l : List Bool) (hn : l.length = n) (hl : n < 1000000000) (hp : 0 < n) (w : World) (R : Rd w A 1 n (fun i => bC (l.getD i false))) :
    Calls Tryz.prog 41 #[.slice A n cA] w (RetP (RowR (fun v => v) 4 1 (l.map bC) w)) := by
  subst hn; exact CloneB_c A cA l hl hp w R
theorem size_n {bm n : Nat} {T : TypeId} {F OP FX GV : Value} {H : Option Addr} {cH : Nat} {oh : List Int} (hl : oh.length = n) (hn : n ≤ 100000) (w : World) (B : OldB w [] bm T (mCs F (.slice H n cH) OP FX GV)) (R : Rd w H 1 n (fun i => zC (oh.getD i (-1)))) :
    Calls Tryz.prog 42 #[.pointer (some ⟨bm, 0, none⟩)] w (RetP (Val (.int .i64 ((mt n oh).length : Nat)) w)) := by
  subst hl; exact size_c hn w B R
theorem bset {l : List Bool} {n i : Nat} {v : Bool} (hl : l.length = n) (hi : i < n) : (l.map bC).set i (((l.map bC).getD i []).set 0 (.bool v)) = (l.set i v).map bC := by
  have e : (l.map bC).getD i [] = bC (l.getD i false) := by simp [List.getD_eq_getElem?_getD, hl, hi]
  rw [e, List.map_set]; rfl
end Go.Proofs.YtdkknknebehkgaaGreatDoor.Sl
