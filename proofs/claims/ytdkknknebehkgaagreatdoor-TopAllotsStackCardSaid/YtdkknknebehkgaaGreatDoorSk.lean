/- Pairs of holes and pins: right sizes are found to be so. No statement of the seat is proved here. -/
import Derived.Test.YtdkknknebehkgaaGreatDoorSj
namespace Go.Proofs.YtdkknknebehkgaaGreatDoor.Sl
set_option linter.unusedVariables false
set_option linter.unusedSimpArgs false
open Go Go.RowKit
set_option maxRecDepth 100000 in
theorem e_check1 : Ent Tryz.prog 56 := fun _ _ => rfl
set_option maxRecDepth 4000 in
set_option maxHeartbeats 2000000 in
theorem check1_c (z : Int) (hz : 0 ≤ z ∧ z ≤ 100000) (w : World) : Calls Tryz.prog 56 #[.int .i64 z] w (RetP (Val (.bool false) w)) := by
  refine calls_of_cw (args := [.int .i64 z]) Tryz.func56 rfl rfl ?_
  have S := Sat.start [] w
  (repeat' (first | apply cw_seq | apply cw_region | apply wl_nil | apply cw_ret | (apply x_move; exact rfl; exact rfl; (exact (by repeat' constructor))) | (apply x_assign; exact rfl; exact rfl; (exact (by repeat' constructor))) | (apply x_bin; exact rfl; exact rfl; exact rfl; (first | exact .z (.wrap (by omega)) | exact (by repeat' constructor))) | (apply x_pick; exact rfl; exact rfl; exact rfl; (exact (by repeat' constructor))) | (apply x_gdec; exact rfl; exact rfl; all_goals (intro _; try omega))))
  all_goals first
    | ((first | refine q_retS (by assumption) rfl (by repeat (first | exact .nil | (apply RV.tmp; exact (by repeat' constructor)) | (apply RV.cell; exact rfl; exact (by repeat' constructor); exact rfl; exact rfl; exact (by repeat' constructor)))) ?_ | (simp only [thenQ, blockQ]; refine q_retS (by assumption) rfl (by repeat (first | exact .nil | (apply RV.tmp; exact (by repeat' constructor)) | (apply RV.cell; exact rfl; exact (by repeat' constructor); exact rfl; exact rfl; exact (by repeat' constructor)))) ?_))
       refine ⟨?_, Sat.keeps (by assumption)⟩
       show Value.bool _ = Value.bool _
       congr 1
       simp_all; try omega)
    | (exfalso; omega)
set_option maxRecDepth 100000 in
theorem e_indexI : Ent Tryz.prog 71 := fun _ _ => rfl
set_option maxRecDepth 4000 in
set_option maxHeartbeats 2000000 in
theorem indexI_c (A : Option Addr) (c : Nat) (l : List Int) (hl : l.length ≤ 8) (hr : szR l) (w : World) (R : Rd w A 1 l.length (fun i => zC (l.getD i 0))) : Calls Tryz.prog 71 #[.slice A l.length c, .func (.func 56) #[] #[]] w (RetP (Val (.int .i64 (-1)) w)) := by
  refine calls_of_cw (args := [.slice A l.length c, .func (.func 56) #[] #[]]) Tryz.func71 rfl rfl ?_
  have S := Sat.start [] w
  have O := (R).old
  (repeat' (first | apply cw_seq | apply cw_region | apply wl_nil | apply cw_block | (apply x_move; exact rfl; exact rfl; (exact (by repeat' constructor))) | (apply x_assign; exact rfl; exact rfl; (exact (by repeat' constructor))) | (apply x_builtin; exact rfl; exact rfl; exact (fun _ => rfl); (exact (by repeat' constructor)))))
  refine cw_loop [4, 5, 8, 9, 10, 11, 12, 13, 14, 15, 16, 17, 18] [8] (fun us wr => ∃ k : Nat, k ≤ l.length ∧ us = [.int .i64 k] ∧ Sat w [] [] wr) (fun us _ => l.length - (intOf (us.getD 0 undef)).toNat) ?_ ?_
  · exact ⟨0, by omega, rfl, S⟩
  clear S
  rintro g' us wr ⟨k, hk, rfl, Sr⟩
  by_cases hlt : k < l.length
  · have hz := hr k hlt
    (repeat' (first | apply cw_seq | apply cw_region | apply wl_nil | apply cw_block | apply cw_skip | (apply x_callv; assumption; exact rfl; exact rfl; exact rfl; exact e_check1; (exact (by repeat' constructor)); exact (check1_c (l.getD k 0) hz _); intro _ _ _) | (apply x_move; exact rfl; exact rfl; (exact (by repeat' constructor))) | (apply x_assign; exact rfl; exact rfl; (exact (by repeat' constructor))) | (apply x_bin; exact rfl; exact rfl; exact rfl; (first | exact .z (.wrap (by omega)) | exact (by repeat' constructor))) | (apply x_index; exact rfl; exact rfl; exact rfl; exact rfl; exact rfl; (constructor); (first | omega | exact size_pos (by assumption) | assumption); (first | exact rfl | assumption | exact Rd.some_ (by assumption) (by omega) | exact Rd.some_ (Old.rd (by assumption)) (by omega) | exact (Sat.rd (by assumption) (by exact (by repeat' constructor))).some_ (by omega))) | (apply x_loadR; exact rfl; exact rfl; exact rfl; (first | exact Old.now (by assumption) (by assumption) | exact Sat.rdpr (by assumption) (by exact (by repeat' constructor)) | exact Sat.rd (by assumption) (by exact (by repeat' constructor))); (first | omega | exact size_pos (by assumption) | assumption); exact rfl; exact rfl; (exact (by repeat' constructor))) | (apply cw_false; exact rfl) | (apply x_dec; exact rfl; all_goals (intro _; try omega))))
    refine ⟨rfl, (by repeat (first | exact Agree.updl rfl (Agree.mask _ _ _) | refine Agree.upd rfl ?_)), ⟨k + 1, hlt, rfl, by assumption⟩, ?_⟩
    show l.length - (k + 1 : Int).toNat < l.length - (k : Int).toNat
    omega
  · have hk2 : k = l.length := by omega
    subst hk2
    (repeat' (first | apply cw_seq | apply cw_region | apply wl_nil | apply cw_exit | apply cw_ret | (apply x_assign; exact rfl; exact rfl; (exact (by repeat' constructor))) | (apply x_bin; exact rfl; exact rfl; exact rfl; (first | exact .z (.wrap (by omega)) | exact (by repeat' constructor))) | (apply x_dec; exact rfl; all_goals (intro _; try omega))))
    (first | refine q_retS (by assumption) rfl (by repeat (first | exact .nil | (apply RV.tmp; exact (by repeat' constructor)) | (apply RV.cell; exact rfl; exact (by repeat' constructor); exact rfl; exact rfl; exact (by repeat' constructor)))) ?_ | (simp only [thenQ, blockQ]; refine q_retS (by assumption) rfl (by repeat (first | exact .nil | (apply RV.tmp; exact (by repeat' constructor)) | (apply RV.cell; exact rfl; exact (by repeat' constructor); exact rfl; exact rfl; exact (by repeat' constructor)))) ?_))
    exact ⟨rfl, Sat.keeps (by assumption)⟩
set_option maxRecDepth 100000 in
theorem e_contI : Ent Tryz.prog 55 := fun _ _ => rfl
set_option maxRecDepth 4000 in
set_option maxHeartbeats 2000000 in
theorem contI_c (A : Option Addr) (c : Nat) (l : List Int) (hl : l.length ≤ 8) (hr : szR l) (w : World) (R : Rd w A 1 l.length (fun i => zC (l.getD i 0))) : Calls Tryz.prog 55 #[.slice A l.length c, .func (.func 56) #[] #[]] w (RetP (Val (.bool false) w)) := by
  refine calls_of_cw (args := [.slice A l.length c, .func (.func 56) #[] #[]]) Tryz.func55 rfl rfl ?_
  have S := Sat.start [] w
  have O := (R).old
  (repeat' (first | apply cw_seq | apply cw_region | apply wl_nil | apply cw_ret | (apply x_callv; assumption; exact rfl; exact rfl; exact rfl; exact e_indexI; (exact (by repeat' constructor)); exact (indexI_c A c l hl hr _ (Old.now O (by assumption))); intro _ _ _) | (apply x_move; exact rfl; exact rfl; (exact (by repeat' constructor))) | (apply x_assign; exact rfl; exact rfl; (exact (by repeat' constructor))) | (apply x_bin; exact rfl; exact rfl; exact rfl; (first | exact .z (.wrap (by omega)) | exact (by repeat' constructor)))))
  all_goals first
    | ((first | refine q_retS (by assumption) rfl (by repeat (first | exact .nil | (apply RV.tmp; exact (by repeat' constructor)) | (apply RV.cell; exact rfl; exact (by repeat' constructor); exact rfl; exact rfl; exact (by repeat' constructor)))) ?_ | (simp only [thenQ, blockQ]; refine q_retS (by assumption) rfl (by repeat (first | exact .nil | (apply RV.tmp; exact (by repeat' constructor)) | (apply RV.cell; exact rfl; exact (by repeat' constructor); exact rfl; exact rfl; exact (by repeat' constructor)))) ?_))
       exact ⟨rfl, Sat.keeps (by assumption)⟩)
    | (exfalso; omega)
set_option maxRecDepth 100000 in
theorem e_check : Ent Tryz.prog 35 := fun _ _ => rfl
set_option maxRecDepth 8000 in
set_option maxHeartbeats 4000000 in
theorem check_c {bL : Nat} {X Y : Option Addr} {cx cy : Nat} {xs ys : List Int} (hx : szR xs) (hy : szR ys) (hnx : xs.length ≤ 8) (hny : ys.length ≤ 8) (w : World)
    (RX : Rd w X 1 xs.length (fun i => zC (xs.getD i 0))) (RY : Rd w Y 1 ys.length (fun i => zC (ys.getD i 0))) (B : OldB w [] bL 40 [.slice X xs.length cx, .slice Y ys.length cy]) :
    Calls Tryz.prog 35 #[.slice (some ⟨bL, 0, none⟩) 2 2] w (RetP (Val (.int .i64 0) w)) := by
  refine calls_of_cw (args := [.slice (some ⟨bL, 0, none⟩) 2 2]) Tryz.func35 rfl rfl ?_
  have S := Sat.start [] w
  have OX := RX.old
  have OY := RY.old
  (repeat' (first | apply cw_seq | apply cw_region | apply wl_nil | apply cw_block | apply cw_skip | apply cw_exit | apply cw_ret | (refine cw_rounds 3 ?_) | (apply x_addK; exact rfl; exact rfl; exact rfl; exact rfl; constructor) | (apply x_indexK; exact rfl; exact rfl; exact rfl; exact rfl; exact rfl; (constructor); (constructor); (exact (by decide)); (first | omega | exact size_pos (by assumption) | assumption); (first | exact rfl | assumption | exact Rd.some_ (by assumption) (by omega) | exact Rd.some_ (Old.rd (by assumption)) (by omega) | exact (Sat.rd (by assumption) (by exact (by repeat' constructor))).some_ (by omega))) | (apply x_callv; assumption; exact rfl; exact rfl; exact rfl; exact e_contI; (exact (by repeat' constructor)); exact (contI_c X cx xs hnx hx _ (OX.now (by assumption))); intro _ _ _) | (apply x_callv; assumption; exact rfl; exact rfl; exact rfl; exact e_contI; (exact (by repeat' constructor)); exact (contI_c Y cy ys hny hy _ (OY.now (by assumption))); intro _ _ _) | (apply x_move; exact rfl; exact rfl; (exact (by repeat' constructor))) | (apply x_assign; exact rfl; exact rfl; (exact (by repeat' constructor))) | (apply x_bin; exact rfl; exact rfl; exact rfl; (first | exact .z (.wrap (by omega)) | exact (by repeat' constructor))) | (apply x_builtin; exact rfl; exact rfl; exact (fun _ => rfl); (exact (by repeat' constructor))) | (apply x_loadB; assumption; exact rfl; exact rfl; exact rfl; assumption; exact rfl; exact rfl; (exact (by repeat' constructor))) | (apply cw_true; exact rfl) | (apply cw_false; exact rfl) | (apply x_dec; exact rfl; all_goals (intro _; try omega))))
  (first | refine q_retS (by assumption) rfl (by repeat (first | exact .nil | (apply RV.tmp; exact (by repeat' constructor)) | (apply RV.cell; exact rfl; exact (by repeat' constructor); exact rfl; exact rfl; exact (by repeat' constructor)))) ?_ | (simp only [thenQ, blockQ]; refine q_retS (by assumption) rfl (by repeat (first | exact .nil | (apply RV.tmp; exact (by repeat' constructor)) | (apply RV.cell; exact rfl; exact (by repeat' constructor); exact rfl; exact rfl; exact (by repeat' constructor)))) ?_))
  exact ⟨rfl, Sat.keeps (by assumption)⟩
set_option maxRecDepth 100000 in
theorem e_Check : Ent Tryz.prog 22 := fun _ _ => rfl
set_option maxRecDepth 8000 in
set_option maxHeartbeats 4000000 in
theorem Check_c {X Y : Option Addr} {cx cy : Nat} {xs ys : List Int} {lo hi : Int} (hx : szR xs) (hy : szR ys) (hnx : xs.length ≤ 8) (hny : ys.length ≤ 8) (h1 : -100000 ≤ lo) (h2 : lo ≤ hi) (h3 : hi ≤ 100000) (w : World)
    (RX : Rd w X 1 xs.length (fun i => zC (xs.getD i 0))) (RY : Rd w Y 1 ys.length (fun i => zC (ys.getD i 0))) :
    Calls Tryz.prog 22 #[.slice X xs.length cx, .slice Y ys.length cy, .agg #[.int .i64 lo, .int .i64 hi]] w (RetP (Val (.int .i64 0) w)) := by
  refine calls_of_cw (args := [.slice X xs.length cx, .slice Y ys.length cy, .agg #[.int .i64 lo, .int .i64 hi]]) Tryz.func22 rfl rfl ?_
  have S := Sat.start [] w
  have OX := RX.old
  have OY := RY.old
  (repeat' (first | apply cw_seq | apply cw_region | apply wl_nil | apply cw_block | apply cw_skip | apply cw_exit | apply cw_ret | (refine cw_rounds 3 ?_) | (apply x_addK; exact rfl; exact rfl; exact rfl; exact rfl; constructor) | (apply x_indexK; exact rfl; exact rfl; exact rfl; exact rfl; exact rfl; (constructor); (constructor); (exact (by decide)); (first | omega | exact size_pos (by assumption) | assumption); (first | exact rfl | assumption | exact Rd.some_ (by assumption) (by omega) | exact Rd.some_ (Old.rd (by assumption)) (by omega) | exact (Sat.rd (by assumption) (by exact (by repeat' constructor))).some_ (by omega))) | (apply x_callv; assumption; exact rfl; exact rfl; exact rfl; exact e_check; (exact (by repeat' constructor)); exact (check_c hx hy hnx hny _ (OX.now (by assumption)) (OY.now (by assumption)) (Sat.oldb (by assumption) (by exact (by repeat' constructor)) (Keeps.refl _ _))); intro _ _ _) | (apply x_move; exact rfl; exact rfl; (exact (by repeat' constructor))) | (apply x_assign; exact rfl; exact rfl; (exact (by repeat' constructor))) | (apply x_fieldB; exact rfl; exact rfl; exact rfl; exact rfl; (constructor)) | (apply x_load; assumption; exact rfl; exact rfl; exact rfl; (exact (by repeat' constructor)); exact rfl; exact rfl; (exact (by repeat' constructor))) | (apply x_bin; exact rfl; exact rfl; exact rfl; (first | exact .z (.wrap (by omega)) | exact (by repeat' constructor))) | (apply x_pick; exact rfl; exact rfl; exact rfl; (exact (by repeat' constructor))) | (apply x_box; assumption; exact rfl; exact rfl; (exact (by repeat' constructor)); (exact (by repeat' constructor)); intro _ _ _) | (apply x_builtin; exact rfl; exact rfl; exact (fun _ => rfl); (exact (by repeat' constructor))) | (apply x_buildSlice; assumption; exact rfl; exact rfl; exact rfl; (exact (by repeat' constructor)); intro _ _ _) | (apply cw_true; exact rfl) | (apply cw_false; exact rfl) | (apply x_dec; exact rfl; all_goals (intro _; try omega)) | (apply x_gdec; exact rfl; exact rfl; all_goals (intro _; try omega))))
  (first | refine q_retS (by assumption) rfl (by repeat (first | exact .nil | (apply RV.tmp; exact (by repeat' constructor)) | (apply RV.cell; exact rfl; exact (by repeat' constructor); exact rfl; exact rfl; exact (by repeat' constructor)))) ?_ | (simp only [thenQ, blockQ]; refine q_retS (by assumption) rfl (by repeat (first | exact .nil | (apply RV.tmp; exact (by repeat' constructor)) | (apply RV.cell; exact rfl; exact (by repeat' constructor); exact rfl; exact rfl; exact (by repeat' constructor)))) ?_))
  exact ⟨rfl, Sat.keeps (by assumption)⟩
end Go.Proofs.YtdkknknebehkgaaGreatDoor.Sl
namespace Go.Proofs.YtdkknknebehkgaaGreatDoor.Sl
set_option linter.unusedVariables false
set_option linter.unusedSimpArgs false
open Go Go.RowKit
/-- what with has done -/
structure WR (nx ny : Nat) (A : Prop) (m : Mt) (hole pin : Nat) (b : Bool) (m2 : Mt) : Prop where
  lf : m2.fx.length = nx
  gv : m2.gv = m.gv.set pin true
  wi : ∃ i, WI nx ny (m.gv.set pin true) A (mt nx m.oh).length i (swP m.oh m.op hole pin) m2.oh m2.op
  same : b = true → (mt nx m2.oh).length = (mt nx m.oh).length
  all : A → b = true
/-- what is known when the holes up to i are done -/
structure PI (nx ny : Nat) (ft : Nat → Nat → Bool) (A : Prop) (i : Nat) (m : Mt) (l : List (Nat × Nat)) : Prop where
  cons : Cons nx ny m.oh m.op
  lf : m.fx.length = nx
  lg : m.gv.length = ny
  mem : ∀ p ∈ l, p.1 < i ∧ p.2 < ny ∧ ft p.1 p.2 = true
  giv : ∀ q, q < ny → (gB m.gv q = true ↔ ∃ p ∈ l, p.2 = q)
  asc : l.Pairwise fun a b => a.1 < b.1
  dist : l.Pairwise fun a b => a.2 ≠ b.2
  full : A → Full nx ny m.oh m.op
  held : A → ∀ q, q < ny → gB m.gv q = true → 0 ≤ gI m.op q ∧ gI m.op q < i
  num : A → l.length = min i ny
section
variable {nx ny : Nat} {ft : Nat → Nat → Bool} {A : Prop} {i j : Nat} {m m2 : Mt} {l : List (Nat × Nat)}
theorem PI.start (C : Cons nx ny m.oh m.op) (h1 : m.fx = List.replicate nx false) (h2 : m.gv = List.replicate ny false) (hF : A → Full nx ny m.oh m.op) : PI nx ny ft A 0 m [] :=
  ⟨C, (by rw [h1, List.length_replicate]), (by rw [h2, List.length_replicate]), fun p hp => (by cases hp), fun q _ => (by
    rw [h2, gB_rep]
    exact ⟨fun h => (by cases h), fun ⟨p, hp, _⟩ => (by cases hp)⟩), .nil, .nil, hF, fun _ q _ h => (by rw [h2, gB_rep] at h; cases h), fun _ => (by simp)⟩
theorem PI.snd (I : PI nx ny ft A i m l) : (l.map Prod.snd).Nodup := List.pairwise_map.2 I.dist
theorem PI.le2 (I : PI nx ny ft A i m l) : l.length ≤ ny := by
  have := I.snd.length_le_of_subset (l₂ := List.range ny) fun z hz => by
    obtain ⟨p, hp, rfl⟩ := List.mem_map.1 hz
    exact List.mem_range.2 (I.mem p hp).2.1
  rwa [List.length_map, List.length_range] at this
theorem PI.le1 (I : PI nx ny ft A i m l) : l.length ≤ i := by
  have h : (l.map Prod.fst).Nodup := List.pairwise_map.2 (I.asc.imp fun {a b} h e => by omega)
  have := h.length_le_of_subset (l₂ := List.range i) fun z hz => by
    obtain ⟨p, hp, rfl⟩ := List.mem_map.1 hz
    exact List.mem_range.2 (I.mem p hp).1
  rwa [List.length_map, List.length_range] at this
theorem PI.skip (I : PI nx ny ft A i m l) (h : A → ∀ q, q < ny → gB m.gv q = true) : PI nx ny ft A (i + 1) m l :=
  { I with
    mem := fun p hp => ⟨Nat.lt_succ_of_lt (I.mem p hp).1, (I.mem p hp).2⟩
    held := fun a q hq hg => by have := I.held a q hq hg; omega
    num := fun a => by
      have h1 := I.num a
      have h2 : (List.range ny).length ≤ (l.map Prod.snd).length := List.nodup_range.length_le_of_subset fun q hq => by
        have hq' := List.mem_range.1 hq
        obtain ⟨p, hp, e⟩ := (I.giv q hq').1 (h a q hq')
        exact List.mem_map.2 ⟨p, hp, e⟩
      rw [List.length_range, List.length_map] at h2
      omega }
theorem PI.step (I : PI nx ny ft A i m l) (hi : i < nx) (hj : j < ny) (hg : gB m.gv j = false) (hf : ft i j = true) (W : WR nx ny A m i j true m2) : PI nx ny ft A (i + 1) m2 (l ++ [(i, j)]) := by
  obtain ⟨k, V⟩ := W.wi
  have es : ∀ q, gB (m.gv.set j true) q = if j = q then true else gB m.gv q := fun q => gB_set (by rw [I.lg]; exact hj)
  have hnot : ∀ p ∈ l, p.2 ≠ j := fun p hp e => by
    have := (I.giv j hj).2 ⟨p, hp, e⟩
    rw [hg] at this; cases this
  refine ⟨V.cons, W.lf, by rw [W.gv, List.length_set]; exact I.lg, fun p hp => ?_, fun q hq => ?_, ?_, ?_, fun a => ?_, fun a q hq h => ?_, fun a => ?_⟩
  · rcases List.mem_append.1 hp with hp | hp
    · exact ⟨Nat.lt_succ_of_lt (I.mem p hp).1, (I.mem p hp).2⟩
    · rw [List.mem_singleton.1 hp]; exact ⟨Nat.lt_succ_self i, hj, hf⟩
  · rw [W.gv, es]
    by_cases e : j = q
    · subst e
      rw [if_pos rfl]
      exact ⟨fun _ => ⟨(i, j), List.mem_append_right _ (List.mem_singleton.2 rfl), rfl⟩, fun _ => rfl⟩
    · rw [if_neg e, I.giv q hq]
      constructor
      · rintro ⟨p, hp, e2⟩; exact ⟨p, List.mem_append_left _ hp, e2⟩
      · rintro ⟨p, hp, e2⟩
        rcases List.mem_append.1 hp with hp | hp
        · exact ⟨p, hp, e2⟩
        · rw [List.mem_singleton.1 hp] at e2; exact absurd e2 e
  · exact List.pairwise_append.2 ⟨I.asc, List.pairwise_singleton .., fun a ha b hb => by rw [List.mem_singleton.1 hb]; exact (I.mem a ha).1⟩
  · exact List.pairwise_append.2 ⟨I.dist, List.pairwise_singleton .., fun a ha b hb => by rw [List.mem_singleton.1 hb]; exact hnot a ha⟩
  · exact (Full.iff V.cons).2 ((W.same rfl).trans ((Full.iff I.cons).1 (I.full a)))
  · rw [W.gv] at h
    rw [V.kept q hq h, swP_at I.cons hi hj]
    by_cases e : j = q
    · rw [if_pos e]; omega
    · rw [if_neg e]
      rw [es, if_neg e] at h
      have h1 := I.held a q hq h
      rw [if_neg (fun h2 => by have := (I.cons.eq i q hi hq).1 h2.1; omega)]
      omega
  · have h1 := I.num a
    have h2 : (j :: l.map Prod.snd).Nodup := List.nodup_cons.2 ⟨fun h => by
      obtain ⟨p, hp, e⟩ := List.mem_map.1 h
      exact hnot p hp e, I.snd⟩
    have h3 := h2.length_le_of_subset (l₂ := List.range ny) fun z hz => by
      rcases List.mem_cons.1 hz with rfl | hz
      · exact List.mem_range.2 hj
      · obtain ⟨p, hp, rfl⟩ := List.mem_map.1 hz
        exact List.mem_range.2 (I.mem p hp).2.1
    rw [List.length_cons, List.length_map, List.length_range] at h3
    rw [List.length_append, List.length_singleton]
    omega
end
theorem with_v {X Y : Option Addr} {cx cy b3 b4 b5 : Nat} {xs ys : List Int} {lo hi : Int} (hx : szR xs) (hy : szR ys) (hnx : xs.length ≤ 8) (hny : ys.length ≤ 8) (w : World) (Z : Szs w [] xs ys lo hi b3 b4 b5 X Y cx cy)
    (m : Mt) {l : List (Nat × Nat)} {A : Prop} {hole pin : Nat} (I : PI xs.length ys.length (ftB xs ys lo hi) A hole m l) (O : OMt w m b3 b4 b5 xs.length ys.length) (hh : hole < xs.length) (hp : pin < ys.length)
    (hA : A → ∀ i j, i < xs.length → j < ys.length → ftB xs ys lo hi i j = true) :
    Calls Tryz.prog 24 #[.pointer (some ⟨m.bm, 0, none⟩), .int .i64 (hole : Int), .int .i64 (pin : Int)] w (RetP fun v w' => ∃ (b : Bool) (m2 : Mt), v = .tuple #[.pointer (some ⟨m2.bm, 0, none⟩), .bool b] ∧
      WR xs.length ys.length A m hole pin b m2 ∧ Sat w [] (m2.hs b3 b4 b5 xs.length ys.length) w') := by
  refine (with_c hx hy hnx hny w Z m I.cons I.lf I.lg O hh hp hA I.full (fun a q hq hg e => by have := I.held a q hq hg; omega)).mono (retP_imp ?_)
  rintro v w' ⟨⟨b, m2⟩, hv, ⟨h1, h2, h3, h4, h5⟩, S⟩
  exact ⟨b, m2, hv, ⟨h1, h2, h3, h4, h5⟩, S⟩
end Go.Proofs.YtdkknknebehkgaaGreatDoor.Sl
