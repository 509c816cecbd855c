/- Pairs of holes and pins: Pairs. No statement of the seat is proved here. -/
import Derived.Test.YtdkknknebehkgaaGreatDoorSk
namespace Go.Proofs.YtdkknknebehkgaaGreatDoor.Sl
set_option linter.unusedVariables false
set_option linter.unusedSimpArgs false
open Go Go.RowKit
abbrev prC (p : Nat × Nat) : List Value := [.int .i64 (p.1 : Int), .int .i64 (p.2 : Int)]
abbrev bxs (b3 b4 b5 bf : Nat) (X Y : Option Addr) (nx ny cx cy : Nat) (lo hi : Int) (A : Option Addr) (c : Nat) (l : List (Nat × Nat)) : List HO :=
  [.cl b3 40 [.slice X nx cx], .cl b4 40 [.slice Y ny cy], .cl b5 47 [.int .i64 lo, .int .i64 hi], .cl bf 47 [.int .i64 lo, .int .i64 hi], .rw 0 (.slice A l.length c) 87 2 (l.map prC)]
theorem OMt.of {w0 w : World} {M : List Nat} {m : Mt} {b3 b4 b5 nx ny : Nat} {fr : List HO} (C : Cons nx ny m.oh m.op) (hf : m.fx.length = nx) (hg : m.gv.length = ny) (S : Sat w0 M (m.hs b3 b4 b5 nx ny ++ fr) w) : OMt w m b3 b4 b5 nx ny := by
  refine ⟨Sat.oldb S .head (Keeps.refl _ _), ?_, ?_, ?_, ?_⟩
  · have := Sat.rdmapN (en := zC) (-1 : Int) S (.tail .head) C.lh.symm
    rw [C.lh] at this; exact this
  · have := Sat.rdmapN (en := zC) (-1 : Int) S (.tail (.tail .head)) C.lp.symm
    rw [C.lp] at this; exact this
  · have := Sat.rdmapN (en := bC) false S (.tail (.tail (.tail .head))) hf.symm
    rw [hf] at this; exact this
  · have := Sat.rdmapN (en := bC) false S (.tail (.tail (.tail (.tail .head)))) hg.symm
    rw [hg] at this; exact this
theorem perm5b {α : Type} (a b c d e : α) (t : List α) : (a :: b :: c :: d :: e :: t).Perm (b :: c :: d :: e :: a :: t) := by
  have h : [a, b, c, d, e].Perm [b, c, d, e, a] := show (([0, 1, 2, 3, 4] : List Nat).map fun k => [a, b, c, d, e].getD k a).Perm (([1, 2, 3, 4, 0] : List Nat).map fun k => [a, b, c, d, e].getD k a) from List.Perm.map _ (by decide)
  exact h.append_right t
/-- what Pairs gives -/
structure PRes (xs ys : List Int) (lo hi : Int) (l : List (Nat × Nat)) : Prop where
  mem : ∀ p ∈ l, p.1 < xs.length ∧ p.2 < ys.length ∧ ftB xs ys lo hi p.1 p.2 = true
  asc : l.Pairwise fun a b => a.1 < b.1
  dist : l.Pairwise fun a b => a.2 ≠ b.2
  le : l.length ≤ min xs.length ys.length
  num : (∀ i j, i < xs.length → j < ys.length → ftB xs ys lo hi i j = true) → l.length = min xs.length ys.length
set_option maxRecDepth 100000 in
theorem e_Pairs : Ent Tryz.prog 12 := fun _ _ => rfl
set_option maxRecDepth 8000 in
set_option maxHeartbeats 8000000 in
theorem Pairs_c {X Y : Option Addr} {cx cy : Nat} {xs ys : List Int} {lo hi : Int} (hx : szR xs) (hy : szR ys) (hnx : xs.length ≤ 8) (hny : ys.length ≤ 8) (h1 : -100000 ≤ lo) (h2 : lo ≤ hi) (h3 : hi ≤ 100000) (w : World)
    (RX : Rd w X 1 xs.length (fun i => zC (xs.getD i 0))) (RY : Rd w Y 1 ys.length (fun i => zC (ys.getD i 0))) :
    Calls Tryz.prog 12 #[.slice X xs.length cx, .slice Y ys.length cy, .agg #[.int .i64 lo, .int .i64 hi]] w (RetP fun v w' => ∃ (l : List (Nat × Nat)) (A : Option Addr) (c : Nat), v = .tuple #[.slice A l.length c, .int .i64 0] ∧ PRes xs ys lo hi l ∧
      Sat w [] [.rw 0 (.slice A l.length c) 87 2 (l.map prC)] w') := by
  refine calls_of_cw (args := [.slice X xs.length cx, .slice Y ys.length cy, .agg #[.int .i64 lo, .int .i64 hi]]) Tryz.func12 rfl rfl ?_
  have S := Sat.start [] w
  have OX := RX.old
  have OY := RY.old
  (repeat' (first | apply cw_seq | apply cw_region | apply wl_nil | apply cw_block | apply cw_skip | (apply x_box; assumption; exact rfl; exact rfl; (exact (by repeat' constructor)); (exact (by repeat' constructor)); intro bf _ _) | (apply x_callv; assumption; exact rfl; exact rfl; exact rfl; exact e_Check; (exact (by repeat' constructor)); exact (Check_c hx hy hnx hny h1 h2 h3 _ (OX.now (by assumption)) (OY.now (by assumption))); intro _ _ _) | (apply x_call; exact rfl; exact rfl; exact rfl; exact e_most; (exact (by repeat' constructor)); (exact most_c hx hy hnx hny _ (OX.now (by assumption)) (OY.now (by assumption))); rintro _ w2 ⟨⟨m0, b3, b4, b5⟩, rfl, ⟨hC, hfx, hgv, hFu⟩, S2⟩; have S3 := (Rl.Sat.moreA (by assumption) S2).1) | (apply x_move; exact rfl; exact rfl; (exact (by repeat' constructor))) | (apply x_assign; exact rfl; exact rfl; (exact (by repeat' constructor))) | (apply x_load; assumption; exact rfl; exact rfl; exact rfl; (exact (by repeat' constructor)); exact rfl; exact rfl; (exact (by repeat' constructor))) | (apply x_bin; exact rfl; exact rfl; exact rfl; (first | exact .z (.wrap (by omega)) | exact (by repeat' constructor))) | (apply x_builtin; exact rfl; exact rfl; exact (fun _ => rfl); (exact (by repeat' constructor))) | (apply cw_false; exact rfl)))
  have S4 : Sat w [] (m0.hs b3 b4 b5 xs.length ys.length ++ bxs b3 b4 b5 bf X Y xs.length ys.length cx cy lo hi none 0 []) w2 := (S3.addNil 87 2).perm' (by
    refine (List.perm_append_comm (l₁ := [_])).trans ?_
    exact List.Perm.refl _)
  have I0 : PI xs.length ys.length (ftB xs ys lo hi) (∀ i j, i < xs.length → j < ys.length → ftB xs ys lo hi i j = true) 0 m0 [] := PI.start hC hfx hgv hFu
  clear S3 S2 S hC hfx hgv hFu
  refine cw_loop [9, 10, 11, 12, 13, 14, 28, 29, 30, 31, 32, 33, 34, 35, 36, 37, 38, 39, 40, 41, 42, 43, 44, 45, 46, 47, 48, 49, 50, 51, 52, 53, 54, 55, 56, 57, 58, 59, 60, 61, 62, 63, 64, 65, 66, 67, 68, 69] [28, 9, 10] (fun us wr => ∃ (i : Nat) (m : Mt) (l : List (Nat × Nat)) (A' : Option Addr) (c' : Nat), i ≤ xs.length ∧ us = [.int .i64 i, .pointer (some ⟨m.bm, 0, none⟩), .slice A' l.length c'] ∧ PI xs.length ys.length (ftB xs ys lo hi) (∀ i j, i < xs.length → j < ys.length → ftB xs ys lo hi i j = true) i m l ∧
    Sat w [] (m.hs b3 b4 b5 xs.length ys.length ++ bxs b3 b4 b5 bf X Y xs.length ys.length cx cy lo hi A' c' l) wr) (fun us _ => xs.length - (intOf (us.getD 0 undef)).toNat) ?_ ?_
  · exact ⟨0, m0, [], none, 0, Nat.zero_le _, rfl, I0, S4⟩
  clear S4 I0
  rintro g us wr ⟨i, m, l, A', c', hi', rfl, I, Sr⟩
  replace Sr : Sat w [] (.cl m.bm 84 [hF b3 b4 b5, .slice m.H xs.length m.cH, .slice m.P ys.length m.cP, .slice m.V xs.length m.cV, .slice m.G ys.length m.cG] :: .rw 0 (.slice m.H xs.length m.cH) 3 1 (m.oh.map zC) :: .rw 0 (.slice m.P ys.length m.cP) 3 1 (m.op.map zC) :: .rw 0 (.slice m.V xs.length m.cV) 4 1 (m.fx.map bC) :: .rw 0 (.slice m.G ys.length m.cG) 4 1 (m.gv.map bC) :: .cl b3 40 [.slice X xs.length cx] :: .cl b4 40 [.slice Y ys.length cy] :: .cl b5 47 [.int .i64 lo, .int .i64 hi] :: .cl bf 47 [.int .i64 lo, .int .i64 hi] :: .rw 0 (.slice A' l.length c') 87 2 (l.map prC) :: []) wr := Sr
  by_cases hlt : i < xs.length
  · (repeat' (first | apply cw_seq | apply cw_region | apply wl_nil | apply cw_block | apply cw_skip | (apply x_move; exact rfl; exact rfl; (exact (by repeat' constructor))) | (apply x_assign; exact rfl; exact rfl; (exact (by repeat' constructor))) | (apply x_bin; exact rfl; exact rfl; exact rfl; (first | exact .z (.wrap (by omega)) | exact (by repeat' constructor))) | (apply x_builtin; exact rfl; exact rfl; exact (fun _ => rfl); (exact (by repeat' constructor))) | (apply x_dec; exact rfl; all_goals (intro _; try omega))))
    refine cw_loop [9, 10, 12, 13, 14, 33, 34, 35, 36, 37, 38, 39, 40, 41, 42, 43, 44, 45, 46, 47, 48, 49, 50, 51, 52, 53, 54, 55, 56, 57, 58, 59, 60, 61, 62, 63, 64, 65, 66, 67, 68] [33, 9, 10] (fun us wr => ∃ j : Nat, j ≤ ys.length ∧ us = [.int .i64 j, .pointer (some ⟨m.bm, 0, none⟩), .slice A' l.length c'] ∧ ((∀ i j, i < xs.length → j < ys.length → ftB xs ys lo hi i j = true) → ∀ q, q < j → gB m.gv q = true) ∧ Sat w [] (.cl m.bm 84 [hF b3 b4 b5, .slice m.H xs.length m.cH, .slice m.P ys.length m.cP, .slice m.V xs.length m.cV, .slice m.G ys.length m.cG] :: .rw 0 (.slice m.H xs.length m.cH) 3 1 (m.oh.map zC) :: .rw 0 (.slice m.P ys.length m.cP) 3 1 (m.op.map zC) :: .rw 0 (.slice m.V xs.length m.cV) 4 1 (m.fx.map bC) :: .rw 0 (.slice m.G ys.length m.cG) 4 1 (m.gv.map bC) :: .cl b3 40 [.slice X xs.length cx] :: .cl b4 40 [.slice Y ys.length cy] :: .cl b5 47 [.int .i64 lo, .int .i64 hi] :: .cl bf 47 [.int .i64 lo, .int .i64 hi] :: .rw 0 (.slice A' l.length c') 87 2 (l.map prC) :: []) wr) (fun us _ => ys.length - (intOf (us.getD 0 undef)).toNat) ?_ ?_
    · exact ⟨0, Nat.zero_le _, rfl, fun _ q hq => absurd hq (Nat.not_lt_zero _), by assumption⟩
    clear Sr
    rintro g2 us w3 ⟨j, hj', rfl, hall, Sj⟩
    have Zo : ∀ w4, Sat w [] (.cl m.bm 84 [hF b3 b4 b5, .slice m.H xs.length m.cH, .slice m.P ys.length m.cP, .slice m.V xs.length m.cV, .slice m.G ys.length m.cG] :: .rw 0 (.slice m.H xs.length m.cH) 3 1 (m.oh.map zC) :: .rw 0 (.slice m.P ys.length m.cP) 3 1 (m.op.map zC) :: .rw 0 (.slice m.V xs.length m.cV) 4 1 (m.fx.map bC) :: .rw 0 (.slice m.G ys.length m.cG) 4 1 (m.gv.map bC) :: .cl b3 40 [.slice X xs.length cx] :: .cl b4 40 [.slice Y ys.length cy] :: .cl b5 47 [.int .i64 lo, .int .i64 hi] :: .cl bf 47 [.int .i64 lo, .int .i64 hi] :: .rw 0 (.slice A' l.length c') 87 2 (l.map prC) :: []) w4 → Szs w4 [] xs ys lo hi b3 b4 b5 X Y cx cy ∧ OMt w4 m b3 b4 b5 xs.length ys.length := fun w4 S4 =>
      ⟨⟨(OX.now S4).old, (OY.now S4).old, Sat.oldb S4 (.tail (.tail (.tail (.tail (.tail .head))))) (Keeps.refl _ _), Sat.oldb S4 (.tail (.tail (.tail (.tail (.tail (.tail .head)))))) (Keeps.refl _ _), Sat.oldb S4 (.tail (.tail (.tail (.tail (.tail (.tail (.tail .head))))))) (Keeps.refl _ _)⟩,
        OMt.of I.cons I.lf I.lg (fr := bxs b3 b4 b5 bf X Y xs.length ys.length cx cy lo hi A' c' l) S4⟩
    have h9 : l.length < 1000000000 := by have := I.le2; omega
    by_cases hlj : j < ys.length
    · cases hgj : m.gv.getD j false with
      | true =>
        (repeat' (first | apply cw_seq | apply cw_region | apply wl_nil | apply cw_block | apply cw_skip | apply cw_exit | (apply x_loadV (en := fun z : Bool => Value.bool z) (z := false) (l := m.gv) (v := true); exact rfl; exact rfl; exact rfl; exact Sat.rdmapN (en := bC) false (by assumption) (by exact (by repeat' constructor)) I.lg.symm; (exact (by rw [I.lg]; exact hlj)); exact hgj; exact rfl; exact rfl; exact .z .bool) | (apply x_nilP; exact rfl; exact rfl; exact rfl) | (apply x_not; exact rfl; exact rfl) | (apply x_move; exact rfl; exact rfl; (exact (by repeat' constructor))) | (apply x_assign; exact rfl; exact rfl; (exact (by repeat' constructor))) | (apply x_fieldB; exact rfl; exact rfl; exact rfl; exact rfl; (constructor)) | (apply x_load; assumption; exact rfl; exact rfl; exact rfl; (exact (by repeat' constructor)); exact rfl; exact rfl; (exact (by repeat' constructor))) | (apply x_bin; exact rfl; exact rfl; exact rfl; (first | exact .z (.wrap (by omega)) | exact (by repeat' constructor))) | (apply x_pick; exact rfl; exact rfl; exact rfl; (exact (by repeat' constructor))) | (apply x_index; exact rfl; exact rfl; exact rfl; exact rfl; exact rfl; (constructor); (first | omega | exact size_pos (by assumption) | assumption); (first | exact rfl | assumption | exact Rd.some_ (by assumption) (by omega) | exact Rd.some_ (Old.rd (by assumption)) (by omega) | exact (Sat.rd (by assumption) (by exact (by repeat' constructor))).some_ (by omega))) | (apply cw_true; exact rfl) | (apply x_dec; exact rfl; all_goals (intro _; try omega))))
        refine ⟨rfl, (by repeat (first | exact Agree.updl rfl (Agree.mask _ _ _) | refine Agree.upd rfl ?_ | refine Agree.updl rfl ?_ | refine Agree.maskIn rfl ?_)), ⟨j + 1, hlj, rfl, fun a q hq => ?_, by assumption⟩, ?_⟩
        · rcases Nat.lt_succ_iff_lt_or_eq.1 hq with h | rfl
          · exact hall a q h
          · exact hgj
        · show ys.length - (j + 1 : Int).toNat < ys.length - (j : Int).toNat
          omega
      | false =>
        cases hft : ftB xs ys lo hi i j with
        | false =>
          (repeat' (first | apply cw_seq | apply cw_region | apply wl_nil | apply cw_block | apply cw_skip | apply cw_exit | (apply x_loadV (en := fun z : Bool => Value.bool z) (z := false) (l := m.gv) (v := false); exact rfl; exact rfl; exact rfl; exact Sat.rdmapN (en := bC) false (by assumption) (by exact (by repeat' constructor)) I.lg.symm; (exact (by rw [I.lg]; exact hlj)); exact hgj; exact rfl; exact rfl; exact .z .bool) | (apply x_nilP; exact rfl; exact rfl; exact rfl) | (apply x_callv; assumption; exact rfl; exact rfl; exact rfl; exact e_most1; (exact (by repeat' constructor)); (exact (hft ▸ (Zo _ (by assumption)).1.ft hx hy i j hlt hlj [] _ (Sat.start [] _))); intro _ _ _) | (apply x_move; exact rfl; exact rfl; (exact (by repeat' constructor))) | (apply x_assign; exact rfl; exact rfl; (exact (by repeat' constructor))) | (apply x_fieldB; exact rfl; exact rfl; exact rfl; exact rfl; (constructor)) | (apply x_load; assumption; exact rfl; exact rfl; exact rfl; (exact (by repeat' constructor)); exact rfl; exact rfl; (exact (by repeat' constructor))) | (apply x_bin; exact rfl; exact rfl; exact rfl; (first | exact .z (.wrap (by omega)) | exact (by repeat' constructor))) | (apply x_pick; exact rfl; exact rfl; exact rfl; (exact (by repeat' constructor))) | (apply x_un; exact rfl; exact rfl; exact rfl; (first | exact .z (.wrap (by omega)) | exact (by repeat' constructor))) | (apply x_index; exact rfl; exact rfl; exact rfl; exact rfl; exact rfl; (constructor); (first | omega | exact size_pos (by assumption) | assumption); (first | exact rfl | assumption | exact Rd.some_ (by assumption) (by omega) | exact Rd.some_ (Old.rd (by assumption)) (by omega) | exact (Sat.rd (by assumption) (by exact (by repeat' constructor))).some_ (by omega))) | (apply cw_true; exact rfl) | (apply x_dec; exact rfl; all_goals (intro _; try omega))))
          refine ⟨rfl, (by repeat (first | exact Agree.updl rfl (Agree.mask _ _ _) | refine Agree.upd rfl ?_ | refine Agree.updl rfl ?_ | refine Agree.maskIn rfl ?_)), ⟨j + 1, hlj, rfl, fun a q hq => ?_, by assumption⟩, ?_⟩
          · have := a i j hlt hlj
            rw [hft] at this; cases this
          · show ys.length - (j + 1 : Int).toNat < ys.length - (j : Int).toNat
            omega
        | true =>
          (repeat' (first | apply cw_seq | apply cw_region | apply wl_nil | apply cw_block | apply cw_skip | apply cw_exit | (apply x_loadV (en := fun z : Bool => Value.bool z) (z := false) (l := m.gv) (v := false); exact rfl; exact rfl; exact rfl; exact Sat.rdmapN (en := bC) false (by assumption) (by exact (by repeat' constructor)) I.lg.symm; (exact (by rw [I.lg]; exact hlj)); exact hgj; exact rfl; exact rfl; exact .z .bool) | (apply x_nilP; exact rfl; exact rfl; exact rfl) | (apply x_callv; assumption; exact rfl; exact rfl; exact rfl; exact e_most1; (exact (by repeat' constructor)); (exact (hft ▸ (Zo _ (by assumption)).1.ft hx hy i j hlt hlj [] _ (Sat.start [] _))); intro _ _ _) | (apply x_call; exact rfl; exact rfl; exact rfl; exact e_with; (exact (by repeat' constructor)); (exact with_v hx hy hnx hny _ (Zo _ (by assumption)).1 m I (Zo _ (by assumption)).2 hlt hlj (fun a => a)); (rintro _ w5 ⟨b, m2, rfl, hr, S5⟩; have S6 := (Rl.Sat.moreA (by assumption) S5).1; replace S6 : Sat w [] (_ :: _ :: _ :: _ :: _ :: _ :: _ :: _ :: _ :: _ :: _ :: _ :: _ :: _ :: _ :: []) w5 := S6; clear S5; cases b)) | (apply x_append1; assumption; exact rfl; exact rfl; exact rfl; exact rfl; exact rfl; (exact (by repeat' constructor)); (exact (by repeat' constructor)); exact rfl; exact rfl; exact rfl; (exact (by rw [List.length_map]; exact h9)); intro gA cA wA SA) | (apply x_move; exact rfl; exact rfl; (exact (by repeat' constructor))) | (apply x_assign; exact rfl; exact rfl; (exact (by repeat' constructor))) | (apply x_fieldB; exact rfl; exact rfl; exact rfl; exact rfl; (constructor)) | (apply x_load; assumption; exact rfl; exact rfl; exact rfl; (exact (by repeat' constructor)); exact rfl; exact rfl; (exact (by repeat' constructor))) | (apply x_bin; exact rfl; exact rfl; exact rfl; (first | exact .z (.wrap (by omega)) | exact (by repeat' constructor))) | (apply x_pick; exact rfl; exact rfl; exact rfl; (exact (by repeat' constructor))) | (apply x_un; exact rfl; exact rfl; exact rfl; (first | exact .z (.wrap (by omega)) | exact (by repeat' constructor))) | (apply x_build; exact rfl; exact rfl; exact rfl; (exact (by repeat' constructor))) | (apply x_extract; exact rfl; exact rfl; exact rfl; (exact (by repeat' constructor))) | (apply x_buildSlice; assumption; exact rfl; exact rfl; exact rfl; (exact (by repeat' constructor)); intro _ _ _) | (apply x_index; exact rfl; exact rfl; exact rfl; exact rfl; exact rfl; (constructor); (first | omega | exact size_pos (by assumption) | assumption); (first | exact rfl | assumption | exact Rd.some_ (by assumption) (by omega) | exact Rd.some_ (Old.rd (by assumption)) (by omega) | exact (Sat.rd (by assumption) (by exact (by repeat' constructor))).some_ (by omega))) | (apply cw_true; exact rfl) | (apply cw_false; exact rfl) | (apply x_dec; exact rfl; all_goals (intro _; try omega))))
          · refine ⟨rfl, (by repeat (first | exact Agree.updl rfl (Agree.mask _ _ _) | refine Agree.upd rfl ?_ | refine Agree.updl rfl ?_ | refine Agree.maskIn rfl ?_)), ⟨j + 1, hlj, rfl, fun a q hq => ?_, S6.drop _ (.cons _ (.cons _ (.cons _ (.cons _ (.cons _ (List.Sublist.refl _))))))⟩, ?_⟩
            · have := hr.all a
              cases this
            · show ys.length - (j + 1 : Int).toNat < ys.length - (j : Int).toNat
              omega
          · have e : (l ++ [(i, j)]).length = (l.map prC).length + 1 := by simp
            refine ⟨rfl, (by repeat (first | exact Agree.updl rfl (Agree.mask _ _ _) | refine Agree.upd rfl ?_ | refine Agree.updl rfl ?_ | refine Agree.maskIn rfl ?_)), ⟨i + 1, m2, l ++ [(i, j)], some ⟨gA, 0, none⟩, cA, hlt, by rw [e]; rfl, I.step hlt hlj hgj hft hr, ?_⟩, ?_⟩
            · unfold bxs
              rw [e, List.map_append]
              exact SA.drop _ (.cons _ (.cons_cons _ (.cons_cons _ (.cons_cons _ (.cons_cons _ (.cons_cons _ (.cons _ (.cons _ (.cons _ (.cons _ (.cons _ (List.Sublist.refl _))))))))))))
            · show xs.length - (i + 1 : Int).toNat < xs.length - (i : Int).toNat
              omega
    · have hje : j = ys.length := by omega
      subst hje
      (repeat' (first | apply cw_seq | apply cw_region | apply wl_nil | apply cw_exit | (apply x_move; exact rfl; exact rfl; (exact (by repeat' constructor))) | (apply x_bin; exact rfl; exact rfl; exact rfl; (first | exact .z (.wrap (by omega)) | exact (by repeat' constructor))) | (apply x_dec; exact rfl; all_goals (intro _; try omega))))
      refine ⟨rfl, (by repeat (first | exact Agree.updl rfl (Agree.mask _ _ _) | refine Agree.upd rfl ?_ | refine Agree.updl rfl ?_ | refine Agree.maskIn rfl ?_)), ⟨i + 1, m, l, A', c', hlt, rfl, I.skip hall, by assumption⟩, ?_⟩
      show xs.length - (i + 1 : Int).toNat < xs.length - (i : Int).toNat
      omega
  · have hie : i = xs.length := by omega
    subst hie
    (repeat' (first | apply cw_seq | apply cw_region | apply wl_nil | apply cw_exit | apply cw_ret | (apply x_move; exact rfl; exact rfl; (exact (by repeat' constructor))) | (apply x_assign; exact rfl; exact rfl; (exact (by repeat' constructor))) | (apply x_bin; exact rfl; exact rfl; exact rfl; (first | exact .z (.wrap (by omega)) | exact (by repeat' constructor))) | (apply x_dec; exact rfl; all_goals (intro _; try omega))))
    (first | refine q_retS (by assumption) rfl (by repeat (first | exact .nil | (apply RV.tmp; exact (by repeat' constructor)) | (apply RV.cell; exact rfl; exact (by repeat' constructor); exact rfl; exact rfl; exact (by repeat' constructor)))) ?_ | (simp only [thenQ, blockQ]; refine q_retS (by assumption) rfl (by repeat (first | exact .nil | (apply RV.tmp; exact (by repeat' constructor)) | (apply RV.cell; exact rfl; exact (by repeat' constructor); exact rfl; exact rfl; exact (by repeat' constructor)))) ?_))
    refine ⟨l, A', c', rfl, ⟨I.mem, I.asc, I.dist, (by have := I.le1; have := I.le2; omega), I.num⟩, Sr.drop _ (.cons _ (.cons _ (.cons _ (.cons _ (.cons _ (.cons _ (.cons _ (.cons _ (.cons _ (.cons_cons _ .slnil))))))))))⟩
end Go.Proofs.YtdkknknebehkgaaGreatDoor.Sl
