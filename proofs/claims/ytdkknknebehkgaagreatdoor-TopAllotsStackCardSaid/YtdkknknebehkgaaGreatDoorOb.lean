/- Small numbers written out, and names made of them. No statement of the seat is proved here. -/
/- A chain of dimensions, one behind the other: it is right, and its limits are the sum of the widths. No statement of the seat is proved here. -/
import Derived.Test.YtdkknknebehkgaaGreatDoorLj
import Derived.Test.YtdkknknebehkgaaGreatDoorEngRl
import Derived.Laws.Concat
namespace Go.Proofs.YtdkknknebehkgaaGreatDoor.Hl
set_option linter.unusedVariables false
set_option linter.unusedSimpArgs false
open Go Go.RowKit
/-- a number below 100, written out -/
def dig (n : Nat) : ByteArray := ⟨if n < 10 then #[UInt8.ofNat (48 + n)] else #[UInt8.ofNat (48 + n / 10), UInt8.ofNat (48 + n % 10)]⟩
def Fn (n : Nat) : ByteArray := ⟨#[70]⟩ ++ dig n
/-- the number back -/
def bck (b : ByteArray) : Nat := if b.size = 2 then (b.get! 1).toNat - 48 else ((b.get! 1).toNat - 48) * 10 + ((b.get! 2).toNat - 48)
theorem bck_Fn : ∀ n, n < 100 → bck (Fn n) = n := by decide +kernel
theorem Fn_inj {i j : Nat} (hi : i < 100) (hj : j < 100) (h : Fn i = Fn j) : i = j := by rw [← bck_Fn i hi, h, bck_Fn j hj]
theorem Fn_name : ∀ n, n < 100 → nameE (Fn n) = 0 := by decide +kernel
theorem dig_size : ∀ n, n < 100 → (⟨#[70]⟩ : ByteArray).size + (dig n).size ≤ 9223372036854775807 := by
  have h : ∀ n, n < 100 → (⟨#[70]⟩ : ByteArray).size + (dig n).size ≤ 3 := by decide +kernel
  exact fun n hn => Nat.le_trans (h n hn) (by decide)
theorem Fn_size : ∀ n, n < 100 → (Fn n).size ≤ 3 := by decide +kernel
section
variable {P : Program} {ro : Option Nat} {n : Nat} {Q : Post} {D : List Deferred} {f : Fm} {w : World}
variable {ops : Array Oper} {rest : List Oper} {d ty : Nat} {ps : String} {af : Array Edge} {gd : Option (Nat × Bool)} {x y z : Operand}
theorem x_strLH {T : TypeId} {s v : ByteArray} {kd kd' : IntKind} {e u : Int} (hg : want ops f ⟨some d, .slice T x (some y) (some z) none, ty, ps, af, gd⟩ = true) (hdn : Nat.blt d n = true) (hx : fev f x = .string s) (hy : fev f y = .int kd e) (hz : fev f z = .int kd' u)
    (hu : P.underlying T = some .string) (h0 : 0 ≤ e) (h1 : e ≤ u) (h2 : u ≤ s.size) (hv : s.extract e.toNat u.toNat = v)
    (k : WL P ro n ops Q rest D (upd f d (.string v)) w) : WL P ro n ops Q (⟨some d, .slice T x (some y) (some z) none, ty, ps, af, gd⟩ :: rest) D f w := by
  subst hv
  refine wl_val hg rfl hdn (v0 := .string (s.extract e.toNat u.toNat)) ?_ (.z .str) k
  simp [execOp, Instr.sliceAt, Instr.slice, Instr.sliceBounds, Instr.sliceBound, run_underlying hu, hx, hy, hz, Sem.run_bind, Sem.run_pure, Result.andThen, asIntOf, h0, h2, show 0 ≤ u by omega, show e ≤ max u 0 by omega, go_sem]
variable {w0 : World} {M : List Nat} {h : List HO} {prest : List (Nat × Oper)}
theorem y_addStr {T T' : TypeId} {a b : ByteArray} (hg : want ops f ⟨some d, .binOp .add T x y T', ty, ps, af, gd⟩ = true) (hx : fev f x = .string a) (hy : fev f y = .string b) (hs : a.size + b.size ≤ 9223372036854775807)
    (k : PV P ro ops Q w0 M h prest D (upd f d (.string (a ++ b)))) : PV P ro ops Q w0 M h ((0, ⟨some d, .binOp .add T x y T', ty, ps, af, gd⟩) :: prest) D f :=
  y_val hg rfl (fun w _ => by
    unfold execOp
    simp [hx, hy, binOp_string_add, eqGuard, Sem.run_bind, run_string_add_sum w a b hs, Result.andThen_ok, Sem.run_pure]) (.z .str) k
end
theorem dig1 : ∀ n, n < 10 → (⟨#[48, 49, 50, 51, 52, 53, 54, 55, 56, 57, 97, 98, 99, 100, 101, 102, 103, 104, 105, 106, 107, 108, 109, 110, 111, 112, 113, 114, 115, 116, 117, 118, 119, 120, 121, 122]⟩ : ByteArray).extract n (n + 1) = dig n := by decide +kernel
set_option maxRecDepth 100000 in
theorem e_small : Ent Tryz.prog 48 := fun _ _ => rfl
set_option maxRecDepth 8000 in
theorem small_c (n : Nat) (hn : n < 100) (w : World) : Calls Tryz.prog 48 #[.int .i64 (n : Int)] w (RetP (Val (.string (dig n)) w)) := by
  refine calls_of_cw (args := [.int .i64 (n : Int)]) Tryz.func48 rfl rfl ?_
  have S := Sat.start [] w
  (repeat' (first | apply cw_seq | apply cw_region | apply wl_nil | apply cw_skip | apply cw_ret | (apply x_strLH (v := dig n); exact rfl; exact rfl; exact rfl; exact rfl; exact rfl; exact rfl; (exact (by omega)); (exact (by omega)); ((exact (show _ ≤ ((36 : Nat) : Int) by omega)); (exact (show ByteArray.extract _ (n : Int).toNat ((n : Int) + 1).toNat = dig n from dig1 n (by omega))))) | (apply x_strLH (v := dig n); exact rfl; exact rfl; exact rfl; exact rfl; exact rfl; exact rfl; (exact (by omega)); (exact (by omega)); ((exact (show _ ≤ ((200 : Nat) : Int) by omega)); (exact (by decide +kernel : ∀ n, n < 100 → 10 ≤ n → ByteArray.extract _ (n * 2) (n * 2 + 2) = dig n) n hn (by omega)))) | (apply x_move; exact rfl; exact rfl; (exact (by repeat' constructor))) | (apply x_assign; exact rfl; exact rfl; (exact (by repeat' constructor))) | (apply x_bin; exact rfl; exact rfl; exact rfl; (first | exact .z (.wrap (by omega)) | exact (by repeat' constructor))) | (apply x_dec; exact rfl; all_goals (intro _; try omega))))
  all_goals (first | refine q_retS (by assumption) rfl (by repeat (first | exact .nil | (apply RV.tmp; exact (by repeat' constructor)) | (apply RV.cell; exact rfl; exact (by repeat' constructor); exact rfl; exact rfl; exact (by repeat' constructor)))) ?_ | (simp only [thenQ, blockQ]; refine q_retS (by assumption) rfl (by repeat (first | exact .nil | (apply RV.tmp; exact (by repeat' constructor)) | (apply RV.cell; exact rfl; exact (by repeat' constructor); exact rfl; exact rfl; exact (by repeat' constructor)))) ?_))
  all_goals exact ⟨rfl, Sat.keeps (by assumption)⟩
set_option maxRecDepth 100000 in
theorem e_FmtI : Ent Tryz.prog 30 := fun _ _ => rfl
set_option maxRecDepth 4000 in
set_option maxHeartbeats 2000000 in
theorem FmtI_c (n : Nat) (hn : n < 100) (w : World) : Calls Tryz.prog 30 #[.int .i64 (n : Int), .int .i64 10] w (RetP (Val (.string (dig n)) w)) := by
  refine calls_of_cw (args := [.int .i64 (n : Int), .int .i64 10]) Tryz.func30 rfl rfl ?_
  have S := Sat.start [] w
  (repeat' (first | apply cw_seq | apply cw_region | apply wl_nil | apply cw_ret | (apply x_gdec; exact rfl; exact rfl; all_goals (intro _; try omega)) | (apply x_callv; assumption; exact rfl; exact rfl; exact rfl; exact e_small; (exact (by repeat' constructor)); exact (small_c n hn _); intro _ _ _) | (apply x_move; exact rfl; exact rfl; (exact (by repeat' constructor))) | (apply x_assign; exact rfl; exact rfl; (exact (by repeat' constructor))) | (apply x_bin; exact rfl; exact rfl; exact rfl; (first | exact .z (.wrap (by omega)) | exact (by repeat' constructor))) | (apply x_pick; exact rfl; exact rfl; exact rfl; (exact (by repeat' constructor))) | (apply cw_true; exact rfl) | (apply x_dec; exact rfl; all_goals (intro _; try omega))))
  all_goals first
    | (exfalso; omega)
    | skip
  all_goals (first | refine q_retS (by assumption) rfl (by repeat (first | exact .nil | (apply RV.tmp; exact (by repeat' constructor)) | (apply RV.cell; exact rfl; exact (by repeat' constructor); exact rfl; exact rfl; exact (by repeat' constructor)))) ?_ | (simp only [thenQ, blockQ]; refine q_retS (by assumption) rfl (by repeat (first | exact .nil | (apply RV.tmp; exact (by repeat' constructor)) | (apply RV.cell; exact rfl; exact (by repeat' constructor); exact rfl; exact rfl; exact (by repeat' constructor)))) ?_))
  all_goals exact ⟨rfl, Sat.keeps (by assumption)⟩
set_option maxRecDepth 100000 in
theorem e_itoaI : Ent Tryz.prog 18 := fun _ _ => rfl
set_option maxRecDepth 4000 in
set_option maxHeartbeats 2000000 in
theorem itoaI_c (n : Nat) (hn : n < 100) (w : World) : Calls Tryz.prog 18 #[.int .i64 (n : Int)] w (RetP (Val (.string (dig n)) w)) := by
  refine calls_of_cw (args := [.int .i64 (n : Int)]) Tryz.func18 rfl rfl ?_
  have S := Sat.start [] w
  (repeat' (first | apply cw_seq | apply cw_region | apply wl_nil | apply cw_ret | (apply x_callv; assumption; exact rfl; exact rfl; exact rfl; exact e_FmtI; (exact (by repeat' constructor)); exact (FmtI_c n hn _); intro _ _ _) | (apply x_move; exact rfl; exact rfl; (exact (by repeat' constructor))) | (apply x_assign; exact rfl; exact rfl; (exact (by repeat' constructor)))))
  all_goals (first | refine q_retS (by assumption) rfl (by repeat (first | exact .nil | (apply RV.tmp; exact (by repeat' constructor)) | (apply RV.cell; exact rfl; exact (by repeat' constructor); exact rfl; exact rfl; exact (by repeat' constructor)))) ?_ | (simp only [thenQ, blockQ]; refine q_retS (by assumption) rfl (by repeat (first | exact .nil | (apply RV.tmp; exact (by repeat' constructor)) | (apply RV.cell; exact rfl; exact (by repeat' constructor); exact rfl; exact rfl; exact (by repeat' constructor)))) ?_))
  all_goals exact ⟨rfl, Sat.keeps (by assumption)⟩
set_option maxRecDepth 100000 in
theorem e_Itoa : Ent Tryz.prog 8 := fun _ _ => rfl
set_option maxRecDepth 4000 in
set_option maxHeartbeats 2000000 in
theorem Itoa_c (n : Nat) (hn : n < 100) (w : World) : Calls Tryz.prog 8 #[.int .i64 (n : Int)] w (RetP (Val (.string (dig n)) w)) := by
  refine calls_of_cw (args := [.int .i64 (n : Int)]) Tryz.func8 rfl rfl ?_
  have S := Sat.start [] w
  (repeat' (first | apply cw_seq | apply cw_region | apply wl_nil | apply cw_ret | (apply x_callv; assumption; exact rfl; exact rfl; exact rfl; exact e_itoaI; (exact (by repeat' constructor)); exact (itoaI_c n hn _); intro _ _ _) | (apply x_move; exact rfl; exact rfl; (exact (by repeat' constructor))) | (apply x_assign; exact rfl; exact rfl; (exact (by repeat' constructor)))))
  all_goals (first | refine q_retS (by assumption) rfl (by repeat (first | exact .nil | (apply RV.tmp; exact (by repeat' constructor)) | (apply RV.cell; exact rfl; exact (by repeat' constructor); exact rfl; exact rfl; exact (by repeat' constructor)))) ?_ | (simp only [thenQ, blockQ]; refine q_retS (by assumption) rfl (by repeat (first | exact .nil | (apply RV.tmp; exact (by repeat' constructor)) | (apply RV.cell; exact rfl; exact (by repeat' constructor); exact rfl; exact rfl; exact (by repeat' constructor)))) ?_))
  all_goals exact ⟨rfl, Sat.keeps (by assumption)⟩
end Go.Proofs.YtdkknknebehkgaaGreatDoor.Hl

namespace Go.Proofs.YtdkknknebehkgaaGreatDoor.Hl
set_option linter.unusedVariables false
set_option linter.unusedSimpArgs false
open Go Go.RowKit
def dmK (ws : List Int) (k : Nat) : Dm := ⟨Fn k, Fn (k + 1), 0, 0, ws.getD k 0⟩
def dmsOf (ws : List Int) : List Dm := (List.range ws.length).map (dmK ws)
def lksOf (n : Nat) : List Lk := (List.range n).map fun k : Nat => ⟨(k : Int), false⟩
theorem dms_len (ws : List Int) : (dmsOf ws).length = ws.length := by simp [dmsOf]
theorem lks_len (n : Nat) : (lksOf n).length = n := by simp [lksOf]
theorem dms_at {ws : List Int} {k : Nat} (h : k < ws.length) : dat (dmsOf ws) k = dmK ws k := by simp [dmsOf, List.getD_eq_getElem?_getD, h]
theorem lks_at {n k : Nat} (h : k < n) : lat (lksOf n) k = ⟨(k : Int), false⟩ := by simp [lksOf, List.getD_eq_getElem?_getD, h]
theorem dms_snoc (ws : List Int) (v : Int) : dmsOf (ws ++ [v]) = dmsOf ws ++ [⟨Fn ws.length, Fn (ws.length + 1), 0, 0, v⟩] := by
  unfold dmsOf
  rw [List.length_append, List.length_singleton, List.range_succ, List.map_append]
  congr 1
  · refine List.map_congr_left fun k hk => ?_
    have := List.mem_range.1 hk
    unfold dmK
    rw [List.getD_eq_getElem?_getD, List.getD_eq_getElem?_getD, List.getElem?_append_left this]
  · simp [dmK, List.getD_eq_getElem?_getD]
theorem lks_snoc (n : Nat) : lksOf (n + 1) = lksOf n ++ [⟨(n : Int), false⟩] := by
  unfold lksOf
  rw [List.range_succ, List.map_append]; rfl
structure WsOk (ws : List Int) : Prop where
  n1 : 0 < ws.length
  n99 : ws.length ≤ 99
  at_ : ∀ k, k < ws.length → 0 ≤ ws.getD k 0 ∧ ws.getD k 0 ≤ 100000
variable {ws : List Int}
theorem dOf_at {k : Nat} (h : k < ws.length) : dOf (dmsOf ws) (lat (lksOf ws.length) k) = dmK ws k := by
  rw [lks_at h]
  exact dms_at h
theorem WsOk.valid (W : WsOk ws) {k : Nat} (h : k < ws.length) : validE (dat (dmsOf ws) k) = 0 := by
  rw [dms_at h]
  have h1 := W.n99
  have h2 := W.at_ k h
  have e1 : nameE (Fn k) = 0 := Fn_name k (by omega)
  have e2 : nameE (Fn (k + 1)) = 0 := Fn_name (k + 1) (by omega)
  have e3 : clsE (dmK ws k) = 0 := by
    unfold clsE
    rw [if_neg (fun e => by have := Fn_inj (i := k) (j := k + 1) (by omega) (by omega) e; omega), if_neg (by show ¬ ((0 : Int) < 0 ∨ 3 ≤ (0 : Int)); omega)]
  have e4 : chk 0 (ws.getD k 0) = 0 := by
    unfold chk
    rw [if_pos (by omega), if_neg (by omega)]
  show firstE [nameE (Fn k), nameE (Fn (k + 1)), clsE (dmK ws k), chk 0 (ws.getD k 0)] = 0
  rw [e1, e2, e3, e4]
  rfl
theorem WsOk.stp (W : WsOk ws) {i : Nat} (h : i < ws.length) : stp (dmsOf ws) (lksOf ws.length) i = 0 := by
  have h1 := W.n99
  have hb : ∀ k, k < ws.length → begE (dmsOf ws) (lat (lksOf ws.length) k) = Fn k := fun k hk => by
    unfold begE
    rw [dOf_at hk, lks_at hk]
    rfl
  have hs : ∀ k, k < ws.length → stoE (dmsOf ws) (lat (lksOf ws.length) k) = Fn (k + 1) := fun k hk => by
    unfold stoE
    rw [dOf_at hk, lks_at hk]
    rfl
  refine stp_0 ?_ ?_ ?_
  · rw [lks_at h]
    unfold inR
    rw [dms_len]
    exact ⟨by show (0 : Int) ≤ (i : Int); omega, by show (i : Int) < (ws.length : Int); omega⟩
  · rintro ⟨h0, h2 | h2⟩
    · rw [dOf_at h, dOf_at W.n1] at h2
      exact h2 rfl
    · rw [hb i h, hs (i - 1) (by omega), show i - 1 + 1 = i by omega] at h2
      exact h2 rfl
  · rintro (⟨j, hj, h2 | ⟨h2, h3⟩⟩ | ⟨h0, h2⟩)
    · rw [lks_at h, lks_at (show j < ws.length by omega)] at h2
      have : (j : Int) = (i : Int) := h2
      omega
    · rw [hb j (by omega), hs i h] at h3
      have := Fn_inj (i := j) (j := i + 1) (by omega) (by omega) h3
      omega
    · rw [hb 0 W.n1, hs (i - 1) (by omega)] at h2
      have := Fn_inj (i := 0) (j := i - 1 + 1) (by omega) (by omega) h2
      omega
theorem WsOk.stk (W : WsOk ws) : stkE (dmsOf ws) (lksOf ws.length) 0 0 = 0 := by
  have h1 := W.n1
  have h99 := W.n99
  have hg : givenE (dmsOf ws) = 0 := by
    unfold givenE
    rw [dms_len, if_neg (by omega)]
    exact fstE_of _ _ fun i _ hi => W.valid (by omega)
  have hc : chainE (dmsOf ws) (lksOf ws.length) = 0 := by
    unfold chainE
    rw [lks_len, if_neg (by omega), if_neg (by omega)]
    exact fstE_of _ _ fun i _ hi => W.stp (by omega)
  have hl : lpE (dmsOf ws) (lksOf ws.length) = 0 := by
    unfold lpE
    rw [if_neg (not_not_intro hg)]
    exact hc
  unfold stkE
  rw [if_neg (not_not_intro hl)]
  rfl
theorem bnd_take : ∀ n, n ≤ ws.length → bndE (dmsOf ws) (lksOf n) = (0, (ws.take n).sum)
  | 0, _ => by simp [lksOf, bndE]
  | n + 1, h => by
    rw [lks_snoc, bndE_snoc, bnd_take n (by omega)]
    have e : dOf (dmsOf ws) ⟨(n : Int), false⟩ = dmK ws n := dms_at (k := n) (by omega)
    unfold addL
    rw [e]
    have e2 : ws.take (n + 1) = ws.take n ++ [ws.getD n 0] := by
      rw [List.take_succ_eq_append_getElem (show n < ws.length by omega)]
      simp [List.getD_eq_getElem?_getD, show n < ws.length by omega]
    rw [e2, List.sum_append]
    show (0 + sgn ⟨(n : Int), false⟩ * lowE 0 (ws.getD n 0) (sgn ⟨(n : Int), false⟩), (ws.take n).sum + sgn ⟨(n : Int), false⟩ * lowE 0 (ws.getD n 0) (-(sgn ⟨(n : Int), false⟩))) = _
    have e3 : sgn ⟨(n : Int), false⟩ = 1 := rfl
    rw [e3]
    have e4 : lowE 0 (ws.getD n 0) 1 = 0 := by unfold lowE; rw [if_neg (by omega)]
    have e5 : lowE 0 (ws.getD n 0) (-1) = ws.getD n 0 := by unfold lowE; rw [if_pos (by omega)]
    rw [e4, e5]
    simp
theorem bnd_sum : bndE (dmsOf ws) (lksOf ws.length) = (0, ws.sum) := by rw [bnd_take _ (Nat.le_refl _), List.take_length]
theorem WsOk.ok (W : WsOk ws) : ∀ i, i < (dmsOf ws).length → (dat (dmsOf ws) i).ok := fun i hi => by
  rw [dms_len] at hi
  rw [dms_at hi]
  have h1 := W.n99
  have h2 := Fn_size i (by omega)
  have h3 := Fn_size (i + 1) (by omega)
  exact ⟨Nat.le_trans h2 (by decide), Nat.le_trans h3 (by decide)⟩
end Go.Proofs.YtdkknknebehkgaaGreatDoor.Hl
