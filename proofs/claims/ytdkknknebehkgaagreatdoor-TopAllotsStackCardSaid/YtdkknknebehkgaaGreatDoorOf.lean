/- The widths of the links that parts give: their number, their sum. No statement of the seat is proved here. -/
/- The dimensions of chosen parts as a stack: the walk of TopAllotsStack. No statement of the seat is proved here. -/
import Derived.Test.YtdkknknebehkgaaGreatDoorOb
import Derived.Test.YtdkknknebehkgaaGreatDoorOd
import Derived.Test.YtdkknknebehkgaaGreatDoorEngK
import Derived.Test.YtdkknknebehkgaaGreatDoorSq
namespace Go.Proofs.YtdkknknebehkgaaGreatDoor.Hl
set_option linter.unusedVariables false
set_option linter.unusedSimpArgs false
open Go Go.RowKit
open Go.Proofs.YtdkknknebehkgaaGreatDoor.Al
/-- the widths of the links of the first k parts -/
def wds (ps : List Pt) (l : List Int) : Nat → List Int
  | 0 => []
  | k + 1 => wds ps l k ++ List.replicate (ps.getD k pt0).wt.toNat (chO ps l k).w
theorem sum_rep (n : Nat) (v : Int) : (List.replicate n v).sum = n * v := by
  induction n with
  | zero => simp
  | succ n ih => rw [List.replicate_succ, List.sum_cons, ih, Int.natCast_add, Int.add_mul]; omega
theorem wds_sum {m : Int} {ps : List Pt} (ho : OkT m ps) (l : List Int) : ∀ k, k ≤ ps.length → (wds ps l k).sum = wS ps l k
  | 0, _ => rfl
  | k + 1, h => by
    rw [wds, List.sum_append, wds_sum ho l k (by omega), sum_rep, wS]
    have := (ho.pt k (by omega)).w1
    rw [Int.toNat_of_nonneg (by omega)]
theorem wds_len {m : Int} {ps : List Pt} (ho : OkT m ps) (l : List Int) : ∀ k, k ≤ ps.length → k ≤ (wds ps l k).length ∧ (wds ps l k).length ≤ 16 * k
  | 0, _ => by simp [wds]
  | k + 1, h => by
    have h1 := wds_len ho l k (by omega)
    have h2 := (ho.pt k (by omega)).w1
    have h3 := (ho.pt k (by omega)).w16
    rw [wds, List.length_append, List.length_replicate]
    omega
theorem wds_mem {m : Int} {ps : List Pt} (ho : OkT m ps) {l : List Int} (hok : ∀ i, i < ps.length → 0 ≤ l.getD i 0 ∧ l.getD i 0 < (ps.getD i pt0).cs.length) : ∀ k, k ≤ ps.length → ∀ x ∈ wds ps l k, 0 ≤ x ∧ x ≤ 100000
  | 0, _, x, hx => by cases hx
  | k + 1, h, x, hx => by
    rw [wds] at hx
    rcases List.mem_append.1 hx with hx | hx
    · exact wds_mem ho hok k (by omega) x hx
    · rw [List.eq_of_mem_replicate hx]
      have h1 := hok k (by omega)
      exact ((ho.pt k (by omega)).cw (l.getD k 0).toNat (by omega)).1
theorem wds_ok {m : Int} {ps : List Pt} (ho : OkT m ps) (h5 : ps.length ≤ 5) {l : List Int} (hok : ∀ i, i < ps.length → 0 ≤ l.getD i 0 ∧ l.getD i 0 < (ps.getD i pt0).cs.length) : WsOk (wds ps l ps.length) := by
  have h1 := wds_len ho l ps.length (Nat.le_refl _)
  have h2 := ho.n1
  refine ⟨by omega, by omega, fun k hk => wds_mem ho hok ps.length (Nat.le_refl _) _ ?_⟩
  simp [List.getD_eq_getElem?_getD, hk]
theorem Limits_n {ws : List Int} (W : WsOk ws) {n : Nat} (hn : n = ws.length) {s : Int} (hs : ws.sum = s) (A1 : Option Addr) (c1 : Nat) (A2 : Option Addr) (c2 : Nat) (w : World)
    (R1 : Rd w A1 5 (dmsOf ws).length (fun i => dmC ((dmsOf ws).getD i dm0))) (R2 : Rd w A2 2 (lksOf n).length (fun i => lkC ((lksOf n).getD i lk0))) :
    Calls Tryz.prog 9 #[.agg #[.slice A1 n c1, .slice A2 n c2, .int .i64 0, .int .i64 0]] w (RetP (Val (.tuple #[.agg #[.int .i64 0, .int .i64 s], .int .i64 0]) w)) := by
  have h99 := W.n99
  subst hn hs
  have := Limits_c A1 c1 (dmsOf ws) (by rw [dms_len]; omega) W.ok A2 c2 (lksOf ws.length) (by rw [lks_len]; omega) 0 0 W.stk w R1 R2
  rw [bnd_sum, dms_len, lks_len] at this
  exact this
theorem val_sol {m c : Int} {ps : List Pt} {l : List Int} (hck : Al.chkE m ps = 0) (h : Sol m ps l c) : valV m ps l = [.int .i64 (wS ps l ps.length), .int .i64 c, .int .i64 0] := by
  rw [valV_0 hck h.len h.ok, h.cost, h.len]
section
variable {P : Program} {ro : Option Nat} {n : Nat} {Q : Post} {D : List Deferred} {f : Fm} {w w0 w' : World} {M : List Nat} {h : List HO}
variable {ops : Array Oper} {rest : List Oper} {d ty : Nat} {ps : String} {af : Array Edge} {gd : Option (Nat × Bool)} {x y : Operand}
theorem x_appendAllM {α : Type} {T e size bytes c m : Nat} {A B : Option Addr} {l : List α} {en : α → List Value} (z : α) (hs : ∀ a, (en a).length = size) (hn : l.length = m) (R : Rd w B size l.length (fun i => en (l.getD i z))) (hsm : l.length < 1000000000) (hpos : 0 < l.length) (S : Sat w0 M h w)
    (hg : want ops f ⟨some d, .call ⟨.builtin .append, #[x, y], #[T, T]⟩, ty, ps, af, gd⟩ = true) (hdn : Nat.blt d n = true) (hk : apk P T = some (e, size, bytes)) (hx : fev f x = .slice A 0 0) (hy : fev f y = .slice B m c) (hA : A = B ∨ ∃ b, A = some ⟨b, 0, none⟩) (hby : Nat.ble bytes 100000 = true)
    (kk : ∀ g cap w', Sat w0 M (.rw 0 (.slice (some ⟨g, 0, none⟩) m cap) e size (l.map en) :: h) w' → WL P ro n ops Q rest D (upd f d (.slice (some ⟨g, 0, none⟩) m cap)) w') :
    WL P ro n ops Q (⟨some d, .call ⟨.builtin .append, #[x, y], #[T, T]⟩, ty, ps, af, gd⟩ :: rest) D f w := by
  subst hn
  exact x_appendAllB z hs R hsm hpos S hg hdn hk hx hy hA hby fun g cap w' _ S' => kk g cap w' S'
end
theorem cS_set {ps : List Pt} {l : List Int} {i : Nat} {z : Int} (hi : i < l.length) : ∀ n, cS ps (l.set i z) n = cS ps l n + (if i < n then ((ps.getD i pt0).cs.getD z.toNat ch0).c - (chO ps l i).c else 0)
  | 0 => by simp [cS]
  | n + 1 => by
    rw [cS, cS, cS_set hi n]
    unfold chO
    rw [set_get hi]
    by_cases e : i = n
    · subst e
      rw [if_neg (by omega), if_pos rfl, if_pos (by omega)]
      omega
    · rw [if_neg e]
      by_cases h : i < n
      · rw [if_pos h, if_pos (by omega)]
        omega
      · rw [if_neg h, if_neg (by omega)]
        omega
/-- a cheaper choice of a single part is not permitted -/
theorem one_cheaper {m c : Int} {ps : List Pt} {l : List Int} (h : Sol m ps l c) {i k : Nat} (hi : i < ps.length) (hk : k < (ps.getD i pt0).cs.length) (hc : ((ps.getD i pt0).cs.getD k ch0).c < ((ps.getD i pt0).cs.getD (l.getD i 0).toNat ch0).c) :
    (l.set i (k : Int)).length = ps.length ∧ Al.okL ps (l.set i (k : Int)) (l.set i (k : Int)).length ∧ m < wS ps (l.set i (k : Int)) ps.length := by
  have hl := h.len
  have h1 : (l.set i (k : Int)).length = ps.length := by rw [List.length_set]; exact hl
  have h2 := okL_set h.ok (i := i) (by omega) hk
  refine ⟨h1, h2, Classical.byContradiction fun hn => ?_⟩
  have h3 := (h.least _ h1 h2 (by rw [h1]; omega)).1
  rw [h1, cS_set (by omega), if_pos hi] at h3
  have h4 := h.cost
  rw [hl] at h4
  unfold chO at h3
  have h5 : ((k : Int)).toNat = k := rfl
  rw [h5] at h3
  omega
end Go.Proofs.YtdkknknebehkgaaGreatDoor.Hl

namespace Go.Proofs.YtdkknknebehkgaaGreatDoor.Hl
set_option linter.unusedVariables false
set_option linter.unusedSimpArgs false
open Go Go.RowKit
open Go.Proofs.YtdkknknebehkgaaGreatDoor.Al
set_option maxRecDepth 100000 in
theorem e_law : Ent Tryz.prog 3 := fun _ _ => rfl
set_option maxRecDepth 8000 in
set_option maxHeartbeats 16000000 in
theorem law_c (m : Int) (B : Option Addr) (cB : Nat) (ps : List Pt) (hp : ps.length ≤ 9223372036854775807) (hcs : ∀ i, i < ps.length → (pat ps i).cs.length ≤ 9223372036854775807) (hz : ps.length * 32 ≤ reachBytes) (hcz : ∀ i, i < ps.length → (pat ps i).cs.length * 16 ≤ reachBytes) (w : World) (R : Rd w B 2 ps.length (fun i => ptC (ps.getD i pt0))) (R2 : ∀ i, i < ps.length → Rd w (pat ps i).A 2 (pat ps i).cs.length (fun j => chC ((pat ps i).cs.getD j ch0))) : Calls Tryz.prog 3 #[.agg #[.int .i64 m, .slice B ps.length cB]] w (RetP (Val (.bool true) w)) := by
  refine calls_of_cw (args := [.agg #[.int .i64 m, .slice B ps.length cB]]) Tryz.func3 rfl rfl ?_
  have S := Sat.start [] w
  have O := R.old
  have hrb : reachBytes ≤ 140737488355328 := by decide
  have hp9 : ps.length ≤ 9223372036854775807 := by omega
  (repeat' (first | apply cw_seq | apply cw_region | apply wl_nil | apply cw_block | (apply x_move; exact rfl; exact rfl; (exact (by repeat' constructor))) | (apply x_assign; exact rfl; exact rfl; (exact (by repeat' constructor))) | (apply x_fieldB; exact rfl; exact rfl; exact rfl; exact rfl; (constructor)) | (apply x_load; assumption; exact rfl; exact rfl; exact rfl; (exact (by repeat' constructor)); exact rfl; exact rfl; (exact (by repeat' constructor))) | (apply x_box; assumption; exact rfl; exact rfl; (exact (by repeat' constructor)); (exact (by repeat' constructor)); intro _ _ _) | (apply x_alloc; assumption; exact rfl; exact rfl; exact rfl; (exact (by repeat' constructor)); intro _ _ _) | (apply x_store; assumption; exact rfl; exact rfl; (exact (by repeat' constructor)); (exact (by repeat' constructor)); exact rfl; exact rfl; exact rfl; (exact (by repeat' constructor)); intro _ _) | (apply x_build; exact rfl; exact rfl; exact rfl; (exact (by repeat' constructor))) | (apply x_builtin; exact rfl; exact rfl; exact (fun _ => rfl); (exact (by repeat' constructor)))))
  rename_i b1 _ _ b3 _ _ w1 S1
  refine cw_loop [5, 6, 8, 34, 35, 36, 37, 38, 39, 40, 41, 42, 43, 44, 45, 46, 47, 48, 49, 50, 51, 52, 53, 54, 55, 56, 57, 58, 59, 60, 61] [34] (fun us wr => ∃ (i : Nat) (A' : Option Addr) (c' : Nat) (qs : List Pt), i ≤ ps.length ∧ us = [.int .i64 i] ∧ qs.length = i ∧ qs.map Pt.pl = (ps.take i).map Pt.pl ∧ Sat w [] (.rw 0 (.slice A' i c') 33 2 (qs.map ptC) :: .cl b3 27 [.int .i64 m, .slice A' i c'] :: .cl b1 24 [.int .i64 m, .slice B ps.length cB] :: qs.map qH) wr) (fun us _ => ps.length - (intOf (us.getD 0 undef)).toNat) ?_ ?_
  · exact ⟨0, none, 0, [], Nat.zero_le _, rfl, rfl, rfl, S1.addNil _ _⟩
  clear S S1
  rintro g us wr ⟨i, A', c', qs, hi, rfl, hql, hqs, Sr⟩
  by_cases hlt : i < ps.length
  · have O3 : Old w [] (ps.getD i pt0).A 2 (ps.getD i pt0).cs.length (fun j => chC ((ps.getD i pt0).cs.getD j ch0)) := (R2 i hlt).old
    have hcz' : (ps.getD i pt0).cs.length * 16 ≤ reachBytes := hcz i hlt
    have hc9 : (ps.getD i pt0).cs.length ≤ 9223372036854775807 := by omega
    (repeat' (first | apply cw_seq | apply cw_region | apply wl_nil | apply cw_block | apply cw_skip | (apply x_move; exact rfl; exact rfl; (exact (by repeat' constructor))) | (apply x_fieldB; exact rfl; exact rfl; exact rfl; exact rfl; (constructor)) | (apply x_load; assumption; exact rfl; exact rfl; exact rfl; (exact (by repeat' constructor)); exact rfl; exact rfl; (exact (by repeat' constructor))) | (apply x_bin; exact rfl; exact rfl; exact rfl; (first | exact .z (.wrap (by omega)) | exact (by repeat' constructor))) | (apply x_alloc; assumption; exact rfl; exact rfl; exact rfl; (exact (by repeat' constructor)); intro _ _ _) | (apply x_store; assumption; exact rfl; exact rfl; (exact (by repeat' constructor)); (exact (by repeat' constructor)); exact rfl; exact rfl; exact rfl; (exact (by repeat' constructor)); intro _ _) | (apply x_build; exact rfl; exact rfl; exact rfl; (exact (by repeat' constructor))) | (apply x_builtin; exact rfl; exact rfl; exact (fun _ => rfl); (exact (by repeat' constructor))) | (apply x_index; exact rfl; exact rfl; exact rfl; exact rfl; exact rfl; (constructor); (first | omega | exact size_pos (by assumption) | assumption); (first | exact rfl | assumption | exact Rd.some_ (by assumption) (by omega) | exact Rd.some_ (Old.rd (by assumption)) (by omega) | exact (Sat.rd (by assumption) (by exact (by repeat' constructor))).some_ (by omega))) | (apply x_loadR; exact rfl; exact rfl; exact rfl; (first | exact Old.now (by assumption) (by assumption) | exact Sat.rdpr (by assumption) (by exact (by repeat' constructor)) | exact Sat.rd (by assumption) (by exact (by repeat' constructor))); (first | omega | exact size_pos (by assumption) | assumption); exact rfl; exact rfl; (exact (by repeat' constructor))) | (apply x_dec; exact rfl; all_goals (intro _; try omega))))
    rename_i b5 _ _ _ _ b6 _ _ w5 S5
    refine cw_loop [8, 44, 45, 46, 47, 48, 49, 50, 51, 52, 53, 54] [44] (fun us wr => ∃ (j : Nat) (A2 : Option Addr) (c2 : Nat), j ≤ (ps.getD i pt0).cs.length ∧ us = [.int .i64 j] ∧ Sat w [] (.rw 0 (.slice A2 j c2) 36 2 (((ps.getD i pt0).cs.take j).map chC) :: .cl b6 33 [.int .i64 (ps.getD i pt0).wt, .slice A2 j c2] :: .cl b5 30 (ptC (ps.getD i pt0)) :: .rw 0 (.slice A' i c') 33 2 (qs.map ptC) :: .cl b3 27 [.int .i64 m, .slice A' i c'] :: .cl b1 24 [.int .i64 m, .slice B ps.length cB] :: qs.map qH) wr) (fun us _ => (ps.getD i pt0).cs.length - (intOf (us.getD 0 undef)).toNat) ?_ ?_
    · exact ⟨0, none, 0, Nat.zero_le _, rfl, S5.addNil _ _⟩
    clear Sr S5
    rintro g2 us wr2 ⟨j, A2, c2, hj, rfl, Sj⟩
    by_cases hlj : j < (ps.getD i pt0).cs.length
    · have hkl : (((ps.getD i pt0).cs.take j).map chC).length = j := by rw [List.length_map, List.length_take]; omega
      have hb : ((((ps.getD i pt0).cs.take j).map chC).length + 1) * 16 ≤ reachBytes := Nat.le_trans (Nat.mul_le_mul_right 16 (by omega)) hcz'
      (repeat' (first | apply cw_seq | apply cw_region | apply wl_nil | apply cw_block | apply cw_skip | (apply x_append1B; assumption; exact rfl; exact rfl; exact rfl; exact rfl; exact rfl; (exact (by repeat' constructor)); (exact (by repeat' constructor)); exact rfl; exact rfl; exact rfl; exact hb; intro _ _ _ _) | (apply x_move; exact rfl; exact rfl; (exact (by repeat' constructor))) | (apply x_fieldB; exact rfl; exact rfl; exact rfl; exact rfl; (constructor)) | (apply x_load; assumption; exact rfl; exact rfl; exact rfl; (exact (by repeat' constructor)); exact rfl; exact rfl; (exact (by repeat' constructor))) | (apply x_bin; exact rfl; exact rfl; exact rfl; (first | exact .z (.wrap (by omega)) | exact (by repeat' constructor))) | (apply x_alloc; assumption; exact rfl; exact rfl; exact rfl; (exact (by repeat' constructor)); intro _ _ _) | (apply x_store; assumption; exact rfl; exact rfl; (exact (by repeat' constructor)); (exact (by repeat' constructor)); exact rfl; exact rfl; exact rfl; (exact (by repeat' constructor)); intro _ _) | (apply x_buildSlice; assumption; exact rfl; exact rfl; exact rfl; (exact (by repeat' constructor)); intro _ _ _) | (apply x_index; exact rfl; exact rfl; exact rfl; exact rfl; exact rfl; (constructor); (first | omega | exact size_pos (by assumption) | assumption); (first | exact rfl | assumption | exact Rd.some_ (by assumption) (by omega) | exact Rd.some_ (Old.rd (by assumption)) (by omega) | exact (Sat.rd (by assumption) (by exact (by repeat' constructor))).some_ (by omega))) | (apply x_loadR; exact rfl; exact rfl; exact rfl; (first | exact Old.now (by assumption) (by assumption) | exact Sat.rdpr (by assumption) (by exact (by repeat' constructor)) | exact Sat.rd (by assumption) (by exact (by repeat' constructor))); (first | omega | exact size_pos (by assumption) | assumption); exact rfl; exact rfl; (exact (by repeat' constructor))) | (apply x_dec; exact rfl; all_goals (intro _; try omega))))
      rename_i g1 cap1 _ _ w6 S6
      have hk2 : (((ps.getD i pt0).cs.take j).map chC).length + 1 = j + 1 := by omega
      rw [hk2] at S6
      refine ⟨rfl, (by repeat (first | exact Agree.updl rfl (Agree.mask _ _ _) | refine Agree.upd rfl ?_)), ⟨j + 1, some ⟨g1, 0, none⟩, cap1, hlj, rfl, ?_⟩, ?_⟩
      · rw [take_suc (d := ch0) hlj, List.map_append]
        exact Sat.drop2 S6
      · show (ps.getD i pt0).cs.length - (j + 1 : Int).toNat < (ps.getD i pt0).cs.length - (j : Int).toNat
        omega
    · have e : j = (ps.getD i pt0).cs.length := by omega
      subst e
      have hkl : (qs.map ptC).length = i := by rw [List.length_map]; exact hql
      have hb : ((qs.map ptC).length + 1) * 32 ≤ reachBytes := Nat.le_trans (Nat.mul_le_mul_right 32 (by omega)) hz
      (repeat' (first | apply cw_seq | apply cw_region | apply wl_nil | apply cw_exit | (apply x_append1B; assumption; exact rfl; exact rfl; exact rfl; exact rfl; exact rfl; (exact (by repeat' constructor)); (exact (by repeat' constructor)); exact rfl; exact rfl; exact rfl; exact hb; intro _ _ _ _) | (apply x_move; exact rfl; exact rfl; (exact (by repeat' constructor))) | (apply x_fieldB; exact rfl; exact rfl; exact rfl; exact rfl; (constructor)) | (apply x_load; assumption; exact rfl; exact rfl; exact rfl; (exact (by repeat' constructor)); exact rfl; exact rfl; (exact (by repeat' constructor))) | (apply x_bin; exact rfl; exact rfl; exact rfl; (first | exact .z (.wrap (by omega)) | exact (by repeat' constructor))) | (apply x_store; assumption; exact rfl; exact rfl; (exact (by repeat' constructor)); (exact (by repeat' constructor)); exact rfl; exact rfl; exact rfl; (exact (by repeat' constructor)); intro _ _) | (apply x_buildSlice; assumption; exact rfl; exact rfl; exact rfl; (exact (by repeat' constructor)); intro _ _ _) | (apply x_dec; exact rfl; all_goals (intro _; try omega))))
      rename_i g1 cap1 _ _ w6 S6
      have hk2 : (qs.map ptC).length + 1 = i + 1 := by omega
      rw [hk2, List.take_length] at S6
      refine ⟨rfl, (by repeat (first | exact Agree.updl rfl (Agree.mask _ _ _) | refine Agree.upd rfl ?_ | refine Agree.updl rfl ?_ | refine Agree.maskIn rfl ?_)), ⟨i + 1, some ⟨g1, 0, none⟩, cap1, qs ++ [⟨(ps.getD i pt0).wt, A2, c2, (ps.getD i pt0).cs⟩], hlt, rfl, ?_, ?_, ?_⟩, ?_⟩
      · simp [hql]
      · rw [List.map_append, hqs, take_suc (d := pt0) hlt, List.map_append]
        rfl
      · rw [List.map_append, List.map_append]
        have S7 : Sat w [] (qH ⟨(ps.getD i pt0).wt, A2, c2, (ps.getD i pt0).cs⟩ :: .rw 0 (.slice (some ⟨g1, 0, none⟩) (i + 1) cap1) 33 2 (qs.map ptC ++ [ptC ⟨(ps.getD i pt0).wt, A2, c2, (ps.getD i pt0).cs⟩]) :: .cl b3 27 [.int .i64 m, .slice (some ⟨g1, 0, none⟩) (i + 1) cap1] :: .cl b1 24 [.int .i64 m, .slice B ps.length cB] :: qs.map qH) w6 :=
          Sat.drop S6 _ (.cons _ (.cons_cons _ (.cons _ (.cons _ (List.Sublist.refl _)))))
        exact S7.perm' (List.perm_append_comm (l₁ := [_]))
      · show ps.length - (i + 1 : Int).toNat < ps.length - (i : Int).toNat
        omega
  · have e : i = ps.length := by omega
    subst e
    rw [List.take_length] at hqs
    obtain ⟨q, hq1, hq2, hq3⟩ : ∃ q : OQ ps, q.A = A' ∧ q.c = c' ∧ q.qs = qs := ⟨⟨A', c', qs, hqs⟩, rfl, rfl, rfl⟩
    subst hq1 hq2 hq3
    have Sq : Sat w [] (.rw 0 (.slice q.A q.qs.length q.c) 33 2 (q.qs.map ptC) :: .cl b3 27 [.int .i64 m, .slice q.A q.qs.length q.c] :: .cl b1 24 [.int .i64 m, .slice B ps.length cB] :: q.qs.map qH) wr := by
      rw [hql]; exact Sr
    have hmq : ∀ o ∈ oqH q, o ∈ (.rw 0 (.slice q.A q.qs.length q.c) 33 2 (q.qs.map ptC) :: .cl b3 27 [.int .i64 m, .slice q.A q.qs.length q.c] :: .cl b1 24 [.int .i64 m, .slice B ps.length cB] :: q.qs.map qH : List HO) := fun o ho => by
      rcases List.mem_cons.1 ho with rfl | ho
      · exact .head _
      · exact .tail _ (.tail _ (.tail _ ho))
    clear Sr
    by_cases hall : ps.length ≤ 5 ∧ FewT m ps ∧ chkE m ps = 0
    · obtain ⟨h5, hf, hck⟩ := hall
      have hN : chkE m ps = 0 → prodN ps ≤ 20000 := fun h => Nat.le_trans (hf.few h) (by decide)
      rcases slv_cases hck with ⟨hn, hs⟩ | ⟨l, c, hcs', hs, hsol⟩
      · (repeat' (first | apply cw_seq | apply cw_region | apply wl_nil | apply cw_skip | apply cw_exit | apply cw_ret | (apply x_gdec; exact rfl; exact rfl; all_goals (intro _; try omega)) | (apply x_callv; assumption; exact rfl; exact rfl; exact rfl; exact e_rFew; (exact (by repeat' constructor)); (with_reducible apply rFew_y); (exact hp; exact hcs; assumption; exact hmq; exact hf); intro _ _ _) | (apply x_callv; assumption; exact rfl; exact rfl; exact rfl; exact e_rCheckT; (exact (by repeat' constructor)); (with_reducible apply rCheck_o); (exact hp; exact hcs; assumption; exact hmq); intro _ _ _) | (apply x_callrowE (m := 0); assumption; exact rfl; exact rfl; exact rfl; exact e_SolveT; (exact (by repeat' constructor)); (with_reducible exact (Solve_y m B cB ps hp hcs hN hs _ (R.old.now (by assumption)) (fun i hi => (R2 i hi).old.now (by assumption)))); exact rfl; intro _ _ _ _) | (apply x_callv; assumption; exact rfl; exact rfl; exact rfl; exact Sl.e_casePicks; (exact (by repeat' constructor)); exact (Sl.casePicks_c _); intro _ _ _) | (apply x_move; exact rfl; exact rfl; (exact (by repeat' constructor))) | (apply x_assign; exact rfl; exact rfl; (exact (by repeat' constructor))) | (apply x_fieldB; exact rfl; exact rfl; exact rfl; exact rfl; (constructor)) | (apply x_load; assumption; exact rfl; exact rfl; exact rfl; (exact (by repeat' constructor)); exact rfl; exact rfl; (exact (by repeat' constructor))) | (apply x_bin; exact rfl; exact rfl; exact rfl; (first | exact .z (.wrap (by omega)) | exact (by repeat' constructor))) | (apply x_pick; exact rfl; exact rfl; exact rfl; (exact (by repeat' constructor))) | (apply x_un; exact rfl; exact rfl; exact rfl; (first | exact .z (.wrap (by omega)) | exact (by repeat' constructor))) | (apply x_extract; exact rfl; exact rfl; exact rfl; (exact (by repeat' constructor))) | (apply x_builtin; exact rfl; exact rfl; exact (fun _ => rfl); (exact (by repeat' constructor))) | (apply cw_true; exact rfl) | (apply x_dec; exact rfl; all_goals (intro _; try omega)) | (apply cw_ne; exact rfl; all_goals (intro _; try omega))))
        (first | refine q_retS (by assumption) rfl (by repeat (first | exact .nil | (apply RV.tmp; exact (by repeat' constructor)) | (apply RV.cell; exact rfl; exact (by repeat' constructor); exact rfl; exact rfl; exact (by repeat' constructor)))) ?_ | (simp only [thenQ, blockQ]; refine q_retS (by assumption) rfl (by repeat (first | exact .nil | (apply RV.tmp; exact (by repeat' constructor)) | (apply RV.cell; exact rfl; exact (by repeat' constructor); exact rfl; exact rfl; exact (by repeat' constructor)))) ?_))
        exact ⟨rfl, Sat.keeps (by assumption)⟩
      · (repeat' (first | apply cw_seq | apply cw_region | apply wl_nil | apply cw_block | apply cw_skip | apply cw_exit | (apply x_gdec; exact rfl; exact rfl; all_goals (intro _; try omega)) | (apply x_callv; assumption; exact rfl; exact rfl; exact rfl; exact e_rFew; (exact (by repeat' constructor)); (with_reducible apply rFew_y); (exact hp; exact hcs; assumption; exact hmq; exact hf); intro _ _ _) | (apply x_callv; assumption; exact rfl; exact rfl; exact rfl; exact e_rCheckT; (exact (by repeat' constructor)); (with_reducible apply rCheck_o); (exact hp; exact hcs; assumption; exact hmq); intro _ _ _) | (apply x_callrowE (m := ps.length); assumption; exact rfl; exact rfl; exact rfl; exact e_SolveT; (exact (by repeat' constructor)); (with_reducible exact (Solve_y m B cB ps hp hcs hN hs _ (R.old.now (by assumption)) (fun i hi => (R2 i hi).old.now (by assumption)))); exact (List.length_map _).trans hsol.len; intro AL cL wL SL) | (apply x_move; exact rfl; exact rfl; (exact (by repeat' constructor))) | (apply x_assign; exact rfl; exact rfl; (exact (by repeat' constructor))) | (apply x_fieldB; exact rfl; exact rfl; exact rfl; exact rfl; (constructor)) | (apply x_load; assumption; exact rfl; exact rfl; exact rfl; (exact (by repeat' constructor)); exact rfl; exact rfl; (exact (by repeat' constructor))) | (apply x_bin; exact rfl; exact rfl; exact rfl; (first | exact .z (.wrap (by omega)) | exact (by repeat' constructor))) | (apply x_pick; exact rfl; exact rfl; exact rfl; (exact (by repeat' constructor))) | (apply x_un; exact rfl; exact rfl; exact rfl; (first | exact .z (.wrap (by omega)) | exact (by repeat' constructor))) | (apply x_alloc; assumption; exact rfl; exact rfl; exact rfl; (exact (by repeat' constructor)); intro _ _ _) | (apply x_extract; exact rfl; exact rfl; exact rfl; (exact (by repeat' constructor))) | (apply x_builtin; exact rfl; exact rfl; exact (fun _ => rfl); (exact (by repeat' constructor))) | (apply cw_false; exact rfl) | (apply x_dec; exact rfl; all_goals (intro _; try omega)) | (apply cw_ne; exact rfl; all_goals (intro _; try omega))))
        rename_i b12 w2 S2
        have S3 : Sat w [] (.rw 0 (.slice none 0 0) 52 5 ((dmsOf []).map dmC) :: .rw 0 (.slice none 0 0) 54 2 ((lksOf 0).map lkC) :: .cl b12 49 [.slice none 0 0, .slice none 0 0, .int .i64 0, .int .i64 0] :: .rw 0 (.slice AL ps.length cL) 3 1 (l.map pkC) :: .cl b1 24 [.int .i64 m, .slice B ps.length cB] :: []) w2 := ((S2.drop [_, _, _] (.cons_cons _ (.cons_cons _ (.cons _ (.cons _ (.cons_cons _ (List.nil_sublist _))))))).addNil 54 2).addNil 52 5
        clear S2 SL Sq
        have ho := chkE_ok hck
        have hok : ∀ i, i < ps.length → 0 ≤ l.getD i 0 ∧ l.getD i 0 < (ps.getD i pt0).cs.length := fun i hi => hsol.ok i (by rw [hsol.len]; exact hi)
        have hll := hsol.len
        refine cw_loop [2, 13, 14, 15, 99, 100, 101, 102, 103, 104, 105, 106, 107, 108, 109, 110, 111, 112, 113, 114, 115, 116, 117, 118, 119, 120, 121, 122, 123, 124, 125, 126, 127, 128, 129, 130, 131, 132, 133, 134, 135, 136, 137, 138, 139, 140, 141, 142, 143, 144, 145, 146, 147, 148, 149, 150, 151, 152, 153, 154, 155, 156, 157] [99] (fun us wr => ∃ (i n : Nat) (A1 : Option Addr) (c1 : Nat) (A2 : Option Addr) (c2 : Nat), i ≤ ps.length ∧ us = [.int .i64 i] ∧ n = (wds ps l i).length ∧ Sat w [] (.rw 0 (.slice A1 n c1) 52 5 ((dmsOf (wds ps l i)).map dmC) :: .rw 0 (.slice A2 n c2) 54 2 ((lksOf n).map lkC) :: .cl b12 49 [.slice A1 n c1, .slice A2 n c2, .int .i64 0, .int .i64 0] :: .rw 0 (.slice AL ps.length cL) 3 1 (l.map pkC) :: .cl b1 24 [.int .i64 m, .slice B ps.length cB] :: []) wr) (fun us _ => ps.length - (intOf (us.getD 0 undef)).toNat) ?_ ?_
        · exact ⟨0, 0, none, 0, none, 0, Nat.zero_le _, rfl, rfl, S3⟩
        clear S3
        rintro g us wr ⟨i, n, A1, c1, A2, c2, hi, rfl, hn, Sr⟩
        by_cases hlt : i < ps.length
        · have O3 : Old w [] (ps.getD i pt0).A 2 (ps.getD i pt0).cs.length (fun j => chC ((ps.getD i pt0).cs.getD j ch0)) := (R2 i hlt).old
          have hin := hok i hlt
          have hcl : (ps.getD i pt0).cs.length ≤ 16 := (ho.pt i hlt).n16
          (repeat' (first | apply cw_seq | apply cw_region | apply wl_nil | apply cw_block | apply cw_skip | (apply y_gdec; exact rfl; exact rfl; all_goals (intro _; try omega)) | (apply y_loadRowM (en := pkC) (0 : Int); exact rfl; exact rfl; (exact (by repeat' constructor)); exact hll.symm; (exact (by rw [hll]; exact hlt)); exact rfl; exact rfl; (exact (by repeat' constructor))) | (apply cw_draw (id := 24) [(0, 0), (1, 0), (2, 0), (3, 0), (4, 0), (5, 0), (6, 0), (7, 0), (8, 0), (9, 0), (10, 0), (11, 0), (12, 0), (13, 0), (14, 0)]; assumption; exact mixed; kernel_rfl) | (apply x_move; exact rfl; exact rfl; (exact (by repeat' constructor))) | (apply x_assign; exact rfl; exact rfl; (exact (by repeat' constructor))) | (apply x_fieldB; exact rfl; exact rfl; exact rfl; exact rfl; (constructor)) | (apply x_load; assumption; exact rfl; exact rfl; exact rfl; (exact (by repeat' constructor)); exact rfl; exact rfl; (exact (by repeat' constructor))) | (apply x_bin; exact rfl; exact rfl; exact rfl; (first | exact .z (.wrap (by omega)) | exact (by repeat' constructor))) | (apply x_alloc; assumption; exact rfl; exact rfl; exact rfl; (exact (by repeat' constructor)); intro _ _ _) | (apply x_store; assumption; exact rfl; exact rfl; (exact (by repeat' constructor)); (exact (by repeat' constructor)); exact rfl; exact rfl; exact rfl; (exact (by repeat' constructor)); intro _ _) | (apply x_index; exact rfl; exact rfl; exact rfl; exact rfl; exact rfl; (constructor); (first | omega | exact size_pos (by assumption) | assumption); (first | exact rfl | assumption | exact Rd.some_ (by assumption) (by omega) | exact Rd.some_ (Old.rd (by assumption)) (by omega) | exact (Sat.rd (by assumption) (by exact (by repeat' constructor))).some_ (by omega))) | (apply x_loadR; exact rfl; exact rfl; exact rfl; (first | exact Old.now (by assumption) (by assumption) | exact Sat.rdpr (by assumption) (by exact (by repeat' constructor)) | exact Sat.rd (by assumption) (by exact (by repeat' constructor))); (first | omega | exact size_pos (by assumption) | assumption); exact rfl; exact rfl; (exact (by repeat' constructor))) | (apply y_move; exact rfl; (exact (by repeat' constructor))) | (apply y_fieldB; exact rfl; exact rfl; exact rfl; (constructor)) | (apply y_load; exact rfl; exact rfl; (exact (by repeat' constructor)); exact rfl; exact rfl; (exact (by repeat' constructor))) | (apply y_bin; exact rfl; exact (fun _ => rfl); (first | exact .z (.wrap (by omega)) | exact (by repeat' constructor))) | (apply y_pick; exact rfl; exact rfl; (exact (by repeat' constructor))) | (apply y_builtin; exact rfl; exact (fun _ _ => rfl); (exact (by repeat' constructor))) | (apply y_index; exact rfl; exact rfl; exact rfl; exact rfl; (constructor); (first | omega | exact size_pos (by assumption) | assumption); (first | exact rfl | assumption | exact Rd.some_ (by assumption) (by omega) | exact Rd.some_ (Old.rd (by assumption)) (by omega) | exact (Sat.rd (by assumption) (by exact (by repeat' constructor))).some_ (by omega))) | (apply y_nil; intro _ _) | (apply x_dec; exact rfl; all_goals (intro _; try omega))))
          rename_i b14 _ _ _ _ _ w3 S3 _
          refine cw_loop [15, 121, 122, 123, 124, 125, 126, 127, 128, 129, 130, 131, 132, 133, 134, 135, 136, 137, 138, 139, 140, 141, 142, 143, 144, 145, 146, 147, 148, 149, 150, 151, 152, 153, 154, 155, 156] [121] (fun us wr => ∃ (r n : Nat) (A1 : Option Addr) (c1 : Nat) (A2 : Option Addr) (c2 : Nat), r ≤ (ps.getD i pt0).wt.toNat ∧ us = [.int .i64 r] ∧ n = (wds ps l i ++ List.replicate r (chO ps l i).w).length ∧ Sat w [] (.cl b14 30 (ptC (ps.getD i pt0)) :: (.rw 0 (.slice A1 n c1) 52 5 ((dmsOf (wds ps l i ++ List.replicate r (chO ps l i).w)).map dmC) :: .rw 0 (.slice A2 n c2) 54 2 ((lksOf n).map lkC) :: .cl b12 49 [.slice A1 n c1, .slice A2 n c2, .int .i64 0, .int .i64 0] :: .rw 0 (.slice AL ps.length cL) 3 1 (l.map pkC) :: .cl b1 24 [.int .i64 m, .slice B ps.length cB] :: [])) wr) (fun us _ => (ps.getD i pt0).wt.toNat - (intOf (us.getD 0 undef)).toNat) ?_ ?_
          · exact ⟨0, n, A1, c1, A2, c2, Nat.zero_le _, rfl, by rw [hn]; simp, by rw [List.replicate_zero, List.append_nil]; exact S3⟩
          clear S3 Sr hn
          rintro g2 us w4 ⟨r, n, A1, c1, A2, c2, hr, rfl, hn, Sr⟩
          have hw1 := (ho.pt i hlt).w1
          have hw16 := (ho.pt i hlt).w16
          by_cases hlr : r < (ps.getD i pt0).wt.toNat
          · have hwl := (wds_len ho l i (by omega)).2
            have hn2 : n = (wds ps l i).length + r := by rw [hn, List.length_append, List.length_replicate]
            have hn80 : n < 80 := by omega
            obtain ⟨ws, hws⟩ : ∃ ws, wds ps l i ++ List.replicate r (chO ps l i).w = ws := ⟨_, rfl⟩
            rw [hws] at hn Sr
            have hbd : ((dmsOf ws).map dmC).length < 1000000000 := by rw [List.length_map, dms_len]; omega
            have hbk : ((lksOf n).map lkC).length < 1000000000 := by rw [List.length_map, lks_len]; omega
            have it1 : ∀ w, Calls Tryz.prog 8 #[.int .i64 (n : Int)] w (RetP (Val (.string (dig n)) w)) := fun w => Itoa_c n (by omega) w
            have it2 : ∀ w, Calls Tryz.prog 8 #[.int .i64 ((n : Int) + 1)] w (RetP (Val (.string (dig (n + 1))) w)) := fun w => Itoa_c (n + 1) (by omega) w
            (repeat' (first | apply cw_seq | apply cw_region | apply wl_nil | apply cw_block | apply cw_skip | (apply y_indexI (z := l.getD i 0); exact rfl; exact rfl; exact rfl; exact rfl; (constructor); exact hin.1; exact hin.2; (exact (Old.rd O3).some_ (by omega))) | (apply y_loadRowM (en := pkC) (0 : Int); exact rfl; exact rfl; (exact (by repeat' constructor)); exact hll.symm; (exact (by rw [hll]; exact hlt)); exact rfl; exact rfl; (exact (by repeat' constructor))) | (apply z1_callv; exact rfl; exact rfl; exact e_Itoa; (exact (by repeat' constructor)); with_reducible exact (fun _ _ => it1 _)) | (apply z1_callv; exact rfl; exact rfl; exact e_Itoa; (exact (by repeat' constructor)); with_reducible exact (fun _ _ => it2 _)) | (apply y_addStr; exact rfl; exact rfl; exact rfl; (first | exact dig_size n (by omega) | exact dig_size (n + 1) (by omega))) | (apply cw_draw (id := 29) [(0, 0), (1, 0), (2, 0), (5, 0), (6, 0), (9, 0), (10, 0), (11, 0), (12, 0), (13, 0), (14, 0), (15, 0), (16, 0), (17, 0), (18, 0), (3, 1), (4, 0), (7, 1), (8, 0), (19, 0), (20, 1), (21, 2), (22, 0), (23, 2)]; assumption; exact mixed; kernel_rfl) | (apply x_append1; assumption; exact rfl; exact rfl; exact rfl; exact rfl; exact rfl; (exact (by repeat' constructor)); (exact (by repeat' constructor)); exact rfl; exact rfl; exact rfl; (first | assumption | omega | (simp; omega)); intro _ _ _ _) | (apply x_move; exact rfl; exact rfl; (exact (by repeat' constructor))) | (apply x_assign; exact rfl; exact rfl; (exact (by repeat' constructor))) | (apply x_fieldB; exact rfl; exact rfl; exact rfl; exact rfl; (constructor)) | (apply x_load; assumption; exact rfl; exact rfl; exact rfl; (exact (by repeat' constructor)); exact rfl; exact rfl; (exact (by repeat' constructor))) | (apply x_bin; exact rfl; exact rfl; exact rfl; (first | exact .z (.wrap (by omega)) | exact (by repeat' constructor))) | (apply x_store; assumption; exact rfl; exact rfl; (exact (by repeat' constructor)); (exact (by repeat' constructor)); exact rfl; exact rfl; exact rfl; (exact (by repeat' constructor)); intro _ _) | (apply x_build; exact rfl; exact rfl; exact rfl; (exact (by repeat' constructor))) | (apply x_builtin; exact rfl; exact rfl; exact (fun _ => rfl); (exact (by repeat' constructor))) | (apply x_buildSlice; assumption; exact rfl; exact rfl; exact rfl; (exact (by repeat' constructor)); intro _ _ _) | (apply z2_append1; exact rfl; exact rfl; exact rfl; exact rfl; exact (by repeat' constructor); exact (by repeat' constructor); exact rfl; exact rfl; exact rfl; (first | assumption | omega | (simp; omega)); intro _ _) | (apply y_move; exact rfl; (exact (by repeat' constructor))) | (apply y_fieldB; exact rfl; exact rfl; exact rfl; (constructor)) | (apply y_load; exact rfl; exact rfl; (exact (by repeat' constructor)); exact rfl; exact rfl; (exact (by repeat' constructor))) | (apply y_bin; exact rfl; exact (fun _ => rfl); (first | exact .z (.wrap (by omega)) | exact (by repeat' constructor))) | (apply y_build; exact rfl; exact rfl; (exact (by repeat' constructor))) | (apply y_fieldE; exact rfl; exact rfl; exact rfl; (constructor)) | (apply y_index; exact rfl; exact rfl; exact rfl; exact rfl; (constructor); (first | omega | exact size_pos (by assumption) | assumption); (first | exact rfl | assumption | exact Rd.some_ (by assumption) (by omega) | exact Rd.some_ (Old.rd (by assumption)) (by omega) | exact (Sat.rd (by assumption) (by exact (by repeat' constructor))).some_ (by omega))) | (apply y_loadR; exact rfl; exact rfl; assumption; (first | omega | exact size_pos (by assumption) | assumption); exact rfl; exact rfl; (exact (by repeat' constructor))) | (apply z1_buildSlice; exact rfl; exact rfl; (exact (by repeat' constructor)); intro _) | (apply z2_store; exact rfl; exact rfl; (exact (by repeat' constructor)); (exact (by repeat' constructor)); exact rfl; exact rfl; exact rfl; (exact (by repeat' constructor))) | (apply y_nil; intro _ _) | (apply x_dec; exact rfl; all_goals (intro _; try omega))))
            rename_i _ gD kD _ _ _ _ _ gL kL _ _ w5 S5
            have e1 : ((dmsOf ws).map dmC).length + 1 = n + 1 := by rw [List.length_map, dms_len, hn]
            have e2 : ((lksOf n).map lkC).length + 1 = n + 1 := by rw [List.length_map, lks_len]
            rw [e1, e2] at S5
            have e3 : (dmsOf (ws ++ [(chO ps l i).w])).map dmC = (dmsOf ws).map dmC ++ [[.string (⟨#[70]⟩ ++ dig n), .string (⟨#[70]⟩ ++ dig (n + 1)), .int .i64 0, .int .i64 0, .int .i64 (chO ps l i).w]] := by
              rw [dms_snoc, List.map_append, ← hn]; rfl
            have e4 : (lksOf (n + 1)).map lkC = (lksOf n).map lkC ++ [[.int .i64 (n : Int), .bool false]] := by
              rw [lks_snoc, List.map_append]; rfl
            have e5 : wds ps l i ++ List.replicate (r + 1) (chO ps l i).w = ws ++ [(chO ps l i).w] := by
              rw [List.replicate_succ', ← List.append_assoc, hws]
            refine ⟨rfl, (by repeat (first | exact Agree.updl rfl (Agree.mask _ _ _) | refine Agree.upd rfl ?_)), ⟨r + 1, n + 1, some ⟨gD, 0, none⟩, kD, some ⟨gL, 0, none⟩, kL, hlr, rfl, by rw [e5, List.length_append, ← hn]; rfl, ?_⟩, ?_⟩
            · rw [e5, e3, e4]
              exact S5.drop2
            · show (ps.getD i pt0).wt.toNat - (r + 1 : Int).toNat < (ps.getD i pt0).wt.toNat - (r : Int).toNat
              omega
          · have hre : r = (ps.getD i pt0).wt.toNat := by omega
            subst hre
            (repeat' (first | apply cw_seq | apply cw_region | apply wl_nil | apply cw_exit | (apply x_move; exact rfl; exact rfl; (exact (by repeat' constructor))) | (apply x_bin; exact rfl; exact rfl; exact rfl; (first | exact .z (.wrap (by omega)) | exact (by repeat' constructor))) | (apply x_dec; exact rfl; all_goals (intro _; try omega))))
            refine ⟨rfl, (by repeat (first | exact Agree.updl rfl (Agree.mask _ _ _) | refine Agree.upd rfl ?_ | refine Agree.updl rfl ?_ | refine Agree.maskIn rfl ?_)), ⟨i + 1, n, A1, c1, A2, c2, hlt, rfl, hn, ?_⟩, ?_⟩
            · exact Sat.drop1 (by assumption)
            · show ps.length - (i + 1 : Int).toNat < ps.length - (i : Int).toNat
              omega
        · have hie : i = ps.length := by omega
          subst hie
          have hW := wds_ok ho h5 hok
          have hsum := wds_sum ho l ps.length (Nat.le_refl _)
          have hval := val_sol hck hsol
          have hwd : wS ps l ps.length ≤ m := hsol.len ▸ hsol.wd
          have hwb := (wS_le ho (l := l) ps.length (Nat.le_refl _) hok).1
          have hm1 := ho.m1
          (repeat' (first | apply cw_seq | apply cw_region | apply wl_nil | apply cw_block | apply cw_skip | apply cw_exit | (apply x_gdec; exact rfl; exact rfl; all_goals (intro _; try omega)) | (apply x_callv; assumption; exact rfl; exact rfl; exact rfl; exact e_Limits; (exact (by repeat' constructor)); (exact Limits_n hW hn hsum A1 c1 A2 c2 _ (Sat.rdmapN (en := dmC) dm0 (by assumption) (by exact (by repeat' constructor)) (by rw [dms_len]; exact hn)) (Sat.rdmapN (en := lkC) lk0 (by assumption) (by exact (by repeat' constructor)) (lks_len n).symm)); intro _ _ _) | (apply x_callv; assumption; exact rfl; exact rfl; exact rfl; exact e_ValueT; (exact (by repeat' constructor)); (exact Value_m m B cB ps hp hcs AL cL l hll.symm (by omega) hval _ (R.old.now (by assumption)) (fun i hi => (R2 i hi).old.now (by assumption)) (Sat.rdmapN (en := pkC) (0 : Int) (by assumption) (by exact (by repeat' constructor)) hll.symm)); intro _ _ _) | (apply x_move; exact rfl; exact rfl; (exact (by repeat' constructor))) | (apply x_assign; exact rfl; exact rfl; (exact (by repeat' constructor))) | (apply x_fieldB; exact rfl; exact rfl; exact rfl; exact rfl; (constructor)) | (apply x_load; assumption; exact rfl; exact rfl; exact rfl; (exact (by repeat' constructor)); exact rfl; exact rfl; (exact (by repeat' constructor))) | (apply x_bin; exact rfl; exact rfl; exact rfl; (first | exact .z (.wrap (by omega)) | exact (by repeat' constructor))) | (apply x_pick; exact rfl; exact rfl; exact rfl; (exact (by repeat' constructor))) | (apply x_alloc; assumption; exact rfl; exact rfl; exact rfl; (exact (by repeat' constructor)); intro _ _ _) | (apply x_store; assumption; exact rfl; exact rfl; (exact (by repeat' constructor)); (exact (by repeat' constructor)); exact rfl; exact rfl; exact rfl; (exact (by repeat' constructor)); intro _ _) | (apply x_extract; exact rfl; exact rfl; exact rfl; (exact (by repeat' constructor))) | (apply x_builtin; exact rfl; exact rfl; exact (fun _ => rfl); (exact (by repeat' constructor))) | (apply x_dec; exact rfl; all_goals (intro _; try omega)) | (apply cw_ne; exact rfl; all_goals (intro _; try omega)) | (apply x_gne; exact rfl; exact rfl; all_goals (intro _; try omega))))
          rename_i w6 _ S6 _ _ _
          replace S6 := S6.drop [_, _] (.cons _ (.cons _ (.cons _ (.cons _ (.cons_cons _ (.cons_cons _ .slnil))))))
          clear Sr
          refine cw_loop [2, 20, 21, 22, 23, 24, 25, 26, 27, 197, 198, 199, 200, 201, 202, 203, 204, 205, 206, 207, 208, 209, 210, 211, 212, 213, 214, 215, 216, 217, 218, 219, 220, 221, 222, 223, 224, 225, 226, 227, 228, 229, 230, 231, 232, 233, 234, 235, 236, 237, 238, 239, 240, 241, 242, 243, 244, 245] [197] (fun us wr => ∃ i : Nat, i ≤ ps.length ∧ us = [.int .i64 i] ∧ Sat w [] [.rw 0 (.slice AL ps.length cL) 3 1 (l.map pkC), .cl b1 24 [.int .i64 m, .slice B ps.length cB]] wr) (fun us _ => ps.length - (intOf (us.getD 0 undef)).toNat) ?_ ?_
          · exact ⟨0, Nat.zero_le _, rfl, S6⟩
          clear S6
          rintro g us w7 ⟨i, hi2, rfl, S7⟩
          by_cases hlt : i < ps.length
          · have O3 : Old w [] (ps.getD i pt0).A 2 (ps.getD i pt0).cs.length (fun j => chC ((ps.getD i pt0).cs.getD j ch0)) := (R2 i hlt).old
            have hin := hok i hlt
            have hcl : (ps.getD i pt0).cs.length ≤ 16 := (ho.pt i hlt).n16
            (repeat' (first | apply cw_seq | apply cw_region | apply wl_nil | apply cw_block | apply cw_skip | (apply x_move; exact rfl; exact rfl; (exact (by repeat' constructor))) | (apply x_assign; exact rfl; exact rfl; (exact (by repeat' constructor))) | (apply x_fieldB; exact rfl; exact rfl; exact rfl; exact rfl; (constructor)) | (apply x_load; assumption; exact rfl; exact rfl; exact rfl; (exact (by repeat' constructor)); exact rfl; exact rfl; (exact (by repeat' constructor))) | (apply x_bin; exact rfl; exact rfl; exact rfl; (first | exact .z (.wrap (by omega)) | exact (by repeat' constructor))) | (apply x_alloc; assumption; exact rfl; exact rfl; exact rfl; (exact (by repeat' constructor)); intro _ _ _) | (apply x_store; assumption; exact rfl; exact rfl; (exact (by repeat' constructor)); (exact (by repeat' constructor)); exact rfl; exact rfl; exact rfl; (exact (by repeat' constructor)); intro _ _) | (apply x_builtin; exact rfl; exact rfl; exact (fun _ => rfl); (exact (by repeat' constructor))) | (apply x_index; exact rfl; exact rfl; exact rfl; exact rfl; exact rfl; (constructor); (first | omega | exact size_pos (by assumption) | assumption); (first | exact rfl | assumption | exact Rd.some_ (by assumption) (by omega) | exact Rd.some_ (Old.rd (by assumption)) (by omega) | exact (Sat.rd (by assumption) (by exact (by repeat' constructor))).some_ (by omega))) | (apply x_loadR; exact rfl; exact rfl; exact rfl; (first | exact Old.now (by assumption) (by assumption) | exact Sat.rdpr (by assumption) (by exact (by repeat' constructor)) | exact Sat.rd (by assumption) (by exact (by repeat' constructor))); (first | omega | exact size_pos (by assumption) | assumption); exact rfl; exact rfl; (exact (by repeat' constructor))) | (apply x_dec; exact rfl; all_goals (intro _; try omega))))
            rename_i b21 _ _ w8 S8
            refine cw_loop [2, 22, 23, 24, 25, 26, 27, 205, 206, 207, 208, 209, 210, 211, 212, 213, 214, 215, 216, 217, 218, 219, 220, 221, 222, 223, 224, 225, 226, 227, 228, 229, 230, 231, 232, 233, 234, 235, 236, 237, 238, 239, 240, 241, 242, 243, 244] [205] (fun us wr => ∃ k : Nat, k ≤ (ps.getD i pt0).cs.length ∧ us = [.int .i64 k] ∧ Sat w [] [.cl b21 30 (ptC (ps.getD i pt0)), .rw 0 (.slice AL ps.length cL) 3 1 (l.map pkC), .cl b1 24 [.int .i64 m, .slice B ps.length cB]] wr) (fun us _ => (ps.getD i pt0).cs.length - (intOf (us.getD 0 undef)).toNat) ?_ ?_
            · exact ⟨0, Nat.zero_le _, rfl, S8⟩
            clear S7 S8
            rintro g2 us w9 ⟨k, hk, rfl, S9⟩
            by_cases hlk : k < (ps.getD i pt0).cs.length
            · by_cases hcost : ((ps.getD i pt0).cs.getD k ch0).c < ((ps.getD i pt0).cs.getD (l.getD i 0).toNat ch0).c
              · obtain ⟨y1, y2, y3⟩ := one_cheaper hsol hlt hlk hcost
                have hv : valV m ps (l.set i (k : Int)) = [.int .i64 (wS ps (l.set i (k : Int)) ps.length), .int .i64 (cS ps (l.set i (k : Int)) ps.length), .int .i64 0] := by
                  rw [valV_0 hck y1 y2, y1]
                (repeat' (first | apply cw_seq | apply cw_region | apply wl_nil | apply cw_block | apply cw_skip | (apply y_indexI (z := l.getD i 0); exact rfl; exact rfl; exact rfl; exact rfl; (constructor); exact hin.1; exact hin.2; (exact (Old.rd O3).some_ (by omega))) | (apply y_loadRowM (en := pkC) (0 : Int); exact rfl; exact rfl; (exact (by repeat' constructor)); exact hll.symm; (exact (by rw [hll]; exact hlt)); exact rfl; exact rfl; (exact (by repeat' constructor))) | (apply x_appendAllM (l := l) (en := pkC) (0 : Int) (fun _ => rfl) hll (Sat.rdmapN (en := pkC) (0 : Int) (by assumption) (by exact (by repeat' constructor)) hll.symm) (by omega) (by omega); assumption; exact rfl; exact rfl; exact rfl; exact rfl; exact rfl; exact .inr ⟨_, rfl⟩; exact rfl; intro gY kY _ _) | (apply Al.x_storeRowEA; assumption; exact rfl; exact rfl; (exact (by repeat' constructor)); exact rfl; exact rfl; (exact (by repeat' constructor)); (exact (by rw [List.length_map, hll]; exact hlt)); (exact (by decide)); exact set_pk (by rw [hll]; exact hlt); intro _ _) | (apply x_callv; assumption; exact rfl; exact rfl; exact rfl; exact e_ValueT; (exact (by repeat' constructor)); (exact Value_m m B cB ps hp hcs _ _ _ y1.symm (by omega) hv _ (R.old.now (by assumption)) (fun i hi => (R2 i hi).old.now (by assumption)) (Sat.rdmapN (en := pkC) (0 : Int) (by assumption) (by exact (by repeat' constructor)) y1.symm)); intro _ _ _) | (apply cw_draw (id := 43) [(0, 0), (1, 0), (2, 0), (3, 0), (4, 0), (5, 0), (6, 0), (7, 0), (8, 0), (9, 0), (10, 0), (11, 0)]; assumption; exact mixed; kernel_rfl) | (apply x_buildSlice0; assumption; exact rfl; exact rfl; exact rfl; intro _ _ _ _ _) | (apply x_move; exact rfl; exact rfl; (exact (by repeat' constructor))) | (apply x_assign; exact rfl; exact rfl; (exact (by repeat' constructor))) | (apply x_fieldB; exact rfl; exact rfl; exact rfl; exact rfl; (constructor)) | (apply x_load; assumption; exact rfl; exact rfl; exact rfl; (exact (by repeat' constructor)); exact rfl; exact rfl; (exact (by repeat' constructor))) | (apply x_bin; exact rfl; exact rfl; exact rfl; (first | exact .z (.wrap (by omega)) | exact (by repeat' constructor))) | (apply x_pick; exact rfl; exact rfl; exact rfl; (exact (by repeat' constructor))) | (apply x_alloc; assumption; exact rfl; exact rfl; exact rfl; (exact (by repeat' constructor)); intro _ _ _) | (apply x_store; assumption; exact rfl; exact rfl; (exact (by repeat' constructor)); (exact (by repeat' constructor)); exact rfl; exact rfl; exact rfl; (exact (by repeat' constructor)); intro _ _) | (apply x_extract; exact rfl; exact rfl; exact rfl; (exact (by repeat' constructor))) | (apply x_index; exact rfl; exact rfl; exact rfl; exact rfl; exact rfl; (constructor); (first | omega | exact size_pos (by assumption) | assumption); (first | exact rfl | assumption | exact Rd.some_ (by assumption) (by omega) | exact Rd.some_ (Old.rd (by assumption)) (by omega) | exact (Sat.rd (by assumption) (by exact (by repeat' constructor))).some_ (by omega))) | (apply x_loadR; exact rfl; exact rfl; exact rfl; (first | exact Old.now (by assumption) (by assumption) | exact Sat.rdpr (by assumption) (by exact (by repeat' constructor)) | exact Sat.rd (by assumption) (by exact (by repeat' constructor))); (first | omega | exact size_pos (by assumption) | assumption); exact rfl; exact rfl; (exact (by repeat' constructor))) | (apply y_move; exact rfl; (exact (by repeat' constructor))) | (apply y_fieldB; exact rfl; exact rfl; exact rfl; (constructor)) | (apply y_load; exact rfl; exact rfl; (exact (by repeat' constructor)); exact rfl; exact rfl; (exact (by repeat' constructor))) | (apply y_bin; exact rfl; exact (fun _ => rfl); (first | exact .z (.wrap (by omega)) | exact (by repeat' constructor))) | (apply y_fieldE; exact rfl; exact rfl; exact rfl; (constructor)) | (apply y_index; exact rfl; exact rfl; exact rfl; exact rfl; (constructor); (first | omega | exact size_pos (by assumption) | assumption); (first | exact rfl | assumption | exact Rd.some_ (by assumption) (by omega) | exact Rd.some_ (Old.rd (by assumption)) (by omega) | exact (Sat.rd (by assumption) (by exact (by repeat' constructor))).some_ (by omega))) | (apply y_loadR; exact rfl; exact rfl; assumption; (first | omega | exact size_pos (by assumption) | assumption); exact rfl; exact rfl; (exact (by repeat' constructor))) | (apply y_nil; intro _ _) | (apply x_dec; exact rfl; all_goals (intro _; try omega))))
                refine ⟨rfl, (by repeat (first | exact Agree.updl rfl (Agree.mask _ _ _) | refine Agree.upd rfl ?_)), ⟨k + 1, hlk, rfl, ?_⟩, ?_⟩
                · apply Sat.drop
                  · assumption
                  · repeat (first | exact List.Sublist.slnil | apply List.Sublist.cons_cons | apply List.Sublist.cons)
                · show (ps.getD i pt0).cs.length - (k + 1 : Int).toNat < (ps.getD i pt0).cs.length - (k : Int).toNat
                  omega
              · (repeat' (first | apply cw_seq | apply cw_region | apply wl_nil | apply cw_block | apply cw_skip | apply cw_exit | (apply y_indexI (z := l.getD i 0); exact rfl; exact rfl; exact rfl; exact rfl; (constructor); exact hin.1; exact hin.2; (exact (Old.rd O3).some_ (by omega))) | (apply y_loadRowM (en := pkC) (0 : Int); exact rfl; exact rfl; (exact (by repeat' constructor)); exact hll.symm; (exact (by rw [hll]; exact hlt)); exact rfl; exact rfl; (exact (by repeat' constructor))) | (apply cw_draw (id := 43) [(0, 0), (1, 0), (2, 0), (3, 0), (4, 0), (5, 0), (6, 0), (7, 0), (8, 0), (9, 0), (10, 0), (11, 0)]; assumption; exact mixed; kernel_rfl) | (apply x_move; exact rfl; exact rfl; (exact (by repeat' constructor))) | (apply x_assign; exact rfl; exact rfl; (exact (by repeat' constructor))) | (apply x_bin; exact rfl; exact rfl; exact rfl; (first | exact .z (.wrap (by omega)) | exact (by repeat' constructor))) | (apply x_alloc; assumption; exact rfl; exact rfl; exact rfl; (exact (by repeat' constructor)); intro _ _ _) | (apply x_store; assumption; exact rfl; exact rfl; (exact (by repeat' constructor)); (exact (by repeat' constructor)); exact rfl; exact rfl; exact rfl; (exact (by repeat' constructor)); intro _ _) | (apply x_index; exact rfl; exact rfl; exact rfl; exact rfl; exact rfl; (constructor); (first | omega | exact size_pos (by assumption) | assumption); (first | exact rfl | assumption | exact Rd.some_ (by assumption) (by omega) | exact Rd.some_ (Old.rd (by assumption)) (by omega) | exact (Sat.rd (by assumption) (by exact (by repeat' constructor))).some_ (by omega))) | (apply x_loadR; exact rfl; exact rfl; exact rfl; (first | exact Old.now (by assumption) (by assumption) | exact Sat.rdpr (by assumption) (by exact (by repeat' constructor)) | exact Sat.rd (by assumption) (by exact (by repeat' constructor))); (first | omega | exact size_pos (by assumption) | assumption); exact rfl; exact rfl; (exact (by repeat' constructor))) | (apply y_move; exact rfl; (exact (by repeat' constructor))) | (apply y_fieldB; exact rfl; exact rfl; exact rfl; (constructor)) | (apply y_load; exact rfl; exact rfl; (exact (by repeat' constructor)); exact rfl; exact rfl; (exact (by repeat' constructor))) | (apply y_bin; exact rfl; exact (fun _ => rfl); (first | exact .z (.wrap (by omega)) | exact (by repeat' constructor))) | (apply y_fieldE; exact rfl; exact rfl; exact rfl; (constructor)) | (apply y_index; exact rfl; exact rfl; exact rfl; exact rfl; (constructor); (first | omega | exact size_pos (by assumption) | assumption); (first | exact rfl | assumption | exact Rd.some_ (by assumption) (by omega) | exact Rd.some_ (Old.rd (by assumption)) (by omega) | exact (Sat.rd (by assumption) (by exact (by repeat' constructor))).some_ (by omega))) | (apply y_loadR; exact rfl; exact rfl; assumption; (first | omega | exact size_pos (by assumption) | assumption); exact rfl; exact rfl; (exact (by repeat' constructor))) | (apply y_nil; intro _ _) | (apply x_dec; exact rfl; all_goals (intro _; try omega))))
                refine ⟨rfl, (by repeat (first | exact Agree.updl rfl (Agree.mask _ _ _) | refine Agree.upd rfl ?_)), ⟨k + 1, hlk, rfl, ?_⟩, ?_⟩
                · apply Sat.drop
                  · assumption
                  · repeat (first | exact List.Sublist.slnil | apply List.Sublist.cons_cons | apply List.Sublist.cons)
                · show (ps.getD i pt0).cs.length - (k + 1 : Int).toNat < (ps.getD i pt0).cs.length - (k : Int).toNat
                  omega
            · have hke : k = (ps.getD i pt0).cs.length := by omega
              subst hke
              (repeat' (first | apply cw_seq | apply cw_region | apply wl_nil | apply cw_exit | (apply x_move; exact rfl; exact rfl; (exact (by repeat' constructor))) | (apply x_bin; exact rfl; exact rfl; exact rfl; (first | exact .z (.wrap (by omega)) | exact (by repeat' constructor))) | (apply x_dec; exact rfl; all_goals (intro _; try omega))))
              refine ⟨rfl, (by repeat (first | exact Agree.updl rfl (Agree.mask _ _ _) | refine Agree.upd rfl ?_ | refine Agree.updl rfl ?_ | refine Agree.maskIn rfl ?_)), ⟨i + 1, hlt, rfl, ?_⟩, ?_⟩
              · apply Sat.drop
                · assumption
                · repeat (first | exact List.Sublist.slnil | apply List.Sublist.cons_cons | apply List.Sublist.cons)
              · show ps.length - (i + 1 : Int).toNat < ps.length - (i : Int).toNat
                omega
          · have hie : i = ps.length := by omega
            subst hie
            (repeat' (first | apply cw_seq | apply cw_region | apply wl_nil | apply cw_exit | apply cw_ret | (apply x_callv; assumption; exact rfl; exact rfl; exact rfl; exact Sl.e_casePicks; (exact (by repeat' constructor)); exact (Sl.casePicks_c _); intro _ _ _) | (apply x_assign; exact rfl; exact rfl; (exact (by repeat' constructor))) | (apply x_bin; exact rfl; exact rfl; exact rfl; (first | exact .z (.wrap (by omega)) | exact (by repeat' constructor))) | (apply x_dec; exact rfl; all_goals (intro _; try omega))))
            (first | refine q_retS (by assumption) rfl (by repeat (first | exact .nil | (apply RV.tmp; exact (by repeat' constructor)) | (apply RV.cell; exact rfl; exact (by repeat' constructor); exact rfl; exact rfl; exact (by repeat' constructor)))) ?_ | (simp only [thenQ, blockQ]; refine q_retS (by assumption) rfl (by repeat (first | exact .nil | (apply RV.tmp; exact (by repeat' constructor)) | (apply RV.cell; exact rfl; exact (by repeat' constructor); exact rfl; exact rfl; exact (by repeat' constructor)))) ?_))
            exact ⟨rfl, Sat.keeps (by assumption)⟩
    · by_cases h5 : ps.length ≤ 5
      · by_cases hf : FewT m ps
        · have hck : ¬ chkE m ps = 0 := fun h => hall ⟨h5, hf, h⟩
          (repeat' (first | apply cw_seq | apply cw_region | apply wl_nil | apply cw_exit | apply cw_ret | (apply x_gdec; exact rfl; exact rfl; all_goals (intro _; try omega)) | (apply x_callv; assumption; exact rfl; exact rfl; exact rfl; exact e_rFew; (exact (by repeat' constructor)); (with_reducible apply rFew_y); (exact hp; exact hcs; assumption; exact hmq; exact hf); intro _ _ _) | (apply x_callv; assumption; exact rfl; exact rfl; exact rfl; exact e_rCheckT; (exact (by repeat' constructor)); (with_reducible apply rCheck_o); (exact hp; exact hcs; assumption; exact hmq); intro _ _ _) | (apply x_callv; assumption; exact rfl; exact rfl; exact rfl; exact Sl.e_casePicks; (exact (by repeat' constructor)); exact (Sl.casePicks_c _); intro _ _ _) | (apply x_move; exact rfl; exact rfl; (exact (by repeat' constructor))) | (apply x_assign; exact rfl; exact rfl; (exact (by repeat' constructor))) | (apply x_fieldB; exact rfl; exact rfl; exact rfl; exact rfl; (constructor)) | (apply x_load; assumption; exact rfl; exact rfl; exact rfl; (exact (by repeat' constructor)); exact rfl; exact rfl; (exact (by repeat' constructor))) | (apply x_bin; exact rfl; exact rfl; exact rfl; (first | exact .z (.wrap (by omega)) | exact (by repeat' constructor))) | (apply x_pick; exact rfl; exact rfl; exact rfl; (exact (by repeat' constructor))) | (apply x_un; exact rfl; exact rfl; exact rfl; (first | exact .z (.wrap (by omega)) | exact (by repeat' constructor))) | (apply x_builtin; exact rfl; exact rfl; exact (fun _ => rfl); (exact (by repeat' constructor))) | (apply x_dec; exact rfl; all_goals (intro _; try omega)) | (apply cw_ne; exact rfl; all_goals (intro _; try omega))))
          all_goals first
            | (exfalso; omega)
            | exact absurd (by assumption) hck
            | skip
          all_goals (first | refine q_retS (by assumption) rfl (by repeat (first | exact .nil | (apply RV.tmp; exact (by repeat' constructor)) | (apply RV.cell; exact rfl; exact (by repeat' constructor); exact rfl; exact rfl; exact (by repeat' constructor)))) ?_ | (simp only [thenQ, blockQ]; refine q_retS (by assumption) rfl (by repeat (first | exact .nil | (apply RV.tmp; exact (by repeat' constructor)) | (apply RV.cell; exact rfl; exact (by repeat' constructor); exact rfl; exact rfl; exact (by repeat' constructor)))) ?_))
          all_goals exact ⟨rfl, Sat.keeps (by assumption)⟩
        · (repeat' (first | apply cw_seq | apply cw_region | apply wl_nil | apply cw_exit | apply cw_ret | (apply x_gdec; exact rfl; exact rfl; all_goals (intro _; try omega)) | (apply x_callv; assumption; exact rfl; exact rfl; exact rfl; exact e_rFew; (exact (by repeat' constructor)); (with_reducible apply rFew_n); (exact hp; exact hcs; assumption; exact hmq; exact hf); intro _ _ _) | (apply x_callv; assumption; exact rfl; exact rfl; exact rfl; exact Sl.e_casePicks; (exact (by repeat' constructor)); exact (Sl.casePicks_c _); intro _ _ _) | (apply x_not; exact rfl; exact rfl) | (apply x_move; exact rfl; exact rfl; (exact (by repeat' constructor))) | (apply x_assign; exact rfl; exact rfl; (exact (by repeat' constructor))) | (apply x_fieldB; exact rfl; exact rfl; exact rfl; exact rfl; (constructor)) | (apply x_load; assumption; exact rfl; exact rfl; exact rfl; (exact (by repeat' constructor)); exact rfl; exact rfl; (exact (by repeat' constructor))) | (apply x_bin; exact rfl; exact rfl; exact rfl; (first | exact .z (.wrap (by omega)) | exact (by repeat' constructor))) | (apply x_pick; exact rfl; exact rfl; exact rfl; (exact (by repeat' constructor))) | (apply x_un; exact rfl; exact rfl; exact rfl; (first | exact .z (.wrap (by omega)) | exact (by repeat' constructor))) | (apply x_builtin; exact rfl; exact rfl; exact (fun _ => rfl); (exact (by repeat' constructor))) | (apply cw_true; exact rfl) | (apply x_dec; exact rfl; all_goals (intro _; try omega))))
          all_goals first
            | (exfalso; omega)
            | skip
          all_goals (first | refine q_retS (by assumption) rfl (by repeat (first | exact .nil | (apply RV.tmp; exact (by repeat' constructor)) | (apply RV.cell; exact rfl; exact (by repeat' constructor); exact rfl; exact rfl; exact (by repeat' constructor)))) ?_ | (simp only [thenQ, blockQ]; refine q_retS (by assumption) rfl (by repeat (first | exact .nil | (apply RV.tmp; exact (by repeat' constructor)) | (apply RV.cell; exact rfl; exact (by repeat' constructor); exact rfl; exact rfl; exact (by repeat' constructor)))) ?_))
          all_goals exact ⟨rfl, Sat.keeps (by assumption)⟩
      · (repeat' (first | apply cw_seq | apply cw_region | apply wl_nil | apply cw_exit | apply cw_ret | (apply x_gdec; exact rfl; exact rfl; all_goals (intro _; try omega)) | (apply x_callv; assumption; exact rfl; exact rfl; exact rfl; exact Sl.e_casePicks; (exact (by repeat' constructor)); exact (Sl.casePicks_c _); intro _ _ _) | (apply x_not; exact rfl; exact rfl) | (apply x_move; exact rfl; exact rfl; (exact (by repeat' constructor))) | (apply x_assign; exact rfl; exact rfl; (exact (by repeat' constructor))) | (apply x_fieldB; exact rfl; exact rfl; exact rfl; exact rfl; (constructor)) | (apply x_load; assumption; exact rfl; exact rfl; exact rfl; (exact (by repeat' constructor)); exact rfl; exact rfl; (exact (by repeat' constructor))) | (apply x_bin; exact rfl; exact rfl; exact rfl; (first | exact .z (.wrap (by omega)) | exact (by repeat' constructor))) | (apply x_pick; exact rfl; exact rfl; exact rfl; (exact (by repeat' constructor))) | (apply x_builtin; exact rfl; exact rfl; exact (fun _ => rfl); (exact (by repeat' constructor))) | (apply cw_true; exact rfl) | (apply x_dec; exact rfl; all_goals (intro _; try omega))))
        all_goals first
          | (exfalso; omega)
          | skip
        all_goals (first | refine q_retS (by assumption) rfl (by repeat (first | exact .nil | (apply RV.tmp; exact (by repeat' constructor)) | (apply RV.cell; exact rfl; exact (by repeat' constructor); exact rfl; exact rfl; exact (by repeat' constructor)))) ?_ | (simp only [thenQ, blockQ]; refine q_retS (by assumption) rfl (by repeat (first | exact .nil | (apply RV.tmp; exact (by repeat' constructor)) | (apply RV.cell; exact rfl; exact (by repeat' constructor); exact rfl; exact rfl; exact (by repeat' constructor)))) ?_))
        all_goals exact ⟨rfl, Sat.keeps (by assumption)⟩
end Go.Proofs.YtdkknknebehkgaaGreatDoor.Hl
