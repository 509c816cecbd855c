/- Samples of points in space: sorted and compared, the program's side and the reference's. No statement of the seat is proved here. -/
import Derived.Test.YtnlddjbeekfjlaaPt
import Derived.Test.YtnlddjbeekfjlaaPv
import Derived.Test.YtnlddjbeekfjlaaPuB
import Derived.Test.YtnlddjbeekfjlaaPk
namespace Go.Proofs.Ytnlddjbeekfjlaa
set_option linter.unusedVariables false
set_option linter.unusedSimpArgs false
open Go Go.RowKit
noncomputable abbrev once (l : List Sp) : List Sp := keepG onceB [] l
theorem once_len (l : List Sp) : (once l).length ≤ l.length := by
  have h1 := keepG_len (bad := onceB) l []
  have h2 : ([] : List Sp).length = 0 := rfl
  show (keepG onceB [] l).length ≤ l.length
  omega
theorem keepO : ∀ (r out : List Sp), out.Nodup → (keepG onceB out r).Nodup ∧ ∀ p, p ∈ keepG onceB out r ↔ p ∈ out ∨ p ∈ r
  | [], out, h => ⟨h, fun p => by simp [keepG]⟩
  | q :: r, out, h => by
    by_cases hb : onceB out q
    · rw [keepG_yes hb]
      have hq : q ∈ out := hb
      refine ⟨(keepO r out h).1, fun p => ?_⟩
      rw [(keepO r out h).2 p, List.mem_cons]
      constructor
      · rintro (h1 | h1)
        · exact .inl h1
        · exact .inr (.inr h1)
      · rintro (h1 | rfl | h1)
        · exact .inl h1
        · exact .inl hq
        · exact .inr h1
    · rw [keepG_no hb]
      have hq : ¬ q ∈ out := hb
      have hn : (out ++ [q]).Nodup := by
        rw [List.nodup_append]
        refine ⟨h, by simp, fun a ha b hb => ?_⟩
        simp at hb
        subst hb
        exact fun e => hq (e ▸ ha)
      refine ⟨(keepO r _ hn).1, fun p => ?_⟩
      rw [(keepO r _ hn).2 p, List.mem_append, List.mem_singleton, List.mem_cons, or_assoc]
theorem once_nodup (l : List Sp) : (once l).Nodup := (keepO l [] List.nodup_nil).1
theorem once_mem {l : List Sp} {p : Sp} : p ∈ once l ↔ p ∈ l := by rw [(keepO l [] List.nodup_nil).2 p]; simp
theorem srtS_mem {l : List Sp} {p : Sp} : p ∈ srtS l ↔ p ∈ l := (srtS_perm l).mem_iff
theorem srtS_cong {q q' : List Sp} (h : q.Perm q') : srtS q = srtS q' := by
  have h1 := Go.Sort.insertionSort_holds swoS q.toArray 0 q.toArray.size (Nat.zero_le _) (Nat.le_refl _)
  have h2 := srtS_ins q.toArray
  refine h2.symm.trans (srtS_of q'.toArray _ ?_ ?_)
  · have hl : q'.toArray.size = q.toArray.size := by simp [h.length_eq]
    refine ⟨h1.1.1.trans hl.symm, fun i hi => ?_, ?_⟩
    · have hi' : q.length ≤ i := by
        have := h.length_eq
        rcases hi with hi | hi
        · omega
        · simp at hi; omega
      have hs : (Go.Sort.insertionSort (ltOf cmpS) q.toArray 0 q.toArray.size).size = q.length := h1.1.1.trans (by simp)
      have e1 := arr_at (Go.Sort.insertionSort (ltOf cmpS) q.toArray 0 q.toArray.size) i
      have e2 := arr_at q'.toArray i
      rw [e1, e2, List.getD_eq_getElem?_getD, List.getD_eq_getElem?_getD, List.getElem?_eq_none (by rw [Array.length_toList, hs]; exact hi'), List.getElem?_eq_none (by show q'.length ≤ i; have := h.length_eq; omega)]
    · rw [hl]
      have h3 := h1.1.2.2
      refine h3.trans ?_
      have e1 : (q.toArray.extract 0 q.toArray.size).toList = q := by simp
      have e2 : (q'.toArray.extract 0 q.toArray.size).toList = q' := by simp [h.length_eq]
      rw [e1, e2]
      exact h
  · have hl : q'.toArray.size = q.toArray.size := by simp [h.length_eq]
    rw [hl]
    exact h1.2
def sameL (a b : List Sp) : Prop := (∀ p ∈ a, p ∈ b) ∧ ∀ p ∈ b, p ∈ a
theorem same_iff (a b : List Sp) : srtS (once a) = srtS (once b) ↔ sameL a b := by
  constructor
  · intro h
    refine ⟨fun p hp => ?_, fun p hp => ?_⟩
    · rw [← once_mem, ← srtS_mem] at hp
      rw [h, srtS_mem, once_mem] at hp
      exact hp
    · rw [← once_mem, ← srtS_mem] at hp
      rw [← h, srtS_mem, once_mem] at hp
      exact hp
  · intro h
    refine srtS_cong ?_
    rw [List.perm_ext_iff_of_nodup (once_nodup a) (once_nodup b)]
    intro p
    rw [once_mem, once_mem]
    exact ⟨h.1 p, h.2 p⟩
noncomputable def smE (a b : List Sp) : Int := if ¬ spE a = 0 then spE a else spE b
noncomputable def smB (a b : List Sp) : Bool := @decide (smE a b = 0 ∧ sameL a b) (Classical.propDecidable _)
set_option maxRecDepth 100000 in
theorem e_Sorted : Ent Try.prog 31 := fun _ _ => rfl
set_option maxRecDepth 4000 in
set_option maxHeartbeats 2000000 in
theorem Sorted_c (A : Option Addr) (c : Nat) (l : List Sp) (hl : l.length ≤ 9223372036854775807) (w : World) (R : Rd w A 3 l.length (fun i => spC (l.getD i sp0))) : Calls Try.prog 31 #[.slice A l.length c] w (RetP (RowR (fun v => .tuple #[v, .int .i64 (spE l)]) 30 3 ((sortS l).map spC) w)) := by
  refine calls_of_cw (args := [.slice A l.length c]) Try.func31 rfl rfl ?_
  have S := Sat.start [] w
  have O := (R).old
  (repeat' (first | apply cw_seq | apply cw_region | apply wl_nil | apply cw_block | apply cw_skip | apply cw_exit | apply cw_ret | (apply x_callv; assumption; exact rfl; exact rfl; exact rfl; exact e_CheckSpots; (exact (by repeat' constructor)); exact (CheckSpots_c _ _ l hl _ (Old.now O (by assumption))); intro _ _ _) | (apply z1_callv; exact rfl; exact rfl; exact e_CheckSpots; (exact (by repeat' constructor)); exact (fun _ _ => CheckSpots_c _ _ l hl _ (Old.now O (by assumption)))) | (apply z2_callv; exact rfl; exact rfl; exact e_CheckSpots; (exact (by repeat' constructor)); exact (fun _ _ => CheckSpots_c _ _ l hl _ (Old.now O (by assumption)))) | (apply x_callrow; assumption; exact rfl; exact rfl; exact rfl; exact e_sorted; (exact (by repeat' constructor)); exact (sorted_c _ _ l hl (by have := (spE0 (by assumption)).1; omega) _ (Old.now O (by assumption))); intro _ _ _ _) | (apply z1_callrow; exact rfl; exact rfl; exact e_sorted; (exact (by repeat' constructor)); exact (fun _ _ => sorted_c _ _ l hl (by have := (spE0 (by assumption)).1; omega) _ (Old.now O (by assumption))); intro _ _) | (apply z2_callrow; exact rfl; exact rfl; exact e_sorted; (exact (by repeat' constructor)); exact (fun _ _ => sorted_c _ _ l hl (by have := (spE0 (by assumption)).1; omega) _ (Old.now O (by assumption))); intro _ _) | (apply x_move; exact rfl; exact rfl; (exact (by repeat' constructor))) | (apply x_assign; exact rfl; exact rfl; (exact (by repeat' constructor))) | (apply x_neStr; exact rfl; exact rfl; exact rfl; exact rfl) | (apply x_bin; exact rfl; exact rfl; exact rfl; (first | exact .z (.wrap (by omega)) | exact (by repeat' constructor))) | (apply cw_true; exact rfl) | (apply cw_false; exact rfl) | (apply x_ndec; exact rfl; with_reducible exact rfl; all_goals (intro _; try omega)) | (apply x_dec; exact rfl; all_goals (intro _; try omega)) | (apply cw_ne; exact rfl; all_goals (intro _; try omega)) | (apply cw_eq; exact rfl; all_goals (intro _; try omega)) | (apply cw_not; exact rfl; all_goals (intro _; try omega)) | (apply cw_cond; exact rfl; all_goals (intro _; try omega))))
  all_goals first
    | ((first | refine q_retS (by assumption) rfl (by repeat (first | exact .nil | (apply RV.tmp; exact (by repeat' constructor)) | (apply RV.cell; exact rfl; exact (by repeat' constructor); exact rfl; exact rfl; exact (by repeat' constructor)))) ?_ | (simp only [thenQ, blockQ]; refine q_retS (by assumption) rfl (by repeat (first | exact .nil | (apply RV.tmp; exact (by repeat' constructor)) | (apply RV.cell; exact rfl; exact (by repeat' constructor); exact rfl; exact rfl; exact (by repeat' constructor)))) ?_))
       exact rowR_nil (V := fun v => .tuple #[v, .int .i64 (spE l)]) (by rw [sortS, if_neg (by assumption)]; rfl) (Sat.keeps (by assumption)))
    | ((first | refine q_retS (by assumption) rfl (by repeat (first | exact .nil | (apply RV.tmp; exact (by repeat' constructor)) | (apply RV.cell; exact rfl; exact (by repeat' constructor); exact rfl; exact rfl; exact (by repeat' constructor)))) ?_ | (simp only [thenQ, blockQ]; refine q_retS (by assumption) rfl (by repeat (first | exact .nil | (apply RV.tmp; exact (by repeat' constructor)) | (apply RV.cell; exact rfl; exact (by repeat' constructor); exact rfl; exact rfl; exact (by repeat' constructor)))) ?_))
       have h0 : spE l = 0 := by assumption
       rw [show sortS l = srtS (keepG onceB [] l) from by rw [sortS, if_pos h0], h0]
       exact rowR_xs (V := fun v => .tuple #[v, .int .i64 0]) (by assumption) .head)
theorem len9 {l : List Sp} (h : spE l = 0) : (srtS (once l)).length ≤ 9223372036854775807 := by
  have h1 := (spE0 h).1
  have h2 := once_len l
  rw [srtS_len]
  omega
theorem equalS_n {A B : Option Addr} {c c' n n' : Nat} (l m : List Sp) (hn : n = l.length) (hn' : n' = m.length) (hl : l.length ≤ 9223372036854775807) (hm : m.length ≤ 9223372036854775807) {w : World} (R : Rd w A 3 l.length (fun i => spC (l.getD i sp0))) (R2 : Rd w B 3 m.length (fun i => spC (m.getD i sp0))) :
    Calls Try.prog 21 #[.slice A n c, .slice B n' c'] w (RetP (Val (.bool (decide (l = m))) w)) := by
  subst hn
  subst hn'
  exact equalS_c A B c c' l m hl hm w R R2
set_option maxRecDepth 100000 in
theorem e_Same : Ent Try.prog 36 := fun _ _ => rfl
set_option maxRecDepth 4000 in
set_option maxHeartbeats 2000000 in
theorem Same_c (A B : Option Addr) (c c' : Nat) (l m : List Sp) (hl : l.length ≤ 9223372036854775807) (hm : m.length ≤ 9223372036854775807) (w : World) (R : Rd w A 3 l.length (fun i => spC (l.getD i sp0))) (R2 : Rd w B 3 m.length (fun i => spC (m.getD i sp0))) : Calls Try.prog 36 #[.slice A l.length c, .slice B m.length c'] w (RetP (Val (.tuple #[.bool (smB l m), .int .i64 (smE l m)]) w)) := by
  refine calls_of_cw (args := [.slice A l.length c, .slice B m.length c']) Try.func36 rfl rfl ?_
  have S := Sat.start [] w
  have O := (R).old
  have O2 := (R2).old
  (repeat' (first | apply cw_seq | apply cw_region | apply wl_nil | apply cw_block | apply cw_skip | apply cw_exit | apply cw_ret | (refine cw_rounds 3 ?_) | (apply cw_rds) | (apply x_addK; exact rfl; exact rfl; exact rfl; exact rfl; constructor) | (apply x_callv; assumption; exact rfl; exact rfl; exact rfl; exact e_CheckSpots; (exact (by repeat' constructor)); with_reducible exact (CheckSpots_c A c l hl _ (Old.now O (by assumption))); intro _ _ _) | (apply z1_callv; exact rfl; exact rfl; exact e_CheckSpots; (exact (by repeat' constructor)); with_reducible exact (fun _ _ => CheckSpots_c A c l hl _ (Old.now O (by assumption)))) | (apply z2_callv; exact rfl; exact rfl; exact e_CheckSpots; (exact (by repeat' constructor)); with_reducible exact (fun _ _ => CheckSpots_c A c l hl _ (Old.now O (by assumption)))) | (apply x_callv; assumption; exact rfl; exact rfl; exact rfl; exact e_CheckSpots; (exact (by repeat' constructor)); with_reducible exact (CheckSpots_c B c' m hm _ (Old.now O2 (by assumption))); intro _ _ _) | (apply z1_callv; exact rfl; exact rfl; exact e_CheckSpots; (exact (by repeat' constructor)); with_reducible exact (fun _ _ => CheckSpots_c B c' m hm _ (Old.now O2 (by assumption)))) | (apply z2_callv; exact rfl; exact rfl; exact e_CheckSpots; (exact (by repeat' constructor)); with_reducible exact (fun _ _ => CheckSpots_c B c' m hm _ (Old.now O2 (by assumption)))) | (apply x_callrowE (m := (srtS (once l)).length); assumption; exact rfl; exact rfl; exact rfl; exact e_sorted; (exact (by repeat' constructor)); (with_reducible exact sorted_c A c l hl (by have := (spE0 (l := l) (by assumption)).1; omega) _ (Old.now O (by assumption))); (exact (List.length_map _)); intro _ _ _ _) | (apply x_callrowE (m := (srtS (once m)).length); assumption; exact rfl; exact rfl; exact rfl; exact e_sorted; (exact (by repeat' constructor)); (with_reducible exact sorted_c B c' m hm (by have := (spE0 (l := m) (by assumption)).1; omega) _ (Old.now O2 (by assumption))); (exact (List.length_map _)); intro _ _ _ _) | (apply x_callv; assumption; exact rfl; exact rfl; exact rfl; exact e_equalS; (exact (by repeat' constructor)); (with_reducible refine equalS_n (srtS (once l)) (srtS (once m)) ?_ ?_ ?_ ?_ ?_ ?_); exact rfl; exact rfl; exact len9 (by assumption); exact len9 (by assumption); exact Sat.rdmapN sp0 (by assumption) (by exact (by repeat' constructor)) rfl; exact Sat.rdmapN sp0 (by assumption) (by exact (by repeat' constructor)) rfl; intro _ _ _) | (apply x_move; exact rfl; exact rfl; (exact (by repeat' constructor))) | (apply x_assign; exact rfl; exact rfl; (exact (by repeat' constructor))) | (apply x_neStr; exact rfl; exact rfl; exact rfl; exact rfl) | (apply x_bin; exact rfl; exact rfl; exact rfl; (first | exact .z (.wrap (by omega)) | exact (by repeat' constructor))) | (apply x_build; exact rfl; exact rfl; exact rfl; (exact (by repeat' constructor))) | (apply x_indexStr; exact rfl; exact rfl; exact rfl; exact rfl; exact rfl; (first | omega | exact size_pos (by assumption) | assumption)) | (apply x_indexAgg; exact rfl; exact rfl; exact rfl; exact rfl; exact rfl; (exact (by repeat' constructor))) | (apply cw_true; exact rfl) | (apply cw_false; exact rfl) | (apply x_ndec; exact rfl; with_reducible exact rfl; all_goals (intro _; try omega)) | (apply x_dec; exact rfl; all_goals (intro _; try omega)) | (apply cw_ne; exact rfl; all_goals (intro _; try omega)) | (apply cw_eq; exact rfl; all_goals (intro _; try omega)) | (apply cw_not; exact rfl; all_goals (intro _; try omega)) | (apply cw_cond; exact rfl; all_goals (intro _; try omega))))
  all_goals (first | refine q_retS (by assumption) rfl (by repeat (first | exact .nil | (apply RV.tmp; exact (by repeat' constructor)) | (apply RV.cell; exact rfl; exact (by repeat' constructor); exact rfl; exact rfl; exact (by repeat' constructor)))) ?_ | (simp only [thenQ, blockQ]; refine q_retS (by assumption) rfl (by repeat (first | exact .nil | (apply RV.tmp; exact (by repeat' constructor)) | (apply RV.cell; exact rfl; exact (by repeat' constructor); exact rfl; exact rfl; exact (by repeat' constructor)))) ?_))
  all_goals refine ⟨?_, Sat.keeps (by assumption)⟩
  all_goals first
    | (have h1 : ¬ spE l = 0 := by assumption
       have h2 : smE l m = spE l := by rw [smE, if_pos h1]
       rw [smB, dec_f (fun h => h1 (h2 ▸ h.1)), h2]
       rfl)
    | (have h1 : spE l = 0 := by assumption
       have h3 : ¬ spE m = 0 := by assumption
       have h2 : smE l m = spE m := by rw [smE, if_neg (not_not_intro h1)]
       rw [smB, dec_f (fun h => h3 (h2 ▸ h.1)), h2]
       rfl)
    | (have h1 : spE l = 0 := by assumption
       have h3 : spE m = 0 := by assumption
       have h2 : smE l m = 0 := by rw [smE, if_neg (not_not_intro h1), h3]
       have h4 : smB l m = decide (srtS (once l) = srtS (once m)) := by
         by_cases hs : sameL l m
         · rw [smB, dec_t ⟨h2, hs⟩, decide_eq_true ((same_iff l m).2 hs)]
         · rw [smB, dec_f (fun h => hs h.2), decide_eq_false (fun h => hs ((same_iff l m).1 h))]
       rw [h2, h4]
       rfl)
set_option maxRecDepth 100000 in
theorem e_rAlike : Ent Try.prog 74 := fun _ _ => rfl
set_option maxRecDepth 4000 in
set_option maxHeartbeats 2000000 in
theorem rAlike_c (A B : Option Addr) (c c' : Nat) (l m : List Sp) (hl : l.length ≤ 9223372036854775807) (hm : m.length ≤ 9223372036854775807) (w : World) (R : Rd w A 3 l.length (fun i => spC (l.getD i sp0))) (R2 : Rd w B 3 m.length (fun i => spC (m.getD i sp0))) : Calls Try.prog 74 #[.slice A l.length c, .slice B m.length c'] w (RetP (Val (.bool (@decide (sameL l m) (Classical.propDecidable _))) w)) := by
  refine calls_of_cw (args := [.slice A l.length c, .slice B m.length c']) Try.func74 rfl rfl ?_
  have S := Sat.start [] w
  have O := (R).old
  have O2 := (R2).old
  (repeat' (first | apply cw_seq | apply cw_region | apply wl_nil | apply cw_block | apply cw_skip | apply cw_exit | apply cw_ret | (apply x_move; exact rfl; exact rfl; (exact (by repeat' constructor))) | (apply x_assign; exact rfl; exact rfl; (exact (by repeat' constructor))) | (apply x_load; assumption; exact rfl; exact rfl; exact rfl; (exact (by repeat' constructor)); exact rfl; exact rfl; (exact (by repeat' constructor))) | (apply x_bin; exact rfl; exact rfl; exact rfl; (first | exact .z (.wrap (by omega)) | exact (by repeat' constructor))) | (apply x_un; exact rfl; exact rfl; exact rfl; (first | exact .z (.wrap (by omega)) | exact (by repeat' constructor))) | (apply x_builtin; exact rfl; exact rfl; exact (fun _ => rfl); (exact (by repeat' constructor))) | (apply x_loadB; assumption; exact rfl; exact rfl; exact rfl; assumption; exact rfl; exact rfl; (exact (by repeat' constructor))) | (apply x_index; exact rfl; exact rfl; exact rfl; exact rfl; exact rfl; (constructor); (first | omega | exact size_pos (by assumption) | assumption); (first | exact rfl | assumption | exact Rd.some_ (by assumption) (by omega) | exact Rd.some_ (Old.rd (by assumption)) (by omega) | exact (Sat.rd (by assumption) (by exact (by repeat' constructor))).some_ (by omega))) | (apply x_indexArrB; exact rfl; exact rfl; exact rfl; exact rfl; exact rfl; decide; decide; (constructor)) | (apply x_loadR; exact rfl; exact rfl; exact rfl; (first | exact Old.now (by assumption) (by assumption) | exact Sat.rdpr (by assumption) (by exact (by repeat' constructor)) | exact Sat.rd (by assumption) (by exact (by repeat' constructor))); (first | omega | exact size_pos (by assumption) | assumption); exact rfl; exact rfl; (exact (by repeat' constructor))) | (apply cw_true; exact rfl) | (apply cw_false; exact rfl) | (apply x_ndec; exact rfl; with_reducible exact rfl; all_goals (intro _; try omega)) | (apply x_dec; exact rfl; all_goals (intro _; try omega)) | (apply cw_ne; exact rfl; all_goals (intro _; try omega)) | (apply cw_eq; exact rfl; all_goals (intro _; try omega)) | (apply cw_not; exact rfl; all_goals (intro _; try omega)) | (apply cw_cond; exact rfl; all_goals (intro _; try omega))))
  refine cw_loop [4, 5, 7, 8, 9, 10, 11, 12, 13, 14, 15, 16, 17, 18, 19] [5] (fun us wr => ∃ k : Nat, k ≤ l.length ∧ us = [.int .i64 k] ∧ Sat w [] [] wr ∧ ∀ i, i < k → l.getD i sp0 ∈ m) (fun us _ => l.length - (intOf (us.getD 0 undef)).toNat) ?_ ?_
  · exact ⟨0, by omega, rfl, S, fun i hi => absurd hi (Nat.not_lt_zero i)⟩
  clear S
  rintro g' us wr ⟨k, hk, rfl, Sr, hfe⟩
  by_cases hlt : k < l.length
  · (repeat' (first | apply cw_seq | apply cw_region | apply wl_nil | apply cw_block | apply cw_skip | apply cw_exit | apply cw_ret | (apply x_callv; assumption; exact rfl; exact rfl; exact rfl; exact e_rHas; (exact (by repeat' constructor)); exact (rHas_c B c' m hm (l.getD k sp0) _ (Old.now O2 (by assumption))); intro _ _ _) | (apply z1_callv; exact rfl; exact rfl; exact e_rHas; (exact (by repeat' constructor)); exact (fun _ _ => rHas_c B c' m hm (l.getD k sp0) _ (Old.now O2 (by assumption)))) | (apply z2_callv; exact rfl; exact rfl; exact e_rHas; (exact (by repeat' constructor)); exact (fun _ _ => rHas_c B c' m hm (l.getD k sp0) _ (Old.now O2 (by assumption)))) | (apply x_move; exact rfl; exact rfl; (exact (by repeat' constructor))) | (apply x_assign; exact rfl; exact rfl; (exact (by repeat' constructor))) | (apply x_load; assumption; exact rfl; exact rfl; exact rfl; (exact (by repeat' constructor)); exact rfl; exact rfl; (exact (by repeat' constructor))) | (apply x_bin; exact rfl; exact rfl; exact rfl; (first | exact .z (.wrap (by omega)) | exact (by repeat' constructor))) | (apply x_un; exact rfl; exact rfl; exact rfl; (first | exact .z (.wrap (by omega)) | exact (by repeat' constructor))) | (apply x_builtin; exact rfl; exact rfl; exact (fun _ => rfl); (exact (by repeat' constructor))) | (apply x_loadB; assumption; exact rfl; exact rfl; exact rfl; assumption; exact rfl; exact rfl; (exact (by repeat' constructor))) | (apply x_index; exact rfl; exact rfl; exact rfl; exact rfl; exact rfl; (constructor); (first | omega | exact size_pos (by assumption) | assumption); (first | exact rfl | assumption | exact Rd.some_ (by assumption) (by omega) | exact Rd.some_ (Old.rd (by assumption)) (by omega) | exact (Sat.rd (by assumption) (by exact (by repeat' constructor))).some_ (by omega))) | (apply x_indexArrB; exact rfl; exact rfl; exact rfl; exact rfl; exact rfl; decide; decide; (constructor)) | (apply x_loadR; exact rfl; exact rfl; exact rfl; (first | exact Old.now (by assumption) (by assumption) | exact Sat.rdpr (by assumption) (by exact (by repeat' constructor)) | exact Sat.rd (by assumption) (by exact (by repeat' constructor))); (first | omega | exact size_pos (by assumption) | assumption); exact rfl; exact rfl; (exact (by repeat' constructor))) | (apply cw_true; exact rfl) | (apply cw_false; exact rfl) | (apply x_ndec; exact rfl; with_reducible exact rfl; all_goals (intro _; try omega)) | (apply x_dec; exact rfl; all_goals (intro _; try omega)) | (apply cw_ne; exact rfl; all_goals (intro _; try omega)) | (apply cw_eq; exact rfl; all_goals (intro _; try omega)) | (apply cw_not; exact rfl; all_goals (intro _; try omega)) | (apply cw_cond; exact rfl; all_goals (intro _; try omega))))
    · (first | refine q_retS (by assumption) rfl (by repeat (first | exact .nil | (apply RV.tmp; exact (by repeat' constructor)) | (apply RV.cell; exact rfl; exact (by repeat' constructor); exact rfl; exact rfl; exact (by repeat' constructor)))) ?_ | (simp only [thenQ, blockQ]; refine q_retS (by assumption) rfl (by repeat (first | exact .nil | (apply RV.tmp; exact (by repeat' constructor)) | (apply RV.cell; exact rfl; exact (by repeat' constructor); exact rfl; exact rfl; exact (by repeat' constructor)))) ?_))
      refine ⟨?_, Sat.keeps (by assumption)⟩
      rw [dec_f (fun h : sameL l m => absurd (h.1 (l.getD k sp0) (by rw [getD_lt hlt]; exact List.getElem_mem hlt)) (by assumption))]
      rfl
    · refine ⟨rfl, (by repeat (first | exact Agree.updl rfl (Agree.mask _ _ _) | refine Agree.upd rfl ?_)), ⟨k + 1, hlt, rfl, by assumption, fun i hi => ?_⟩, ?_⟩
      · rcases Nat.lt_succ_iff_lt_or_eq.1 hi with hi | hi
        · exact hfe i hi
        · subst hi; first | assumption | (simp_all; done)
      · show l.length - (k + 1 : Int).toNat < l.length - (k : Int).toNat
        omega
  · have hin : ∀ p ∈ l, p ∈ m := fun p hp => by
      obtain ⟨i, hi, rfl⟩ := List.mem_iff_getElem.1 hp
      have := hfe i (by omega)
      rwa [getD_lt hi] at this
    (repeat' (first | apply cw_seq | apply cw_region | apply wl_nil | apply cw_block | apply cw_skip | apply cw_exit | apply cw_ret | (apply x_move; exact rfl; exact rfl; (exact (by repeat' constructor))) | (apply x_assign; exact rfl; exact rfl; (exact (by repeat' constructor))) | (apply x_load; assumption; exact rfl; exact rfl; exact rfl; (exact (by repeat' constructor)); exact rfl; exact rfl; (exact (by repeat' constructor))) | (apply x_bin; exact rfl; exact rfl; exact rfl; (first | exact .z (.wrap (by omega)) | exact (by repeat' constructor))) | (apply x_un; exact rfl; exact rfl; exact rfl; (first | exact .z (.wrap (by omega)) | exact (by repeat' constructor))) | (apply x_builtin; exact rfl; exact rfl; exact (fun _ => rfl); (exact (by repeat' constructor))) | (apply x_loadB; assumption; exact rfl; exact rfl; exact rfl; assumption; exact rfl; exact rfl; (exact (by repeat' constructor))) | (apply x_index; exact rfl; exact rfl; exact rfl; exact rfl; exact rfl; (constructor); (first | omega | exact size_pos (by assumption) | assumption); (first | exact rfl | assumption | exact Rd.some_ (by assumption) (by omega) | exact Rd.some_ (Old.rd (by assumption)) (by omega) | exact (Sat.rd (by assumption) (by exact (by repeat' constructor))).some_ (by omega))) | (apply x_indexArrB; exact rfl; exact rfl; exact rfl; exact rfl; exact rfl; decide; decide; (constructor)) | (apply x_loadR; exact rfl; exact rfl; exact rfl; (first | exact Old.now (by assumption) (by assumption) | exact Sat.rdpr (by assumption) (by exact (by repeat' constructor)) | exact Sat.rd (by assumption) (by exact (by repeat' constructor))); (first | omega | exact size_pos (by assumption) | assumption); exact rfl; exact rfl; (exact (by repeat' constructor))) | (apply cw_true; exact rfl) | (apply cw_false; exact rfl) | (apply x_ndec; exact rfl; with_reducible exact rfl; all_goals (intro _; try omega)) | (apply x_dec; exact rfl; all_goals (intro _; try omega)) | (apply cw_ne; exact rfl; all_goals (intro _; try omega)) | (apply cw_eq; exact rfl; all_goals (intro _; try omega)) | (apply cw_not; exact rfl; all_goals (intro _; try omega)) | (apply cw_cond; exact rfl; all_goals (intro _; try omega))))
    refine cw_loop [4, 6, 20, 21, 22, 23, 24, 25, 26, 27, 28, 29, 30, 31, 32] [6] (fun us wr => ∃ k : Nat, k ≤ m.length ∧ us = [.int .i64 k] ∧ Sat w [] [] wr ∧ ∀ i, i < k → m.getD i sp0 ∈ l) (fun us _ => m.length - (intOf (us.getD 0 undef)).toNat) ?_ ?_
    · exact ⟨0, by omega, rfl, Sr, fun i hi => absurd hi (Nat.not_lt_zero i)⟩
    clear Sr hfe hlt
    rintro g2 us2 wr2 ⟨k2, hk2, rfl, Sr, hfe⟩
    by_cases hlt : k2 < m.length
    · (repeat' (first | apply cw_seq | apply cw_region | apply wl_nil | apply cw_block | apply cw_skip | apply cw_exit | apply cw_ret | (apply x_callv; assumption; exact rfl; exact rfl; exact rfl; exact e_rHas; (exact (by repeat' constructor)); exact (rHas_c A c l hl (m.getD k2 sp0) _ (Old.now O (by assumption))); intro _ _ _) | (apply z1_callv; exact rfl; exact rfl; exact e_rHas; (exact (by repeat' constructor)); exact (fun _ _ => rHas_c A c l hl (m.getD k2 sp0) _ (Old.now O (by assumption)))) | (apply z2_callv; exact rfl; exact rfl; exact e_rHas; (exact (by repeat' constructor)); exact (fun _ _ => rHas_c A c l hl (m.getD k2 sp0) _ (Old.now O (by assumption)))) | (apply x_move; exact rfl; exact rfl; (exact (by repeat' constructor))) | (apply x_assign; exact rfl; exact rfl; (exact (by repeat' constructor))) | (apply x_load; assumption; exact rfl; exact rfl; exact rfl; (exact (by repeat' constructor)); exact rfl; exact rfl; (exact (by repeat' constructor))) | (apply x_bin; exact rfl; exact rfl; exact rfl; (first | exact .z (.wrap (by omega)) | exact (by repeat' constructor))) | (apply x_un; exact rfl; exact rfl; exact rfl; (first | exact .z (.wrap (by omega)) | exact (by repeat' constructor))) | (apply x_builtin; exact rfl; exact rfl; exact (fun _ => rfl); (exact (by repeat' constructor))) | (apply x_loadB; assumption; exact rfl; exact rfl; exact rfl; assumption; exact rfl; exact rfl; (exact (by repeat' constructor))) | (apply x_index; exact rfl; exact rfl; exact rfl; exact rfl; exact rfl; (constructor); (first | omega | exact size_pos (by assumption) | assumption); (first | exact rfl | assumption | exact Rd.some_ (by assumption) (by omega) | exact Rd.some_ (Old.rd (by assumption)) (by omega) | exact (Sat.rd (by assumption) (by exact (by repeat' constructor))).some_ (by omega))) | (apply x_indexArrB; exact rfl; exact rfl; exact rfl; exact rfl; exact rfl; decide; decide; (constructor)) | (apply x_loadR; exact rfl; exact rfl; exact rfl; (first | exact Old.now (by assumption) (by assumption) | exact Sat.rdpr (by assumption) (by exact (by repeat' constructor)) | exact Sat.rd (by assumption) (by exact (by repeat' constructor))); (first | omega | exact size_pos (by assumption) | assumption); exact rfl; exact rfl; (exact (by repeat' constructor))) | (apply cw_true; exact rfl) | (apply cw_false; exact rfl) | (apply x_ndec; exact rfl; with_reducible exact rfl; all_goals (intro _; try omega)) | (apply x_dec; exact rfl; all_goals (intro _; try omega)) | (apply cw_ne; exact rfl; all_goals (intro _; try omega)) | (apply cw_eq; exact rfl; all_goals (intro _; try omega)) | (apply cw_not; exact rfl; all_goals (intro _; try omega)) | (apply cw_cond; exact rfl; all_goals (intro _; try omega))))
      · (first | refine q_retS (by assumption) rfl (by repeat (first | exact .nil | (apply RV.tmp; exact (by repeat' constructor)) | (apply RV.cell; exact rfl; exact (by repeat' constructor); exact rfl; exact rfl; exact (by repeat' constructor)))) ?_ | (simp only [thenQ, blockQ]; refine q_retS (by assumption) rfl (by repeat (first | exact .nil | (apply RV.tmp; exact (by repeat' constructor)) | (apply RV.cell; exact rfl; exact (by repeat' constructor); exact rfl; exact rfl; exact (by repeat' constructor)))) ?_))
        refine ⟨?_, Sat.keeps (by assumption)⟩
        rw [dec_f (fun h : sameL l m => absurd (h.2 (m.getD k2 sp0) (by rw [getD_lt hlt]; exact List.getElem_mem hlt)) (by assumption))]
        rfl
      · refine ⟨rfl, (by repeat (first | exact Agree.updl rfl (Agree.mask _ _ _) | refine Agree.upd rfl ?_ | refine Agree.updl rfl ?_ | refine Agree.maskIn rfl ?_)), ⟨k2 + 1, hlt, rfl, by assumption, fun i hi => ?_⟩, ?_⟩
        · rcases Nat.lt_succ_iff_lt_or_eq.1 hi with hi | hi
          · exact hfe i hi
          · subst hi; first | assumption | (simp_all; done)
        · show m.length - (k2 + 1 : Int).toNat < m.length - (k2 : Int).toNat
          omega
    · (repeat' (first | apply cw_seq | apply cw_region | apply wl_nil | apply cw_block | apply cw_skip | apply cw_exit | apply cw_ret | (apply x_move; exact rfl; exact rfl; (exact (by repeat' constructor))) | (apply x_assign; exact rfl; exact rfl; (exact (by repeat' constructor))) | (apply x_load; assumption; exact rfl; exact rfl; exact rfl; (exact (by repeat' constructor)); exact rfl; exact rfl; (exact (by repeat' constructor))) | (apply x_bin; exact rfl; exact rfl; exact rfl; (first | exact .z (.wrap (by omega)) | exact (by repeat' constructor))) | (apply x_un; exact rfl; exact rfl; exact rfl; (first | exact .z (.wrap (by omega)) | exact (by repeat' constructor))) | (apply x_builtin; exact rfl; exact rfl; exact (fun _ => rfl); (exact (by repeat' constructor))) | (apply x_loadB; assumption; exact rfl; exact rfl; exact rfl; assumption; exact rfl; exact rfl; (exact (by repeat' constructor))) | (apply x_index; exact rfl; exact rfl; exact rfl; exact rfl; exact rfl; (constructor); (first | omega | exact size_pos (by assumption) | assumption); (first | exact rfl | assumption | exact Rd.some_ (by assumption) (by omega) | exact Rd.some_ (Old.rd (by assumption)) (by omega) | exact (Sat.rd (by assumption) (by exact (by repeat' constructor))).some_ (by omega))) | (apply x_indexArrB; exact rfl; exact rfl; exact rfl; exact rfl; exact rfl; decide; decide; (constructor)) | (apply x_loadR; exact rfl; exact rfl; exact rfl; (first | exact Old.now (by assumption) (by assumption) | exact Sat.rdpr (by assumption) (by exact (by repeat' constructor)) | exact Sat.rd (by assumption) (by exact (by repeat' constructor))); (first | omega | exact size_pos (by assumption) | assumption); exact rfl; exact rfl; (exact (by repeat' constructor))) | (apply cw_true; exact rfl) | (apply cw_false; exact rfl) | (apply x_ndec; exact rfl; with_reducible exact rfl; all_goals (intro _; try omega)) | (apply x_dec; exact rfl; all_goals (intro _; try omega)) | (apply cw_ne; exact rfl; all_goals (intro _; try omega)) | (apply cw_eq; exact rfl; all_goals (intro _; try omega)) | (apply cw_not; exact rfl; all_goals (intro _; try omega)) | (apply cw_cond; exact rfl; all_goals (intro _; try omega))))
      (first | refine q_retS (by assumption) rfl (by repeat (first | exact .nil | (apply RV.tmp; exact (by repeat' constructor)) | (apply RV.cell; exact rfl; exact (by repeat' constructor); exact rfl; exact rfl; exact (by repeat' constructor)))) ?_ | (simp only [thenQ, blockQ]; refine q_retS (by assumption) rfl (by repeat (first | exact .nil | (apply RV.tmp; exact (by repeat' constructor)) | (apply RV.cell; exact rfl; exact (by repeat' constructor); exact rfl; exact rfl; exact (by repeat' constructor)))) ?_))
      refine ⟨?_, Sat.keeps (by assumption)⟩
      rw [dec_t (show sameL l m from ⟨hin, fun p hp => by
        obtain ⟨i, hi, rfl⟩ := List.mem_iff_getElem.1 hp
        have := hfe i (by omega)
        rwa [getD_lt hi] at this⟩)]
      rfl
set_option maxRecDepth 100000 in
theorem e_rSame : Ent Try.prog 37 := fun _ _ => rfl
set_option maxRecDepth 4000 in
set_option maxHeartbeats 2000000 in
theorem rSame_c (A B : Option Addr) (c c' : Nat) (l m : List Sp) (hl : l.length ≤ 9223372036854775807) (hm : m.length ≤ 9223372036854775807) (w : World) (R : Rd w A 3 l.length (fun i => spC (l.getD i sp0))) (R2 : Rd w B 3 m.length (fun i => spC (m.getD i sp0))) : Calls Try.prog 37 #[.slice A l.length c, .slice B m.length c'] w (RetP (Val (.tuple #[.bool (smB l m), .int .i64 (smE l m)]) w)) := by
  refine calls_of_cw (args := [.slice A l.length c, .slice B m.length c']) Try.func37 rfl rfl ?_
  have S := Sat.start [] w
  have O := (R).old
  have O2 := (R2).old
  (repeat' (first | apply cw_seq | apply cw_region | apply wl_nil | apply cw_block | apply cw_skip | apply cw_exit | apply cw_ret | (apply x_callv; assumption; exact rfl; exact rfl; exact rfl; exact e_rCheckSpots; (exact (by repeat' constructor)); with_reducible exact (rCheckSpots_c A c l hl _ (Old.now O (by assumption))); intro _ _ _) | (apply z1_callv; exact rfl; exact rfl; exact e_rCheckSpots; (exact (by repeat' constructor)); with_reducible exact (fun _ _ => rCheckSpots_c A c l hl _ (Old.now O (by assumption)))) | (apply z2_callv; exact rfl; exact rfl; exact e_rCheckSpots; (exact (by repeat' constructor)); with_reducible exact (fun _ _ => rCheckSpots_c A c l hl _ (Old.now O (by assumption)))) | (apply x_callv; assumption; exact rfl; exact rfl; exact rfl; exact e_rCheckSpots; (exact (by repeat' constructor)); with_reducible exact (rCheckSpots_c B c' m hm _ (Old.now O2 (by assumption))); intro _ _ _) | (apply z1_callv; exact rfl; exact rfl; exact e_rCheckSpots; (exact (by repeat' constructor)); with_reducible exact (fun _ _ => rCheckSpots_c B c' m hm _ (Old.now O2 (by assumption)))) | (apply z2_callv; exact rfl; exact rfl; exact e_rCheckSpots; (exact (by repeat' constructor)); with_reducible exact (fun _ _ => rCheckSpots_c B c' m hm _ (Old.now O2 (by assumption)))) | (apply x_callv; assumption; exact rfl; exact rfl; exact rfl; exact e_rAlike; (exact (by repeat' constructor)); exact (rAlike_c A B c c' l m hl hm _ (Old.now O (by assumption)) (Old.now O2 (by assumption))); intro _ _ _) | (apply z1_callv; exact rfl; exact rfl; exact e_rAlike; (exact (by repeat' constructor)); exact (fun _ _ => rAlike_c A B c c' l m hl hm _ (Old.now O (by assumption)) (Old.now O2 (by assumption)))) | (apply z2_callv; exact rfl; exact rfl; exact e_rAlike; (exact (by repeat' constructor)); exact (fun _ _ => rAlike_c A B c c' l m hl hm _ (Old.now O (by assumption)) (Old.now O2 (by assumption)))) | (apply x_move; exact rfl; exact rfl; (exact (by repeat' constructor))) | (apply x_assign; exact rfl; exact rfl; (exact (by repeat' constructor))) | (apply x_neStr; exact rfl; exact rfl; exact rfl; exact rfl) | (apply x_bin; exact rfl; exact rfl; exact rfl; (first | exact .z (.wrap (by omega)) | exact (by repeat' constructor))) | (apply cw_true; exact rfl) | (apply cw_false; exact rfl) | (apply x_ndec; exact rfl; with_reducible exact rfl; all_goals (intro _; try omega)) | (apply x_dec; exact rfl; all_goals (intro _; try omega)) | (apply cw_ne; exact rfl; all_goals (intro _; try omega)) | (apply cw_eq; exact rfl; all_goals (intro _; try omega)) | (apply cw_not; exact rfl; all_goals (intro _; try omega)) | (apply cw_cond; exact rfl; all_goals (intro _; try omega))))
  all_goals (first | refine q_retS (by assumption) rfl (by repeat (first | exact .nil | (apply RV.tmp; exact (by repeat' constructor)) | (apply RV.cell; exact rfl; exact (by repeat' constructor); exact rfl; exact rfl; exact (by repeat' constructor)))) ?_ | (simp only [thenQ, blockQ]; refine q_retS (by assumption) rfl (by repeat (first | exact .nil | (apply RV.tmp; exact (by repeat' constructor)) | (apply RV.cell; exact rfl; exact (by repeat' constructor); exact rfl; exact rfl; exact (by repeat' constructor)))) ?_))
  all_goals refine ⟨?_, Sat.keeps (by assumption)⟩
  all_goals first
    | (have h1 : ¬ spE l = 0 := by assumption
       have h2 : smE l m = spE l := by rw [smE, if_pos h1]
       rw [smB, dec_f (fun h => h1 (h2 ▸ h.1)), h2]
       rfl)
    | (have h1 : spE l = 0 := by assumption
       have h3 : ¬ spE m = 0 := by assumption
       have h2 : smE l m = spE m := by rw [smE, if_neg (not_not_intro h1)]
       rw [smB, dec_f (fun h => h3 (h2 ▸ h.1)), h2]
       rfl)
    | (have h1 : spE l = 0 := by assumption
       have h3 : spE m = 0 := by assumption
       have h2 : smE l m = 0 := by rw [smE, if_neg (not_not_intro h1), h3]
       have h4 : smB l m = @decide (sameL l m) (Classical.propDecidable _) := by
         by_cases hs : sameL l m
         · rw [smB, dec_t ⟨h2, hs⟩, dec_t hs]
         · rw [smB, dec_f (fun h => hs h.2), dec_f hs]
       rw [h2, h4]
       rfl)
end Go.Proofs.Ytnlddjbeekfjlaa
