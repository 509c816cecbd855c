/- The order of a few points. No statement of the seat is proved here. -/
import Derived.Test.YtfkcihcbmlcajaaGj
namespace Go.Proofs.Ytfkcihcbmlcajaa.Hu
set_option linter.unusedVariables false
set_option linter.unusedSimpArgs false
open Go Go.RowKit
theorem ptC_ne (p : P) : ptC p ≠ [] := by simp [ptC]
set_option maxRecDepth 100000 in
theorem e_stable : Ent Try.prog 43 := fun _ _ => rfl
set_option maxRecDepth 8000 in
set_option maxHeartbeats 4000000 in
theorem stable_c {bl n : Nat} {A A2 : Option Addr} {c c2 : Nat} {l : List P} (xs : List Int) (hn : xs.length = n) (hn8 : n ≤ 8) (hin : inL l xs) {w0 : World} {M : List Nat} (w : World) (S : Sat w0 M [.rw 0 (.slice A2 n c2) 3 1 ((xs).map zC)] w) (B : OldB w0 M bl 22 [.slice A l.length c]) (O : Old w0 M A 2 l.length (fun i => ptC (l.getD i p0))) :
    Calls Try.prog 43 #[.slice A2 n c2, .int .i64 (n : Int), .func (.func 39) #[] #[.pointer (some ⟨bl, 0, none⟩)]] w (RetP fun v w' => ∃ r : SRes l xs, v = .tuple #[] ∧ Sat w0 M [.rw 0 (.slice A2 n c2) 3 1 ((r.ys).map zC)] w') := by
  refine calls_of_cw (args := [.slice A2 n c2, .int .i64 (n : Int), .func (.func 39) #[] #[.pointer (some ⟨bl, 0, none⟩)]]) Try.func43 rfl rfl ?_
  (repeat' (first | apply cw_seq | apply cw_region | apply wl_nil | apply cw_block | apply cw_skip | apply cw_exit | apply cw_ret | (apply x_move; exact rfl; exact rfl; (exact (by repeat' constructor))) | (apply x_assign; exact rfl; exact rfl; (exact (by repeat' constructor))) | (apply x_bin; exact rfl; exact rfl; exact rfl; (first | exact .z (.wrap (by omega)) | exact (by repeat' constructor))) | (apply cw_true; exact rfl) | (apply cw_false; exact rfl) | (apply x_ndec; exact rfl; with_reducible exact rfl; all_goals (intro _; try omega)) | (apply x_dec; exact rfl; all_goals (intro _; try omega)) | (apply cw_ne; exact rfl; all_goals (intro _; try omega)) | (apply cw_eq; exact rfl; all_goals (intro _; try omega)) | (apply cw_not; exact rfl; all_goals (intro _; try omega)) | (apply cw_cond; exact rfl; all_goals (intro _; try omega))))
  refine cw_loop [7, 8, 11, 12, 13, 14, 15, 16, 17, 18, 19, 20, 21, 22] [7, 8] (fun us wr => us = [.int .i64 0, .int .i64 20] ∧ Sat w0 M [.rw 0 (.slice A2 n c2) 3 1 ((xs).map zC)] wr) (fun _ _ => 0) ?_ ?_
  · exact ⟨rfl, by assumption⟩
  clear S
  rintro g us wr ⟨rfl, Sr⟩
  (repeat' (first | apply cw_seq | apply cw_region | apply wl_nil | apply cw_block | apply cw_skip | apply cw_exit | apply cw_ret | (apply x_callC (bd := []) (hc := [.rw 0 (.slice A2 n c2) 3 1 ((xs).map zC)]) (fr := []) (V := fun _ => .tuple #[]); assumption; exact rfl; exact rfl; exact rfl; exact e_insort; (exact (by repeat' constructor)); exact List.Perm.refl _; (exact fun Sc => insort_c xs hn hn8 hin _ Sc (OldB.next (fr := []) B (by assumption)) (Old.next (fr := []) O (fun i _ => by simp [ptC]) (by assumption))); (intro r w2 S2)) | (apply x_move; exact rfl; exact rfl; (exact (by repeat' constructor))) | (apply x_assign; exact rfl; exact rfl; (exact (by repeat' constructor))) | (apply x_bin; exact rfl; exact rfl; exact rfl; (first | exact .z (.wrap (by omega)) | exact (by repeat' constructor))) | (apply cw_true; exact rfl) | (apply cw_false; exact rfl) | (apply x_ndec; exact rfl; with_reducible exact rfl; all_goals (intro _; try omega)) | (apply x_dec; exact rfl; all_goals (intro _; try omega)) | (apply cw_ne; exact rfl; all_goals (intro _; try omega)) | (apply cw_eq; exact rfl; all_goals (intro _; try omega)) | (apply cw_not; exact rfl; all_goals (intro _; try omega)) | (apply cw_cond; exact rfl; all_goals (intro _; try omega))))
  all_goals first | (exfalso; omega) | skip
  refine cw_loop [6, 7, 8, 9, 28, 29, 30, 31, 32, 33, 34, 35, 36, 37, 38, 39, 40, 41, 42, 43, 44, 45, 46, 47, 48, 49, 50, 51, 52, 53, 54, 55, 56, 57, 58, 59, 60, 61, 62] [6] (fun us wr => us = [.int .i64 20] ∧ Sat w0 M [.rw 0 (.slice A2 n c2) 3 1 ((r.ys).map zC)] wr) (fun _ _ => 0) ?_ ?_
  · exact ⟨rfl, by assumption⟩
  clear Sr S2
  rintro g us wr ⟨rfl, Sr⟩
  (repeat' (first | apply cw_seq | apply cw_region | apply wl_nil | apply cw_block | apply cw_skip | apply cw_exit | apply cw_ret | (apply x_move; exact rfl; exact rfl; (exact (by repeat' constructor))) | (apply x_assign; exact rfl; exact rfl; (exact (by repeat' constructor))) | (apply x_bin; exact rfl; exact rfl; exact rfl; (first | exact .z (.wrap (by omega)) | exact (by repeat' constructor))) | (apply cw_true; exact rfl) | (apply cw_false; exact rfl) | (apply x_ndec; exact rfl; with_reducible exact rfl; all_goals (intro _; try omega)) | (apply x_dec; exact rfl; all_goals (intro _; try omega)) | (apply cw_ne; exact rfl; all_goals (intro _; try omega)) | (apply cw_eq; exact rfl; all_goals (intro _; try omega)) | (apply cw_not; exact rfl; all_goals (intro _; try omega)) | (apply cw_cond; exact rfl; all_goals (intro _; try omega))))
  all_goals first | (exfalso; omega) | skip
  first | (apply q_ret0; exact rfl) | (apply q_end0; exact rfl)
  exact ⟨r, rfl, Sr⟩
set_option maxRecDepth 100000 in
theorem e_sortSt : Ent Try.prog 38 := fun _ _ => rfl
set_option maxRecDepth 8000 in
set_option maxHeartbeats 4000000 in
theorem sortSt_c {bl n : Nat} {A A2 : Option Addr} {c c2 : Nat} {l : List P} (xs : List Int) (hn : xs.length = n) (hn8 : n ≤ 8) (hin : inL l xs) {w0 : World} {M : List Nat} (w : World) (S : Sat w0 M [.rw 0 (.slice A2 n c2) 3 1 ((xs).map zC)] w) (B : OldB w0 M bl 22 [.slice A l.length c]) (O : Old w0 M A 2 l.length (fun i => ptC (l.getD i p0))) :
    Calls Try.prog 38 #[.slice A2 n c2, .func (.func 39) #[] #[.pointer (some ⟨bl, 0, none⟩)]] w (RetP fun v w' => ∃ r : SRes l xs, v = .tuple #[] ∧ Sat w0 M [.rw 0 (.slice A2 n c2) 3 1 ((r.ys).map zC)] w') := by
  refine calls_of_cw (args := [.slice A2 n c2, .func (.func 39) #[] #[.pointer (some ⟨bl, 0, none⟩)]]) Try.func38 rfl rfl ?_
  (repeat' (first | apply cw_seq | apply cw_region | apply wl_nil | apply cw_block | apply cw_skip | apply cw_exit | apply cw_ret | (apply x_callC (bd := []) (hc := [.rw 0 (.slice A2 n c2) 3 1 ((xs).map zC)]) (fr := []) (V := fun _ => .tuple #[]); assumption; exact rfl; exact rfl; exact rfl; exact e_stable; (exact (by repeat' constructor)); exact List.Perm.refl _; (exact fun Sc => stable_c xs hn hn8 hin _ Sc (OldB.next (fr := []) B (by assumption)) (Old.next (fr := []) O (fun i _ => by simp [ptC]) (by assumption))); (intro r w2 S2)) | (apply x_move; exact rfl; exact rfl; (exact (by repeat' constructor))) | (apply x_builtin; exact rfl; exact rfl; exact (fun _ => rfl); (exact (by repeat' constructor)))))
  first | (apply q_ret0; exact rfl) | (apply q_end0; exact rfl)
  exact ⟨r, rfl, S2⟩
end Go.Proofs.Ytfkcihcbmlcajaa.Hu
