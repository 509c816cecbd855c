/- The chapter's example: its parts that are recalled. No statement of the seat is proved here. -/
import Derived.Test.YtnndkdcciojpiaaWo
import Derived.Test.YtnndkdcciojpiaaWa
namespace Go.Proofs.Ytnndkdcciojpiaa.Rl
set_option linter.unusedVariables false
set_option linter.unusedSimpArgs false
open Go Go.RowKit Go.Maps
theorem evC_len (x : Ev) : (evC x).length = 4 := rfl
set_option maxRecDepth 100000 in
theorem e_Seven : Ent Try.prog 24 := fun _ _ => rfl
set_option maxRecDepth 8000 in
theorem Seven_c (w : World) : Calls Try.prog 24 #[] w (RetP (NewR (fun b => .slice (some ⟨b, 0, none⟩) 7 7) 37 (sevenL.flatMap evC) w)) := by
  refine calls_of_cw (args := []) Try.func24 rfl rfl ?_
  have S := Sat.start [] w
  (repeat' (first | apply cw_seq | apply cw_region | apply wl_nil | apply cw_ret | (apply x_assign; exact rfl; exact rfl; (exact (by repeat' constructor))) | (apply x_build; exact rfl; exact rfl; exact rfl; (exact (by repeat' constructor))) | (apply x_buildSlice; assumption; exact rfl; exact rfl; exact rfl; (exact (by repeat' constructor)); intro _ _ _)))
  (first | refine q_retS (by assumption) rfl (by repeat (first | exact .nil | (apply RV.tmp; exact (by repeat' constructor)) | (apply RV.cell; exact rfl; exact (by repeat' constructor); exact rfl; exact rfl; exact (by repeat' constructor)))) ?_ | (simp only [thenQ, blockQ]; refine q_retS (by assumption) rfl (by repeat (first | exact .nil | (apply RV.tmp; exact (by repeat' constructor)) | (apply RV.cell; exact rfl; exact (by repeat' constructor); exact rfl; exact rfl; exact (by repeat' constructor)))) ?_))
  exact Sat.newR (by assumption) (by exact (by repeat' constructor))
theorem Parts_7 {b : Nat} {w : World} (R : Rd w (some ⟨b, 0, none⟩) 4 7 (fun i => evC (sevenL.getD i ev0))) : Calls Try.prog 13 #[.slice (some ⟨b, 0, none⟩) 7 7] w (RetP (RowR (fun v => .tuple #[v, .int .i64 0]) 9 1 ([nP2, nP3].map strC) w)) := by
  refine (Parts_c (l := sevenL) (c := 7) (Nat.le_refl _) seven_ok seven_right w R).mono ?_
  rintro e w' ⟨v, rfl, ⟨A, c, ss, mem, nd, srt⟩, rfl, S⟩
  have h : ss = [nP2, nP3] := list_two (by decide) (by show ¬ nP3.data.toList ≤ nP2.data.toList; decide) ss nd srt fun s => (mem s).trans re_seven
  subst h
  exact ⟨_, rfl, rowR_xs (V := fun v => .tuple #[v, .int .i64 0]) S .head⟩
set_option maxRecDepth 100000 in
theorem e_runRecalls : Ent Try.prog 7 := fun _ _ => rfl
theorem EqualS_m {A B : Option Addr} {c c' m : Nat} {w : World} (xs : List ByteArray) (hm : m = xs.length) (hx : xs.length ≤ 9223372036854775807) (R1 : Rd w A 1 xs.length (fun i => strC (xs.getD i nul))) (R2 : Rd w B 1 xs.length (fun i => strC (xs.getD i nul))) :
    Calls Try.prog 25 #[.slice A m c, .slice B m c'] w (RetP (Val (.bool true) w)) := by subst hm; exact EqualS_c A B c c' xs hx w R1 R2
theorem strC_len (s : ByteArray) : (strC s).length = 1 := rfl
set_option maxRecDepth 8000 in
theorem runRecalls_c (w : World) : Calls Try.prog 7 #[] w (RetP (Val (.bool true) w)) := by
  refine calls_of_cw (args := []) Try.func7 rfl rfl ?_
  have S := Sat.start [] w
  (repeat' (first | apply cw_seq | apply cw_region | apply wl_nil | apply cw_ret | (apply x_calln; assumption; exact rfl; exact rfl; exact rfl; exact e_Seven; (exact (by repeat' constructor)); exact (Seven_c _); intro _ _ _) | (apply x_callrowE (m := 2); assumption; exact rfl; exact rfl; exact rfl; exact e_Parts; (exact (by repeat' constructor)); (with_reducible refine Parts_7 ?_); exact Sat.rdflat ev0 evC_len (by assumption) (by exact (by repeat' constructor)); exact rfl; intro _ _ _ _) | (apply x_callv; assumption; exact rfl; exact rfl; exact rfl; exact e_EqualS; (exact (by repeat' constructor)); (with_reducible refine EqualS_m [nP2, nP3] ?_ ?_ ?_ ?_); exact rfl; exact (by decide); exact Sat.rdmapN nul (by assumption) (by exact (by repeat' constructor)) rfl; exact Sat.rdflat nul strC_len (by assumption) (by exact (by repeat' constructor)); intro _ _ _) | (apply x_move; exact rfl; exact rfl; (exact (by repeat' constructor))) | (apply x_assign; exact rfl; exact rfl; (exact (by repeat' constructor))) | (apply x_bin; exact rfl; exact rfl; exact rfl; (first | exact .z (.wrap (by omega)) | exact (by repeat' constructor))) | (apply x_pick; exact rfl; exact rfl; exact rfl; (exact (by repeat' constructor))) | (apply x_extract; exact rfl; exact rfl; exact rfl; (exact (by repeat' constructor))) | (apply x_buildSlice; assumption; exact rfl; exact rfl; exact rfl; (exact (by repeat' constructor)); intro _ _ _)))
  all_goals (first | refine q_retS (by assumption) rfl (by repeat (first | exact .nil | (apply RV.tmp; exact (by repeat' constructor)) | (apply RV.cell; exact rfl; exact (by repeat' constructor); exact rfl; exact rfl; exact (by repeat' constructor)))) ?_ | (simp only [thenQ, blockQ]; refine q_retS (by assumption) rfl (by repeat (first | exact .nil | (apply RV.tmp; exact (by repeat' constructor)) | (apply RV.cell; exact rfl; exact (by repeat' constructor); exact rfl; exact rfl; exact (by repeat' constructor)))) ?_))
  all_goals refine ⟨?_, Sat.keeps (by assumption)⟩
  all_goals first | rfl | (simp [pack]; done) | (exfalso; simp_all; done)
end Go.Proofs.Ytnndkdcciojpiaa.Rl
