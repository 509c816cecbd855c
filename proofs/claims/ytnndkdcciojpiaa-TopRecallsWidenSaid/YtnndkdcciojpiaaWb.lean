/- Events of gauges: their names. No statement of the seat is proved here. -/
import Derived.Test.YtnndkdcciojpiaaKa
import Derived.Test.YtnndkdcciojpiaaEngQ
import Derived.Test.YtnndkdcciojpiaaEngRl
import Derived.Test.YtnndkdcciojpiaaProg
namespace Go.Proofs.Ytnndkdcciojpiaa.Rl
set_option linter.unusedVariables false
set_option linter.unusedSimpArgs false
open Go Go.RowKit
structure Ev where
  k : Int
  g : ByteArray
  p : ByteArray
  l : ByteArray
def ev0 : Ev := ⟨0, nul, nul, nul⟩
abbrev evC (e : Ev) : List Value := [.int .i64 e.k, .string e.g, .string e.p, .string e.l]
abbrev eat (l : List Ev) (i : Nat) : Ev := l.getD i ev0
structure Ev.ok (e : Ev) : Prop where
  hg : e.g.size ≤ 9223372036854775807
  hp : e.p.size ≤ 9223372036854775807
  hl : e.l.size ≤ 9223372036854775807
/-- the names of an event are right -/
structure NamesOk (x : Ev) : Prop where
  k0 : 0 ≤ x.k
  k3 : x.k ≤ 3
  g : if x.k = 3 then x.g = nul else nameE x.g = 0
  p : if x.k = 0 ∨ x.k = 3 then nameE x.p = 0 else x.p = nul
  l : if x.k = 0 then nameE x.l = 0 else x.l = nul
theorem Name_0 {s : ByteArray} (hs : s.size ≤ 9223372036854775807) (h : nameE s = 0) (w : World) : Calls Try.prog 61 #[.string s] w (RetP (Val (.int .i64 0) w)) := by
  have := Name_c s hs w
  rw [h] at this
  exact this
set_option maxRecDepth 100000 in
theorem e_names : Ent Try.prog 45 := fun _ _ => rfl
set_option maxRecDepth 8000 in
set_option maxHeartbeats 4000000 in
theorem names0_c (g : ByteArray) (hg : g.size ≤ 9223372036854775807) (h1 : nameE g = 0) (p : ByteArray) (hp : p.size ≤ 9223372036854775807) (h2 : nameE p = 0) (l : ByteArray) (hl : l.size ≤ 9223372036854775807) (h3 : nameE l = 0) (w : World) : Calls Try.prog 45 #[.agg #[.int .i64 0, .string g, .string p, .string l]] w (RetP (Val (.int .i64 0) w)) := by
  refine calls_of_cw (args := [.agg #[.int .i64 0, .string g, .string p, .string l]]) Try.func45 rfl rfl ?_
  have S := Sat.start [] w
  (repeat' (first | apply cw_seq | apply cw_region | apply wl_nil | apply cw_block | apply cw_skip | apply cw_exit | apply cw_ret | (refine cw_rounds 4 ?_) | (apply x_addK; exact rfl; exact rfl; exact rfl; exact rfl; constructor) | (apply x_indexK; exact rfl; exact rfl; exact rfl; exact rfl; exact rfl; (constructor); (constructor); (exact (by decide)); (first | omega | exact size_pos (by assumption) | assumption); (first | exact rfl | assumption | exact Rd.some_ (by assumption) (by omega) | exact Rd.some_ (Old.rd (by assumption)) (by omega) | exact (Sat.rd (by assumption) (by exact (by repeat' constructor))).some_ (by omega))) | (apply x_callv; assumption; exact rfl; exact rfl; exact rfl; exact e_Name; (exact (by repeat' constructor)); (with_reducible exact Name_0 hg h1 _); intro _ _ _) | (apply x_callv; assumption; exact rfl; exact rfl; exact rfl; exact e_Name; (exact (by repeat' constructor)); (with_reducible exact Name_0 hp h2 _); intro _ _ _) | (apply x_callv; assumption; exact rfl; exact rfl; exact rfl; exact e_Name; (exact (by repeat' constructor)); (with_reducible exact Name_0 hl h3 _); intro _ _ _) | (apply x_not; exact rfl; exact rfl) | (apply x_move; exact rfl; exact rfl; (exact (by repeat' constructor))) | (apply x_assign; exact rfl; exact rfl; (exact (by repeat' constructor))) | (apply x_fieldB; exact rfl; exact rfl; exact rfl; exact rfl; (constructor)) | (apply x_load; assumption; exact rfl; exact rfl; exact rfl; (exact (by repeat' constructor)); exact rfl; exact rfl; (exact (by repeat' constructor))) | (apply x_bin; exact rfl; exact rfl; exact rfl; (first | exact .z (.wrap (by omega)) | exact (by repeat' constructor))) | (apply x_pick; exact rfl; exact rfl; exact rfl; (exact (by repeat' constructor))) | (apply x_box; assumption; exact rfl; exact rfl; (exact (by repeat' constructor)); (exact (by repeat' constructor)); intro _ _ _) | (apply x_alloc; assumption; exact rfl; exact rfl; exact rfl; (exact (by repeat' constructor)); intro _ _ _) | (apply x_store; assumption; exact rfl; exact rfl; (exact (by repeat' constructor)); (exact (by repeat' constructor)); exact rfl; exact rfl; exact rfl; (exact (by repeat' constructor)); intro _ _) | (apply x_build; exact rfl; exact rfl; exact rfl; (exact (by repeat' constructor))) | (apply x_builtin; exact rfl; exact rfl; exact (fun _ => rfl); (exact (by repeat' constructor))) | (apply x_buildSlice; assumption; exact rfl; exact rfl; exact rfl; (exact (by repeat' constructor)); intro _ _ _) | (apply cw_true; exact rfl) | (apply cw_false; exact rfl)))
  all_goals first
    | (exfalso; simp_all; done)
    | ((first | refine q_retS (by assumption) rfl (by repeat (first | exact .nil | (apply RV.tmp; exact (by repeat' constructor)) | (apply RV.cell; exact rfl; exact (by repeat' constructor); exact rfl; exact rfl; exact (by repeat' constructor)))) ?_ | (simp only [thenQ, blockQ]; refine q_retS (by assumption) rfl (by repeat (first | exact .nil | (apply RV.tmp; exact (by repeat' constructor)) | (apply RV.cell; exact rfl; exact (by repeat' constructor); exact rfl; exact rfl; exact (by repeat' constructor)))) ?_))
       exact ⟨rfl, Sat.keeps (by assumption)⟩)
set_option maxRecDepth 8000 in
set_option maxHeartbeats 4000000 in
theorem names1_c (g : ByteArray) (hg : g.size ≤ 9223372036854775807) (h1 : nameE g = 0) (w : World) : Calls Try.prog 45 #[.agg #[.int .i64 1, .string g, .string nul, .string nul]] w (RetP (Val (.int .i64 0) w)) := by
  refine calls_of_cw (args := [.agg #[.int .i64 1, .string g, .string nul, .string nul]]) Try.func45 rfl rfl ?_
  have S := Sat.start [] w
  (repeat' (first | apply cw_seq | apply cw_region | apply wl_nil | apply cw_block | apply cw_skip | apply cw_exit | apply cw_ret | (refine cw_rounds 4 ?_) | (apply x_addK; exact rfl; exact rfl; exact rfl; exact rfl; constructor) | (apply x_indexK; exact rfl; exact rfl; exact rfl; exact rfl; exact rfl; (constructor); (constructor); (exact (by decide)); (first | omega | exact size_pos (by assumption) | assumption); (first | exact rfl | assumption | exact Rd.some_ (by assumption) (by omega) | exact Rd.some_ (Old.rd (by assumption)) (by omega) | exact (Sat.rd (by assumption) (by exact (by repeat' constructor))).some_ (by omega))) | (apply x_callv; assumption; exact rfl; exact rfl; exact rfl; exact e_Name; (exact (by repeat' constructor)); (with_reducible exact Name_0 hg h1 _); intro _ _ _) | (apply x_move; exact rfl; exact rfl; (exact (by repeat' constructor))) | (apply x_assign; exact rfl; exact rfl; (exact (by repeat' constructor))) | (apply x_fieldB; exact rfl; exact rfl; exact rfl; exact rfl; (constructor)) | (apply x_load; assumption; exact rfl; exact rfl; exact rfl; (exact (by repeat' constructor)); exact rfl; exact rfl; (exact (by repeat' constructor))) | (apply x_neStr; exact rfl; exact rfl; exact rfl; exact rfl) | (apply x_bin; exact rfl; exact rfl; exact rfl; (first | exact .z (.wrap (by omega)) | exact (by repeat' constructor))) | (apply x_pick; exact rfl; exact rfl; exact rfl; (exact (by repeat' constructor))) | (apply x_box; assumption; exact rfl; exact rfl; (exact (by repeat' constructor)); (exact (by repeat' constructor)); intro _ _ _) | (apply x_alloc; assumption; exact rfl; exact rfl; exact rfl; (exact (by repeat' constructor)); intro _ _ _) | (apply x_store; assumption; exact rfl; exact rfl; (exact (by repeat' constructor)); (exact (by repeat' constructor)); exact rfl; exact rfl; exact rfl; (exact (by repeat' constructor)); intro _ _) | (apply x_build; exact rfl; exact rfl; exact rfl; (exact (by repeat' constructor))) | (apply x_builtin; exact rfl; exact rfl; exact (fun _ => rfl); (exact (by repeat' constructor))) | (apply x_buildSlice; assumption; exact rfl; exact rfl; exact rfl; (exact (by repeat' constructor)); intro _ _ _) | (apply cw_true; exact rfl) | (apply cw_false; exact rfl) | (apply x_dec; exact rfl; all_goals (intro _; try omega))))
  all_goals first
    | (exfalso; simp_all; done)
    | ((first | refine q_retS (by assumption) rfl (by repeat (first | exact .nil | (apply RV.tmp; exact (by repeat' constructor)) | (apply RV.cell; exact rfl; exact (by repeat' constructor); exact rfl; exact rfl; exact (by repeat' constructor)))) ?_ | (simp only [thenQ, blockQ]; refine q_retS (by assumption) rfl (by repeat (first | exact .nil | (apply RV.tmp; exact (by repeat' constructor)) | (apply RV.cell; exact rfl; exact (by repeat' constructor); exact rfl; exact rfl; exact (by repeat' constructor)))) ?_))
       exact ⟨rfl, Sat.keeps (by assumption)⟩)
set_option maxRecDepth 8000 in
set_option maxHeartbeats 4000000 in
theorem names2_c (g : ByteArray) (hg : g.size ≤ 9223372036854775807) (h1 : nameE g = 0) (w : World) : Calls Try.prog 45 #[.agg #[.int .i64 2, .string g, .string nul, .string nul]] w (RetP (Val (.int .i64 0) w)) := by
  refine calls_of_cw (args := [.agg #[.int .i64 2, .string g, .string nul, .string nul]]) Try.func45 rfl rfl ?_
  have S := Sat.start [] w
  (repeat' (first | apply cw_seq | apply cw_region | apply wl_nil | apply cw_block | apply cw_skip | apply cw_exit | apply cw_ret | (refine cw_rounds 4 ?_) | (apply x_addK; exact rfl; exact rfl; exact rfl; exact rfl; constructor) | (apply x_indexK; exact rfl; exact rfl; exact rfl; exact rfl; exact rfl; (constructor); (constructor); (exact (by decide)); (first | omega | exact size_pos (by assumption) | assumption); (first | exact rfl | assumption | exact Rd.some_ (by assumption) (by omega) | exact Rd.some_ (Old.rd (by assumption)) (by omega) | exact (Sat.rd (by assumption) (by exact (by repeat' constructor))).some_ (by omega))) | (apply x_callv; assumption; exact rfl; exact rfl; exact rfl; exact e_Name; (exact (by repeat' constructor)); (with_reducible exact Name_0 hg h1 _); intro _ _ _) | (apply x_move; exact rfl; exact rfl; (exact (by repeat' constructor))) | (apply x_assign; exact rfl; exact rfl; (exact (by repeat' constructor))) | (apply x_fieldB; exact rfl; exact rfl; exact rfl; exact rfl; (constructor)) | (apply x_load; assumption; exact rfl; exact rfl; exact rfl; (exact (by repeat' constructor)); exact rfl; exact rfl; (exact (by repeat' constructor))) | (apply x_neStr; exact rfl; exact rfl; exact rfl; exact rfl) | (apply x_bin; exact rfl; exact rfl; exact rfl; (first | exact .z (.wrap (by omega)) | exact (by repeat' constructor))) | (apply x_pick; exact rfl; exact rfl; exact rfl; (exact (by repeat' constructor))) | (apply x_box; assumption; exact rfl; exact rfl; (exact (by repeat' constructor)); (exact (by repeat' constructor)); intro _ _ _) | (apply x_alloc; assumption; exact rfl; exact rfl; exact rfl; (exact (by repeat' constructor)); intro _ _ _) | (apply x_store; assumption; exact rfl; exact rfl; (exact (by repeat' constructor)); (exact (by repeat' constructor)); exact rfl; exact rfl; exact rfl; (exact (by repeat' constructor)); intro _ _) | (apply x_build; exact rfl; exact rfl; exact rfl; (exact (by repeat' constructor))) | (apply x_builtin; exact rfl; exact rfl; exact (fun _ => rfl); (exact (by repeat' constructor))) | (apply x_buildSlice; assumption; exact rfl; exact rfl; exact rfl; (exact (by repeat' constructor)); intro _ _ _) | (apply cw_true; exact rfl) | (apply cw_false; exact rfl) | (apply x_dec; exact rfl; all_goals (intro _; try omega))))
  all_goals first
    | (exfalso; simp_all; done)
    | ((first | refine q_retS (by assumption) rfl (by repeat (first | exact .nil | (apply RV.tmp; exact (by repeat' constructor)) | (apply RV.cell; exact rfl; exact (by repeat' constructor); exact rfl; exact rfl; exact (by repeat' constructor)))) ?_ | (simp only [thenQ, blockQ]; refine q_retS (by assumption) rfl (by repeat (first | exact .nil | (apply RV.tmp; exact (by repeat' constructor)) | (apply RV.cell; exact rfl; exact (by repeat' constructor); exact rfl; exact rfl; exact (by repeat' constructor)))) ?_))
       exact ⟨rfl, Sat.keeps (by assumption)⟩)
set_option maxRecDepth 8000 in
set_option maxHeartbeats 4000000 in
theorem names3_c (p : ByteArray) (hp : p.size ≤ 9223372036854775807) (h2 : nameE p = 0) (w : World) : Calls Try.prog 45 #[.agg #[.int .i64 3, .string nul, .string p, .string nul]] w (RetP (Val (.int .i64 0) w)) := by
  refine calls_of_cw (args := [.agg #[.int .i64 3, .string nul, .string p, .string nul]]) Try.func45 rfl rfl ?_
  have S := Sat.start [] w
  (repeat' (first | apply cw_seq | apply cw_region | apply wl_nil | apply cw_block | apply cw_skip | apply cw_exit | apply cw_ret | (refine cw_rounds 4 ?_) | (apply x_addK; exact rfl; exact rfl; exact rfl; exact rfl; constructor) | (apply x_indexK; exact rfl; exact rfl; exact rfl; exact rfl; exact rfl; (constructor); (constructor); (exact (by decide)); (first | omega | exact size_pos (by assumption) | assumption); (first | exact rfl | assumption | exact Rd.some_ (by assumption) (by omega) | exact Rd.some_ (Old.rd (by assumption)) (by omega) | exact (Sat.rd (by assumption) (by exact (by repeat' constructor))).some_ (by omega))) | (apply x_callv; assumption; exact rfl; exact rfl; exact rfl; exact e_Name; (exact (by repeat' constructor)); (with_reducible exact Name_0 hp h2 _); intro _ _ _) | (apply x_move; exact rfl; exact rfl; (exact (by repeat' constructor))) | (apply x_assign; exact rfl; exact rfl; (exact (by repeat' constructor))) | (apply x_fieldB; exact rfl; exact rfl; exact rfl; exact rfl; (constructor)) | (apply x_load; assumption; exact rfl; exact rfl; exact rfl; (exact (by repeat' constructor)); exact rfl; exact rfl; (exact (by repeat' constructor))) | (apply x_neStr; exact rfl; exact rfl; exact rfl; exact rfl) | (apply x_bin; exact rfl; exact rfl; exact rfl; (first | exact .z (.wrap (by omega)) | exact (by repeat' constructor))) | (apply x_pick; exact rfl; exact rfl; exact rfl; (exact (by repeat' constructor))) | (apply x_box; assumption; exact rfl; exact rfl; (exact (by repeat' constructor)); (exact (by repeat' constructor)); intro _ _ _) | (apply x_alloc; assumption; exact rfl; exact rfl; exact rfl; (exact (by repeat' constructor)); intro _ _ _) | (apply x_store; assumption; exact rfl; exact rfl; (exact (by repeat' constructor)); (exact (by repeat' constructor)); exact rfl; exact rfl; exact rfl; (exact (by repeat' constructor)); intro _ _) | (apply x_build; exact rfl; exact rfl; exact rfl; (exact (by repeat' constructor))) | (apply x_builtin; exact rfl; exact rfl; exact (fun _ => rfl); (exact (by repeat' constructor))) | (apply x_buildSlice; assumption; exact rfl; exact rfl; exact rfl; (exact (by repeat' constructor)); intro _ _ _) | (apply cw_true; exact rfl) | (apply cw_false; exact rfl) | (apply x_dec; exact rfl; all_goals (intro _; try omega))))
  all_goals first
    | (exfalso; simp_all; done)
    | ((first | refine q_retS (by assumption) rfl (by repeat (first | exact .nil | (apply RV.tmp; exact (by repeat' constructor)) | (apply RV.cell; exact rfl; exact (by repeat' constructor); exact rfl; exact rfl; exact (by repeat' constructor)))) ?_ | (simp only [thenQ, blockQ]; refine q_retS (by assumption) rfl (by repeat (first | exact .nil | (apply RV.tmp; exact (by repeat' constructor)) | (apply RV.cell; exact rfl; exact (by repeat' constructor); exact rfl; exact rfl; exact (by repeat' constructor)))) ?_))
       exact ⟨rfl, Sat.keeps (by assumption)⟩)
theorem names_c (x : Ev) (ho : x.ok) (h : NamesOk x) (w : World) : Calls Try.prog 45 #[.agg #[.int .i64 x.k, .string x.g, .string x.p, .string x.l]] w (RetP (Val (.int .i64 0) w)) := by
  obtain ⟨k, g, p, l⟩ := x
  obtain ⟨hg, hp, hl⟩ := ho
  obtain ⟨k0, k3, h1, h2, h3⟩ := h
  dsimp only at *
  have hk : k = 0 ∨ k = 1 ∨ k = 2 ∨ k = 3 := by omega
  rcases hk with rfl | rfl | rfl | rfl
  · rw [if_neg (by decide)] at h1
    rw [if_pos (by decide)] at h2
    rw [if_pos rfl] at h3
    exact names0_c g hg h1 p hp h2 l hl h3 w
  · rw [if_neg (by decide)] at h1 h2 h3
    subst h2; subst h3
    exact names1_c g hg h1 w
  · rw [if_neg (by decide)] at h1 h2 h3
    subst h2; subst h3
    exact names2_c g hg h1 w
  · rw [if_pos rfl] at h1
    rw [if_pos (by decide)] at h2
    rw [if_neg (by decide)] at h3
    subst h1; subst h3
    exact names3_c p hp h2 w
end Go.Proofs.Ytnndkdcciojpiaa.Rl
