/- The program's first chain between two features. No statement of the seat is proved here. -/
import Derived.Test.YtagapiflfnbfiaaJe
namespace Go.Proofs.Ytagapiflfnbfiaa
set_option linter.unusedVariables false
set_option linter.unusedSimpArgs false
open Go Go.RowKit
abbrev allU : Nat → Bool := fun _ => true
abbrev netL (l : List Dm) (ax : Int) : List Lk := nlk l ax allU l.length
def findS (l : List Dm) (ax : Int) (fr to : ByteArray) : List Lk × Int :=
  if askE l ax fr to = 0 then (if (shS l (netL l ax) fr to).2 = true then ((shS l (netL l ax) fr to).1, 0) else ([], 6)) else ([], askE l ax fr to)
theorem askE_given {l : List Dm} {ax : Int} {fr to : ByteArray} (h : askE l ax fr to = 0) : givenE l = 0 := by
  unfold askE at h
  split at h
  · exact absurd h (by assumption)
  · exact Classical.not_not.1 (by assumption)
theorem joinedA_c (A : Option Addr) (cA : Nat) (l : List Dm) (hl : l.length ≤ 9223372036854775807) (ho : ∀ i, i < l.length → (dat l i).ok) (hL : l.length ≤ 256) (ax : Int) (w : World) (R : Rd w A 5 l.length (fun i => dmC (l.getD i dm0))) :
    Calls Try.prog 41 #[.slice A l.length cA, .int .i64 ax, .func (.func 42) #[] #[]] w (RetP fun v w' => ∃ q : { q : Nat × List HO // NetI l q.1 (netL l ax) q.2 }, v = .map (some q.1.1) ∧ Sat w [] q.1.2 w') :=
  joined_c A cA l hl ho hL ax allU _ [] e_all w R (fun i _ w' _ => all_c _ w')
set_option maxRecDepth 100000 in
theorem e_Find : Ent Try.prog 15 := fun _ _ => rfl
set_option maxRecDepth 4000 in
set_option maxHeartbeats 2000000 in
theorem Find_c (A : Option Addr) (cA : Nat) (l : List Dm) (hl : l.length ≤ 9223372036854775807) (ho : ∀ i, i < l.length → (dat l i).ok) (ax : Int) (fr to : ByteArray) (hfr : fr.size ≤ 9223372036854775807) (hto : to.size ≤ 9223372036854775807) (w : World) (R : Rd w A 5 l.length (fun i => dmC (l.getD i dm0))) : Calls Try.prog 15 #[.slice A l.length cA, .agg #[.int .i64 ax, .string fr, .string to]] w (RetP (RowR (fun v => .tuple #[v, .int .i64 (findS l ax fr to).2]) 59 2 ((findS l ax fr to).1.map lkC) w)) := by
  refine calls_of_cw (args := [.slice A l.length cA, .agg #[.int .i64 ax, .string fr, .string to]]) Try.func15 rfl rfl ?_
  have S := Sat.start [] w
  have O := (R).old
  (repeat' (first | apply cw_seq | apply cw_region | apply wl_nil | apply cw_skip | apply cw_ret | (apply x_callv; assumption; exact rfl; exact rfl; exact rfl; exact e_asked; (exact (by repeat' constructor)); with_reducible exact (asked_c A cA l hl ho ax fr to hfr hto _ (Old.now O (by assumption))); intro _ _ _) | (apply z1_callH; exact rfl; exact rfl; exact e_joined; (exact (by repeat' constructor)); (with_reducible exact (fun _ _ => joinedA_c A cA l hl ho (givenE_len (askE_given (by assumption))) ax _ (Old.now O (by assumption)))); rintro ⟨⟨bn, hn⟩, Nn⟩; dsimp only) | (apply z2_callrow; exact rfl; exact rfl; exact e_shortest; (exact (by repeat' constructor)); (with_reducible exact (fun _ Sx => shortest_c A cA l hl ho (netL l ax) (nlk_ok l ax allU (givenE_len (askE_given (by assumption)))) bn fr to hfr hto _ (Old.now O Sx) (Nn.rdL Sx))); intro _ _) | (apply cw_draw (id := 4) [(0, 0), (1, 0), (2, 0), (3, 0), (5, 0), (6, 0), (7, 0), (8, 0), (4, 1), (9, 2), (10, 0), (11, 0), (12, 0), (13, 0), (14, 0)]; assumption; exact mixed; kernel_rfl) | (apply x_move; exact rfl; exact rfl; (exact (by repeat' constructor))) | (apply x_assign; exact rfl; exact rfl; (exact (by repeat' constructor))) | (apply x_load; assumption; exact rfl; exact rfl; exact rfl; (exact (by repeat' constructor)); exact rfl; exact rfl; (exact (by repeat' constructor))) | (apply x_bin; exact rfl; exact rfl; exact rfl; (first | exact .z (.wrap (by omega)) | exact (by repeat' constructor))) | (apply x_un; exact rfl; exact rfl; exact rfl; (first | exact .z (.wrap (by omega)) | exact (by repeat' constructor))) | (apply x_box; assumption; exact rfl; exact rfl; (exact (by repeat' constructor)); (exact (by repeat' constructor)); intro _ _ _) | (apply y_move; exact rfl; (exact (by repeat' constructor))) | (apply y_assign; exact rfl; (exact (by repeat' constructor))) | (apply y_fieldB; exact rfl; exact rfl; exact rfl; (constructor)) | (apply y_load; exact rfl; exact rfl; (exact (by repeat' constructor)); exact rfl; exact rfl; (exact (by repeat' constructor))) | (apply y_extract; exact rfl; exact (fun _ => rfl); (exact (by repeat' constructor))) | (apply y_nil; intro _ _) | (apply cw_ne; exact rfl; all_goals (intro _; try omega)) | (apply cw_not; exact rfl; all_goals (intro _; try omega))))
  all_goals first
    | ((first | refine q_retS (by assumption) rfl (by repeat (first | exact .nil | (apply RV.tmp; exact (by repeat' constructor)) | (apply RV.cell; exact rfl; exact (by repeat' constructor); exact rfl; exact rfl; exact (by repeat' constructor)))) ?_ | (simp only [thenQ, blockQ]; refine q_retS (by assumption) rfl (by repeat (first | exact .nil | (apply RV.tmp; exact (by repeat' constructor)) | (apply RV.cell; exact rfl; exact (by repeat' constructor); exact rfl; exact rfl; exact (by repeat' constructor)))) ?_))
       have h1 : ¬ askE l ax fr to = 0 := by assumption
       rw [show findS l ax fr to = ([], askE l ax fr to) from if_neg h1]
       exact rowR_nil (V := fun v => .tuple #[v, .int .i64 (askE l ax fr to)]) rfl (Sat.keeps (by assumption)))
    | ((first | refine q_retS (by assumption) rfl (by repeat (first | exact .nil | (apply RV.tmp; exact (by repeat' constructor)) | (apply RV.cell; exact rfl; exact (by repeat' constructor); exact rfl; exact rfl; exact (by repeat' constructor)))) ?_ | (simp only [thenQ, blockQ]; refine q_retS (by assumption) rfl (by repeat (first | exact .nil | (apply RV.tmp; exact (by repeat' constructor)) | (apply RV.cell; exact rfl; exact (by repeat' constructor); exact rfl; exact rfl; exact (by repeat' constructor)))) ?_))
       have h1 : askE l ax fr to = 0 := by assumption
       have h2 : ¬ (shS l (netL l ax) fr to).2 = true := by simp_all
       rw [show findS l ax fr to = ([], 6) from (if_pos h1).trans (if_neg h2)]
       exact rowR_nil (V := fun v => .tuple #[v, .int .i64 6]) rfl (Sat.keeps (by assumption)))
    | ((first | refine q_retS (by assumption) rfl (by repeat (first | exact .nil | (apply RV.tmp; exact (by repeat' constructor)) | (apply RV.cell; exact rfl; exact (by repeat' constructor); exact rfl; exact rfl; exact (by repeat' constructor)))) ?_ | (simp only [thenQ, blockQ]; refine q_retS (by assumption) rfl (by repeat (first | exact .nil | (apply RV.tmp; exact (by repeat' constructor)) | (apply RV.cell; exact rfl; exact (by repeat' constructor); exact rfl; exact rfl; exact (by repeat' constructor)))) ?_))
       have h1 : askE l ax fr to = 0 := by assumption
       have h2 : (shS l (netL l ax) fr to).2 = true := by simp_all
       rw [show findS l ax fr to = ((shS l (netL l ax) fr to).1, 0) from (if_pos h1).trans (if_pos h2)]
       exact rowR_xs (V := fun v => .tuple #[v, .int .i64 0]) (by assumption) .head)
end Go.Proofs.Ytagapiflfnbfiaa
