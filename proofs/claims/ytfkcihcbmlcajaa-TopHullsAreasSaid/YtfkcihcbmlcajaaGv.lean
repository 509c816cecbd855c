/- The example of the law on hulls. No statement of the seat is proved here. -/
import Derived.Test.YtfkcihcbmlcajaaGu
namespace Go.Proofs.Ytfkcihcbmlcajaa.Hu
set_option linter.unusedVariables false
set_option linter.unusedSimpArgs false
open Go Go.RowKit
theorem isd_uniq {l D D' : List P} (h : IsD l D) (k : IsD l D') : D = D' := dsc_ext h.1 k.1 fun u => (h.2 u).trans (k.2 u).symm
abbrev q0 : P := ⟨0, 0⟩
abbrev q1 : P := ⟨4, 0⟩
abbrev q2 : P := ⟨0, 3⟩
abbrev l3 : List P := [q0, q1, q2]
theorem l3_n : allN l3 := by
  intro p hp
  simp only [List.mem_cons, List.not_mem_nil, or_false] at hp
  rcases hp with rfl | rfl | rfl <;> (unfold nP nr; dsimp only; omega)
theorem l3_d : IsD l3 [q1, q2, q0] := by
  constructor
  · refine List.pairwise_cons.2 ⟨fun u hu => ?_, List.pairwise_cons.2 ⟨fun u hu => ?_, List.pairwise_singleton _ _⟩⟩
    · simp only [List.mem_cons, List.not_mem_nil, or_false] at hu
      rcases hu with rfl | rfl <;> (unfold lt; dsimp only; omega)
    · simp only [List.mem_cons, List.not_mem_nil, or_false] at hu
      subst hu; unfold lt; dsimp only; omega
  · intro u
    simp only [List.mem_cons, List.not_mem_nil, or_false]
    constructor
    · rintro (h | h | h)
      · exact .inr (.inl h)
      · exact .inr (.inr h)
      · exact .inl h
    · rintro (h | h | h)
      · exact .inr (.inr h)
      · exact .inl h
      · exact .inr (.inl h)
theorem l3_v : verts [q1, q2, q0] = [q0, q1, q2] := by
  have c1 : chn [q1, q2, q0] = [q1, q0] := by
    have e : chn [q2, q0] = [q2, q0] := rfl
    show q1 :: pop q1 (chn [q2, q0]) = _
    rw [e, pop_yes (by unfold lf cr sb; decide)]
    rfl
  have c2 : chn [q0, q2, q1] = [q0, q2, q1] := by
    have e : chn [q2, q1] = [q2, q1] := rfl
    show q0 :: pop q0 (chn [q2, q1]) = _
    rw [e, pop_no (by unfold lf cr sb; decide)]
  rw [verts, if_neg (by decide), c1, show ([q1, q2, q0] : List P).reverse = [q0, q2, q1] from rfl, c2]
  rfl
theorem at3 {x : Int} (h : 0 ≤ x ∧ x < ((l3.length : Nat) : Int)) : (x = 0 ∧ at0 l3 x = q0) ∨ (x = 1 ∧ at0 l3 x = q1) ∨ (x = 2 ∧ at0 l3 x = q2) := by
  have h3 : x < 3 := h.2
  have : x = 0 ∨ x = 1 ∨ x = 2 := by omega
  rcases this with rfl | rfl | rfl
  · exact .inl ⟨rfl, rfl⟩
  · exact .inr (.inl ⟨rfl, rfl⟩)
  · exact .inr (.inr ⟨rfl, rfl⟩)
theorem vs3 {vs : List Int} (h : Rnd l3 vs) : vs = [0, 1, 2] := by
  obtain ⟨D, hD, e⟩ := h.way
  rw [isd_uniq hD l3_d, l3_v] at e
  match vs, h, e with
  | [x, y, z], h, e =>
    simp only [List.map_cons, List.map_nil, List.cons.injEq, and_true] at e
    obtain ⟨e1, e2, e3⟩ := e
    have hx := at3 (h.inl x (by simp))
    have hy := at3 (h.inl y (by simp))
    have hz := at3 (h.inl z (by simp))
    rw [e1] at hx
    rw [e2] at hy
    rw [e3] at hz
    simp only [P.mk.injEq] at hx hy hz
    have a1 : x = 0 := by omega
    have a2 : y = 1 := by omega
    have a3 : z = 2 := by omega
    rw [a1, a2, a3]
  | [], _, e => simp at e
  | [_], _, e => simp at e
  | [_, _], _, e => simp at e
  | _ :: _ :: _ :: _ :: _, _, e => simp at e
set_option maxRecDepth 100000 in
theorem e_playHull : Ent Try.prog 5 := fun _ _ => rfl
set_option maxRecDepth 8000 in
set_option maxHeartbeats 4000000 in
theorem playHull_c (w : World) : Calls Try.prog 5 #[] w (RetP (Val (.bool true) w)) := by
  refine calls_of_cw (args := []) Try.func5 rfl rfl ?_
  have S := Sat.start [] w
  (repeat' (first | apply cw_seq | apply cw_region | apply wl_nil | apply cw_block | apply cw_skip | apply cw_exit | apply cw_ret | (apply x_call; exact rfl; exact rfl; exact rfl; exact e_Hull; (exact (by repeat' constructor)); (exact Hull_c (l := l3) (by decide) (by decide) l3_n _ (Sat.rdflat (en := ptC) (l := l3) p0 ptC_len (by assumption) (by exact (by repeat' constructor)))); rintro _ w5 ⟨A2, c2, vs, rfl, Rn, S5⟩; obtain rfl := vs3 Rn; have S6 := (Rl.Sat.moreA (by assumption) S5).1; clear S5; try simp only [List.cons_append, List.nil_append] at S6) | (apply x_callv; assumption; exact rfl; exact rfl; exact rfl; exact e_EqualZ; (exact (by repeat' constructor)); exact (EqualZ_c _ _ _ _ _ _ [0, 1, 2] rfl rfl (by decide) _ (Sat.rdmapN (en := zC) (l := [0, 1, 2]) (0 : Int) (by assumption) (by exact (by repeat' constructor)) rfl) (Sat.rdflat (en := zC) (l := [0, 1, 2]) (0 : Int) zC_len (by assumption) (by exact (by repeat' constructor)))); intro _ _ _) | (apply z1_callv; exact rfl; exact rfl; exact e_EqualZ; (exact (by repeat' constructor)); exact (fun _ _ => EqualZ_c _ _ _ _ _ _ [0, 1, 2] rfl rfl (by decide) _ (Sat.rdmapN (en := zC) (l := [0, 1, 2]) (0 : Int) (by assumption) (by exact (by repeat' constructor)) rfl) (Sat.rdflat (en := zC) (l := [0, 1, 2]) (0 : Int) zC_len (by assumption) (by exact (by repeat' constructor))))) | (apply z2_callv; exact rfl; exact rfl; exact e_EqualZ; (exact (by repeat' constructor)); exact (fun _ _ => EqualZ_c _ _ _ _ _ _ [0, 1, 2] rfl rfl (by decide) _ (Sat.rdmapN (en := zC) (l := [0, 1, 2]) (0 : Int) (by assumption) (by exact (by repeat' constructor)) rfl) (Sat.rdflat (en := zC) (l := [0, 1, 2]) (0 : Int) zC_len (by assumption) (by exact (by repeat' constructor))))) | (apply x_buildSlice0; assumption; exact rfl; exact rfl; exact rfl; intro _ _ _ _ _) | (apply x_not; exact rfl; exact rfl) | (apply x_move; exact rfl; exact rfl; (exact (by repeat' constructor))) | (apply x_assign; exact rfl; exact rfl; (exact (by repeat' constructor))) | (apply x_eqStr; exact rfl; exact rfl; exact rfl; exact rfl) | (apply x_bin; exact rfl; exact rfl; exact rfl; (first | exact .z (.wrap (by omega)) | exact (by repeat' constructor))) | (apply x_pick; exact rfl; exact rfl; exact rfl; (exact (by repeat' constructor))) | (apply x_build; exact rfl; exact rfl; exact rfl; (exact (by repeat' constructor))) | (apply x_extract; exact rfl; exact rfl; exact rfl; (exact (by repeat' constructor))) | (apply x_buildSlice; assumption; exact rfl; exact rfl; exact rfl; (exact (by repeat' constructor)); intro _ _ _) | (apply x_gndec; exact rfl; exact rfl; with_reducible exact rfl; all_goals (intro _; try omega)) | (apply x_gdec; exact rfl; exact rfl; all_goals (intro _; try omega)) | (apply x_gne; exact rfl; exact rfl; all_goals (intro _; try omega)) | (apply x_geq; exact rfl; exact rfl; all_goals (intro _; try omega)) | (apply x_gnot; exact rfl; exact rfl; all_goals (intro _; try omega)) | (apply x_gsplit; exact rfl; exact rfl; all_goals (intro _; try omega))))
  all_goals first | (exfalso; omega) | skip
  (first | refine q_retS (by assumption) rfl (by repeat (first | exact .nil | (apply RV.tmp; exact (by repeat' constructor)) | (apply RV.cell; exact rfl; exact (by repeat' constructor); exact rfl; exact rfl; exact (by repeat' constructor)))) ?_ | (simp only [thenQ, blockQ]; refine q_retS (by assumption) rfl (by repeat (first | exact .nil | (apply RV.tmp; exact (by repeat' constructor)) | (apply RV.cell; exact rfl; exact (by repeat' constructor); exact rfl; exact rfl; exact (by repeat' constructor)))) ?_))
  exact ⟨rfl, Sat.keeps (by assumption)⟩
end Go.Proofs.Ytfkcihcbmlcajaa.Hu
