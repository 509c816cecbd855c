/- Records of calibrations: chains, collected; the error, the value, the verdict. No statement of the seat is proved here. -/
import Derived.Test.YtnndkdcciojpiaaKf
namespace Go.Proofs.Ytnndkdcciojpiaa
set_option linter.unusedVariables false
set_option linter.unusedSimpArgs false
open Go Go.RowKit
abbrev natC (i : Nat) : List Value := [.int .i64 (i : Int)]
def rws (pre : List (Nat × Int)) : List (List Value) := pre.map fun p => natC p.1
theorem rws_snoc (pre : List (Nat × Int)) (p : Nat × Int) : rws (pre ++ [p]) = rws pre ++ [natC p.1] := by simp [rws]
theorem coll_zero : ∀ {pre : List (Nat × Int)} (_ : ∀ p ∈ pre, p.2 = 0) (out : List Nat) (q : List (Nat × Int)), coll out (pre ++ q) = coll (out ++ pre.map (·.1)) q
  | [], _, out, q => by simp
  | (i, e) :: r, h, out, q => by
    have he : e = 0 := h (i, e) (by simp)
    subst he
    rw [List.cons_append, coll, if_pos rfl, coll_zero (fun p hp => h p (by simp [hp]))]
    simp
theorem coll_all {pre : List (Nat × Int)} (h : ∀ p ∈ pre, p.2 = 0) : coll [] pre = (pre.map (·.1), 0) := by
  have := coll_zero h [] []
  rw [List.append_nil] at this
  rw [this]
  simp [coll]
theorem coll_stop {pre : List (Nat × Int)} (h : ∀ p ∈ pre, p.2 = 0) {i : Nat} {e : Int} (he : ¬ e = 0) (q : List (Nat × Int)) : coll [] (pre ++ [(i, e)] ++ q) = ([], e) := by
  rw [List.append_assoc, coll_zero h, List.singleton_append, coll, if_neg he]
theorem chy_len (l : List Rc) : ∀ (m : Nat) (out : List Nat) (name : ByteArray) (day : Int), (chy l m out name day).length ≤ m
  | 0, _, _, _ => by simp [chy]
  | m + 1, out, name, day => by
    by_cases h1 : (place l name day).2 = 0
    · by_cases h2 : (place l name day).1 ∈ out
      · rw [chy_met h1 h2]; simp
      · by_cases h3 : (rat l (place l name day).1).bn = nul
        · rw [chy_end h1 h2 h3]; simp
        · rw [chy_more h1 h2 h3]
          have := chy_len l m (out ++ [(place l name day).1]) (rat l (place l name day).1).bn (rat l (place l name day).1).fr
          simp only [List.length_cons]; omega
    · rw [chy_err h1]; simp
set_option maxRecDepth 100000 in
theorem e_chain : Ent Try.prog 57 := fun _ _ => rfl
set_option maxRecDepth 4000 in
set_option maxHeartbeats 2000000 in
theorem chain_c (A : Option Addr) (n c : Nat) (name : ByteArray) (day : Int) (w : World) : Calls Try.prog 57 #[.slice A n c, .string name, .int .i64 day] w (RetP (fun v w' => ∃ a : Nat × Nat × Nat, v = .func (.func 69) #[] #[.pointer (some ⟨a.1, 0, none⟩), .pointer (some ⟨a.2.1, 0, none⟩), .pointer (some ⟨a.2.2, 0, none⟩)] ∧ Sat w [] [.cl a.1 22 [.slice A n c], .cl a.2.1 9 [.string name], .cl a.2.2 3 [.int .i64 day]] w')) := by
  refine calls_of_cw (args := [.slice A n c, .string name, .int .i64 day]) Try.func57 rfl rfl ?_
  have S := Sat.start [] w
  (repeat' (first | apply cw_seq | apply cw_region | apply wl_nil | apply cw_ret | (apply x_assign; exact rfl; exact rfl; (exact (by repeat' constructor))) | (apply x_box; assumption; exact rfl; exact rfl; (exact (by repeat' constructor)); (exact (by repeat' constructor)); intro _ _ _) | (apply x_makeFunc; exact rfl; exact rfl; (exact (by repeat' constructor)))))
  all_goals (first | refine q_retS (by assumption) rfl (by repeat (first | exact .nil | (apply RV.tmp; exact (by repeat' constructor)) | (apply RV.cell; exact rfl; exact (by repeat' constructor); exact rfl; exact rfl; exact (by repeat' constructor)))) ?_ | (simp only [thenQ, blockQ]; refine q_retS (by assumption) rfl (by repeat (first | exact .nil | (apply RV.tmp; exact (by repeat' constructor)) | (apply RV.cell; exact rfl; exact (by repeat' constructor); exact rfl; exact rfl; exact (by repeat' constructor)))) ?_))
  exact ⟨(_, _, _), rfl, Sat.rev3 (by assumption)⟩
def cBox (b6 b7 b8 : Nat) (A' : Option Addr) (cap : Nat) (xs : List (List Value)) (e : Int) : List HO :=
  [.rw 0 (.slice A' xs.length cap) 3 1 xs, .cl b8 24 [.slice A' xs.length cap], .cl b7 29 [.int .i64 e], .cl b6 24 [.slice none 0 0]]
set_option maxRecDepth 100000 in
theorem e_collected : Ent Try.prog 37 := fun _ _ => rfl
set_option maxRecDepth 4000 in
set_option maxHeartbeats 2000000 in
theorem collected_c (A : Option Addr) (c : Nat) (l : List Rc) (hl : l.length ≤ 9223372036854775807) (ho : ∀ i, i < l.length → (rat l i).ok) (hr : Right l) (name : ByteArray) (day : Int) (w : World) (R : Rd w A 6 l.length (fun i => rcC (l.getD i rc0))) : Calls Try.prog 37 #[.slice A l.length c, .string name, .int .i64 day] w (RetP (RowR (fun v => .tuple #[v, .int .i64 (foll l name day).2]) 3 1 ((foll l name day).1.map natC) w)) := by
  have hl2 := hr.1
  have hcl := chy_len l (l.length + 1) [] name day
  refine calls_of_cwM (args := [.slice A l.length c, .string name, .int .i64 day]) Try.func37 rfl rfl ?_
  have S := Sat.start [] w
  have O := R.old
  (repeat' (first | apply cw_seq | apply cw_region | apply wl_nil | apply cw_block | (apply x_callC (bd := []) (hc := []) (fr := [_, _, _]); assumption; exact rfl; exact rfl; exact rfl; exact e_chain; (exact (by repeat' constructor)); exact List.Perm.refl _; exact (fun _ => chain_c A l.length c name day _); rintro ⟨b1, b2, b3⟩ w2 S2; replace S2 : Sat w [] [_, _, _, _, _, _] w2 := S2) | (apply x_move; exact rfl; exact rfl; (exact (by repeat' constructor))) | (apply x_alloc; assumption; exact rfl; exact rfl; exact rfl; (exact (by repeat' constructor)); intro _ _ _)))
  rename_i b6 _ _ b7 _ _ b8 w1 S1
  have S3 := (S2.addNil 3 1).perm' (List.perm_middle (l₁ := [_, _, _])).symm
  refine cw_range (h := cBox b6 b7 b8 none 0 [] 0) S3 rfl e_chain1 (fun _ => rfl) rfl (chain_it A c l hl ho hr name day O)
    (fun pre h => ∃ A' cap, h = cBox b6 b7 b8 A' cap (rws pre) 0 ∧ ∀ p ∈ pre, p.2 = 0)
    (fun c pre h => c = .ret ∧ ∃ A' cap xs e, h = cBox b6 b7 b8 A' cap xs e ∧ ∀ q, coll [] (pre ++ q) = ([], e))
    ⟨none, 0, rfl, by simp⟩ ?_ ?_ ?_
  all_goals clear S1 S2 S3
  · rintro l' pre ⟨i, e⟩ rest fr _ W hx ⟨A', cap, rfl, hz⟩ S1
    replace S1 : Sat w [] (_ :: _ :: _ :: _ :: fr) W := S1
    have hlen : (rws pre).length < 1000000000 := by
      rw [hx] at hcl
      simp only [List.length_append, List.length_cons] at hcl
      simp only [rws, List.length_map]
      omega
    (repeat' (first | apply cw_seq | apply cw_region | apply wl_nil | (apply x_assign; exact rfl; exact rfl; (exact (by repeat' constructor)))))
    refine ⟨[_, _, _, _], (by assumption), fun W2 fr' S2 => ?_⟩
    replace S2 : Sat w [] (_ :: _ :: _ :: _ :: fr') W2 := S2
    clear S1
    (repeat' (first | apply cw_seq | apply cw_region | apply wl_nil | apply cw_block | apply cw_skip | apply cw_ret | (apply x_append1; assumption; exact rfl; exact rfl; exact rfl; exact rfl; exact rfl; (exact (by repeat' constructor)); (exact (by repeat' constructor)); exact rfl; exact rfl; exact rfl; (first | assumption | omega | (simp; omega)); intro _ _ _ _) | (apply x_move; exact rfl; exact rfl; (exact (by repeat' constructor))) | (apply x_load; assumption; exact rfl; exact rfl; exact rfl; (exact (by repeat' constructor)); exact rfl; exact rfl; (exact (by repeat' constructor))) | (apply x_bin; exact rfl; exact rfl; exact rfl; (first | exact .z (.wrap (by omega)) | exact (by repeat' constructor))) | (apply x_store; assumption; exact rfl; exact rfl; (exact (by repeat' constructor)); (exact (by repeat' constructor)); exact rfl; exact rfl; exact rfl; (exact (by repeat' constructor)); intro _ _) | (apply x_buildSlice; assumption; exact rfl; exact rfl; exact rfl; (exact (by repeat' constructor)); intro _ _ _) | (apply cw_ne; exact rfl; all_goals (intro _; try omega))))
    · exact ⟨[_, _, _, _], ⟨rfl, _, _, _, _, rfl, fun q => coll_stop hz (by assumption) q⟩, by assumption⟩
    · rename_i g1 cap1 _ _ _ _
      have he : e = 0 := by omega
      subst he
      exact ⟨[_, _, _, _], ⟨some ⟨g1, 0, none⟩, cap1, by rw [rws_snoc]; unfold cBox; rw [List.length_append], fun p hp => by
        rcases List.mem_append.1 hp with hp | hp
        · exact hz p hp
        · simp at hp; subst hp; rfl⟩, Sat.drop1 (by assumption)⟩
  · rintro D1 _ W ⟨A', cap, rfl, hz⟩ S1
    replace S1 : Sat w [] (_ :: _ :: _ :: _ :: _ :: []) W := S1
    (repeat' (first | apply cw_seq | apply cw_region | apply wl_nil | apply cw_ret | (apply x_load; assumption; exact rfl; exact rfl; exact rfl; (exact (by repeat' constructor)); exact rfl; exact rfl; (exact (by repeat' constructor))) | (apply x_store; assumption; exact rfl; exact rfl; (exact (by repeat' constructor)); (exact (by repeat' constructor)); exact rfl; exact rfl; exact rfl; (exact (by repeat' constructor)); intro _ _)))
    refine q_retM1 (by assumption) (by exact (by repeat' constructor)) rfl (by repeat (first | exact .nil | (apply RV.tmp; exact (by repeat' constructor)) | (apply RV.cell; exact rfl; exact (by repeat' constructor); exact rfl; exact rfl; exact (by repeat' constructor)))) ?_
    intro w' S2
    have e : foll l name day = ((chy l (l.length + 1) [] name day).map (·.1), 0) := coll_all hz
    rw [e]
    have e2 : ((chy l (l.length + 1) [] name day).map (·.1)).map natC = rws (chy l (l.length + 1) [] name day) := by rw [List.map_map]; rfl
    refine rowR_n (V := fun v => .tuple #[v, .int .i64 0]) (by rw [e2]) S2 ?_
    show Has _ (.rw 0 _ _ _ (((chy l (l.length + 1) [] name day).map (·.1)).map natC))
    rw [e2]
    exact (by repeat' constructor)
  · rintro D1 _ pre _ W ⟨rfl, A', cap, xs, e, rfl, hj⟩ ⟨q, hq⟩ S1
    replace S1 : Sat w [] (_ :: _ :: _ :: _ :: _ :: []) W := S1
    (repeat' (first | apply cw_ret))
    refine q_retM1 (by assumption) (by exact (by repeat' constructor)) rfl (by repeat (first | exact .nil | (apply RV.tmp; exact (by repeat' constructor)) | (apply RV.cell; exact rfl; exact (by repeat' constructor); exact rfl; exact rfl; exact (by repeat' constructor)))) ?_
    intro w' S2
    rw [foll, ← hq, hj]
    exact rowR_nil (V := fun v => .tuple #[v, .int .i64 e]) rfl S2.keeps
end Go.Proofs.Ytnndkdcciojpiaa
