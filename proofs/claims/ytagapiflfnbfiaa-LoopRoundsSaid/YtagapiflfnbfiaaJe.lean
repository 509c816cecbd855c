/- Questions for chains; the program's first chain. No statement of the seat is proved here. -/
import Derived.Test.YtagapiflfnbfiaaJd
namespace Go.Proofs.Ytagapiflfnbfiaa
set_option linter.unusedVariables false
set_option linter.unusedSimpArgs false
open Go Go.RowKit
section
variable {P : Program} {ro : Option Nat} {n : Nat} {Q : Post} {D : List Deferred} {f : Fm} {w w0 w' : World} {M : List Nat} {h : List HO}
variable {ops : Array Oper} {rest : List Oper} {prest : List (Nat × Oper)} {d ty xt yt : Nat} {ps : String} {af : Array Edge} {gd : Option (Nat × Bool)} {x y : Operand} {al : List Operand}
theorem Sat.more {hs : List HO} (S : Sat w0 M h w) (S' : Sat w [] hs w') : Sat w0 M (hs ++ h) w' ∧ St h (hs ++ h) w w' := by
  have S1 : Sat w0 M ([] ++ h) w := S
  refine ⟨S1.merge (hc := []) (hc' := hs) (fr := h) S', ⟨S'.keeps.os, S'.keeps.tape, S'.keeps.output, S'.keeps.size, fun k hlt _ => S'.keeps.block k hlt (by simp), fun o ho k hok => ?_⟩⟩
  rcases List.mem_append.1 ho with ho | ho
  · rcases (S'.ok o ho).mine hok with h1 | h1
    · exact .inr h1
    · simp at h1
  · exact .inl ⟨o, ho, hok⟩
theorem z1_callH {α : Type} {g : FuncId} {cap args : List Value} {ts : Array TypeId} {hs : α → List HO} {V : α → Value} (hg : want ops f ⟨some d, .call ⟨.value x, al.toArray, ts⟩, ty, ps, af, gd⟩ = true)
    (hx : fev f x = .func (.func g) #[] cap.toArray) (hE : Ent P g) (ha : NA (evs f al ++ cap) args) (hc : ∀ w, Sat w0 M h w → Calls P g args.toArray w (RetP fun v w' => ∃ a, v = V a ∧ Sat w [] (hs a) w'))
    (k : ∀ a, PV P ro ops Q w0 M (hs a ++ h) prest D (upd f d (V a))) : PV P ro ops Q w0 M h ((1, ⟨some d, .call ⟨.value x, al.toArray, ts⟩, ty, ps, af, gd⟩) :: prest) D f :=
  z1_call (R := fun w v w' => ∃ a, v = V a ∧ Sat w [] (hs a) w') hg hx hE ha hc (by rintro w v w' S ⟨a, rfl, S'⟩; exact ⟨hs a, (S.more S').1, (S.more S').2, k a⟩)
theorem z2_callH {α : Type} {g : FuncId} {cap args : List Value} {ts : Array TypeId} {hs : α → List HO} {V : α → Value} (hg : want ops f ⟨some d, .call ⟨.value x, al.toArray, ts⟩, ty, ps, af, gd⟩ = true)
    (hx : fev f x = .func (.func g) #[] cap.toArray) (hE : Ent P g) (ha : NA (evs f al ++ cap) args) (hc : ∀ w, Sat w0 M h w → Calls P g args.toArray w (RetP fun v w' => ∃ a, v = V a ∧ Sat w [] (hs a) w'))
    (k : ∀ a, PV P ro ops Q w0 M (hs a ++ h) prest D (upd f d (V a))) : PV P ro ops Q w0 M h ((2, ⟨some d, .call ⟨.value x, al.toArray, ts⟩, ty, ps, af, gd⟩) :: prest) D f :=
  z2_call (R := fun w v w' => ∃ a, v = V a ∧ Sat w [] (hs a) w') hg hx hE ha hc (by rintro w v w' S ⟨a, rfl, S'⟩; exact ⟨_, (S.more S').1, (S.more S').2, k a⟩)
end
theorem NetI.rdL {l : List Dm} {b : Nat} {L : List Lk} {h fr : List HO} {w0 w : World} {M : List Nat} (N : NetI l b L h) (S : Sat w0 M (h ++ fr) w) : NetRd w l b L :=
  N.rd (pre := fr) (S.perm' List.perm_append_comm)
theorem nlk_mem {l : List Dm} {ax : Int} {use : Nat → Bool} {x : Lk} : ∀ k : Nat, x ∈ nlk l ax use k ↔ ∃ i : Nat, i < k ∧ x.dm = i ∧ (dat l i).ax = ax ∧ use i = true
  | 0 => by simp [nlk]
  | k + 1 => by
    rw [nlk, List.mem_append, nlk_mem k]
    unfold two
    constructor
    · rintro (⟨i, h1, h2⟩ | h)
      · exact ⟨i, by omega, h2⟩
      · split at h
        · rename_i hh
          refine ⟨k, Nat.lt_succ_self _, ?_, hh⟩
          simp at h
          rcases h with rfl | rfl <;> rfl
        · cases h
    · rintro ⟨i, h1, h2, h3⟩
      rcases Nat.lt_succ_iff_lt_or_eq.1 h1 with h1 | rfl
      · exact .inl ⟨i, h1, h2, h3⟩
      · right
        rw [if_pos h3]
        obtain ⟨dm, bk⟩ := x
        dsimp only at h2
        subst h2
        cases bk <;> simp
theorem nlk_ok (l : List Dm) (ax : Int) (use : Nat → Bool) (hL : l.length ≤ 256) : NetOk l (nlk l ax use l.length) where
  inr x hx := by
    obtain ⟨i, h1, h2, _⟩ := (nlk_mem _).1 hx
    unfold inR; omega
  sym x hx := by
    obtain ⟨i, h1, h2, h3⟩ := (nlk_mem _).1 hx
    refine ⟨⟨x.dm, !x.bk⟩, (nlk_mem _).2 ⟨i, h1, h2, h3⟩, ?_, ?_⟩
    · unfold begE stoE; cases x.bk <;> rfl
    · unfold begE stoE; cases x.bk <;> rfl
  few := Nat.le_trans (nlk_len _) (by omega)
def askE (l : List Dm) (ax : Int) (fr to : ByteArray) : Int :=
  if ¬ givenE l = 0 then givenE l else if ax < 0 ∨ 3 ≤ ax then 1 else if ¬ nameE fr = 0 then nameE fr else if ¬ nameE to = 0 then nameE to else if fr = to then 7 else 0
set_option maxRecDepth 100000 in
theorem e_all : Ent Try.prog 42 := fun _ _ => rfl
set_option maxRecDepth 4000 in
set_option maxHeartbeats 2000000 in
theorem all_c (i : Int) (w : World) : Calls Try.prog 42 #[.int .i64 i] w (RetP (Val (.bool true) w)) := by
  refine calls_of_cw (args := [.int .i64 i]) Try.func42 rfl rfl ?_
  have S := Sat.start [] w
  (repeat' (first | apply cw_seq | apply cw_region | apply wl_nil | apply cw_ret | (apply x_assign; exact rfl; exact rfl; (exact (by repeat' constructor)))))
  all_goals (first | refine q_retS (by assumption) rfl (by repeat (first | exact .nil | (apply RV.tmp; exact (by repeat' constructor)) | (apply RV.cell; exact rfl; exact (by repeat' constructor); exact rfl; exact rfl; exact (by repeat' constructor)))) ?_ | (simp only [thenQ, blockQ]; refine q_retS (by assumption) rfl (by repeat (first | exact .nil | (apply RV.tmp; exact (by repeat' constructor)) | (apply RV.cell; exact rfl; exact (by repeat' constructor); exact rfl; exact rfl; exact (by repeat' constructor)))) ?_))
  all_goals exact ⟨rfl, Sat.keeps (by assumption)⟩
set_option maxRecDepth 100000 in
theorem e_asked : Ent Try.prog 39 := fun _ _ => rfl
set_option maxRecDepth 4000 in
set_option maxHeartbeats 2000000 in
theorem asked_c (A : Option Addr) (cA : Nat) (l : List Dm) (hl : l.length ≤ 9223372036854775807) (ho : ∀ i, i < l.length → (dat l i).ok) (ax : Int) (fr to : ByteArray) (hfr : fr.size ≤ 9223372036854775807) (hto : to.size ≤ 9223372036854775807) (w : World) (R : Rd w A 5 l.length (fun i => dmC (l.getD i dm0))) : Calls Try.prog 39 #[.slice A l.length cA, .agg #[.int .i64 ax, .string fr, .string to]] w (RetP (Val (.int .i64 (askE l ax fr to)) w)) := by
  refine calls_of_cw (args := [.slice A l.length cA, .agg #[.int .i64 ax, .string fr, .string to]]) Try.func39 rfl rfl ?_
  have S := Sat.start [] w
  have O := (R).old
  (repeat' (first | apply cw_seq | apply cw_region | apply wl_nil | apply cw_block | apply cw_skip | apply cw_exit | apply cw_ret | (apply x_callv; assumption; exact rfl; exact rfl; exact rfl; exact e_given; (exact (by repeat' constructor)); with_reducible exact (given_c A cA l hl ho _ (Old.now O (by assumption))); intro _ _ _) | (refine cw_rounds 3 ?_) | (apply x_addK; exact rfl; exact rfl; exact rfl; exact rfl; constructor) | (apply x_indexK; exact rfl; exact rfl; exact rfl; exact rfl; exact rfl; (constructor); (constructor); (exact (by decide)); (first | omega | exact size_pos (by assumption) | assumption); (first | exact rfl | assumption | exact Rd.some_ (by assumption) (by omega) | exact Rd.some_ (Old.rd (by assumption)) (by omega) | exact (Sat.rd (by assumption) (by exact (by repeat' constructor))).some_ (by omega))) | (apply x_callv; assumption; exact rfl; exact rfl; exact rfl; exact e_Name; (exact (by repeat' constructor)); with_reducible exact (Name_c fr hfr _); intro _ _ _) | (apply x_callv; assumption; exact rfl; exact rfl; exact rfl; exact e_Name; (exact (by repeat' constructor)); with_reducible exact (Name_c to hto _); intro _ _ _) | (apply x_not; exact rfl; exact rfl) | (apply x_move; exact rfl; exact rfl; (exact (by repeat' constructor))) | (apply x_assign; exact rfl; exact rfl; (exact (by repeat' constructor))) | (apply x_fieldB; exact rfl; exact rfl; exact rfl; exact rfl; (constructor)) | (apply x_load; assumption; exact rfl; exact rfl; exact rfl; (exact (by repeat' constructor)); exact rfl; exact rfl; (exact (by repeat' constructor))) | (apply x_eqStr; exact rfl; exact rfl; exact rfl; exact rfl) | (apply x_bin; exact rfl; exact rfl; exact rfl; (first | exact .z (.wrap (by omega)) | exact (by repeat' constructor))) | (apply x_pick; exact rfl; exact rfl; exact rfl; (exact (by repeat' constructor))) | (apply x_box; assumption; exact rfl; exact rfl; (exact (by repeat' constructor)); (exact (by repeat' constructor)); intro _ _ _) | (apply x_builtin; exact rfl; exact rfl; exact (fun _ => rfl); (exact (by repeat' constructor))) | (apply x_buildSlice; assumption; exact rfl; exact rfl; exact rfl; (exact (by repeat' constructor)); intro _ _ _) | (apply cw_true; exact rfl) | (apply cw_false; exact rfl) | (apply x_dec; exact rfl; all_goals (intro _; try omega)) | (apply cw_ne; exact rfl; all_goals (intro _; try omega)) | (apply x_gdec; exact rfl; exact rfl; all_goals (intro _; try omega))))
  all_goals (first | refine q_retS (by assumption) rfl (by repeat (first | exact .nil | (apply RV.tmp; exact (by repeat' constructor)) | (apply RV.cell; exact rfl; exact (by repeat' constructor); exact rfl; exact rfl; exact (by repeat' constructor)))) ?_ | (simp only [thenQ, blockQ]; refine q_retS (by assumption) rfl (by repeat (first | exact .nil | (apply RV.tmp; exact (by repeat' constructor)) | (apply RV.cell; exact rfl; exact (by repeat' constructor); exact rfl; exact rfl; exact (by repeat' constructor)))) ?_))
  all_goals refine ⟨?_, Sat.keeps (by assumption)⟩
  all_goals unfold askE
  all_goals first
    | (rw [if_pos (by assumption)]; rfl)
    | (rw [if_neg (not_not_intro (by assumption)), if_pos (by omega)]; rfl)
    | (rw [if_neg (not_not_intro (by assumption)), if_neg (by omega), if_pos (by assumption)]; rfl)
    | (rw [if_neg (not_not_intro (by assumption)), if_neg (by omega), if_neg (not_not_intro (by assumption)), if_pos (by assumption)]; rfl)
    | (rw [if_neg (not_not_intro (by assumption)), if_neg (by omega), if_neg (not_not_intro (by assumption)), if_neg (not_not_intro (by assumption)), if_pos (by assumption)]; rfl)
    | (rw [if_neg (not_not_intro (by assumption)), if_neg (by omega), if_neg (not_not_intro (by assumption)), if_neg (not_not_intro (by assumption)), if_neg (by assumption)]; rfl)
end Go.Proofs.Ytagapiflfnbfiaa
