/- The pairs of a front and the choices of a part: the iterator. No statement of the seat is proved here. -/
import Derived.Test.YtdkknknebehkgaaGreatDoorVn
import Derived.Test.YtdkknknebehkgaaGreatDoorEngR
namespace Go.Proofs.YtdkknknebehkgaaGreatDoor.Al
set_option linter.unusedVariables false
set_option linter.unusedSimpArgs false
open Go Go.RowKit
theorem take_spl {α : Type} {l : List α} {d : α} {k : Nat} (h : k < l.length) : l = l.take k ++ l.getD k d :: l.drop (k + 1) := by
  simp [List.getD_eq_getElem?_getD, h]
theorem take_suc {α : Type} {l : List α} {d : α} {k : Nat} (h : k < l.length) : l.take (k + 1) = l.take k ++ [l.getD k d] := by
  simp [List.getD_eq_getElem?_getD, h]
abbrev prF (x : Pr2) (wt : Int) (c : Ch) : Pr2 := (x.1 + wt * c.w, x.2 + c.c)
/-- the pairs of the first i of a front, and of the next one with the first j choices -/
def prTo (F : List Pr2) (wt : Int) (cs : List Ch) (i j : Nat) : List Pr2 := (F.take i).flatMap (fun x => cs.map (prF x wt)) ++ (cs.take j).map (prF (F.getD i (0, 0)) wt)
def prAll (F : List Pr2) (wt : Int) (cs : List Ch) : List Pr2 := F.flatMap (fun x => cs.map (prF x wt))
theorem prTo_row {F : List Pr2} {wt : Int} {cs : List Ch} {i : Nat} (hi : i < F.length) : prTo F wt cs i cs.length = prTo F wt cs (i + 1) 0 := by
  simp only [prTo, take_suc (d := ((0 : Int), (0 : Int))) hi, List.flatMap_append, List.take_length, List.take_zero, List.map_nil, List.append_nil, List.flatMap_cons, List.flatMap_nil]
theorem prTo_end {F : List Pr2} {wt : Int} {cs : List Ch} : prTo F wt cs F.length 0 = prAll F wt cs := by
  simp [prTo, prAll]
theorem prTo_suc {F : List Pr2} {wt : Int} {cs : List Ch} {i j : Nat} (hj : j < cs.length) : prTo F wt cs i (j + 1) = prTo F wt cs i j ++ [prF (F.getD i (0, 0)) wt (cs.getD j ch0)] := by
  simp only [prTo, take_suc (d := ch0) hj, List.map_append, List.append_assoc, List.map_cons, List.map_nil]
theorem prTo_pre {F : List Pr2} {wt : Int} {cs : List Ch} {i j : Nat} (hi : i < F.length) : ∃ rest, prAll F wt cs = prTo F wt cs i j ++ rest := by
  refine ⟨(cs.drop j).map (prF (F.getD i (0, 0)) wt) ++ (F.drop (i + 1)).flatMap (fun x => cs.map (prF x wt)), ?_⟩
  rw [prTo, List.append_assoc, ← List.append_assoc ((cs.take j).map _), ← List.map_append, List.take_append_drop]
  conv => lhs; rw [prAll, take_spl (d := ((0 : Int), (0 : Int))) hi]
  rw [List.flatMap_append, List.flatMap_cons]
theorem prTo_split {F : List Pr2} {wt : Int} {cs : List Ch} {i j : Nat} (hi : i < F.length) (hj : j < cs.length) : ∃ rest, prAll F wt cs = prTo F wt cs i j ++ prF (F.getD i (0, 0)) wt (cs.getD j ch0) :: rest := by
  obtain ⟨rest, h⟩ := prTo_pre (wt := wt) (cs := cs) (j := j + 1) hi
  exact ⟨rest, by rw [h, prTo_suc hj, List.append_assoc]; rfl⟩
abbrev pairE (x : Pr2) : List Value := [.agg #[.int .i64 x.1, .int .i64 x.2]]
set_option maxRecDepth 100000 in
theorem e_pairs1 : Ent Tryz.prog 61 := fun _ _ => rfl
set_option maxRecDepth 8000 in
set_option maxHeartbeats 4000000 in
theorem pairs_it {w0 : World} {M : List Nat} {b1 b2 cA : Nat} {A : Option Addr} {F : List Pr2} {p : Pt} (ho : OkP p) (hF : F.length ≤ 1000000) (hb : ∀ i, i < F.length → (0 ≤ (F.getD i (0, 0)).1 ∧ (F.getD i (0, 0)).1 ≤ 1000000000) ∧ 0 ≤ (F.getD i (0, 0)).2 ∧ (F.getD i (0, 0)).2 ≤ 1000000000)
    (O : Old w0 M A 2 F.length (fun i => prC (F.getD i (0, 0)))) (O2 : Old w0 M p.A 2 p.cs.length (fun j => chC (p.cs.getD j ch0))) :
    Iter Tryz.prog 61 [.pointer (some ⟨b1, 0, none⟩), .pointer (some ⟨b2, 0, none⟩)] pairE (prAll F p.wt p.cs) w0 M [.cl b1 61 [.slice A F.length cA], .cl b2 30 [.int .i64 p.wt, .slice p.A p.cs.length p.cA]] := by
  intro l' J Jx hY h W h0 S
  refine calls_of_cw (args := [.func (.yield l') #[] #[], .pointer (some ⟨b1, 0, none⟩), .pointer (some ⟨b2, 0, none⟩)]) Tryz.func61 rfl rfl ?_
  replace S : Sat w0 M (_ :: _ :: h) W := S
  have hcn := ho.n16
  (repeat' (first | apply cw_seq | apply cw_region | apply wl_nil | apply cw_block | (apply x_move; exact rfl; exact rfl; (exact (by repeat' constructor))) | (apply x_load; assumption; exact rfl; exact rfl; exact rfl; (exact (by repeat' constructor)); exact rfl; exact rfl; (exact (by repeat' constructor))) | (apply x_builtin; exact rfl; exact rfl; exact (fun _ => rfl); (exact (by repeat' constructor)))))
  refine cw_loop [5, 7, 10, 11, 12, 13, 14, 15, 16, 17, 18, 19, 20, 21, 22, 23, 24, 25, 26, 27, 28, 29, 30, 31, 32, 33, 34, 35, 36, 37, 38, 39] [10] (fun us wr => ∃ i : Nat, i ≤ F.length ∧ us = [.int .i64 i] ∧ ∃ hh, Sat w0 M (.cl b1 61 [.slice A F.length cA] :: .cl b2 30 [.int .i64 p.wt, .slice p.A p.cs.length p.cA] :: hh) wr ∧ J (prTo F p.wt p.cs i 0) hh) (fun us _ => F.length - (intOf (us.getD 0 undef)).toNat) ?_ ?_
  · exact ⟨0, by omega, rfl, h, S, h0⟩
  rintro g us wr ⟨i, hi, rfl, hh, Sr, hJ⟩
  clear S h0
  by_cases hlt : i < F.length
  · have hbi := hb i hlt
    (repeat' (first | apply cw_seq | apply cw_region | apply wl_nil | apply cw_block | apply cw_skip | (apply x_move; exact rfl; exact rfl; (exact (by repeat' constructor))) | (apply x_fieldB; exact rfl; exact rfl; exact rfl; exact rfl; (constructor)) | (apply x_load; assumption; exact rfl; exact rfl; exact rfl; (exact (by repeat' constructor)); exact rfl; exact rfl; (exact (by repeat' constructor))) | (apply x_bin; exact rfl; exact rfl; exact rfl; (first | exact .z (.wrap (by omega)) | exact (by repeat' constructor))) | (apply x_alloc; assumption; exact rfl; exact rfl; exact rfl; (exact (by repeat' constructor)); intro _ _ _) | (apply x_store; assumption; exact rfl; exact rfl; (exact (by repeat' constructor)); (exact (by repeat' constructor)); exact rfl; exact rfl; exact rfl; (exact (by repeat' constructor)); intro _ _) | (apply x_builtin; exact rfl; exact rfl; exact (fun _ => rfl); (exact (by repeat' constructor))) | (apply x_index; exact rfl; exact rfl; exact rfl; exact rfl; exact rfl; (constructor); (first | omega | exact size_pos (by assumption) | assumption); (first | exact rfl | assumption | exact Rd.some_ (by assumption) (by omega) | exact Rd.some_ (Old.rd (by assumption)) (by omega) | exact (Sat.rd (by assumption) (by exact (by repeat' constructor))).some_ (by omega))) | (apply x_loadR; exact rfl; exact rfl; exact rfl; (first | exact Old.now (by assumption) (by assumption) | exact Sat.rdpr (by assumption) (by exact (by repeat' constructor)) | exact Sat.rd (by assumption) (by exact (by repeat' constructor))); (first | omega | exact size_pos (by assumption) | assumption); exact rfl; exact rfl; (exact (by repeat' constructor))) | (apply x_dec; exact rfl; all_goals (intro _; try omega))))
    rename_i b5 _ _ w5 S5
    refine cw_loop [7, 17, 18, 19, 20, 21, 22, 23, 24, 25, 26, 27, 28, 29, 30, 31, 32, 33, 34, 35, 36, 37, 38] [17] (fun us wr => ∃ j : Nat, j ≤ p.cs.length ∧ us = [.int .i64 j] ∧ ∃ hh, Sat w0 M (.cl b5 87 (prC (F.getD i (0, 0))) :: .cl b1 61 [.slice A F.length cA] :: .cl b2 30 [.int .i64 p.wt, .slice p.A p.cs.length p.cA] :: hh) wr ∧ J (prTo F p.wt p.cs i j) hh) (fun us _ => p.cs.length - (intOf (us.getD 0 undef)).toNat) ?_ ?_
    · exact ⟨0, by omega, rfl, hh, S5, hJ⟩
    clear Sr S5 hJ
    rintro g2 us2 wr2 ⟨j, hj, rfl, hh, Sr, hJ⟩
    by_cases hlj : j < p.cs.length
    · obtain ⟨rest, hsp⟩ := prTo_split (wt := p.wt) hlt hlj
      have hcj := ho.cw j hlj
      have hpr := prod_le ho.w1 ho.w16 hcj.1.1 hcj.1.2
      have hYn : ∀ fr h W, J (prTo F p.wt p.cs i j) h → Sat w0 M (fr ++ h) W → YieldR Tryz.prog l' [.agg #[.int .i64 ((F.getD i (0, 0)).1 + p.wt * (p.cs.getD j ch0).w), .int .i64 ((F.getD i (0, 0)).2 + (p.cs.getD j ch0).c)]] W (fun b W' => ∃ h', Sat w0 M (fr ++ h') W' ∧ ((b = true ∧ J (prTo F p.wt p.cs i (j + 1)) h') ∨ (b = false ∧ Jx (prTo F p.wt p.cs i (j + 1)) h'))) := by
        intro fr h W hj2 hs
        have := hY _ _ _ fr h W hsp hj2 hs
        rw [prTo_suc hlj]
        exact this
      (repeat' (first | apply cw_seq | apply cw_region | apply wl_nil | apply cw_block | apply cw_skip | apply cw_ret | (apply x_yield; exact rfl; exact rfl; exact rfl; (exact (by repeat' constructor)); exact hYn [_, _, _, _] _ _ hJ (by assumption); rintro _ w2 ⟨h2, S2, ⟨rfl, hJ2⟩ | ⟨rfl, hJ2⟩⟩ <;> replace S2 : Sat w0 M (_ :: _ :: _ :: _ :: h2) w2 := S2) | (apply x_move; exact rfl; exact rfl; (exact (by repeat' constructor))) | (apply x_fieldB; exact rfl; exact rfl; exact rfl; exact rfl; (constructor)) | (apply x_load; assumption; exact rfl; exact rfl; exact rfl; (exact (by repeat' constructor)); exact rfl; exact rfl; (exact (by repeat' constructor))) | (apply x_bin; exact rfl; exact rfl; exact rfl; (first | exact .z (.wrap (by omega)) | exact (by repeat' constructor))) | (apply x_un; exact rfl; exact rfl; exact rfl; (first | exact .z (.wrap (by omega)) | exact (by repeat' constructor))) | (apply x_alloc; assumption; exact rfl; exact rfl; exact rfl; (exact (by repeat' constructor)); intro _ _ _) | (apply x_store; assumption; exact rfl; exact rfl; (exact (by repeat' constructor)); (exact (by repeat' constructor)); exact rfl; exact rfl; exact rfl; (exact (by repeat' constructor)); intro _ _) | (apply x_build; exact rfl; exact rfl; exact rfl; (exact (by repeat' constructor))) | (apply x_index; exact rfl; exact rfl; exact rfl; exact rfl; exact rfl; (constructor); (first | omega | exact size_pos (by assumption) | assumption); (first | exact rfl | assumption | exact Rd.some_ (by assumption) (by omega) | exact Rd.some_ (Old.rd (by assumption)) (by omega) | exact (Sat.rd (by assumption) (by exact (by repeat' constructor))).some_ (by omega))) | (apply x_indexArrB; exact rfl; exact rfl; exact rfl; exact rfl; exact rfl; decide; decide; (constructor)) | (apply x_loadR; exact rfl; exact rfl; exact rfl; (first | exact Old.now (by assumption) (by assumption) | exact Sat.rdpr (by assumption) (by exact (by repeat' constructor)) | exact Sat.rd (by assumption) (by exact (by repeat' constructor))); (first | omega | exact size_pos (by assumption) | assumption); exact rfl; exact rfl; (exact (by repeat' constructor))) | (apply cw_true; exact rfl) | (apply cw_false; exact rfl) | (apply x_dec; exact rfl; all_goals (intro _; try omega))))
      all_goals first
        | (refine ⟨rfl, (by repeat (first | exact Agree.updl rfl (Agree.mask _ _ _) | refine Agree.upd rfl ?_)), ⟨j + 1, hlj, rfl, h2, S2.drop1, hJ2⟩, ?_⟩
           show p.cs.length - (j + 1 : Int).toNat < p.cs.length - (j : Int).toNat
           omega)
        | (first | (apply q_ret0; exact rfl) | (apply q_end0; exact rfl)
           obtain ⟨r2, hr2⟩ := prTo_pre (wt := p.wt) (cs := p.cs) (j := j + 1) hlt
           exact ⟨_, S2.drop1.drop1.drop1.drop1, .inr ⟨_, ⟨r2, hr2.symm⟩, hJ2⟩⟩)
    · have ej : j = p.cs.length := by omega
      subst ej
      rw [prTo_row hlt] at hJ
      (repeat' (first | apply cw_seq | apply cw_region | apply wl_nil | apply cw_exit | (apply x_move; exact rfl; exact rfl; (exact (by repeat' constructor))) | (apply x_bin; exact rfl; exact rfl; exact rfl; (first | exact .z (.wrap (by omega)) | exact (by repeat' constructor))) | (apply x_dec; exact rfl; all_goals (intro _; try omega))))
      refine ⟨rfl, (by repeat (first | exact Agree.updl rfl (Agree.mask _ _ _) | refine Agree.upd rfl ?_ | refine Agree.updl rfl ?_ | refine Agree.maskIn rfl ?_)), ⟨i + 1, hlt, rfl, hh, Sr.drop1, hJ⟩, ?_⟩
      show F.length - (i + 1 : Int).toNat < F.length - (i : Int).toNat
      omega
  · (repeat' (first | apply cw_seq | apply cw_region | apply wl_nil | apply cw_exit | (apply x_bin; exact rfl; exact rfl; exact rfl; (first | exact .z (.wrap (by omega)) | exact (by repeat' constructor))) | (apply x_dec; exact rfl; all_goals (intro _; try omega))))
    first | (apply q_ret0; exact rfl) | (apply q_end0; exact rfl)
    have ei : i = F.length := by omega
    subst ei
    rw [prTo_end] at hJ
    exact ⟨_, Sr.drop1.drop1, .inl hJ⟩
end Go.Proofs.YtdkknknebehkgaaGreatDoor.Al
