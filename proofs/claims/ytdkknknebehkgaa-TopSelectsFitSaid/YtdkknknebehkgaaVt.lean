/- The fronts of the parts from each one on, by the program. No statement of the seat is proved here. -/
import Derived.Test.YtdkknknebehkgaaVs
import Derived.Test.YtdkknknebehkgaaEngK
namespace Go.Proofs.Ytdkknknebehkgaa.Al
set_option linter.unusedVariables false
set_option linter.unusedSimpArgs false
open Go Go.RowKit
/-- a row of pairs of the call's own -/
structure PR where
  A : Option Addr
  c : Nat
  xs : List Pr2
def pr0 : PR := ⟨none, 0, []⟩
def prV (r : PR) : List Value := [.slice r.A r.xs.length r.c]
def prH (r : PR) : HO := .rw 0 (.slice r.A r.xs.length r.c) 75 2 (r.xs.map prC)
/-- the rows of the parts that are not there yet, and those that are -/
def rowsL (n : Nat) (sf : List PR) : List PR := List.replicate n pr0 ++ sf
theorem rowsL_len (n : Nat) (sf : List PR) : (rowsL n sf).length = n + sf.length := by simp [rowsL]
theorem rowsL_get {n : Nat} {r : PR} {sf : List PR} : (rowsL n (r :: sf)).getD n pr0 = r := by
  unfold rowsL
  rw [List.getD_eq_getElem?_getD, List.getElem?_append_right (by simp)]
  simp
theorem rowsL_set {n : Nat} {sf : List PR} {r : PR} {v : Value} (hv : prV r = [v]) : ((rowsL (n + 1) sf).map prV).set n ((((rowsL (n + 1) sf).map prV).getD n []).set 0 v) = (rowsL n (r :: sf)).map prV := by
  have h1 : ((rowsL (n + 1) sf).map prV).getD n [] = [.slice none 0 0] := by
    unfold rowsL
    rw [List.getD_eq_getElem?_getD, List.getElem?_map, List.getElem?_append_left (by simp), List.getElem?_replicate_of_lt (by omega)]
    rfl
  rw [h1]
  show ((rowsL (n + 1) sf).map prV).set n [v] = _
  rw [← hv, ← List.map_set]
  congr 1
  unfold rowsL
  rw [List.replicate_succ', List.append_assoc, List.set_append_right _ _ (by simp)]
  simp
theorem clRowV {w0 w : World} {M : List Nat} {h : List HO} {b E size : Nat} {xs : List (List Value)} {F : HO → List HO} (S : Sat w0 M h w) (hr : RepF h (.cl b E xs.flatten) F) (hs : ∀ r ∈ xs, r.length = size) (hm : xs.length ≤ maxLen) : Sat w0 M (F (.rw 0 (.slice (some ⟨b, 0, none⟩) xs.length xs.length) E size xs)) w := by
  obtain ⟨h1, h2⟩ := S.ok _ (hr.rep (.cl b E xs.flatten)).mem
  have hf : xs.flatten.length = xs.length * size := by
    clear hr h1 h2 hm S
    induction xs with
    | nil => simp
    | cons a t ih => rw [List.flatten_cons, List.length_append, ih (fun r hr => hs r (List.mem_cons_of_mem _ hr)), hs a List.mem_cons_self, List.length_cons, Nat.succ_mul]; omega
  refine S.rep (hr.rep _) ⟨rfl, rfl, rfl, Nat.le_refl _, fun _ _ _ => rfl⟩ ⟨fun b' hb' => ?_, hs, hf, ?_⟩ (fun b' hb' => .inl hb')
  · have e : b = b' := by injection hb'
    rw [← e]; exact h2
  · exact .inr ⟨b, xs.length, xs.flatten.toArray, rfl, Nat.zero_le _, h1, Nat.le_refl _, hm, by simpa using hf, by rw [← hf]; exact List.take_of_length_le (Nat.le_refl _)⟩
theorem is_suc {i : Nat} (h : i ≤ 1000000) : Is (.int .i64 (IntKind.i64.wrap ((i : Int) + 1))) (.int .i64 ((i + 1 : Nat) : Int)) := by
  have : IntKind.i64.wrap ((i : Int) + 1) = ((i + 1 : Nat) : Int) := by rw [IntKind.wrap_i64]; omega
  rw [this]
  exact .z .any
theorem is_rowP {n i : Nat} {r : PR} {sf : List PR} (h : (rowsL n sf).getD i pr0 = r) : Is (.slice ((rowsL n sf).getD i pr0).A ((rowsL n sf).getD i pr0).xs.length ((rowsL n sf).getD i pr0).c) (.slice r.A r.xs.length r.c) := by
  rw [h]
  exact .z .slice
def fBox (b3 : Nat) (g N : Nat) (n : Nat) (sf : List PR) : List HO :=
  .cl b3 79 [.slice (some ⟨g, 0, none⟩) N N] :: .rw 0 (.slice (some ⟨g, 0, none⟩) N N) 41 1 ((rowsL n sf).map prV) :: sf.map prH
set_option maxRecDepth 100000 in
theorem e_fronts : Ent Try.prog 25 := fun _ _ => rfl
set_option maxRecDepth 8000 in
set_option maxHeartbeats 4000000 in
theorem fronts_c (m : Int) (B : Option Addr) (cB : Nat) (ps : List Pt) (ho : OkT m ps) (hN : prodN ps ≤ 20000)
    (w : World) (R : Rd w B 2 ps.length (fun i => ptC (ps.getD i pt0))) (R2 : ∀ i, i < ps.length → Rd w (pat ps i).A 2 (pat ps i).cs.length (fun j => chC ((pat ps i).cs.getD j ch0))) :
    Calls Try.prog 25 #[.slice B ps.length cB] w (RetP fun v w' => ∃ (g c : Nat) (sf : List PR), sf.length = ps.length + 1 ∧ (∀ k, k < ps.length + 1 → (sf.getD k pr0).xs = frF (ps.drop k)) ∧ v = .slice (some ⟨g, 0, none⟩) (ps.length + 1) (ps.length + 1) ∧ Sat w [] (.rw 0 (.slice (some ⟨g, 0, none⟩) (ps.length + 1) (ps.length + 1)) 41 1 (sf.map prV) :: sf.map prH) w') := by
  refine calls_of_cwM (args := [.slice B ps.length cB]) Try.func25 rfl rfl ?_
  have S := Sat.start [] w
  have O := R.old
  have hn := ho.n16
  (repeat' (first | apply cw_seq | apply cw_region | apply wl_nil | apply cw_block | (apply x_makeSlice1 (m := ps.length + 1); assumption; exact rfl; exact rfl; exact rfl; exact rfl; exact rfl; exact rfl; exact rfl; exact rfl; omega; intro gF _ _) | (apply x_calln; assumption; exact rfl; exact rfl; exact rfl; exact e_Backward; (exact (by repeat' constructor)); exact (Backward_c _ _ _ _); intro _ _ _) | (apply x_storeRow; assumption; exact rfl; exact rfl; (exact (by repeat' constructor)); exact rfl; exact rfl; (exact (by repeat' constructor)); (exact (by simp)); decide; intro w3 S3) | (apply x_move; exact rfl; exact rfl; (exact (by repeat' constructor))) | (apply x_assign; exact rfl; exact rfl; (exact (by repeat' constructor))) | (apply x_load; assumption; exact rfl; exact rfl; exact rfl; (exact (by repeat' constructor)); exact rfl; exact rfl; (exact (by repeat' constructor))) | (apply x_bin; exact rfl; exact rfl; exact rfl; (first | exact .z (.wrap (by omega)) | exact (by repeat' constructor))) | (apply x_alloc; assumption; exact rfl; exact rfl; exact rfl; (exact (by repeat' constructor)); intro _ _ _) | (apply x_store; assumption; exact rfl; exact rfl; (exact (by repeat' constructor)); (exact (by repeat' constructor)); exact rfl; exact rfl; exact rfl; (exact (by repeat' constructor)); intro _ _) | (apply x_build; exact rfl; exact rfl; exact rfl; (exact (by repeat' constructor))) | (apply x_builtin; exact rfl; exact rfl; exact (fun _ => rfl); (exact (by repeat' constructor))) | (apply x_buildSlice; assumption; exact rfl; exact rfl; exact rfl; (exact (by repeat' constructor)); intro _ _ _) | (apply x_index; exact rfl; exact rfl; exact rfl; exact rfl; exact rfl; (constructor); (first | omega | exact size_pos (by assumption) | assumption); (first | exact rfl | assumption | exact Rd.some_ (by assumption) (by omega) | exact Rd.some_ (Old.rd (by assumption)) (by omega) | exact (Sat.rd (by assumption) (by exact (by repeat' constructor))).some_ (by omega)))))
  rename_i _ _ b3 _ _ _ _ bF _ _ bB w4 S4
  clear S3
  have e0 : List.replicate (ps.length + 1) [Value.slice none 0 0] = (rowsL (ps.length + 1) []).map prV := by unfold rowsL; rw [List.append_nil, List.map_replicate]; rfl
  have e1 := rowsL_set (n := ps.length) (sf := []) (r := ⟨some ⟨bF, 0, none⟩, 1, [(0, 0)]⟩) (v := .slice (some ⟨bF, 0, none⟩) 1 1) rfl
  rw [e0, e1] at S4
  replace S4 := clRowV (xs := [((0 : Int), (0 : Int))].map prC) (size := 2) S4 (.tail .head) (by simp) (by decide)
  refine cw_range (hi := [.cl bB 54 [.slice B ps.length cB]]) (h := fBox b3 gF (ps.length + 1) ps.length [⟨some ⟨bF, 0, none⟩, 1, [(0, 0)]⟩]) (Sat.perm' S4 ?_) rfl e_Backward1 (fun _ => rfl) rfl (back_it rfl O (by omega))
      (fun pre h' => ∃ (n : Nat) (sf : List PR), n + pre.length = ps.length ∧ sf.length = pre.length + 1 ∧ (∀ k, k < sf.length → (sf.getD k pr0).xs = frF (ps.drop (n + k))) ∧ h' = fBox b3 gF (ps.length + 1) n sf) (fun _ _ _ => False) ⟨ps.length, _, rfl, rfl, ?_, rfl⟩ ?_ ?_ ?_
  · exact .cons _ ((List.Perm.swap _ _ _).trans (.cons _ (List.Perm.swap _ _ _)))
  · intro k hk
    have : k = 0 := by simpa using hk
    subst this
    show [((0 : Int), (0 : Int))] = _
    rw [Nat.add_zero, List.drop_length]
    rfl
  all_goals clear S4 S
  · rintro l' pre x rest fr _ W hx ⟨n, sf, hnl, hsl, hfr, rfl⟩ S1
    have hlen : pre.length < ps.length := by
      have h1 := congrArg List.length hx
      rw [bwL_len] at h1
      simp only [List.length_append, List.length_cons] at h1
      omega
    obtain ⟨i, rfl⟩ : ∃ i, n = i + 1 := ⟨n - 1, by omega⟩
    have hxi : x = ((i : Int), ps.getD i pt0) := by
      have h1 := bwL_at hlen
      rw [hx, List.getD_eq_getElem?_getD, List.getElem?_append_right (Nat.le_refl _), Nat.sub_self] at h1
      have h2 : ps.length - 1 - pre.length = i := by omega
      rw [h2] at h1
      exact h1
    subst hxi
    match sf, hsl with
    | r :: sf, hsl =>
    have hr0 : r.xs = frF (ps.drop (i + 1)) := hfr 0 (by simp)
    replace S1 : Sat w [] (_ :: _ :: prH r :: (sf.map prH ++ fr)) W := S1
    (repeat' (first | apply cw_seq | apply cw_region | apply wl_nil | (apply x_assign; exact rfl; exact rfl; (exact (by repeat' constructor))) | (apply x_alloc; assumption; exact rfl; exact rfl; exact rfl; (exact (by repeat' constructor)); intro _ _ _) | (apply x_store; assumption; exact rfl; exact rfl; (exact (by repeat' constructor)); (exact (by repeat' constructor)); exact rfl; exact rfl; exact rfl; (exact (by repeat' constructor)); intro _ _)))
    rename_i b9 _ _ w5 S5
    replace S5 : Sat w [] (.cl b9 86 [.int .i64 (ps.getD i pt0).wt, .slice (ps.getD i pt0).A (ps.getD i pt0).cs.length (ps.getD i pt0).cA] :: _ :: _ :: prH r :: (sf.map prH ++ fr)) w5 := S5
    refine ⟨_ :: _ :: _ :: _ :: sf.map prH, S5, fun W2 fr' S2 => ?_⟩
    replace S2 : Sat w [] (_ :: .cl b3 79 [.slice (some ⟨gF, 0, none⟩) (ps.length + 1) (ps.length + 1)] :: .rw 0 (.slice (some ⟨gF, 0, none⟩) (ps.length + 1) (ps.length + 1)) 41 1 ((rowsL (i + 1) (r :: sf)).map prV) :: .rw 0 (.slice r.A r.xs.length r.c) 75 2 (r.xs.map prC) :: (sf.map prH ++ fr')) W2 := S2
    clear S1 S5
    have hil : i < ps.length := by omega
    have hop := ho.pt i hil
    have hF : r.xs.length ≤ 1000000 := by have := frF_few ho hN (i + 1); rw [← hr0] at this; omega
    have hll : (prAll r.xs (ps.getD i pt0).wt (ps.getD i pt0).cs).length ≤ 1000000 := by rw [hr0]; exact pr_few ho hN hil
    have hb := frF_le ho (i + 1)
    rw [← hr0] at hb
    have hrl : ps.length + 1 = (rowsL (i + 1) (r :: sf)).length := by rw [rowsL_len, hsl]; omega
    have hgt : (rowsL (i + 1) (r :: sf)).getD (i + 1) pr0 = r := rowsL_get
    (repeat' (first | apply cw_block | (apply y_bin; exact rfl; exact (fun _ => rfl); exact is_suc (by omega)) | (apply y_loadRowM pr0; exact rfl; exact rfl; (exact (by repeat' constructor)); exact hrl; (exact (by omega)); exact rfl; exact rfl; exact is_rowP hgt) | (apply z1_callrowE (m := (mrg r.xs (ps.getD i pt0).wt (ps.getD i pt0).cs).length); exact rfl; exact rfl; exact e_merged; (exact (by repeat' constructor)); (exact (fun _ Sx => merged_c r.A r.c r.xs (ps.getD i pt0) hop hF hll hb _ (Sat.rdmapN ((0 : Int), (0 : Int)) Sx (by exact (by repeat' constructor)) rfl) ((R2 i hil).old.now Sx))); (exact (List.length_map _)); intro A5 c5) | (apply z2_storeRow; exact rfl; exact rfl; (exact (by repeat' constructor)); exact rfl; exact rfl; (exact (by repeat' constructor)); (exact (by rw [List.length_map]; omega)); decide) | (apply cw_draw (id := 6) [(0, 0), (1, 0), (2, 0), (3, 0), (4, 0), (5, 0), (6, 0), (7, 0), (8, 1), (9, 0), (10, 2)]; assumption; exact mixed; kernel_rfl) | (apply y_move; exact rfl; (exact (by repeat' constructor))) | (apply y_load; exact rfl; exact rfl; (exact (by repeat' constructor)); exact rfl; exact rfl; (exact (by repeat' constructor))) | (apply y_index; exact rfl; exact rfl; exact rfl; exact rfl; (constructor); (first | omega | exact size_pos (by assumption) | assumption); (first | exact rfl | assumption | exact Rd.some_ (by assumption) (by omega) | exact Rd.some_ (Old.rd (by assumption)) (by omega) | exact (Sat.rd (by assumption) (by exact (by repeat' constructor))).some_ (by omega))) | (apply y_nil; intro _ _)))
    rename_i w8 S8
    have e2 := rowsL_set (n := i) (sf := r :: sf) (r := ⟨A5, c5, mrg r.xs (ps.getD i pt0).wt (ps.getD i pt0).cs⟩) (v := .slice A5 (mrg r.xs (ps.getD i pt0).wt (ps.getD i pt0).cs).length c5) rfl
    rw [e2] at S8
    have S9 := Sat.drop S8 _ (List.Sublist.cons_cons _ (List.sublist_cons_self _ _))
    refine ⟨fBox b3 gF (ps.length + 1) i (⟨A5, c5, mrg r.xs (ps.getD i pt0).wt (ps.getD i pt0).cs⟩ :: r :: sf), ⟨i, _, ?_, ?_, ?_, rfl⟩, ?_⟩
    · rw [List.length_append]
      show i + (pre.length + 1) = ps.length
      omega
    · rw [List.length_append, List.length_cons, hsl]
      rfl
    · intro k hk
      cases k with
      | zero =>
        show mrg r.xs (ps.getD i pt0).wt (ps.getD i pt0).cs = frF (ps.drop (i + 0))
        rw [Nat.add_zero, frF_drop hil, hr0]
      | succ k =>
        have := hfr k (by simpa using hk)
        rw [show i + (k + 1) = i + 1 + k by omega]
        exact this
    · exact Sat.perm' S9 ((List.Perm.swap _ _ _).trans (.cons _ (List.Perm.swap _ _ _)))
  · rintro D1 _ W ⟨n, sf, hnl, hsl, hfr, rfl⟩ S1
    rw [bwL_len] at hnl hsl
    have hn0 : n = 0 := by omega
    subst hn0
    replace S1 : Sat w [] (_ :: _ :: _ :: sf.map prH) W := S1
    (repeat' (first | apply cw_seq | apply cw_region | apply wl_nil | apply cw_ret | (apply x_assign; exact rfl; exact rfl; (exact (by repeat' constructor))) | (apply x_load; assumption; exact rfl; exact rfl; exact rfl; (exact (by repeat' constructor)); exact rfl; exact rfl; (exact (by repeat' constructor)))))
    refine q_retM1 (by assumption) (by exact (by repeat' constructor)) rfl (by repeat (first | exact .nil | (apply RV.tmp; exact (by repeat' constructor)) | (apply RV.cell; exact rfl; exact (by repeat' constructor); exact rfl; exact rfl; exact (by repeat' constructor)))) ?_
    intro w' S'
    refine ⟨gF, ps.length + 1, sf, hsl, fun k hk => ?_, rfl, ?_⟩
    · have := hfr k (by omega)
      rwa [Nat.zero_add] at this
    · exact Sat.drop2 S'
  · rintro D1 _ pre _ W hf _ S1
    exact hf.elim
end Go.Proofs.Ytdkknknebehkgaa.Al
