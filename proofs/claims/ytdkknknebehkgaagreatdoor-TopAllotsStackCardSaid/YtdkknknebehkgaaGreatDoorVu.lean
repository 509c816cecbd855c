/- The fronts of the parts from each one on, in plain words. No statement of the seat is proved here. -/
/- The fronts of the parts from each one on, by the program. No statement of the seat is proved here. -/
/- The front of a task, what more width is worth: by the program. No statement of the seat is proved here. -/
import Derived.Test.YtdkknknebehkgaaGreatDoorVr
import Derived.Test.YtdkknknebehkgaaGreatDoorEngK
namespace Go.Proofs.YtdkknknebehkgaaGreatDoor.Al
set_option linter.unusedVariables false
set_option linter.unusedSimpArgs false
/-- the front of the parts, as the program makes it -/
def frF : List Pt → List Pr2
  | [] => [(0, 0)]
  | p :: ps => mrg (frF ps) p.wt p.cs
theorem mrg_front (F : List Pr2) (p : Pt) : IsFront (mrg F p.wt p.cs) (pairS F p.pl) :=
  front_perm (keepC_front (srtP_lex _)) fun x => (srtP_perm _).mem_iff
theorem frF_front : ∀ ps : List Pt, IsFront (frF ps) (sumsP (ps.map Pt.pl))
  | [] => front_nil
  | p :: ps => front_step (frF_front ps) (mrg_front (frF ps) p)
def prodN : List Pt → Nat
  | [] => 1
  | p :: ps => p.cs.length * prodN ps
theorem keepC_len : ∀ (xs : List Pr2) (m : Option Int), (keepC m xs).length ≤ xs.length
  | [], m => by cases m <;> exact Nat.le_refl 0
  | x :: xs, m => by
    rw [keepC_cons]
    split
    · have := keepC_len xs (some x.2); simp; omega
    · have := keepC_len xs m; simp; omega
theorem mrg_len (F : List Pr2) (wt : Int) (cs : List Ch) : (mrg F wt cs).length ≤ F.length * cs.length := by
  have h := keepC_len (srtP (prAll F wt cs)) none
  rw [srtP_len, prAll_len] at h
  exact h
theorem frF_len : ∀ ps : List Pt, (frF ps).length ≤ prodN ps
  | [] => Nat.le_refl 1
  | p :: ps => by
    have h1 := mrg_len (frF ps) p.wt p.cs
    have h2 := Nat.mul_le_mul_right p.cs.length (frF_len ps)
    rw [Nat.mul_comm (prodN ps)] at h2
    exact Nat.le_trans h1 h2
theorem sums_le : ∀ (ps : List Pt), (∀ p ∈ ps, OkP p) → ∀ x ∈ sumsP (ps.map Pt.pl), (0 ≤ x.1 ∧ x.1 ≤ 1600000 * ps.length) ∧ 0 ≤ x.2 ∧ x.2 ≤ 1048576 * ps.length
  | [], _, x, hx => by
    simp [sumsP] at hx
    subst hx
    simp
  | p :: ps, ho, x, hx => by
    obtain ⟨c, hc, s, hs, rfl⟩ := sumsP_mem.1 (show x ∈ sumsP (p.pl :: ps.map Pt.pl) from hx)
    have ih := sums_le ps (fun q hq => ho q (List.mem_cons_of_mem _ hq)) s hs
    have hop := ho p List.mem_cons_self
    obtain ⟨j, hj, rfl⟩ := List.mem_iff_getElem.1 hc
    have hcw := hop.cw j hj
    have e : p.cs.getD j ch0 = p.cs[j] := by simp [List.getD_eq_getElem?_getD, show j < p.cs.length from hj]
    rw [e] at hcw
    have hpr := prod_le hop.w1 hop.w16 hcw.1.1 hcw.1.2
    simp only [List.length_cons] at *
    show (0 ≤ p.wt * p.cs[j].w + s.1 ∧ p.wt * p.cs[j].w + s.1 ≤ _) ∧ 0 ≤ p.cs[j].c + s.2 ∧ p.cs[j].c + s.2 ≤ _
    omega
theorem frF_le {m : Int} {ps : List Pt} (ho : OkT m ps) (k : Nat) (i : Nat) (hi : i < (frF (ps.drop k)).length) : (0 ≤ ((frF (ps.drop k)).getD i (0, 0)).1 ∧ ((frF (ps.drop k)).getD i (0, 0)).1 ≤ 1000000000) ∧ 0 ≤ ((frF (ps.drop k)).getD i (0, 0)).2 ∧ ((frF (ps.drop k)).getD i (0, 0)).2 ≤ 1000000000 := by
  have hm := (frF_front (ps.drop k)).sub _ (getD_memP hi)
  have hop : ∀ p ∈ ps.drop k, OkP p := fun p hp => by
    obtain ⟨j, hj, rfl⟩ := List.mem_iff_getElem.1 (List.mem_of_mem_drop hp)
    have := ho.pt j hj
    simpa [List.getD_eq_getElem?_getD, hj] using this
  have h := sums_le _ hop _ hm
  have hl : (ps.drop k).length ≤ 16 := by have := ho.n16; rw [List.length_drop]; omega
  omega
theorem drop_cons {ps : List Pt} {k : Nat} (h : k < ps.length) : ps.drop k = ps.getD k pt0 :: ps.drop (k + 1) := by
  rw [List.drop_eq_getElem_cons h]
  simp [List.getD_eq_getElem?_getD, h]
theorem frF_drop {ps : List Pt} {k : Nat} (h : k < ps.length) : frF (ps.drop k) = mrg (frF (ps.drop (k + 1))) (ps.getD k pt0).wt (ps.getD k pt0).cs := by rw [drop_cons h]; rfl
theorem prodN_pos : ∀ {ps : List Pt}, (∀ p ∈ ps, OkP p) → 1 ≤ prodN ps
  | [], _ => Nat.le_refl 1
  | p :: ps, h => Nat.mul_le_mul (h p List.mem_cons_self).n1 (prodN_pos fun q hq => h q (List.mem_cons_of_mem _ hq))
theorem prodN_drop : ∀ {ps : List Pt} {k : Nat}, (∀ p ∈ ps, OkP p) → prodN (ps.drop k) ≤ prodN ps
  | ps, 0, _ => Nat.le_refl _
  | [], k + 1, _ => Nat.le_refl _
  | p :: ps, k + 1, h => by
    have h1 := prodN_drop (ps := ps) (k := k) fun q hq => h q (List.mem_cons_of_mem _ hq)
    have h2 : 1 * prodN ps ≤ p.cs.length * prodN ps := Nat.mul_le_mul_right _ (h p List.mem_cons_self).n1
    rw [Nat.one_mul] at h2
    exact Nat.le_trans h1 h2
theorem OkT.all {m : Int} {ps : List Pt} (ho : OkT m ps) : ∀ p ∈ ps, OkP p := fun p hp => by
  obtain ⟨j, hj, rfl⟩ := List.mem_iff_getElem.1 hp
  have := ho.pt j hj
  simpa [List.getD_eq_getElem?_getD, hj] using this
theorem frF_few {m : Int} {ps : List Pt} (ho : OkT m ps) (hN : prodN ps ≤ 20000) (k : Nat) : (frF (ps.drop k)).length ≤ 20000 :=
  Nat.le_trans (frF_len _) (Nat.le_trans (prodN_drop ho.all) hN)
theorem pr_few {m : Int} {ps : List Pt} (ho : OkT m ps) (hN : prodN ps ≤ 20000) {k : Nat} (hk : k < ps.length) : (prAll (frF (ps.drop (k + 1))) (ps.getD k pt0).wt (ps.getD k pt0).cs).length ≤ 1000000 := by
  rw [prAll_len]
  have h1 := Nat.mul_le_mul (frF_few ho hN (k + 1)) (ho.pt k hk).n16
  omega
end Go.Proofs.YtdkknknebehkgaaGreatDoor.Al

namespace Go.Proofs.YtdkknknebehkgaaGreatDoor.Al
set_option linter.unusedVariables false
set_option linter.unusedSimpArgs false
open Go Go.RowKit
/-- a row of pairs of the call's own -/
structure PR where
  A : Option Addr
  c : Nat
  xs : List Pr2
def pr0 : PR := ⟨none, 0, []⟩
def prV (r : PR) : List Value := [.slice r.A r.xs.length r.c]
def prH (r : PR) : HO := .rw 0 (.slice r.A r.xs.length r.c) 87 2 (r.xs.map prC)
/-- the rows of the parts that are not there yet, and those that are -/
def rowsL (n : Nat) (sf : List PR) : List PR := List.replicate n pr0 ++ sf
theorem rowsL_len (n : Nat) (sf : List PR) : (rowsL n sf).length = n + sf.length := by simp [rowsL]
theorem rowsL_get {n : Nat} {r : PR} {sf : List PR} : (rowsL n (r :: sf)).getD n pr0 = r := by
  unfold rowsL
  rw [List.getD_eq_getElem?_getD, List.getElem?_append_right (by simp)]
  simp
theorem rowsL_set {n : Nat} {sf : List PR} {r : PR} {v : Value} (hv : prV r = [v]) : ((rowsL (n + 1) sf).map prV).set n ((((rowsL (n + 1) sf).map prV).getD n []).set 0 v) = (rowsL n (r :: sf)).map prV := by
  have h1 : ((rowsL (n + 1) sf).map prV).getD n [] = [.slice none 0 0] := by
    unfold rowsL
    rw [List.getD_eq_getElem?_getD, List.getElem?_map, List.getElem?_append_left (by simp), List.getElem?_replicate_of_lt (by omega)]
    rfl
  rw [h1]
  show ((rowsL (n + 1) sf).map prV).set n [v] = _
  rw [← hv, ← List.map_set]
  congr 1
  unfold rowsL
  rw [List.replicate_succ', List.append_assoc, List.set_append_right _ _ (by simp)]
  simp
theorem clRowV {w0 w : World} {M : List Nat} {h : List HO} {b E size : Nat} {xs : List (List Value)} {F : HO → List HO} (S : Sat w0 M h w) (hr : RepF h (.cl b E xs.flatten) F) (hs : ∀ r ∈ xs, r.length = size) (hm : xs.length ≤ maxLen) : Sat w0 M (F (.rw 0 (.slice (some ⟨b, 0, none⟩) xs.length xs.length) E size xs)) w := by
  obtain ⟨h1, h2⟩ := S.ok _ (hr.rep (.cl b E xs.flatten)).mem
  have hf : xs.flatten.length = xs.length * size := by
    clear hr h1 h2 hm S
    induction xs with
    | nil => simp
    | cons a t ih => rw [List.flatten_cons, List.length_append, ih (fun r hr => hs r (List.mem_cons_of_mem _ hr)), hs a List.mem_cons_self, List.length_cons, Nat.succ_mul]; omega
  refine S.rep (hr.rep _) ⟨rfl, rfl, rfl, Nat.le_refl _, fun _ _ _ => rfl⟩ ⟨fun b' hb' => ?_, hs, hf, ?_⟩ (fun b' hb' => .inl hb')
  · have e : b = b' := by injection hb'
    rw [← e]; exact h2
  · exact .inr ⟨b, xs.length, xs.flatten.toArray, rfl, Nat.zero_le _, h1, Nat.le_refl _, hm, by simpa using hf, by rw [← hf]; exact List.take_of_length_le (Nat.le_refl _)⟩
theorem is_suc {i : Nat} (h : i ≤ 1000000) : Is (.int .i64 (IntKind.i64.wrap ((i : Int) + 1))) (.int .i64 ((i + 1 : Nat) : Int)) := by
  have : IntKind.i64.wrap ((i : Int) + 1) = ((i + 1 : Nat) : Int) := by rw [IntKind.wrap_i64]; omega
  rw [this]
  exact .z .any
theorem is_rowP {n i : Nat} {r : PR} {sf : List PR} (h : (rowsL n sf).getD i pr0 = r) : Is (.slice ((rowsL n sf).getD i pr0).A ((rowsL n sf).getD i pr0).xs.length ((rowsL n sf).getD i pr0).c) (.slice r.A r.xs.length r.c) := by
  rw [h]
  exact .z .slice
def fBox (b3 : Nat) (g N : Nat) (n : Nat) (sf : List PR) : List HO :=
  .cl b3 66 [.slice (some ⟨g, 0, none⟩) N N] :: .rw 0 (.slice (some ⟨g, 0, none⟩) N N) 61 1 ((rowsL n sf).map prV) :: sf.map prH
set_option maxRecDepth 100000 in
theorem e_fronts : Ent Tryz.prog 15 := fun _ _ => rfl
set_option maxRecDepth 8000 in
set_option maxHeartbeats 4000000 in
theorem fronts_c (m : Int) (B : Option Addr) (cB : Nat) (ps : List Pt) (ho : OkT m ps) (hN : prodN ps ≤ 20000)
    (w : World) (R : Rd w B 2 ps.length (fun i => ptC (ps.getD i pt0))) (R2 : ∀ i, i < ps.length → Rd w (pat ps i).A 2 (pat ps i).cs.length (fun j => chC ((pat ps i).cs.getD j ch0))) :
    Calls Tryz.prog 15 #[.slice B ps.length cB] w (RetP fun v w' => ∃ (g c : Nat) (sf : List PR), sf.length = ps.length + 1 ∧ (∀ k, k < ps.length + 1 → (sf.getD k pr0).xs = frF (ps.drop k)) ∧ v = .slice (some ⟨g, 0, none⟩) (ps.length + 1) (ps.length + 1) ∧ Sat w [] (.rw 0 (.slice (some ⟨g, 0, none⟩) (ps.length + 1) (ps.length + 1)) 61 1 (sf.map prV) :: sf.map prH) w') := by
  refine calls_of_cwM (args := [.slice B ps.length cB]) Tryz.func15 rfl rfl ?_
  have S := Sat.start [] w
  have O := R.old
  have hn := ho.n16
  (repeat' (first | apply cw_seq | apply cw_region | apply wl_nil | apply cw_block | (apply x_makeSlice1 (m := ps.length + 1); assumption; exact rfl; exact rfl; exact rfl; exact rfl; exact rfl; exact rfl; exact rfl; exact rfl; omega; intro gF _ _) | (apply x_calln; assumption; exact rfl; exact rfl; exact rfl; exact e_Backward; (exact (by repeat' constructor)); exact (Backward_c _ _ _ _); intro _ _ _) | (apply x_storeRow; assumption; exact rfl; exact rfl; (exact (by repeat' constructor)); exact rfl; exact rfl; (exact (by repeat' constructor)); (exact (by simp)); decide; intro w3 S3) | (apply x_move; exact rfl; exact rfl; (exact (by repeat' constructor))) | (apply x_assign; exact rfl; exact rfl; (exact (by repeat' constructor))) | (apply x_load; assumption; exact rfl; exact rfl; exact rfl; (exact (by repeat' constructor)); exact rfl; exact rfl; (exact (by repeat' constructor))) | (apply x_bin; exact rfl; exact rfl; exact rfl; (first | exact .z (.wrap (by omega)) | exact (by repeat' constructor))) | (apply x_alloc; assumption; exact rfl; exact rfl; exact rfl; (exact (by repeat' constructor)); intro _ _ _) | (apply x_store; assumption; exact rfl; exact rfl; (exact (by repeat' constructor)); (exact (by repeat' constructor)); exact rfl; exact rfl; exact rfl; (exact (by repeat' constructor)); intro _ _) | (apply x_build; exact rfl; exact rfl; exact rfl; (exact (by repeat' constructor))) | (apply x_builtin; exact rfl; exact rfl; exact (fun _ => rfl); (exact (by repeat' constructor))) | (apply x_buildSlice; assumption; exact rfl; exact rfl; exact rfl; (exact (by repeat' constructor)); intro _ _ _) | (apply x_index; exact rfl; exact rfl; exact rfl; exact rfl; exact rfl; (constructor); (first | omega | exact size_pos (by assumption) | assumption); (first | exact rfl | assumption | exact Rd.some_ (by assumption) (by omega) | exact Rd.some_ (Old.rd (by assumption)) (by omega) | exact (Sat.rd (by assumption) (by exact (by repeat' constructor))).some_ (by omega)))))
  rename_i _ _ b3 _ _ _ _ bF _ _ bB w4 S4
  clear S3
  have e0 : List.replicate (ps.length + 1) [Value.slice none 0 0] = (rowsL (ps.length + 1) []).map prV := by unfold rowsL; rw [List.append_nil, List.map_replicate]; rfl
  have e1 := rowsL_set (n := ps.length) (sf := []) (r := ⟨some ⟨bF, 0, none⟩, 1, [(0, 0)]⟩) (v := .slice (some ⟨bF, 0, none⟩) 1 1) rfl
  rw [e0, e1] at S4
  replace S4 := clRowV (xs := [((0 : Int), (0 : Int))].map prC) (size := 2) S4 (.tail .head) (by simp) (by decide)
  refine cw_range (hi := [.cl bB 22 [.slice B ps.length cB]]) (h := fBox b3 gF (ps.length + 1) ps.length [⟨some ⟨bF, 0, none⟩, 1, [(0, 0)]⟩]) (Sat.perm' S4 ?_) rfl e_Backward1 (fun _ => rfl) rfl (back_it rfl O (by omega))
      (fun pre h' => ∃ (n : Nat) (sf : List PR), n + pre.length = ps.length ∧ sf.length = pre.length + 1 ∧ (∀ k, k < sf.length → (sf.getD k pr0).xs = frF (ps.drop (n + k))) ∧ h' = fBox b3 gF (ps.length + 1) n sf) (fun _ _ _ => False) ⟨ps.length, _, rfl, rfl, ?_, rfl⟩ ?_ ?_ ?_
  · exact .cons _ ((List.Perm.swap _ _ _).trans (.cons _ (List.Perm.swap _ _ _)))
  · intro k hk
    have : k = 0 := by simpa using hk
    subst this
    show [((0 : Int), (0 : Int))] = _
    rw [Nat.add_zero, List.drop_length]
    rfl
  all_goals clear S4 S
  · rintro l' pre x rest fr _ W hx ⟨n, sf, hnl, hsl, hfr, rfl⟩ S1
    have hlen : pre.length < ps.length := by
      have h1 := congrArg List.length hx
      rw [bwL_len] at h1
      simp only [List.length_append, List.length_cons] at h1
      omega
    obtain ⟨i, rfl⟩ : ∃ i, n = i + 1 := ⟨n - 1, by omega⟩
    have hxi : x = ((i : Int), ps.getD i pt0) := by
      have h1 := bwL_at hlen
      rw [hx, List.getD_eq_getElem?_getD, List.getElem?_append_right (Nat.le_refl _), Nat.sub_self] at h1
      have h2 : ps.length - 1 - pre.length = i := by omega
      rw [h2] at h1
      exact h1
    subst hxi
    match sf, hsl with
    | r :: sf, hsl =>
    have hr0 : r.xs = frF (ps.drop (i + 1)) := hfr 0 (by simp)
    replace S1 : Sat w [] (_ :: _ :: prH r :: (sf.map prH ++ fr)) W := S1
    (repeat' (first | apply cw_seq | apply cw_region | apply wl_nil | (apply x_assign; exact rfl; exact rfl; (exact (by repeat' constructor))) | (apply x_alloc; assumption; exact rfl; exact rfl; exact rfl; (exact (by repeat' constructor)); intro _ _ _) | (apply x_store; assumption; exact rfl; exact rfl; (exact (by repeat' constructor)); (exact (by repeat' constructor)); exact rfl; exact rfl; exact rfl; (exact (by repeat' constructor)); intro _ _)))
    rename_i b9 _ _ w5 S5
    replace S5 : Sat w [] (.cl b9 30 [.int .i64 (ps.getD i pt0).wt, .slice (ps.getD i pt0).A (ps.getD i pt0).cs.length (ps.getD i pt0).cA] :: _ :: _ :: prH r :: (sf.map prH ++ fr)) w5 := S5
    refine ⟨_ :: _ :: _ :: _ :: sf.map prH, S5, fun W2 fr' S2 => ?_⟩
    replace S2 : Sat w [] (_ :: .cl b3 66 [.slice (some ⟨gF, 0, none⟩) (ps.length + 1) (ps.length + 1)] :: .rw 0 (.slice (some ⟨gF, 0, none⟩) (ps.length + 1) (ps.length + 1)) 61 1 ((rowsL (i + 1) (r :: sf)).map prV) :: .rw 0 (.slice r.A r.xs.length r.c) 87 2 (r.xs.map prC) :: (sf.map prH ++ fr')) W2 := S2
    clear S1 S5
    have hil : i < ps.length := by omega
    have hop := ho.pt i hil
    have hF : r.xs.length ≤ 1000000 := by have := frF_few ho hN (i + 1); rw [← hr0] at this; omega
    have hll : (prAll r.xs (ps.getD i pt0).wt (ps.getD i pt0).cs).length ≤ 1000000 := by rw [hr0]; exact pr_few ho hN hil
    have hb := frF_le ho (i + 1)
    rw [← hr0] at hb
    have hrl : ps.length + 1 = (rowsL (i + 1) (r :: sf)).length := by rw [rowsL_len, hsl]; omega
    have hgt : (rowsL (i + 1) (r :: sf)).getD (i + 1) pr0 = r := rowsL_get
    (repeat' (first | apply cw_block | (apply y_bin; exact rfl; exact (fun _ => rfl); exact is_suc (by omega)) | (apply y_loadRowM pr0; exact rfl; exact rfl; (exact (by repeat' constructor)); exact hrl; (exact (by omega)); exact rfl; exact rfl; exact is_rowP hgt) | (apply z1_callrowE (m := (mrg r.xs (ps.getD i pt0).wt (ps.getD i pt0).cs).length); exact rfl; exact rfl; exact e_merged; (exact (by repeat' constructor)); (exact (fun _ Sx => merged_c r.A r.c r.xs (ps.getD i pt0) hop hF hll hb _ (Sat.rdmapN ((0 : Int), (0 : Int)) Sx (by exact (by repeat' constructor)) rfl) ((R2 i hil).old.now Sx))); (exact (List.length_map _)); intro A5 c5) | (apply z2_storeRow; exact rfl; exact rfl; (exact (by repeat' constructor)); exact rfl; exact rfl; (exact (by repeat' constructor)); (exact (by rw [List.length_map]; omega)); decide) | (apply cw_draw (id := 6) [(0, 0), (1, 0), (2, 0), (3, 0), (4, 0), (5, 0), (6, 0), (7, 0), (8, 1), (9, 0), (10, 2)]; assumption; exact mixed; kernel_rfl) | (apply y_move; exact rfl; (exact (by repeat' constructor))) | (apply y_load; exact rfl; exact rfl; (exact (by repeat' constructor)); exact rfl; exact rfl; (exact (by repeat' constructor))) | (apply y_index; exact rfl; exact rfl; exact rfl; exact rfl; (constructor); (first | omega | exact size_pos (by assumption) | assumption); (first | exact rfl | assumption | exact Rd.some_ (by assumption) (by omega) | exact Rd.some_ (Old.rd (by assumption)) (by omega) | exact (Sat.rd (by assumption) (by exact (by repeat' constructor))).some_ (by omega))) | (apply y_nil; intro _ _)))
    rename_i w8 S8
    have e2 := rowsL_set (n := i) (sf := r :: sf) (r := ⟨A5, c5, mrg r.xs (ps.getD i pt0).wt (ps.getD i pt0).cs⟩) (v := .slice A5 (mrg r.xs (ps.getD i pt0).wt (ps.getD i pt0).cs).length c5) rfl
    rw [e2] at S8
    have S9 := Sat.drop S8 _ (List.Sublist.cons_cons _ (List.sublist_cons_self _ _))
    refine ⟨fBox b3 gF (ps.length + 1) i (⟨A5, c5, mrg r.xs (ps.getD i pt0).wt (ps.getD i pt0).cs⟩ :: r :: sf), ⟨i, _, ?_, ?_, ?_, rfl⟩, ?_⟩
    · rw [List.length_append]
      show i + (pre.length + 1) = ps.length
      omega
    · rw [List.length_append, List.length_cons, hsl]
      rfl
    · intro k hk
      cases k with
      | zero =>
        show mrg r.xs (ps.getD i pt0).wt (ps.getD i pt0).cs = frF (ps.drop (i + 0))
        rw [Nat.add_zero, frF_drop hil, hr0]
      | succ k =>
        have := hfr k (by simpa using hk)
        rw [show i + (k + 1) = i + 1 + k by omega]
        exact this
    · exact Sat.perm' S9 ((List.Perm.swap _ _ _).trans (.cons _ (List.Perm.swap _ _ _)))
  · rintro D1 _ W ⟨n, sf, hnl, hsl, hfr, rfl⟩ S1
    rw [bwL_len] at hnl hsl
    have hn0 : n = 0 := by omega
    subst hn0
    replace S1 : Sat w [] (_ :: _ :: _ :: sf.map prH) W := S1
    (repeat' (first | apply cw_seq | apply cw_region | apply wl_nil | apply cw_ret | (apply x_assign; exact rfl; exact rfl; (exact (by repeat' constructor))) | (apply x_load; assumption; exact rfl; exact rfl; exact rfl; (exact (by repeat' constructor)); exact rfl; exact rfl; (exact (by repeat' constructor)))))
    refine q_retM1 (by assumption) (by exact (by repeat' constructor)) rfl (by repeat (first | exact .nil | (apply RV.tmp; exact (by repeat' constructor)) | (apply RV.cell; exact rfl; exact (by repeat' constructor); exact rfl; exact rfl; exact (by repeat' constructor)))) ?_
    intro w' S'
    refine ⟨gF, ps.length + 1, sf, hsl, fun k hk => ?_, rfl, ?_⟩
    · have := hfr k (by omega)
      rwa [Nat.zero_add] at this
    · exact Sat.drop2 S'
  · rintro D1 _ pre _ W hf _ S1
    exact hf.elim
end Go.Proofs.YtdkknknebehkgaaGreatDoor.Al

namespace Go.Proofs.YtdkknknebehkgaaGreatDoor.Al
set_option linter.unusedVariables false
set_option linter.unusedSimpArgs false
open Go Go.RowKit
/-- what fronts gives -/
structure FQ (ps : List Pt) where
  g : Nat
  r : PR
  sf : List PR
  len : sf.length = ps.length
  hr : r.xs = frF ps
  hs : ∀ k, k < ps.length → (sf.getD k pr0).xs = frF (ps.drop (k + 1))
def fqV {ps : List Pt} (q : FQ ps) : Value := .slice (some ⟨q.g, 0, none⟩) (ps.length + 1) (ps.length + 1)
def fqH {ps : List Pt} (q : FQ ps) : List HO := .rw 0 (.slice (some ⟨q.g, 0, none⟩) (ps.length + 1) (ps.length + 1)) 61 1 ((q.r :: q.sf).map prV) :: .rw 0 (.slice q.r.A q.r.xs.length q.r.c) 87 2 (q.r.xs.map prC) :: q.sf.map prH
theorem is_rowL {l : List PR} {i : Nat} {r : PR} (h : l.getD i pr0 = r) : Is (.slice (l.getD i pr0).A (l.getD i pr0).xs.length (l.getD i pr0).c) (.slice r.A r.xs.length r.c) := by
  rw [h]
  exact .z .slice
theorem fronts_x (m : Int) (B : Option Addr) (cB : Nat) (ps : List Pt) (ho : OkT m ps) (hN : prodN ps ≤ 20000)
    (w : World) (R : Rd w B 2 ps.length (fun i => ptC (ps.getD i pt0))) (R2 : ∀ i, i < ps.length → Rd w (pat ps i).A 2 (pat ps i).cs.length (fun j => chC ((pat ps i).cs.getD j ch0))) :
    Calls Tryz.prog 15 #[.slice B ps.length cB] w (RetP fun v w' => ∃ q : FQ ps, v = fqV q ∧ Sat w [] (fqH q) w') := by
  refine (fronts_c m B cB ps ho hN w R R2).mono ?_
  rintro e w' ⟨v, rfl, g, c, sf, hl, hs, rfl, S⟩
  match sf, hl with
  | r :: sf, hl =>
  refine ⟨_, rfl, ⟨g, r, sf, by simpa using hl, hs 0 (by omega), fun k hk => hs (k + 1) (by omega)⟩, rfl, S⟩
noncomputable def frtL (m : Int) (ps : List Pt) : List Pr2 × Int := if ¬ chkE m ps = 0 then ([], chkE m ps) else if 16384 < (frF ps).length then ([], 12) else (frF ps, 0)
theorem frtL_e {m : Int} {ps : List Pt} (h : ¬ chkE m ps = 0) : frtL m ps = ([], chkE m ps) := if_pos h
theorem frtL_12 {m : Int} {ps : List Pt} (h : chkE m ps = 0) (h2 : 16384 < (frF ps).length) : frtL m ps = ([], 12) := (if_neg (not_not_intro h)).trans (if_pos h2)
theorem frtL_0 {m : Int} {ps : List Pt} (h : chkE m ps = 0) (h2 : ¬ 16384 < (frF ps).length) : frtL m ps = (frF ps, 0) := (if_neg (not_not_intro h)).trans (if_neg h2)
def wthV (m : Int) (ps : List Pt) (k : Int) : Int × Int := if ¬ chkE m ps = 0 then (0, chkE m ps) else if k < 0 ∨ 1048576 - m < k then (0, 2) else match chpS (frF ps) m with
  | none => (0, 6)
  | some a => match chpS (frF ps) (m + k) with
    | none => (a - 0, 0)
    | some b => (a - b, 0)
theorem wthV_e {m : Int} {ps : List Pt} {k : Int} (h : ¬ chkE m ps = 0) : wthV m ps k = (0, chkE m ps) := if_pos h
theorem wthV_2 {m : Int} {ps : List Pt} {k : Int} (h : chkE m ps = 0) (h2 : k < 0 ∨ 1048576 - m < k) : wthV m ps k = (0, 2) := (if_neg (not_not_intro h)).trans (if_pos h2)
theorem wthV_6 {m : Int} {ps : List Pt} {k : Int} (h : chkE m ps = 0) (h2 : ¬ (k < 0 ∨ 1048576 - m < k)) (h3 : chpS (frF ps) m = none) : wthV m ps k = (0, 6) := by
  rw [wthV, if_neg (not_not_intro h), if_neg h2, h3]
theorem wthV_n {m : Int} {ps : List Pt} {k a : Int} (h : chkE m ps = 0) (h2 : ¬ (k < 0 ∨ 1048576 - m < k)) (h3 : chpS (frF ps) m = some a) (h4 : chpS (frF ps) (m + k) = none) : wthV m ps k = (a - 0, 0) := by
  rw [wthV, if_neg (not_not_intro h), if_neg h2]
  simp only [h3, h4]
theorem wthV_s {m : Int} {ps : List Pt} {k a b : Int} (h : chkE m ps = 0) (h2 : ¬ (k < 0 ∨ 1048576 - m < k)) (h3 : chpS (frF ps) m = some a) (h4 : chpS (frF ps) (m + k) = some b) : wthV m ps k = (a - b, 0) := by
  rw [wthV, if_neg (not_not_intro h), if_neg h2]
  simp only [h3, h4]
theorem chp_le {m t a : Int} {ps : List Pt} (ho : OkT m ps) (h : chpS (frF ps) t = some a) : 0 ≤ a ∧ a ≤ 100000000 := by
  obtain ⟨⟨s, hs, _, rfl⟩, _⟩ := (chp_some (frF_front ps)).1 h
  have := sums_le ps ho.all s hs
  have := ho.n16
  omega
theorem cheapest_s (A : Option Addr) (cA : Nat) (F : List Pr2) (hF : F.length ≤ 1000000) (hA : Asc F) (m : Int) {a : Int} (h : chpS F m = some a) (w : World) (R : Rd w A 2 F.length (fun i => prC (F.getD i (0, 0)))) : Calls Tryz.prog 16 #[.slice A F.length cA, .int .i64 m] w (RetP (Val (.tuple #[.int .i64 a, .bool true]) w)) := by
  have := cheapest_c A cA F hF hA m w R
  rw [chpV, h] at this
  exact this
theorem cheapest_n (A : Option Addr) (cA : Nat) (F : List Pr2) (hF : F.length ≤ 1000000) (hA : Asc F) (m : Int) (h : chpS F m = none) (w : World) (R : Rd w A 2 F.length (fun i => prC (F.getD i (0, 0)))) : Calls Tryz.prog 16 #[.slice A F.length cA, .int .i64 m] w (RetP (Val (.tuple #[.int .i64 0, .bool false]) w)) := by
  have := cheapest_c A cA F hF hA m w R
  rw [chpV, h] at this
  exact this
end Go.Proofs.YtdkknknebehkgaaGreatDoor.Al
