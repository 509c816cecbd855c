/- Loops of dimensions: chains, checked by the program. No statement of the seat is proved here. -/
import Derived.Test.YtdkknknebehkgaaGreatDoorLb
namespace Go.Proofs.YtdkknknebehkgaaGreatDoor
set_option linter.unusedVariables false
set_option linter.unusedSimpArgs false
open Go Go.RowKit
open Go.Maps (Keyed)
theorem kI : Keyed Tryz.prog 3 := Maps.int_keyed (q := .i64) (by kernel_rfl)
theorem kS : Keyed Tryz.prog 9 := Maps.string_keyed (by kernel_rfl)
theorem keyI {z : Int} (h : 0 ≤ z ∧ z < 1000000) : keyOf Tryz.prog 3 (.int .i64 z) = some (.int .i64 z) :=
  Maps.keyOf_int_mk (by kernel_rfl) (by simp [Lit.wf, IntKind.min, IntKind.max, IntKind.signed, IntKind.bits]; omega)
theorem keyS {s : ByteArray} (h : s.size ≤ 9223372036854775807) : keyOf Tryz.prog 9 (.string s) = some (.string s.data.toList) :=
  WideMaps.keyOf_string_mk (by kernel_rfl) h
theorem data_inj {a b : ByteArray} (h : a.data.toList = b.data.toList) : a = b := by
  cases a with | mk a => cases b with | mk b => simp at h; subst h; rfl
theorem stp_2 {l : List Dm} {c : List Lk} {i : Nat} (h : ¬ inR l (lat c i)) : stp l c i = 2 := by rw [stp, if_pos h]
theorem stp_8 {l : List Dm} {c : List Lk} {i : Nat} (h : inR l (lat c i)) (h2 : 0 < i ∧ (¬ (dOf l (lat c i)).ax = (dOf l (lat c 0)).ax ∨ ¬ begE l (lat c i) = stoE l (lat c (i - 1)))) : stp l c i = 8 := by rw [stp, if_neg (fun e => e h), if_pos h2]
theorem stp_7 {l : List Dm} {c : List Lk} {i : Nat} (h : inR l (lat c i)) (h2 : ¬ (0 < i ∧ (¬ (dOf l (lat c i)).ax = (dOf l (lat c 0)).ax ∨ ¬ begE l (lat c i) = stoE l (lat c (i - 1)))))
    (h3 : (∃ j, j < i ∧ ((lat c j).dm = (lat c i).dm ∨ 0 < j ∧ begE l (lat c j) = stoE l (lat c i))) ∨ (0 < i ∧ begE l (lat c 0) = stoE l (lat c (i - 1)))) : stp l c i = 7 := by rw [stp, if_neg (fun e => e h), if_neg h2, if_pos h3]
theorem stp_0 {l : List Dm} {c : List Lk} {i : Nat} (h : inR l (lat c i)) (h2 : ¬ (0 < i ∧ (¬ (dOf l (lat c i)).ax = (dOf l (lat c 0)).ax ∨ ¬ begE l (lat c i) = stoE l (lat c (i - 1)))))
    (h3 : ¬ ((∃ j, j < i ∧ ((lat c j).dm = (lat c i).dm ∨ 0 < j ∧ begE l (lat c j) = stoE l (lat c i))) ∨ (0 < i ∧ begE l (lat c 0) = stoE l (lat c (i - 1))))) : stp l c i = 0 := by rw [stp, if_neg (fun e => e h), if_neg h2, if_neg h3]
structure ChM (l : List Dm) (c : List Lk) (i : Nat) (m1 m2 : Lit → Bool) : Prop where
  used : ∀ z : Int, m1 (.int .i64 z) = true ↔ ∃ j, j < i ∧ (lat c j).dm = z
  begun : ∀ s : ByteArray, m2 (.string s.data.toList) = true ↔ ∃ j, 0 < j ∧ j < i ∧ begE l (lat c j) = s
  rng : ∀ j, j < i → inR l (lat c j)
theorem ChM.zero (l : List Dm) (c : List Lk) : ChM l c 0 (fun _ => false) (fun _ => false) := ⟨fun z => by simp, fun s => by simp, fun j hj => by omega⟩
theorem used_put {l : List Dm} {c : List Lk} {i : Nat} {m1 m2 : Lit → Bool} (h : ChM l c i m1 m2) (z : Int) : putB m1 (.int .i64 (lat c i).dm) true (.int .i64 z) = true ↔ ∃ j, j < i + 1 ∧ (lat c j).dm = z := by
  by_cases hz : z = (lat c i).dm
  · subst hz
    rw [putB_same]
    exact ⟨fun _ => ⟨i, by omega, rfl⟩, fun _ => rfl⟩
  · rw [putB_other (by intro e; injection e with _ e; exact hz e), h.used]
    constructor
    · rintro ⟨j, h1, h2⟩; exact ⟨j, by omega, h2⟩
    · rintro ⟨j, h1, h2⟩
      rcases Nat.lt_succ_iff_lt_or_eq.1 h1 with h1 | rfl
      · exact ⟨j, h1, h2⟩
      · exact absurd h2.symm hz
theorem ChM.one {l : List Dm} {c : List Lk} {m1 m2 : Lit → Bool} (h : ChM l c 0 m1 m2) (hx : inR l (lat c 0)) : ChM l c 1 (putB m1 (.int .i64 (lat c 0).dm) true) m2 :=
  by
  refine ⟨used_put h, fun s => ?_, fun j hj => ?_⟩
  · rw [h.begun]
    constructor
    · rintro ⟨j, h1, h2, _⟩; omega
    · rintro ⟨j, h1, h2, _⟩; omega
  · have : j = 0 := by omega
    subst this
    exact hx
theorem ChM.more {l : List Dm} {c : List Lk} {i : Nat} {m1 m2 : Lit → Bool} (h : ChM l c i m1 m2) (hi : 0 < i) (hx : inR l (lat c i)) :
    ChM l c (i + 1) (putB m1 (.int .i64 (lat c i).dm) true) (putB m2 (.string (begE l (lat c i)).data.toList) true) := by
  refine ⟨used_put h, fun s => ?_, fun j hj => ?_⟩
  · by_cases hs : s = begE l (lat c i)
    · subst hs
      rw [putB_same]
      exact ⟨fun _ => ⟨i, hi, by omega, rfl⟩, fun _ => rfl⟩
    · rw [putB_other (by intro e; injection e with e; exact hs (data_inj e)), h.begun]
      constructor
      · rintro ⟨j, h1, h2, h3⟩; exact ⟨j, h1, by omega, h3⟩
      · rintro ⟨j, h1, h2, h3⟩
        rcases Nat.lt_succ_iff_lt_or_eq.1 h2 with h2 | rfl
        · exact ⟨j, h1, h2, h3⟩
        · exact absurd h3.symm hs
  · rcases Nat.lt_succ_iff_lt_or_eq.1 hj with hj | rfl
    · exact h.rng j hj
    · exact hx
/-! what the i-th link meets, in the words of the maps -/
theorem ChM.meets {l : List Dm} {c : List Lk} {i : Nat} {m1 m2 : Lit → Bool} (h : ChM l c i m1 m2) (hi : 0 < i) : ((∃ j, j < i ∧ ((lat c j).dm = (lat c i).dm ∨ 0 < j ∧ begE l (lat c j) = stoE l (lat c i))) ∨ (0 < i ∧ begE l (lat c 0) = stoE l (lat c (i - 1)))) ↔
    m1 (.int .i64 (lat c i).dm) = true ∨ stoE l (lat c (i - 1)) = begE l (lat c 0) ∨ m2 (.string (stoE l (lat c i)).data.toList) = true := by
  rw [h.used, h.begun]
  constructor
  · rintro (⟨j, h1, h2 | ⟨h2, h3⟩⟩ | ⟨_, h2⟩)
    · exact .inl ⟨j, h1, h2⟩
    · exact .inr (.inr ⟨j, h2, h1, h3⟩)
    · exact .inr (.inl h2.symm)
  · rintro (⟨j, h1, h2⟩ | h2 | ⟨j, h1, h2, h3⟩)
    · exact .inl ⟨j, h1, .inl h2⟩
    · exact .inr ⟨hi, h2.symm⟩
    · exact .inl ⟨j, h2, .inr ⟨h1, h3⟩⟩
def fstS (l : List Dm) (c : List Lk) : Nat → ByteArray
  | 0 => ⟨#[]⟩
  | _ + 1 => begE l (lat c 0)
def lstS (l : List Dm) (c : List Lk) : Nat → ByteArray
  | 0 => ⟨#[]⟩
  | i + 1 => stoE l (lat c i)
theorem beg_ok {l : List Dm} (ho : ∀ i, i < l.length → (dat l i).ok) {x : Lk} (hx : inR l x) : (begE l x).size ≤ 9223372036854775807 := by
  have h := ho x.dm.toNat (by have := hx.1; have := hx.2; omega)
  unfold begE; split
  · exact h.2
  · exact h.1
theorem sto_ok {l : List Dm} (ho : ∀ i, i < l.length → (dat l i).ok) {x : Lk} (hx : inR l x) : (stoE l x).size ≤ 9223372036854775807 := by
  have h := ho x.dm.toNat (by have := hx.1; have := hx.2; omega)
  unfold stoE; split
  · exact h.1
  · exact h.2
theorem fst_2 {l : List Dm} {c : List Lk} {i : Nat} (hi : i < c.length) (h : ¬ inR l (lat c i)) : fstE (stp l c) (c.length - i) i = 2 := by rw [fstE_no hi (by rw [stp_2 h]; decide), stp_2 h]
theorem fst_8 {l : List Dm} {c : List Lk} {j : Nat} (hi : j + 1 < c.length) (h : inR l (lat c (j + 1))) (h2 : ¬ (dOf l (lat c (j + 1))).ax = (dOf l (lat c 0)).ax ∨ ¬ begE l (lat c (j + 1)) = lstS l c (j + 1)) :
    fstE (stp l c) (c.length - (j + 1)) (j + 1) = 8 := by
  have h3 := stp_8 h ⟨Nat.succ_pos j, h2⟩
  rw [fstE_no hi (by rw [h3]; decide), h3]
theorem fst_7 {l : List Dm} {c : List Lk} {j : Nat} {m1 m2 : Lit → Bool} (hM : ChM l c (j + 1) m1 m2) (hi : j + 1 < c.length) (h : inR l (lat c (j + 1))) (h1 : (dOf l (lat c (j + 1))).ax = (dOf l (lat c 0)).ax) (h2 : ¬ ¬ begE l (lat c (j + 1)) = lstS l c (j + 1))
    (h3 : m1 (.int .i64 (lat c (j + 1)).dm) = true ∨ lstS l c (j + 1) = fstS l c (j + 1) ∨ m2 (.string (stoE l (lat c (j + 1))).data.toList) = true) :
    fstE (stp l c) (c.length - (j + 1)) (j + 1) = 7 := by
  have h4 := stp_7 h (fun e => e.2.elim (fun e => e h1) h2) ((hM.meets (Nat.succ_pos j)).2 h3)
  rw [fstE_no hi (by rw [h4]; decide), h4]
theorem fst_0 {l : List Dm} {c : List Lk} {j : Nat} {m1 m2 : Lit → Bool} (hM : ChM l c (j + 1) m1 m2) (hi : j + 1 < c.length) (h : inR l (lat c (j + 1))) (h1 : (dOf l (lat c (j + 1))).ax = (dOf l (lat c 0)).ax) (h2 : ¬ ¬ begE l (lat c (j + 1)) = lstS l c (j + 1))
    (h3 : m1 (.int .i64 (lat c (j + 1)).dm) = false) (h4 : ¬ lstS l c (j + 1) = fstS l c (j + 1)) (h5 : m2 (.string (stoE l (lat c (j + 1))).data.toList) = false) :
    fstE (stp l c) (c.length - (j + 1)) (j + 1) = fstE (stp l c) (c.length - (j + 1 + 1)) (j + 1 + 1) := by
  refine fstE_yes hi (stp_0 h (fun e => e.2.elim (fun e => e h1) h2) fun e => ?_)
  rcases (hM.meets (Nat.succ_pos j)).1 e with e | e | e
  · rw [h3] at e; exact absurd e (by decide)
  · exact h4 e
  · rw [h5] at e; exact absurd e (by decide)
theorem fst_z {l : List Dm} {c : List Lk} (hi : 0 < c.length) (h : inR l (lat c 0)) : fstE (stp l c) (c.length - 0) 0 = fstE (stp l c) (c.length - (0 + 1)) (0 + 1) := by
  refine fstE_yes hi (stp_0 h (fun e => absurd e.1 (by decide)) ?_)
  rintro (⟨j, h1, _⟩ | ⟨h1, _⟩)
  · omega
  · omega
theorem tlt {z : Int} {n : Nat} (h : 0 ≤ z ∧ z < n) : z.toNat < n := by omega
set_option maxRecDepth 100000 in
theorem e_chain : Ent Tryz.prog 69 := fun _ _ => rfl
set_option maxRecDepth 4000 in
set_option maxHeartbeats 20000000 in
theorem chain_c (A : Option Addr) (cA : Nat) (l : List Dm) (hl : l.length ≤ 9223372036854775807) (ho : ∀ i, i < l.length → (dat l i).ok) (hL : l.length ≤ 256) (B : Option Addr) (cB : Nat) (c : List Lk) (hc : c.length ≤ 9223372036854775807) (w : World) (R : Rd w A 5 l.length (fun i => dmC (l.getD i dm0))) (R2 : Rd w B 2 c.length (fun i => lkC (c.getD i lk0))) : Calls Tryz.prog 69 #[.slice A l.length cA, .slice B c.length cB] w (RetP (Val (.int .i64 (chainE l c)) w)) := by
  refine calls_of_cw (args := [.slice A l.length cA, .slice B c.length cB]) Tryz.func69 rfl rfl ?_
  have S := Sat.start [] w
  have O := (R).old
  have O2 := (R2).old
  (repeat' (first | apply cw_seq | apply cw_region | apply wl_nil | apply cw_block | apply cw_skip | apply cw_ret | (apply x_makeMap; assumption; exact rfl; exact rfl; exact rfl; intro _ _ _) | (apply x_move; exact rfl; exact rfl; (exact (by repeat' constructor))) | (apply x_assign; exact rfl; exact rfl; (exact (by repeat' constructor))) | (apply x_bin; exact rfl; exact rfl; exact rfl; (first | exact .z (.wrap (by omega)) | exact (by repeat' constructor))) | (apply x_builtin; exact rfl; exact rfl; exact (fun _ => rfl); (exact (by repeat' constructor))) | (apply x_dec; exact rfl; all_goals (intro _; try omega))))
  · rw [chainE, if_pos (by omega)]
    (first | refine q_retS (by assumption) rfl (by repeat (first | exact .nil | (apply RV.tmp; exact (by repeat' constructor)) | (apply RV.cell; exact rfl; exact (by repeat' constructor); exact rfl; exact rfl; exact (by repeat' constructor)))) ?_ | (simp only [thenQ, blockQ]; refine q_retS (by assumption) rfl (by repeat (first | exact .nil | (apply RV.tmp; exact (by repeat' constructor)) | (apply RV.cell; exact rfl; exact (by repeat' constructor); exact rfl; exact rfl; exact (by repeat' constructor)))) ?_))
    exact ⟨rfl, Sat.keeps (by assumption)⟩
  · rw [chainE, if_neg (by omega), if_pos (by omega)]
    (first | refine q_retS (by assumption) rfl (by repeat (first | exact .nil | (apply RV.tmp; exact (by repeat' constructor)) | (apply RV.cell; exact rfl; exact (by repeat' constructor); exact rfl; exact rfl; exact (by repeat' constructor)))) ?_ | (simp only [thenQ, blockQ]; refine q_retS (by assumption) rfl (by repeat (first | exact .nil | (apply RV.tmp; exact (by repeat' constructor)) | (apply RV.cell; exact rfl; exact (by repeat' constructor); exact rfl; exact rfl; exact (by repeat' constructor)))) ?_))
    exact ⟨rfl, Sat.keeps (by assumption)⟩
  rename_i h0 h256 b5 _ _ b6 w1 S1
  refine cw_loop [4, 7, 8, 9, 10, 11, 12, 25, 26, 27, 28, 29, 30, 31, 32, 33, 34, 35, 36, 37, 38, 39, 40, 41, 42, 43, 44, 45, 46, 47, 48, 49, 50, 51, 52, 53, 54, 55, 56, 57, 58, 59, 60, 61, 62, 63, 64, 65, 66, 67, 68, 69, 70, 71, 72, 73, 74, 75, 76, 77, 78, 79, 80, 81, 82, 83, 84, 85, 86, 87, 88, 89, 90, 91, 92, 93, 94, 95, 96, 97] [25, 7, 8] (fun us wr => ∃ (i n1 n2 : Nat) (m1 m2 : Lit → Bool), i ≤ c.length ∧ n1 ≤ i ∧ n2 ≤ i ∧ us = [.int .i64 i, .string (fstS l c i), .string (lstS l c i)] ∧ ChM l c i m1 m2 ∧ chainE l c = fstE (stp l c) (c.length - i) i ∧
    Sat w [] [.pr b6 (MapB Tryz.prog 9 4 n2 m2), .pr b5 (MapB Tryz.prog 3 4 n1 m1)] wr) (fun us _ => c.length - (intOf (us.getD 0 undef)).toNat) ?_ ?_
  · exact ⟨0, 0, 0, _, _, by omega, by omega, by omega, rfl, ChM.zero l c, by rw [chainE, if_neg (by omega), if_neg (by omega)]; rfl, S1⟩
  clear S S1
  rintro g' us wr ⟨i, n1, n2, m1, m2, hi, hn1, hn2, rfl, hM, hfe, Sr⟩
  by_cases hlt : i < c.length
  · by_cases hin : inR l (c.getD i lk0)
    · have hx0 : 0 ≤ (c.getD i lk0).dm ∧ (c.getD i lk0).dm < l.length := hin
      have hx1 : 0 ≤ (c.getD i lk0).dm ∧ (c.getD i lk0).dm < 1000000 := by omega
      by_cases h0i : i = 0
      · subst h0i
        have hz0 := hx0
        have hu1 : m1 (.int .i64 (c.getD 0 lk0).dm) = false := by
          cases h : m1 (.int .i64 (c.getD 0 lk0).dm)
          · rfl
          · obtain ⟨j, hj, _⟩ := (hM.used _).1 h; omega
        have hu2 : m2 (.string (stoE l (c.getD 0 lk0)).data.toList) = false := by
          cases h : m2 (.string (stoE l (c.getD 0 lk0)).data.toList)
          · rfl
          · obtain ⟨j, hj, _⟩ := (hM.begun _).1 h; omega
        (repeat' (first | apply cw_seq | apply cw_region | apply wl_nil | apply cw_block | apply cw_skip | apply cw_ret | (apply y_gdec; exact rfl; exact rfl; all_goals (intro _; try omega)) | (apply y_fieldE; exact rfl; exact rfl; exact rfl; (constructor)) | (apply x_lookupB; assumption; exact rfl; exact rfl; exact rfl; exact kI; exact rfl; exact rfl; (exact (by repeat' constructor)); exact keyI hx1; exact trivial; exact hu1) | (apply x_lookupB; assumption; exact rfl; exact rfl; exact rfl; exact kS; exact rfl; exact rfl; (exact (by repeat' constructor)); exact keyS (sto_ok ho hin); exact trivial; exact hu2) | (apply x_mapUpdateB; assumption; exact rfl; exact rfl; exact kI; exact rfl; exact rfl; exact rfl; (exact (by repeat' constructor)); (exact (by unfold maxLen; omega)); exact keyI hx1; exact trivial; intro _ _) | (apply y_indexI; exact rfl; exact rfl; exact rfl; exact rfl; (constructor); exact hx0.1; exact hx0.2; (exact (Old.rd O).some_ (by omega))) | (apply y_loadR; exact rfl; exact rfl; exact O; (first | exact tlt hx0 | exact tlt hz0); exact rfl; exact rfl; (exact (by repeat' constructor))) | (apply x_callv; assumption; exact rfl; exact rfl; exact rfl; exact e_ends; (exact (by repeat' constructor)); with_reducible exact (ends_c A cA l hl ho _ hin _ (Old.now O (by assumption))); intro _ _ _) | (apply cw_draw (id := 14) [(0, 0), (1, 0), (2, 0), (3, 0), (4, 0), (5, 0), (6, 0), (7, 0), (8, 0), (9, 0), (10, 0), (11, 0), (12, 0), (13, 0), (14, 0), (15, 0), (16, 0), (17, 0), (18, 0), (19, 0), (20, 0), (21, 0), (22, 0), (23, 0)]; assumption; exact mixed; kernel_rfl) | (apply x_not; exact rfl; exact rfl) | (apply x_move; exact rfl; exact rfl; (exact (by repeat' constructor))) | (apply x_assign; exact rfl; exact rfl; (exact (by repeat' constructor))) | (apply x_fieldB; exact rfl; exact rfl; exact rfl; exact rfl; (constructor)) | (apply x_load; assumption; exact rfl; exact rfl; exact rfl; (exact (by repeat' constructor)); exact rfl; exact rfl; (exact (by repeat' constructor))) | (apply x_bin; exact rfl; exact rfl; exact rfl; (first | exact .z (.wrap (by omega)) | exact (by repeat' constructor))) | (apply x_pick; exact rfl; exact rfl; exact rfl; (exact (by repeat' constructor))) | (apply x_alloc; assumption; exact rfl; exact rfl; exact rfl; (exact (by repeat' constructor)); intro _ _ _) | (apply x_store; assumption; exact rfl; exact rfl; (exact (by repeat' constructor)); (exact (by repeat' constructor)); exact rfl; exact rfl; exact rfl; (exact (by repeat' constructor)); intro _ _) | (apply x_extract; exact rfl; exact rfl; exact rfl; (exact (by repeat' constructor))) | (apply x_builtin; exact rfl; exact rfl; exact (fun _ => rfl); (exact (by repeat' constructor))) | (apply x_index; exact rfl; exact rfl; exact rfl; exact rfl; exact rfl; (constructor); (first | omega | exact size_pos (by assumption) | assumption); (first | exact rfl | assumption | exact Rd.some_ (by assumption) (by omega) | exact Rd.some_ (Old.rd (by assumption)) (by omega) | exact (Sat.rd (by assumption) (by exact (by repeat' constructor))).some_ (by omega))) | (apply x_loadR; exact rfl; exact rfl; exact rfl; (first | exact Old.now (by assumption) (by assumption) | exact Sat.rdpr (by assumption) (by exact (by repeat' constructor)) | exact Sat.rd (by assumption) (by exact (by repeat' constructor))); (first | omega | exact size_pos (by assumption) | assumption); exact rfl; exact rfl; (exact (by repeat' constructor))) | (apply y_not; exact rfl) | (apply y_move; exact rfl; (exact (by repeat' constructor))) | (apply y_fieldB; exact rfl; exact rfl; exact rfl; (constructor)) | (apply y_load; exact rfl; exact rfl; (exact (by repeat' constructor)); exact rfl; exact rfl; (exact (by repeat' constructor))) | (apply y_bin; exact rfl; exact (fun _ => rfl); (first | exact .z (.wrap (by omega)) | exact (by repeat' constructor))) | (apply y_pick; exact rfl; exact rfl; (exact (by repeat' constructor))) | (apply y_index; exact rfl; exact rfl; exact rfl; exact rfl; (constructor); (first | omega | exact size_pos (by assumption) | assumption); (first | exact rfl | assumption | exact Rd.some_ (by assumption) (by omega) | exact Rd.some_ (Old.rd (by assumption)) (by omega) | exact (Sat.rd (by assumption) (by exact (by repeat' constructor))).some_ (by omega))) | (apply y_loadR; exact rfl; exact rfl; assumption; (first | omega | exact size_pos (by assumption) | assumption); exact rfl; exact rfl; (exact (by repeat' constructor))) | (apply y_nil; intro _ _) | (apply y_gne; exact rfl; exact rfl; all_goals (intro _; try omega)) | (apply cw_true; exact rfl) | (apply cw_false; exact rfl) | (apply x_dec; exact rfl; all_goals (intro _; try omega)) | (apply x_gdec; exact rfl; exact rfl; all_goals (intro _; try omega))))
        all_goals first
          | (exfalso; exact absurd rfl ‹¬ _›)
          | (refine ⟨rfl, (by repeat (first | exact Agree.updl rfl (Agree.mask _ _ _) | refine Agree.upd rfl ?_)), ⟨0 + 1, n1 + 1, n2, _, _, hlt, by omega, by omega, rfl, ChM.one hM hin, by rw [hfe, fst_z hlt hin], Sat.drop1 (by assumption)⟩, ?_⟩
             show c.length - (0 + 1 : Int).toNat < c.length - (0 : Int).toNat
             omega)
      · obtain ⟨j, rfl⟩ : ∃ j, i = j + 1 := ⟨i - 1, by omega⟩
        have hz0 : 0 ≤ (c.getD 0 lk0).dm ∧ (c.getD 0 lk0).dm < l.length := hM.rng 0 (by omega)
        cases hu1 : m1 (.int .i64 (c.getD (j + 1) lk0).dm) <;> cases hu2 : m2 (.string (stoE l (c.getD (j + 1) lk0)).data.toList)
        all_goals
          (repeat' (first | apply cw_seq | apply cw_region | apply wl_nil | apply cw_block | apply cw_skip | apply cw_ret | (apply y_gdec; exact rfl; exact rfl; all_goals (intro _; try omega)) | (apply y_fieldE; exact rfl; exact rfl; exact rfl; (constructor)) | (apply x_lookupB; assumption; exact rfl; exact rfl; exact rfl; exact kI; exact rfl; exact rfl; (exact (by repeat' constructor)); exact keyI hx1; exact trivial; exact hu1) | (apply x_lookupB; assumption; exact rfl; exact rfl; exact rfl; exact kS; exact rfl; exact rfl; (exact (by repeat' constructor)); exact keyS (sto_ok ho hin); exact trivial; exact hu2) | (apply x_mapUpdateB; assumption; exact rfl; exact rfl; exact kI; exact rfl; exact rfl; exact rfl; (exact (by repeat' constructor)); (exact (by unfold maxLen; omega)); exact keyI hx1; exact trivial; intro _ _) | (apply x_mapUpdateB; assumption; exact rfl; exact rfl; exact kS; exact rfl; exact rfl; exact rfl; (exact (by repeat' constructor)); (exact (by unfold maxLen; omega)); exact keyS (beg_ok ho hin); exact trivial; intro _ _) | (apply y_indexI; exact rfl; exact rfl; exact rfl; exact rfl; (constructor); exact hx0.1; exact hx0.2; (exact (Old.rd O).some_ (by omega))) | (apply y_indexI; exact rfl; exact rfl; exact rfl; exact rfl; (constructor); exact hz0.1; exact hz0.2; (exact (Old.rd O).some_ (by omega))) | (apply y_loadR; exact rfl; exact rfl; exact O; (first | exact tlt hx0 | exact tlt hz0); exact rfl; exact rfl; (exact (by repeat' constructor))) | (apply x_callv; assumption; exact rfl; exact rfl; exact rfl; exact e_ends; (exact (by repeat' constructor)); with_reducible exact (ends_c A cA l hl ho _ hin _ (Old.now O (by assumption))); intro _ _ _) | (apply cw_draw (id := 14) [(0, 0), (1, 0), (2, 0), (3, 0), (4, 0), (5, 0), (6, 0), (7, 0), (8, 0), (9, 0), (10, 0), (11, 0), (12, 0), (13, 0), (14, 0), (15, 0), (16, 0), (17, 0), (18, 0), (19, 0), (20, 0), (21, 0), (22, 0), (23, 0)]; assumption; exact mixed; kernel_rfl) | (apply x_not; exact rfl; exact rfl) | (apply x_move; exact rfl; exact rfl; (exact (by repeat' constructor))) | (apply x_assign; exact rfl; exact rfl; (exact (by repeat' constructor))) | (apply x_fieldB; exact rfl; exact rfl; exact rfl; exact rfl; (constructor)) | (apply x_load; assumption; exact rfl; exact rfl; exact rfl; (exact (by repeat' constructor)); exact rfl; exact rfl; (exact (by repeat' constructor))) | (apply x_eqStr; exact rfl; exact rfl; exact rfl; exact rfl) | (apply x_bin; exact rfl; exact rfl; exact rfl; (first | exact .z (.wrap (by omega)) | exact (by repeat' constructor))) | (apply x_pick; exact rfl; exact rfl; exact rfl; (exact (by repeat' constructor))) | (apply x_alloc; assumption; exact rfl; exact rfl; exact rfl; (exact (by repeat' constructor)); intro _ _ _) | (apply x_store; assumption; exact rfl; exact rfl; (exact (by repeat' constructor)); (exact (by repeat' constructor)); exact rfl; exact rfl; exact rfl; (exact (by repeat' constructor)); intro _ _) | (apply x_extract; exact rfl; exact rfl; exact rfl; (exact (by repeat' constructor))) | (apply x_builtin; exact rfl; exact rfl; exact (fun _ => rfl); (exact (by repeat' constructor))) | (apply x_index; exact rfl; exact rfl; exact rfl; exact rfl; exact rfl; (constructor); (first | omega | exact size_pos (by assumption) | assumption); (first | exact rfl | assumption | exact Rd.some_ (by assumption) (by omega) | exact Rd.some_ (Old.rd (by assumption)) (by omega) | exact (Sat.rd (by assumption) (by exact (by repeat' constructor))).some_ (by omega))) | (apply x_loadR; exact rfl; exact rfl; exact rfl; (first | exact Old.now (by assumption) (by assumption) | exact Sat.rdpr (by assumption) (by exact (by repeat' constructor)) | exact Sat.rd (by assumption) (by exact (by repeat' constructor))); (first | omega | exact size_pos (by assumption) | assumption); exact rfl; exact rfl; (exact (by repeat' constructor))) | (apply y_neStr; exact rfl; exact rfl; exact rfl) | (apply y_not; exact rfl) | (apply y_move; exact rfl; (exact (by repeat' constructor))) | (apply y_fieldB; exact rfl; exact rfl; exact rfl; (constructor)) | (apply y_load; exact rfl; exact rfl; (exact (by repeat' constructor)); exact rfl; exact rfl; (exact (by repeat' constructor))) | (apply y_bin; exact rfl; exact (fun _ => rfl); (first | exact .z (.wrap (by omega)) | exact (by repeat' constructor))) | (apply y_pick; exact rfl; exact rfl; (exact (by repeat' constructor))) | (apply y_indexK; exact rfl; exact rfl; exact rfl; exact rfl; (constructor); (constructor); (first | assumption | omega | decide); (first | omega | exact size_pos (by assumption) | assumption); (first | exact rfl | assumption | exact Rd.some_ (by assumption) (by omega) | exact Rd.some_ (Old.rd (by assumption)) (by omega) | exact (Sat.rd (by assumption) (by exact (by repeat' constructor))).some_ (by omega))) | (apply y_loadR; exact rfl; exact rfl; assumption; (first | omega | exact size_pos (by assumption) | assumption); exact rfl; exact rfl; (exact (by repeat' constructor))) | (apply y_nil; intro _ _) | (apply y_gne; exact rfl; exact rfl; all_goals (intro _; try omega)) | (apply cw_true; exact rfl) | (apply cw_false; exact rfl) | (apply x_dec; exact rfl; all_goals (intro _; try omega)) | (apply x_gdec; exact rfl; exact rfl; all_goals (intro _; try omega))))
          all_goals first
            | (rw [hfe, fst_8 hlt hin (by first | exact .inl (by assumption) | exact .inr (by assumption))]
               (first | refine q_retS (by assumption) rfl (by repeat (first | exact .nil | (apply RV.tmp; exact (by repeat' constructor)) | (apply RV.cell; exact rfl; exact (by repeat' constructor); exact rfl; exact rfl; exact (by repeat' constructor)))) ?_ | (simp only [thenQ, blockQ]; refine q_retS (by assumption) rfl (by repeat (first | exact .nil | (apply RV.tmp; exact (by repeat' constructor)) | (apply RV.cell; exact rfl; exact (by repeat' constructor); exact rfl; exact rfl; exact (by repeat' constructor)))) ?_))
               exact ⟨rfl, Sat.keeps (by assumption)⟩)
            | (rw [hfe, fst_7 hM hlt hin (by assumption) (by assumption) (by first | exact .inl hu1 | exact .inr (.inr hu2) | exact .inr (.inl (by assumption)))]
               (first | refine q_retS (by assumption) rfl (by repeat (first | exact .nil | (apply RV.tmp; exact (by repeat' constructor)) | (apply RV.cell; exact rfl; exact (by repeat' constructor); exact rfl; exact rfl; exact (by repeat' constructor)))) ?_ | (simp only [thenQ, blockQ]; refine q_retS (by assumption) rfl (by repeat (first | exact .nil | (apply RV.tmp; exact (by repeat' constructor)) | (apply RV.cell; exact rfl; exact (by repeat' constructor); exact rfl; exact rfl; exact (by repeat' constructor)))) ?_))
               exact ⟨rfl, Sat.keeps (by assumption)⟩)
            | (refine ⟨rfl, (by repeat (first | exact Agree.updl rfl (Agree.mask _ _ _) | refine Agree.upd rfl ?_)), ⟨j + 1 + 1, n1 + 1, n2 + 1, _, _, hlt, by omega, by omega, rfl, ChM.more hM (by omega) hin, by rw [hfe, fst_0 hM hlt hin (by assumption) (by assumption) hu1 (by assumption) hu2], Sat.drop1 (by assumption)⟩, ?_⟩
               show c.length - ((j + 1 : Nat) + 1 : Int).toNat < c.length - ((j + 1 : Nat) : Int).toNat
               omega)
    · (repeat' (first | apply cw_seq | apply cw_region | apply wl_nil | apply cw_block | apply cw_skip | apply cw_ret | (apply x_not; exact rfl; exact rfl) | (apply x_move; exact rfl; exact rfl; (exact (by repeat' constructor))) | (apply x_assign; exact rfl; exact rfl; (exact (by repeat' constructor))) | (apply x_fieldB; exact rfl; exact rfl; exact rfl; exact rfl; (constructor)) | (apply x_load; assumption; exact rfl; exact rfl; exact rfl; (exact (by repeat' constructor)); exact rfl; exact rfl; (exact (by repeat' constructor))) | (apply x_bin; exact rfl; exact rfl; exact rfl; (first | exact .z (.wrap (by omega)) | exact (by repeat' constructor))) | (apply x_pick; exact rfl; exact rfl; exact rfl; (exact (by repeat' constructor))) | (apply x_alloc; assumption; exact rfl; exact rfl; exact rfl; (exact (by repeat' constructor)); intro _ _ _) | (apply x_store; assumption; exact rfl; exact rfl; (exact (by repeat' constructor)); (exact (by repeat' constructor)); exact rfl; exact rfl; exact rfl; (exact (by repeat' constructor)); intro _ _) | (apply x_builtin; exact rfl; exact rfl; exact (fun _ => rfl); (exact (by repeat' constructor))) | (apply x_index; exact rfl; exact rfl; exact rfl; exact rfl; exact rfl; (constructor); (first | omega | exact size_pos (by assumption) | assumption); (first | exact rfl | assumption | exact Rd.some_ (by assumption) (by omega) | exact Rd.some_ (Old.rd (by assumption)) (by omega) | exact (Sat.rd (by assumption) (by exact (by repeat' constructor))).some_ (by omega))) | (apply x_loadR; exact rfl; exact rfl; exact rfl; (first | exact Old.now (by assumption) (by assumption) | exact Sat.rdpr (by assumption) (by exact (by repeat' constructor)) | exact Sat.rd (by assumption) (by exact (by repeat' constructor))); (first | omega | exact size_pos (by assumption) | assumption); exact rfl; exact rfl; (exact (by repeat' constructor))) | (apply cw_true; exact rfl) | (apply x_dec; exact rfl; all_goals (intro _; try omega)) | (apply x_gdec; exact rfl; exact rfl; all_goals (intro _; try omega))))
      all_goals first
        | (rw [hfe, fst_2 hlt hin]
           (first | refine q_retS (by assumption) rfl (by repeat (first | exact .nil | (apply RV.tmp; exact (by repeat' constructor)) | (apply RV.cell; exact rfl; exact (by repeat' constructor); exact rfl; exact rfl; exact (by repeat' constructor)))) ?_ | (simp only [thenQ, blockQ]; refine q_retS (by assumption) rfl (by repeat (first | exact .nil | (apply RV.tmp; exact (by repeat' constructor)) | (apply RV.cell; exact rfl; exact (by repeat' constructor); exact rfl; exact rfl; exact (by repeat' constructor)))) ?_))
           exact ⟨rfl, Sat.keeps (by assumption)⟩)
        | (exfalso; exact hin ⟨by omega, by omega⟩)
  · (repeat' (first | apply cw_seq | apply cw_region | apply wl_nil | apply cw_exit | apply cw_ret | (apply x_assign; exact rfl; exact rfl; (exact (by repeat' constructor))) | (apply x_bin; exact rfl; exact rfl; exact rfl; (first | exact .z (.wrap (by omega)) | exact (by repeat' constructor))) | (apply x_dec; exact rfl; all_goals (intro _; try omega))))
    rw [hfe, fstE_end hlt]
    (first | refine q_retS (by assumption) rfl (by repeat (first | exact .nil | (apply RV.tmp; exact (by repeat' constructor)) | (apply RV.cell; exact rfl; exact (by repeat' constructor); exact rfl; exact rfl; exact (by repeat' constructor)))) ?_ | (simp only [thenQ, blockQ]; refine q_retS (by assumption) rfl (by repeat (first | exact .nil | (apply RV.tmp; exact (by repeat' constructor)) | (apply RV.cell; exact rfl; exact (by repeat' constructor); exact rfl; exact rfl; exact (by repeat' constructor)))) ?_))
    exact ⟨rfl, Sat.keeps (by assumption)⟩
end Go.Proofs.YtdkknknebehkgaaGreatDoor
