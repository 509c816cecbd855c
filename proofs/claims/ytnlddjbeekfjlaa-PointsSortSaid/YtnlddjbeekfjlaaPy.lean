/- Samples of points in space: what is known of right samples, sorted, boxed, lifted. No statement of the seat is proved here. -/
import Derived.Test.YtnlddjbeekfjlaaPw
import Derived.Test.YtnlddjbeekfjlaaPl
import Derived.Test.YtnlddjbeekfjlaaPp
namespace Go.Proofs.Ytnlddjbeekfjlaa
set_option linter.unusedVariables false
set_option linter.unusedSimpArgs false
open Go Go.RowKit
/-! ### boxes -/
def minL : Int → List Int → Int
  | z, [] => z
  | z, n :: r => minL (minI z n) r
def maxL : Int → List Int → Int
  | z, [] => z
  | z, n :: r => maxL (maxI z n) r
theorem minI_s (a b : Int) : minI a b ≤ a ∧ minI a b ≤ b ∧ (minI a b = a ∨ minI a b = b) := by unfold minI; split <;> omega
theorem maxI_s (a b : Int) : a ≤ maxI a b ∧ b ≤ maxI a b ∧ (maxI a b = a ∨ maxI a b = b) := by unfold maxI; split <;> omega
theorem minL_s : ∀ (l : List Int) (z : Int), minL z l ≤ z ∧ (∀ n ∈ l, minL z l ≤ n) ∧ (minL z l = z ∨ minL z l ∈ l)
  | [], z => ⟨Int.le_refl _, by simp, .inl rfl⟩
  | n :: r, z => by
    obtain ⟨h1, h2, h3⟩ := minL_s r (minI z n)
    obtain ⟨k1, k2, k3⟩ := minI_s z n
    show minL (minI z n) r ≤ z ∧ (∀ m ∈ n :: r, minL (minI z n) r ≤ m) ∧ (minL (minI z n) r = z ∨ minL (minI z n) r ∈ n :: r)
    refine ⟨by omega, fun m hm => ?_, ?_⟩
    · rcases List.mem_cons.1 hm with rfl | hm
      · omega
      · exact h2 m hm
    · rcases h3 with h3 | h3
      · rcases k3 with k3 | k3
        · exact .inl (h3.trans k3)
        · exact .inr (by rw [h3, k3]; simp)
      · exact .inr (List.mem_cons_of_mem _ h3)
theorem maxL_s : ∀ (l : List Int) (z : Int), z ≤ maxL z l ∧ (∀ n ∈ l, n ≤ maxL z l) ∧ (maxL z l = z ∨ maxL z l ∈ l)
  | [], z => ⟨Int.le_refl _, by simp, .inl rfl⟩
  | n :: r, z => by
    obtain ⟨h1, h2, h3⟩ := maxL_s r (maxI z n)
    obtain ⟨k1, k2, k3⟩ := maxI_s z n
    show z ≤ maxL (maxI z n) r ∧ (∀ m ∈ n :: r, m ≤ maxL (maxI z n) r) ∧ (maxL (maxI z n) r = z ∨ maxL (maxI z n) r ∈ n :: r)
    refine ⟨by omega, fun m hm => ?_, ?_⟩
    · rcases List.mem_cons.1 hm with rfl | hm
      · omega
      · exact h2 m hm
    · rcases h3 with h3 | h3
      · rcases k3 with k3 | k3
        · exact .inl (h3.trans k3)
        · exact .inr (by rw [h3, k3]; simp)
      · exact .inr (List.mem_cons_of_mem _ h3)
theorem minL_eq {z z' : Int} {l l' : List Int} (hz : z ∈ l) (hz' : z' ∈ l') (h : ∀ n, n ∈ l ↔ n ∈ l') : minL z l = minL z' l' := by
  obtain ⟨h1, h2, h3⟩ := minL_s l z
  obtain ⟨k1, k2, k3⟩ := minL_s l' z'
  have e1 : minL z l ∈ l := by rcases h3 with e | e; (rw [e]; exact hz); exact e
  have e2 : minL z' l' ∈ l' := by rcases k3 with e | e; (rw [e]; exact hz'); exact e
  have := h2 _ ((h _).2 e2)
  have := k2 _ ((h _).1 e1)
  omega
theorem maxL_eq {z z' : Int} {l l' : List Int} (hz : z ∈ l) (hz' : z' ∈ l') (h : ∀ n, n ∈ l ↔ n ∈ l') : maxL z l = maxL z' l' := by
  obtain ⟨h1, h2, h3⟩ := maxL_s l z
  obtain ⟨k1, k2, k3⟩ := maxL_s l' z'
  have e1 : maxL z l ∈ l := by rcases h3 with e | e; (rw [e]; exact hz); exact e
  have e2 : maxL z' l' ∈ l' := by rcases k3 with e | e; (rw [e]; exact hz'); exact e
  have := h2 _ ((h _).2 e2)
  have := k2 _ ((h _).1 e1)
  omega
theorem boxF_c : ∀ (l : List Sp) (x y : Sp), boxF (x, y) l = ((minL x.1 (l.map (·.1)), minL x.2.1 (l.map (·.2.1)), minL x.2.2 (l.map (·.2.2))), (maxL y.1 (l.map (·.1)), maxL y.2.1 (l.map (·.2.1)), maxL y.2.2 (l.map (·.2.2))))
  | [], x, y => rfl
  | p :: r, x, y => by
    rw [boxF, boxF_c r]
    rfl
theorem box_same {l m : List Sp} (hl : 0 < l.length) (hm : 0 < m.length) (h : sameL l m) : boxF (l.getD 0 sp0, l.getD 0 sp0) l = boxF (m.getD 0 sp0, m.getD 0 sp0) m := by
  have h1 : l.getD 0 sp0 ∈ l := by rw [getD_lt hl]; exact List.getElem_mem hl
  have h2 : m.getD 0 sp0 ∈ m := by rw [getD_lt hm]; exact List.getElem_mem hm
  have key : ∀ (φ : Sp → Int) (n : Int), n ∈ l.map φ ↔ n ∈ m.map φ := fun φ n => by
    rw [List.mem_map, List.mem_map]
    exact ⟨fun ⟨p, hp, e⟩ => ⟨p, h.1 p hp, e⟩, fun ⟨p, hp, e⟩ => ⟨p, h.2 p hp, e⟩⟩
  rw [boxF_c, boxF_c]
  rw [minL_eq (List.mem_map.2 ⟨_, h1, rfl⟩) (List.mem_map.2 ⟨_, h2, rfl⟩) (key (·.1)), minL_eq (List.mem_map.2 ⟨_, h1, rfl⟩) (List.mem_map.2 ⟨_, h2, rfl⟩) (key (·.2.1)), minL_eq (List.mem_map.2 ⟨_, h1, rfl⟩) (List.mem_map.2 ⟨_, h2, rfl⟩) (key (·.2.2)),
    maxL_eq (List.mem_map.2 ⟨_, h1, rfl⟩) (List.mem_map.2 ⟨_, h2, rfl⟩) (key (·.1)), maxL_eq (List.mem_map.2 ⟨_, h1, rfl⟩) (List.mem_map.2 ⟨_, h2, rfl⟩) (key (·.2.1)), maxL_eq (List.mem_map.2 ⟨_, h1, rfl⟩) (List.mem_map.2 ⟨_, h2, rfl⟩) (key (·.2.2))]
/-! ### right samples stay right -/
noncomputable abbrev srtO (l : List Sp) : List Sp := srtS (once l)
theorem srtO_mem {l : List Sp} {p : Sp} : p ∈ srtO l ↔ p ∈ l := by rw [srtS_mem, once_mem]
theorem srtO_len {l : List Sp} : (srtO l).length = (once l).length := srtS_len _
theorem srtO_nodup (l : List Sp) : (srtO l).Nodup := (srtS_perm (once l)).nodup_iff.2 (once_nodup l)
theorem spE_sub {l m : List Sp} (h : spE l = 0) (hl : m.length ≤ l.length) (hm : ∀ p ∈ m, p ∈ l) : spE m = 0 :=
  spE_ok (by have := (spE0 h).1; omega) (allP_mem.2 fun p hp => allP_mem.1 (spE0 h).2 p (hm p hp))
theorem spE_once {l : List Sp} (h : spE l = 0) : spE (once l) = 0 := spE_sub h (once_len l) (fun p hp => once_mem.1 hp)
theorem spE_srt {l : List Sp} (h : spE l = 0) : spE (srtO l) = 0 := spE_sub h (by rw [srtO_len]; exact once_len l) (fun p hp => srtO_mem.1 hp)
theorem sm_yes {a l : List Sp} (ha : spE a = 0) (hl : spE l = 0) (h : ∀ p, p ∈ a ↔ p ∈ l) : smE a l = 0 ∧ smB a l = true := by
  have e : smE a l = 0 := by rw [smE, if_neg (not_not_intro ha), hl]
  exact ⟨e, by rw [smB]; exact dec_t ⟨e, fun p hp => (h p).1 hp, fun p hp => (h p).2 hp⟩⟩
theorem srtO_lt {l : List Sp} {i : Nat} (h : i + 1 < (srtO l).length) : ltOf cmpS ((srtO l).getD i sp0) ((srtO l).getD (i + 1) sp0) = true := by
  have h1 := (Go.Sort.insertionSort_holds swoS (once l).toArray 0 (once l).toArray.size (Nat.zero_le _) (Nat.le_refl _)).2
  have h2 := srtS_ins (once l).toArray
  have h3 : (once l).toArray.size = (srtO l).length := by rw [srtO_len]; rfl
  have h4 := h1 i (i + 1) (Nat.zero_le _) (Nat.lt_succ_self _) (by rw [h3]; exact h)
  rw [arr_at, arr_at, h2] at h4
  cases h5 : ltOf cmpS ((srtO l).getD i sp0) ((srtO l).getD (i + 1) sp0) with
  | true => rfl
  | false =>
    have e := ltS_eq _ _ h5 h4
    rw [getD_lt (by omega), getD_lt h] at e
    have := (List.getElem_inj (srtO_nodup l)).1 e
    omega
/-! ### contracts for right samples -/
theorem sorted_r {A : Option Addr} {c n : Nat} {l : List Sp} (hr : spE l = 0) {w : World} (R : Rd w A 3 l.length (fun i => spC (l.getD i sp0))) (hn : n = l.length) : Calls Try.prog 31 #[.slice A n c] w (RetP (RowR (fun v => .tuple #[v, .int .i64 0]) 30 3 ((srtO l).map spC) w)) := by
  subst hn
  exact row_v (Sorted_c A c l (by have := (spE0 hr).1; omega) w R) hr (by rw [sortS, if_pos hr])
theorem unique_r {A : Option Addr} {c n : Nat} {l : List Sp} (hr : spE l = 0) {w : World} (R : Rd w A 3 l.length (fun i => spC (l.getD i sp0))) (hn : n = l.length) : Calls Try.prog 29 #[.slice A n c] w (RetP (RowR (fun v => .tuple #[v, .int .i64 0]) 30 3 ((once l).map spC) w)) := by
  subst hn
  exact row_v (Unique_c A c l (by have := (spE0 hr).1; omega) w R) hr (by rw [uniS, if_pos hr])
theorem same_r {A B : Option Addr} {c c' n n' : Nat} {a l : List Sp} (ha : spE a = 0) (hl : spE l = 0) (h : ∀ p, p ∈ a ↔ p ∈ l) {w : World} (R : Rd w A 3 a.length (fun i => spC (a.getD i sp0))) (R2 : Rd w B 3 l.length (fun i => spC (l.getD i sp0))) (hn : n = a.length) (hn' : n' = l.length) :
    Calls Try.prog 36 #[.slice A n c, .slice B n' c'] w (RetP (Val (.tuple #[.bool true, .int .i64 0]) w)) := by
  subst hn
  subst hn'
  obtain ⟨h1, h2⟩ := sm_yes ha hl h
  exact val_of (Same_c A B c c' a l (by have := (spE0 ha).1; omega) (by have := (spE0 hl).1; omega) w R R2) (by rw [h1, h2])
theorem flatten_r {A : Option Addr} {c n : Nat} {l : List Sp} {k : Int} {m : List Pt} (hr : spE l = 0) (hk : 0 ≤ k ∧ k < 3) (hm : l.map (flatS k) = m) {w : World} (R : Rd w A 3 l.length (fun i => spC (l.getD i sp0))) (hn : n = l.length) : Calls Try.prog 22 #[.slice A n c, .int .i64 k] w (RetP (RowR (fun v => .tuple #[v, .int .i64 0]) 46 2 ((m).map ptC) w)) := by
  subst hn
  subst hm
  have e := alE_r hr hk
  exact row_v (Flatten_c A c l (by have := (spE0 hr).1; omega) k w R) e (by rw [flatL, if_pos e])
theorem flatS_rg {k : Int} {p : Sp} (h : rgS p) : rgP (flatS k p) := by
  unfold flatS
  split
  · exact ⟨h.2.1, h.2.2⟩
  · split
    · exact ⟨h.1, h.2.2⟩
    · exact ⟨h.1, h.2.1⟩
theorem liftS_rg {k t : Int} {p : Pt} (h : rgP p) (ht : rgI t) : rgS (liftS k t p) := by
  unfold liftS
  split
  · exact ⟨ht, h.1, h.2⟩
  · split
    · exact ⟨h.1, ht, h.2⟩
    · exact ⟨h.1, h.2, ht⟩
theorem flat_lift {k t : Int} (p : Pt) : flatS k (liftS k t p) = p := by
  unfold flatS liftS
  split
  · rfl
  · split <;> rfl
theorem ptE_flat {k : Int} {l : List Sp} (h : spE l = 0) : ptE (l.map (flatS k)) = 0 := by
  obtain ⟨h1, h2⟩ := spE0 h
  have h3 : allPP (l.map (flatS k)) := fun i hi => by
    rw [List.length_map] at hi
    rw [List.getD_eq_getElem?_getD, List.getElem?_map, List.getElem?_eq_getElem hi]
    exact flatS_rg (allP_mem.1 h2 _ (List.getElem_mem hi))
  rw [ptE, if_neg (by rw [List.length_map]; omega), allPE, if_pos h3]
theorem spE_lift {k t : Int} {l : List Sp} (h : spE l = 0) (ht : rgI t) : spE ((l.map (flatS k)).map (liftS k t)) = 0 := by
  obtain ⟨h1, h2⟩ := spE0 h
  refine spE_ok (by simpa using h1) (allP_mem.2 fun p hp => ?_)
  obtain ⟨q, hq, rfl⟩ := List.mem_map.1 hp
  obtain ⟨r, hr, rfl⟩ := List.mem_map.1 hq
  exact liftS_rg (flatS_rg (allP_mem.1 h2 r hr)) ht
theorem flat_back {k t : Int} (m : List Pt) : (m.map (liftS k t)).map (flatS k) = m := by
  rw [List.map_map]
  exact (List.map_congr_left (fun p _ => flat_lift p)).trans (List.map_id _)
theorem lift_r {A : Option Addr} {c n : Nat} {m : List Pt} {k t : Int} (hm : ptE m = 0) (hk : 0 ≤ k ∧ k < 3) (ht : ¬ (t < -100000 ∨ 100000 < t)) {w : World} (R : Rd w A 2 m.length (fun i => ptC (m.getD i pt0))) (hn : n = m.length) :
    Calls Try.prog 27 #[.slice A n c, .int .i64 k, .int .i64 t] w (RetP (RowR (fun v => .tuple #[v, .int .i64 0]) 30 3 ((m.map (liftS k t)).map spC) w)) := by
  subst hn
  have e : liE m k t = 0 := by rw [liE, if_neg (not_not_intro hm), if_neg (by omega), if_neg ht]
  exact row_v (Lift_c A c m (by have := (ptE0 hm).1; omega) k t w R) e (by rw [liftL, if_pos e])
theorem box_r {A : Option Addr} {c n : Nat} {l : List Sp} {x : Sp × Sp} (hr : spE l = 0) (h0 : 0 < l.length) (hx : boxF (l.getD 0 sp0, l.getD 0 sp0) l = x) {w : World} (R : Rd w A 3 l.length (fun i => spC (l.getD i sp0))) (hn : n = l.length) :
    Calls Try.prog 34 #[.slice A n c] w (RetP (Val (.tuple #[.agg #[.int .i64 (x.1).1, .int .i64 (x.1).2.1, .int .i64 (x.1).2.2], .agg #[.int .i64 (x.2).1, .int .i64 (x.2).2.1, .int .i64 (x.2).2.2], .int .i64 0]) w)) := by
  subst hn
  subst hx
  have e : boxE l = 0 := by rw [boxE, if_neg (not_not_intro hr), if_neg (by omega)]
  exact val_of (Box_c A c l (by have := (spE0 hr).1; omega) w R) (by rw [boxS, if_pos e, e])
end Go.Proofs.Ytnlddjbeekfjlaa
