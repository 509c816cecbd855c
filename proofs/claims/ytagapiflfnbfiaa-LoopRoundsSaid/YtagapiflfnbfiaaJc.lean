/- How far features are from an end: the search in plain words. No statement of the seat is proved here. -/
import Derived.Test.YtagapiflfnbfiaaJb
namespace Go.Proofs.Ytagapiflfnbfiaa
set_option linter.unusedVariables false
set_option linter.unusedSimpArgs false
open Go Go.RowKit
abbrev Far := List (ByteArray × Nat)
def farG (F : Far) (s : ByteArray) : Option Nat := (F.find? fun p => decide (p.1 = s)).map (·.2)
theorem farG_snoc_some {F : Far} {s t : ByteArray} {d k : Nat} (h : farG F s = some k) : farG (F ++ [(t, d)]) s = some k := by
  unfold farG at *
  rw [List.find?_append]
  cases hf : F.find? (fun p => decide (p.1 = s)) with
  | none => rw [hf] at h; cases h
  | some p => rw [hf] at h; exact h
theorem farG_snoc_same {F : Far} {t : ByteArray} {d : Nat} (h : farG F t = none) : farG (F ++ [(t, d)]) t = some d := by
  unfold farG at *
  rw [List.find?_append, Option.map_eq_none_iff.1 h]
  simp
theorem farG_snoc_other {F : Far} {s t : ByteArray} {d : Nat} (h : ¬ s = t) : farG (F ++ [(t, d)]) s = farG F s := by
  unfold farG
  rw [List.find?_append]
  have h2 : ¬ t = s := fun e => h e.symm
  cases F.find? (fun p => decide (p.1 = s)) with
  | none => simp [h2]
  | some p => rfl
theorem farG_mem {F : Far} {s : ByteArray} : (farG F s).isSome = true ↔ s ∈ F.map (·.1) := by
  unfold farG
  rw [Option.isSome_map, List.find?_isSome]
  constructor
  · rintro ⟨p, hp, e⟩
    simp only [decide_eq_true_eq] at e
    exact e ▸ List.mem_map_of_mem hp
  · intro h
    obtain ⟨p, hp, e⟩ := List.mem_map.1 h
    exact ⟨p, hp, by simpa using e⟩
section
variable (l : List Dm)
def stepF (d : Nat) (s : Far × List ByteArray) (x : Lk) : Far × List ByteArray :=
  if (farG s.1 (stoE l x)).isSome = true then s else (s.1 ++ [(stoE l x, d + 1)], s.2 ++ [stoE l x])
def relF (d : Nat) (xs : List Lk) (s : Far × List ByteArray) : Far × List ByteArray := xs.foldl (stepF l d) s
def bfsF (N : ByteArray → List Lk) : Nat → Far → List ByteArray → Far
  | 0, F, _ => F
  | _ + 1, F, [] => F
  | f + 1, F, a :: q => bfsF N f (relF l ((farG F a).getD 0) (N a) (F, q)).1 (relF l ((farG F a).getD 0) (N a) (F, q)).2
end
/-- what is known of the search: the keys are apart, all of them of K; the queue is known; each feature but the end has one that is nearer -/
structure FarI (l : List Dm) (N : ByteArray → List Lk) (K : List ByteArray) (to : ByteArray) (F : Far) (q : List ByteArray) : Prop where
  nodup : (F.map (·.1)).Nodup
  sub : ∀ s ∈ F.map (·.1), s = to ∨ s ∈ K
  que : ∀ s ∈ q, (farG F s).isSome = true
  le : ∀ s d, farG F s = some d → d < F.length
  end_ : farG F to = some 0
  near : ∀ s d, farG F s = some d → ¬ s = to → ∃ e, d = e + 1 ∧ ∃ y ∈ N s, farG F (stoE l y) = some e
  cnt : q.length ≤ F.length
theorem FarI.start (l : List Dm) (N : ByteArray → List Lk) (K : List ByteArray) (to : ByteArray) : FarI l N K to [(to, 0)] [to] where
  nodup := by simp
  sub := by simp
  que := by intro s hs; simp at hs; subst hs; simp [farG]
  le := by
    intro s d h
    unfold farG at h
    by_cases hs : to = s
    · simp [hs] at h; simp; omega
    · simp [hs] at h
  end_ := by simp [farG]
  near := by
    intro s d h hs
    unfold farG at h
    simp at h
    exact absurd h.1.symm hs
  cnt := by simp
theorem FarI.len {l : List Dm} {N : ByteArray → List Lk} {K : List ByteArray} {to : ByteArray} {F : Far} {q : List ByteArray} (I : FarI l N K to F q) : F.length ≤ K.length + 1 := by
  have h : (F.map (·.1)).length ≤ (to :: K).length := I.nodup.length_le_of_subset (fun s hs => by
    rcases I.sub s hs with h | h
    · rw [h]; simp
    · exact List.mem_cons_of_mem _ h)
  rw [List.length_map, List.length_cons] at h
  exact h
theorem FarI.pop {l : List Dm} {N : ByteArray → List Lk} {K : List ByteArray} {to a : ByteArray} {F : Far} {q : List ByteArray} (I : FarI l N K to F (a :: q)) : FarI l N K to F q :=
  ⟨I.nodup, I.sub, fun s hs => I.que s (List.mem_cons_of_mem _ hs), I.le, I.end_, I.near, by have := I.cnt; rw [List.length_cons] at this; omega⟩
/-- a link seen -/
theorem FarI.step {l : List Dm} {N : ByteArray → List Lk} {K : List ByteArray} {to a : ByteArray} {F : Far} {q : List ByteArray} {d : Nat} {x : Lk} (I : FarI l N K to F q) (ha : farG F a = some d) (hK : stoE l x ∈ K) (hy : ∃ y ∈ N (stoE l x), stoE l y = a) :
    FarI l N K to (stepF l d (F, q) x).1 (stepF l d (F, q) x).2 ∧ farG (stepF l d (F, q) x).1 a = some d := by
  unfold stepF
  split
  · exact ⟨I, ha⟩
  · rename_i hno
    have hno' : farG F (stoE l x) = none := by
      cases h : farG F (stoE l x) with
      | none => rfl
      | some _ => rw [h] at hno; exact absurd rfl hno
    have hkeep : ∀ s k, farG F s = some k → farG (F ++ [(stoE l x, d + 1)]) s = some k := fun s k h => farG_snoc_some h
    refine ⟨⟨?_, ?_, ?_, ?_, hkeep _ _ I.end_, ?_, ?_⟩, hkeep _ _ ha⟩
    · show ((F ++ [(stoE l x, d + 1)]).map (·.1)).Nodup
      rw [List.map_append, List.nodup_append]
      refine ⟨I.nodup, by simp, fun s hs t ht => ?_⟩
      simp at ht
      subst ht
      intro e
      subst e
      rw [← farG_mem, hno'] at hs
      cases hs
    · intro s hs
      rw [List.map_append] at hs
      rcases List.mem_append.1 hs with h | h
      · exact I.sub s h
      · simp at h; subst h; exact .inr hK
    · intro s hs
      rcases List.mem_append.1 hs with h | h
      · have := I.que s h
        obtain ⟨k, hk⟩ := Option.isSome_iff_exists.1 this
        rw [hkeep s k hk]; rfl
      · simp at h; subst h
        rw [farG_snoc_same hno']; rfl
    · intro s k h
      rw [List.length_append]
      by_cases hs : s = stoE l x
      · subst hs
        rw [farG_snoc_same hno'] at h
        injection h with h
        have := I.le a d ha
        simp; omega
      · rw [farG_snoc_other hs] at h
        have := I.le s k h
        simp; omega
    · intro s k h hs
      by_cases he : s = stoE l x
      · subst he
        rw [farG_snoc_same hno'] at h
        injection h with h
        obtain ⟨y, hy1, hy2⟩ := hy
        exact ⟨d, h.symm, y, hy1, by rw [hy2]; exact hkeep _ _ ha⟩
      · rw [farG_snoc_other he] at h
        obtain ⟨e, h1, y, h2, h3⟩ := I.near s k h hs
        exact ⟨e, h1, y, h2, hkeep _ _ h3⟩
    · have := I.cnt
      show (q ++ [stoE l x]).length ≤ (F ++ [(stoE l x, d + 1)]).length
      simp; omega
theorem FarI.rel {l : List Dm} {N : ByteArray → List Lk} {K : List ByteArray} {to a : ByteArray} {d : Nat} : ∀ (xs : List Lk) (F : Far) (q : List ByteArray), FarI l N K to F q → farG F a = some d → (∀ x ∈ xs, stoE l x ∈ K ∧ ∃ y ∈ N (stoE l x), stoE l y = a) →
    FarI l N K to (relF l d xs (F, q)).1 (relF l d xs (F, q)).2 ∧ farG (relF l d xs (F, q)).1 a = some d
  | [], F, q, I, ha, _ => ⟨I, ha⟩
  | x :: xs, F, q, I, ha, hx => by
    have h1 := I.step ha (hx x (by simp)).1 (hx x (by simp)).2
    exact FarI.rel xs _ _ h1.1 h1.2 (fun y hy => hx y (List.mem_cons_of_mem _ hy))
/-- how much is left to do -/
def leftF (K : List ByteArray) (F : Far) (q : List ByteArray) : Nat := 2 * (K.length + 1 - F.length) + q.length
theorem step_left {l : List Dm} {K : List ByteArray} {d : Nat} {x : Lk} {s : Far × List ByteArray} (h : (stepF l d s x).1.length ≤ K.length + 1) : leftF K (stepF l d s x).1 (stepF l d s x).2 ≤ leftF K s.1 s.2 := by
  unfold stepF at *
  split
  · exact Nat.le_refl _
  · rename_i hno
    rw [if_neg hno] at h
    unfold leftF
    simp at *
    omega
theorem rel_left {l : List Dm} {N : ByteArray → List Lk} {K : List ByteArray} {to a : ByteArray} {d : Nat} : ∀ (xs : List Lk) (F : Far) (q : List ByteArray), FarI l N K to F q → farG F a = some d → (∀ x ∈ xs, stoE l x ∈ K ∧ ∃ y ∈ N (stoE l x), stoE l y = a) →
    leftF K (relF l d xs (F, q)).1 (relF l d xs (F, q)).2 ≤ leftF K F q
  | [], F, q, _, _, _ => Nat.le_refl _
  | x :: xs, F, q, I, ha, hx => by
    have h1 := I.step ha (hx x (by simp)).1 (hx x (by simp)).2
    exact Nat.le_trans (rel_left xs _ _ h1.1 h1.2 (fun y hy => hx y (List.mem_cons_of_mem _ hy))) (step_left h1.1.len)
/-- the whole search -/
def farR (l : List Dm) (N : ByteArray → List Lk) (K : List ByteArray) (to : ByteArray) : Far := bfsF l N (leftF K [(to, 0)] [to]) [(to, 0)] [to]
/-- the way from a feature to the end, d links long -/
def wayF (l : List Dm) (N : ByteArray → List Lk) (F : Far) : Nat → ByteArray → List Lk
  | 0, _ => []
  | d + 1, s => match (N s).find? fun x => decide (farG F (stoE l x) = some d) with
    | some x => x :: wayF l N F d (stoE l x)
    | none => []
theorem wayF_some {l : List Dm} {N : ByteArray → List Lk} {F : Far} {d : Nat} {s : ByteArray} {x : Lk} (h : (N s).find? (fun x => decide (farG F (stoE l x) = some d)) = some x) : wayF l N F (d + 1) s = x :: wayF l N F d (stoE l x) := by
  rw [wayF, h]
end Go.Proofs.Ytagapiflfnbfiaa
