/- The search for the shortest chain: what it finds is a chain without doubled features, and none is shorter. No statement of the seat is proved here. -/
import Derived.Test.YtagapiflfnbfiaaJk
import Derived.Test.YtagapiflfnbfiaaJy
namespace Go.Proofs.Ytagapiflfnbfiaa
set_option linter.unusedVariables false
set_option linter.unusedSimpArgs false
open Go Go.RowKit
/-- all links that begin at s were seen -/
def closF (l : List Dm) (N : ByteArray → List Lk) (F : Far) (s : ByteArray) (i : Nat) : Prop := ∀ y ∈ N s, ∃ e, farG F (stoE l y) = some e ∧ e ≤ i + 1
structure FarJ (l : List Dm) (N : ByteArray → List Lk) (F : Far) (q : List ByteArray) : Prop where
  sorted : q.Pairwise fun s t => ∀ i j, farG F s = some i → farG F t = some j → i ≤ j
  ub : ∀ t ∈ q, ∀ s i j, farG F s = some i → farG F t = some j → i ≤ j + 1
  cl : ∀ s i, farG F s = some i → s ∈ q ∨ closF l N F s i
/-- in the midst of the links of a -/
structure FarK (l : List Dm) (N : ByteArray → List Lk) (a : ByteArray) (d : Nat) (pre : List Lk) (F : Far) (q : List ByteArray) : Prop where
  at_ : farG F a = some d
  que : ∀ t ∈ q, (farG F t).isSome = true
  sorted : q.Pairwise fun s t => ∀ i j, farG F s = some i → farG F t = some j → i ≤ j
  lo : ∀ t ∈ q, ∀ j, farG F t = some j → d ≤ j
  ub : ∀ s i, farG F s = some i → i ≤ d + 1
  cl : ∀ s i, farG F s = some i → s ∈ q ∨ s = a ∨ closF l N F s i
  seen : ∀ y ∈ pre, ∃ e, farG F (stoE l y) = some e ∧ e ≤ d + 1
theorem farG_snoc_inv {F : Far} {s t : ByteArray} {d i : Nat} (ht : farG F t = none) (h : farG (F ++ [(t, d)]) s = some i) : (s = t ∧ i = d) ∨ (¬ s = t ∧ farG F s = some i) := by
  by_cases hs : s = t
  · subst hs
    rw [farG_snoc_same ht] at h
    exact .inl ⟨rfl, by injection h with h; exact h.symm⟩
  · rw [farG_snoc_other hs] at h
    exact .inr ⟨hs, h⟩
theorem FarK.step {l : List Dm} {N : ByteArray → List Lk} {a : ByteArray} {d : Nat} {pre : List Lk} {F : Far} {q : List ByteArray} (K : FarK l N a d pre F q) (x : Lk) : FarK l N a d (pre ++ [x]) (stepF l d (F, q) x).1 (stepF l d (F, q) x).2 := by
  cases hx : farG F (stoE l x) with
  | some k =>
    rw [stepF_yes hx]
    refine ⟨K.at_, K.que, K.sorted, K.lo, K.ub, K.cl, fun y hy => ?_⟩
    rcases List.mem_append.1 hy with hy | hy
    · exact K.seen y hy
    · simp at hy; subst hy; exact ⟨k, hx, K.ub _ _ hx⟩
  | none =>
    rw [stepF_no hx]
    have keep : ∀ {s i}, farG F s = some i → farG (F ++ [(stoE l x, d + 1)]) s = some i := fun h => farG_snoc_some h
    have hq : ∀ t ∈ q, ∀ j, farG (F ++ [(stoE l x, d + 1)]) t = some j → farG F t = some j := fun t ht j h => by
      rcases farG_snoc_inv hx h with ⟨rfl, _⟩ | ⟨_, h⟩
      · have := K.que _ ht; rw [hx] at this; cases this
      · exact h
    have hub : ∀ s i, farG (F ++ [(stoE l x, d + 1)]) s = some i → i ≤ d + 1 := fun s i h => by
      rcases farG_snoc_inv hx h with ⟨_, rfl⟩ | ⟨_, h⟩
      · exact Nat.le_refl _
      · exact K.ub s i h
    refine ⟨keep K.at_, fun t ht => ?_, ?_, fun t ht j h => ?_, hub, fun s i h => ?_, fun y hy => ?_⟩
    · rcases List.mem_append.1 ht with ht | ht
      · obtain ⟨k, hk⟩ := Option.isSome_iff_exists.1 (K.que t ht)
        rw [keep hk]; rfl
      · simp at ht; subst ht; rw [farG_snoc_same hx]; rfl
    · refine List.pairwise_append.2 ⟨?_, by simp, fun s hs t ht i j h1 h2 => ?_⟩
      · exact K.sorted.imp_of_mem fun {s t} hs ht h i j h1 h2 => h i j (hq s hs i h1) (hq t ht j h2)
      · simp at ht; subst ht
        rw [farG_snoc_same hx] at h2
        injection h2 with h2
        have := hub s i h1
        omega
    · rcases List.mem_append.1 ht with ht | ht
      · exact K.lo t ht j (hq t ht j h)
      · simp at ht; subst ht
        rw [farG_snoc_same hx] at h
        injection h with h
        omega
    · rcases farG_snoc_inv hx h with ⟨rfl, _⟩ | ⟨_, h⟩
      · exact .inl (by simp)
      · rcases K.cl s i h with h1 | h1 | h1
        · exact .inl (List.mem_append_left _ h1)
        · exact .inr (.inl h1)
        · refine .inr (.inr fun y hy => ?_)
          obtain ⟨e, h2, h3⟩ := h1 y hy
          exact ⟨e, keep h2, h3⟩
    · rcases List.mem_append.1 hy with hy | hy
      · obtain ⟨e, h2, h3⟩ := K.seen y hy
        exact ⟨e, keep h2, h3⟩
      · simp at hy; subst hy
        exact ⟨d + 1, farG_snoc_same hx, Nat.le_refl _⟩
theorem FarK.rel {l : List Dm} {N : ByteArray → List Lk} {a : ByteArray} {d : Nat} : ∀ (xs pre : List Lk) (F : Far) (q : List ByteArray), FarK l N a d pre F q → FarK l N a d (pre ++ xs) (relF l d xs (F, q)).1 (relF l d xs (F, q)).2
  | [], pre, F, q, K => by rw [List.append_nil]; exact K
  | x :: xs, pre, F, q, K => by
    have h := FarK.rel xs (pre ++ [x]) _ _ (K.step x)
    rw [List.append_assoc] at h
    exact h
theorem FarJ.round {l : List Dm} {N : ByteArray → List Lk} {F : Far} {a : ByteArray} {q : List ByteArray} {d : Nat} (J : FarJ l N F (a :: q)) (hq : ∀ t ∈ a :: q, (farG F t).isSome = true) (ha : farG F a = some d) :
    FarJ l N (relF l d (N a) (F, q)).1 (relF l d (N a) (F, q)).2 := by
  obtain ⟨h1, h2⟩ := List.pairwise_cons.1 J.sorted
  have K : FarK l N a d [] F q := ⟨ha, fun t ht => hq t (List.mem_cons_of_mem _ ht), h2, fun t ht j h => h1 t ht d j ha h, fun s i h => J.ub a (List.mem_cons_self ..) s i d h ha, fun s i h => by
    rcases J.cl s i h with h3 | h3
    · rcases List.mem_cons.1 h3 with h3 | h3
      · exact .inr (.inl h3)
      · exact .inl h3
    · exact .inr (.inr h3), fun y hy => by cases hy⟩
  have K2 := FarK.rel (N a) [] F q K
  rw [List.nil_append] at K2
  refine ⟨K2.sorted, fun t ht s i j hs hj => ?_, fun s i h => ?_⟩
  · have := K2.ub s i hs
    have := K2.lo t ht j hj
    omega
  · rcases K2.cl s i h with h3 | h3 | h3
    · exact .inl h3
    · subst h3
      rw [K2.at_] at h
      injection h with h
      subst h
      exact .inr K2.seen
    · exact .inr h3
theorem bfs_FarJ {l : List Dm} {L : List Lk} (H : NetOk l L) {to : ByteArray} : ∀ (f : Nat) (F : Far) (q : List ByteArray), FarI l (atS l L) (L.map (stoE l)) to F q → FarJ l (atS l L) F q → leftF (L.map (stoE l)) F q ≤ f → FarJ l (atS l L) (bfsF l (atS l L) f F q) []
  | 0, F, q, I, J, h => by
    have hq : q = [] := List.length_eq_zero_iff.1 (by unfold leftF at h; omega)
    subst hq
    exact J
  | f + 1, F, [], I, J, h => J
  | f + 1, F, a :: q, I, J, h => by
    obtain ⟨d, hd⟩ := Option.isSome_iff_exists.1 (I.que a (by simp))
    have h1 := FarI.rel (atS l L a) F q I.pop hd (H.at_ a)
    have h2 := rel_left (atS l L a) F q I.pop hd (H.at_ a)
    have h3 : leftF (L.map (stoE l)) F (a :: q) = leftF (L.map (stoE l)) F q + 1 := rfl
    rw [bfsF, hd]
    exact bfs_FarJ H f _ _ h1.1 (J.round I.que hd) (by show leftF _ (relF l d (atS l L a) (F, q)).1 (relF l d (atS l L a) (F, q)).2 ≤ f; omega)
theorem farT_J {l : List Dm} {L : List Lk} (H : NetOk l L) (to : ByteArray) : FarJ l (atS l L) (farT l L to) [] := by
  refine bfs_FarJ H _ _ _ (FarI.start _ _ _ _) ⟨by simp, fun t ht s i j hs hj => ?_, fun s i h => ?_⟩ (Nat.le_refl _)
  · unfold farG at hs
    by_cases e : to = s
    · simp [e] at hs; omega
    · simp [e] at hs
  · unfold farG at h
    by_cases e : to = s
    · exact .inl (by simp [e])
    · simp [e] at h
/-- no chain is shorter -/
theorem far_le {l : List Dm} {L : List Lk} (H : NetOk l L) (to : ByteArray) : ∀ {c : List Lk} {a b : ByteArray} {i : Nat}, farG (farT l L to) a = some i → lnk l L a c b → ∃ e, farG (farT l L to) b = some e ∧ e ≤ i + c.length
  | [], a, b, i, h, h2 => ⟨i, by rw [← show a = b from h2]; exact h, Nat.le_refl _⟩
  | y :: c, a, b, i, h, ⟨h1, h2, h3⟩ => by
    rcases (farT_J H to).cl a i h with h4 | h4
    · cases h4
    · obtain ⟨e, h5, h6⟩ := h4 y (atS_mem.2 ⟨h1, h2⟩)
      obtain ⟨e2, h7, h8⟩ := far_le H to h5 h3
      exact ⟨e2, h7, by simp; omega⟩
theorem sh_least {l : List Dm} {L : List Lk} (H : NetOk l L) (hL : ∀ x ∈ L, flp x ∈ L) {c : List Lk} {a to : ByteArray} (h : lnk l L a c to) : ∃ e, farG (farT l L to) a = some e ∧ e ≤ c.length := by
  have h1 := lnk_rev hL h
  obtain ⟨e, h2, h3⟩ := far_le H to (farT_I H to).end_ h1
  exact ⟨e, h2, by simpa using h3⟩
/-- the way is a chain -/
theorem way_lnk {l : List Dm} {L : List Lk} (H : NetOk l L) (to : ByteArray) : ∀ {d : Nat} {s : ByteArray}, farG (farT l L to) s = some d → lnk l L s (wayF l (atS l L) (farT l L to) d s) to ∧ (wayF l (atS l L) (farT l L to) d s).length = d ∧ (∀ t ∈ (wayF l (atS l L) (farT l L to) d s).map (stoE l), ∃ e, farG (farT l L to) t = some e ∧ e < d) ∧ (s :: (wayF l (atS l L) (farT l L to) d s).map (stoE l)).Nodup
  | 0, s, h => by
    have hs : s = to := Classical.byContradiction fun hn => by
      obtain ⟨e, h1, _⟩ := (farT_I H to).near s 0 h hn
      omega
    exact ⟨hs, rfl, (fun t ht => by simp [wayF] at ht), (by simp [wayF])⟩
  | d + 1, s, h => by
    have hs : ¬ s = to := fun e => by
      subst e
      rw [(farT_I H s).end_] at h
      injection h with h
      omega
    obtain ⟨e, h1, y, hy, hfy⟩ := (farT_I H to).near s (d + 1) h hs
    have he : e = d := by omega
    subst he
    cases hf : (atS l L s).find? (fun x => decide (farG (farT l L to) (stoE l x) = some e)) with
    | none => rw [List.find?_eq_none] at hf; exact absurd hfy (by simpa using hf y hy)
    | some x =>
      have hx := List.mem_of_find?_eq_some hf
      have hfx : farG (farT l L to) (stoE l x) = some e := by simpa using List.find?_some hf
      obtain ⟨h2, h3, h4, h5⟩ := way_lnk H to hfx
      obtain ⟨h6, h7⟩ := atS_mem.1 hx
      rw [wayF_some hf]
      refine ⟨⟨h6, h7, h2⟩, by rw [List.length_cons, h3], fun t ht => ?_, ?_⟩
      · rw [List.map_cons] at ht
        rcases List.mem_cons.1 ht with rfl | ht
        · exact ⟨e, hfx, Nat.lt_succ_self _⟩
        · obtain ⟨k, h8, h9⟩ := h4 t ht
          exact ⟨k, h8, by omega⟩
      · rw [List.nodup_cons, List.map_cons]
        refine ⟨fun hm => ?_, h5⟩
        rcases List.mem_cons.1 hm with e2 | hm
        · rw [e2, hfx] at h
          injection h with h
          omega
        · obtain ⟨k, h8, h9⟩ := h4 s hm
          rw [h8] at h
          injection h with h
          omega
theorem sh_gp {l : List Dm} {L : List Lk} (H : NetOk l L) {a to : ByteArray} (h : (shS l L a to).2 = true) : gp l L a (shS l L a to).1 to := by
  cases hf : farG (farT l L to) a with
  | none => rw [shS_no hf] at h; cases h
  | some d =>
    rw [shS_yes hf]
    obtain ⟨h1, _, _, h4⟩ := way_lnk H to hf
    exact ⟨h1, h4⟩
theorem sh_min {l : List Dm} {L : List Lk} (H : NetOk l L) (hL : ∀ x ∈ L, flp x ∈ L) {c : List Lk} {a to : ByteArray} (h : lnk l L a c to) : (shS l L a to).2 = true ∧ (shS l L a to).1.length ≤ c.length := by
  obtain ⟨e, h1, h2⟩ := sh_least H hL h
  rw [shS_yes h1]
  exact ⟨rfl, by rw [(way_lnk H to h1).2.1]; exact h2⟩
end Go.Proofs.Ytagapiflfnbfiaa
