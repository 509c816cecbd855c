/- Nets of links: a map of rows of the call's own. No statement of the seat is proved here. -/
import Derived.Test.YtagapiflfnbfiaaLf
import Derived.Test.YtagapiflfnbfiaaEngQ
namespace Go.Proofs.Ytagapiflfnbfiaa
set_option linter.unusedVariables false
set_option linter.unusedSimpArgs false
open Go Go.RowKit
open Go.Maps (Keyed)
structure NR where
  s : ByteArray
  A : Option Addr
  c : Nat
/-- the links that begin at a feature -/
def atS (l : List Dm) (L : List Lk) (s : ByteArray) : List Lk := L.filter fun x => decide (begE l x = s)
theorem atS_snoc_same {l : List Dm} {L : List Lk} {x : Lk} : atS l (L ++ [x]) (begE l x) = atS l L (begE l x) ++ [x] := by simp [atS]
theorem atS_snoc_other {l : List Dm} {L : List Lk} {x : Lk} {s : ByteArray} (h : ¬ s = begE l x) : atS l (L ++ [x]) s = atS l L s := by
  have h2 : ¬ begE l x = s := fun e => h e.symm
  simp [atS, h2]
abbrev sK (s : ByteArray) : Lit := .string s.data.toList
theorem sK_inj {a b : ByteArray} (h : sK a = sK b) : a = b := by injection h with h; exact data_inj h
def rowH (l : List Dm) (L : List Lk) (r : NR) : HO := .rw 0 (.slice r.A (atS l L r.s).length r.c) 59 2 ((atS l L r.s).map lkC)
theorem rowH_other {l : List Dm} {L : List Lk} {x : Lk} {r : NR} (h : ¬ r.s = begE l x) : rowH l (L ++ [x]) r = rowH l L r := by
  unfold rowH; rw [atS_snoc_other h]
def slR (l : List Dm) (L : List Lk) (r : NR) : Value := .slice r.A (atS l L r.s).length r.c
/-- the net of links L in block b -/
def NetI (l : List Dm) (b : Nat) (L : List Lk) (h : List HO) : Prop :=
  ∃ (n : Nat) (m : Lit → Option Value) (rows : List NR), n ≤ L.length ∧ h.Perm (.pr b (MapV Try.prog 9 n m) :: rows.map (rowH l L)) ∧ (rows.map NR.s).Nodup ∧
    (∀ s, m (sK s) = (rows.find? fun r => decide (r.s = s)).map (slR l L)) ∧ ∀ s, s ∉ rows.map NR.s → atS l L s = []
theorem NetI.start (l : List Dm) (b : Nat) : NetI l b [] [.pr b (MapV Try.prog 9 0 (fun _ => none))] :=
  ⟨0, _, [], Nat.le_refl _, List.Perm.refl _, List.nodup_nil, fun _ => rfl, fun _ _ => rfl⟩
theorem NetI.perm {l : List Dm} {b : Nat} {L : List Lk} {h h' : List HO} (N : NetI l b L h) (hp : h'.Perm h) : NetI l b L h' := by
  obtain ⟨n, m, rows, h1, h2, h3⟩ := N
  exact ⟨n, m, rows, h1, hp.trans h2, h3⟩
theorem find_key {rows : List NR} {r : NR} (hn : (rows.map NR.s).Nodup) (hr : r ∈ rows) : rows.find? (fun r' => decide (r'.s = r.s)) = some r := by
  induction rows with
  | nil => cases hr
  | cons a t ih =>
    rw [List.map_cons, List.nodup_cons] at hn
    rcases List.mem_cons.1 hr with rfl | hr
    · rw [List.find?_cons_of_pos (by simp)]
    · rw [List.find?_cons_of_neg (by
        have : ¬ a.s = r.s := fun e => hn.1 (e ▸ List.mem_map_of_mem hr)
        simpa using this)]
      exact ih hn.2 hr
theorem find_none {rows : List NR} {s : ByteArray} (h : s ∉ rows.map NR.s) : rows.find? (fun r' => decide (r'.s = s)) = none := by
  rw [List.find?_eq_none]
  intro r hr
  have : ¬ r.s = s := fun e => h (e ▸ List.mem_map_of_mem hr)
  simpa using this
/-- the row of a feature, brought forward -/
theorem NetI.split {l : List Dm} {b : Nat} {L : List Lk} {h pre : List HO} {w0 w : World} {M : List Nat} (N : NetI l b L h) (S : Sat w0 M (pre ++ h) w) (s : ByteArray) :
    ∃ (A : Option Addr) (c n : Nat) (m : Lit → Option Value) (rest : List NR), n ≤ L.length ∧ (m (sK s)).getD (.slice none 0 0) = .slice A (atS l L s).length c ∧
      Sat w0 M (pre ++ (.rw 0 (.slice A (atS l L s).length c) 59 2 ((atS l L s).map lkC) :: .pr b (MapV Try.prog 9 n m) :: rest.map (rowH l L))) w ∧
      s ∉ rest.map NR.s ∧ (rest.map NR.s).Nodup ∧ (∀ s', ¬ s' = s → m (sK s') = (rest.find? fun r => decide (r.s = s')).map (slR l L)) ∧ ∀ s', ¬ s' = s → s' ∉ rest.map NR.s → atS l L s' = [] := by
  obtain ⟨n, m, rows, hn, hp, hnd, hm, he⟩ := N
  by_cases hs : s ∈ rows.map NR.s
  · obtain ⟨r, hr, rfl⟩ := List.mem_map.1 hs
    obtain ⟨r1, r2, rfl⟩ := List.append_of_mem hr
    have hfk := find_key hnd hr
    have hpm : (r1 ++ r :: r2).Perm (r :: (r1 ++ r2)) := List.perm_middle
    have hnd2 : ((r :: (r1 ++ r2)).map NR.s).Nodup := ((hpm.map NR.s).nodup_iff).1 hnd
    rw [List.map_cons, List.nodup_cons] at hnd2
    refine ⟨r.A, r.c, n, m, r1 ++ r2, hn, ?_, ?_, hnd2.1, hnd2.2, fun s' hs' => ?_, fun s' hs' hn' => ?_⟩
    · rw [hm, hfk]; rfl
    · refine S.perm' (List.Perm.append_left _ (hp.trans ?_))
      refine (List.Perm.cons _ (hpm.map (rowH l L))).trans ?_
      rw [List.map_cons]
      exact List.Perm.swap _ _ _
    · rw [hm, List.find?_append, List.find?_append, List.find?_cons_of_neg (by simpa using fun e : r.s = s' => hs' e.symm)]
    · refine he s' fun hin => hn' ?_
      rw [List.map_append, List.map_cons] at hin
      rw [List.map_append]
      rcases List.mem_append.1 hin with h1 | h1
      · exact List.mem_append_left _ h1
      · rcases List.mem_cons.1 h1 with h1 | h1
        · exact absurd h1 hs'
        · exact List.mem_append_right _ h1
  · have h0 := he s hs
    refine ⟨none, 0, n, m, rows, hn, ?_, ?_, hs, hnd, fun s' _ => hm s', fun s' _ hn' => he s' hn'⟩
    · rw [hm, find_none hs, h0]; rfl
    · rw [h0]
      refine (S.addNil 59 2).perm' ?_
      refine List.Perm.symm ?_
      refine List.perm_middle.trans ?_
      refine List.Perm.cons _ (List.Perm.append_left _ hp.symm)
/-- a link more -/
theorem NetI.put {l : List Dm} {b n : Nat} {L : List Lk} {m : Lit → Option Value} {rest : List NR} {x : Lk} (hn : n ≤ L.length) (hs : begE l x ∉ rest.map NR.s) (hnd : (rest.map NR.s).Nodup)
    (hm : ∀ s', ¬ s' = begE l x → m (sK s') = (rest.find? fun r => decide (r.s = s')).map (slR l L)) (he : ∀ s', ¬ s' = begE l x → s' ∉ rest.map NR.s → atS l L s' = []) (A : Option Addr) (c : Nat) :
    NetI l b (L ++ [x]) (.rw 0 (.slice A (((atS l L (begE l x)).map lkC).length + 1) c) 59 2 ((atS l L (begE l x)).map lkC ++ [lkC x]) :: .pr b (MapV Try.prog 9 (n + 1) (putV m (sK (begE l x)) (.slice A (((atS l L (begE l x)).map lkC).length + 1) c))) :: rest.map (rowH l L)) := by
  have e1 : atS l (L ++ [x]) (begE l x) = atS l L (begE l x) ++ [x] := atS_snoc_same
  have e2 : rest.map (rowH l (L ++ [x])) = rest.map (rowH l L) := List.map_congr_left fun r hr => rowH_other fun e => hs (e ▸ List.mem_map_of_mem hr)
  have e3 : ((atS l L (begE l x)).map lkC).length + 1 = (atS l (L ++ [x]) (begE l x)).length := by rw [e1, List.length_map, List.length_append]; rfl
  refine ⟨n + 1, putV m (sK (begE l x)) (.slice A (((atS l L (begE l x)).map lkC).length + 1) c), ⟨begE l x, A, c⟩ :: rest, by rw [List.length_append]; simpa using hn, ?_, ?_, fun s' => ?_, fun s' hs' => ?_⟩
  · rw [List.map_cons, e2]
    refine List.Perm.trans (List.Perm.swap _ _ _) ?_
    refine List.Perm.cons _ (List.Perm.of_eq ?_)
    unfold rowH
    rw [e1, List.map_append, List.length_append, List.length_map]
    rfl
  · rw [List.map_cons, List.nodup_cons]; exact ⟨hs, hnd⟩
  · by_cases h : s' = begE l x
    · subst h
      rw [putV_same, List.find?_cons_of_pos (by simp), e3]
      rfl
    · rw [putV_other (fun e => h (sK_inj e)), hm s' h, List.find?_cons_of_neg (by simpa using fun e : begE l x = s' => h e.symm)]
      cases hf : rest.find? (fun r => decide (r.s = s')) with
      | none => rfl
      | some r =>
        have h1 := List.find?_some hf
        simp only [decide_eq_true_eq] at h1
        show some (slR l L r) = some (slR l (L ++ [x]) r)
        unfold slR
        rw [atS_snoc_other (by rw [h1]; exact h)]
  · rw [List.map_cons, List.mem_cons, not_or] at hs'
    rw [atS_snoc_other hs'.1]
    exact he s' hs'.1 hs'.2
/-- a net that was there -/
structure NetRd (w : World) (l : List Dm) (b : Nat) (L : List Lk) : Prop where
  at_ : ∃ (n : Nat) (m : Lit → Option Value), OldP w [] b (MapV Try.prog 9 n m) ∧ ∀ s, ∃ (A : Option Addr) (c : Nat), (m (sK s)).getD (.slice none 0 0) = .slice A (atS l L s).length c ∧ Rd w A 2 (atS l L s).length (fun i => lkC ((atS l L s).getD i lk0))
theorem NetRd.keeps {w w' : World} {l : List Dm} {b : Nat} {L : List Lk} (R : NetRd w l b L) (K : Keeps [] w w') : NetRd w' l b L := by
  obtain ⟨n, m, h1, h2⟩ := R.at_
  refine ⟨n, m, h1.keeps K, fun s => ?_⟩
  obtain ⟨A, c, h3, h4⟩ := h2 s
  exact ⟨A, c, h3, h4.call K⟩
theorem NetI.rd {l : List Dm} {b : Nat} {L : List Lk} {h pre : List HO} {w0 w : World} {M : List Nat} (N : NetI l b L h) (S : Sat w0 M (pre ++ h) w) : NetRd w l b L := by
  obtain ⟨n, m, rows, hn, hp, hnd, hm, he⟩ := N
  have S1 : Sat w0 M (.pr b (MapV Try.prog 9 n m) :: (pre ++ rows.map (rowH l L))) w := S.perm' ((List.Perm.append_left _ hp).trans List.perm_middle)
  refine ⟨n, m, S1.oldPr0 .head, fun s => ?_⟩
  by_cases hs : s ∈ rows.map NR.s
  · obtain ⟨r, hr, rfl⟩ := List.mem_map.1 hs
    refine ⟨r.A, r.c, by rw [hm, find_key hnd hr]; rfl, ?_⟩
    obtain ⟨r1, r2, rfl⟩ := List.append_of_mem hr
    have S2 : Sat w0 M (rowH l L r :: (.pr b (MapV Try.prog 9 n m) :: (pre ++ (r1 ++ r2).map (rowH l L)))) w := by
      refine S1.perm' ?_
      refine (List.Perm.cons _ (List.Perm.append_left _ (List.Perm.map (rowH l L) List.perm_middle))).trans ?_
      rw [List.map_cons]
      refine (List.Perm.cons _ List.perm_middle).trans ?_
      exact List.Perm.swap _ _ _
    exact Sat.rdmapN lk0 S2 .head rfl
  · rw [he s hs]
    exact ⟨none, 0, by rw [hm, find_none hs]; rfl, Rd.nil _ _ _ _⟩
end Go.Proofs.Ytagapiflfnbfiaa
