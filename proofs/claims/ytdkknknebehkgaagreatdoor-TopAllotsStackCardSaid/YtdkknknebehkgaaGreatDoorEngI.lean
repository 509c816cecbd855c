/- A row of the call's own, sorted by the library: the kit's account of it in the words of heap facts. No statement of the seat is proved here. -/
import Derived.Test.YtdkknknebehkgaaGreatDoorEngW
import Derived.Shelf.GgSortFunc.InsertionK
namespace Go.Proofs.YtdkknknebehkgaaGreatDoor
set_option linter.unusedVariables false
set_option linter.unusedSimpArgs false
open Go Go.RowKit Go.Sort
theorem list_get! {l : List Value} {i : Nat} {u : Value} (h : l[i]? = some u) : l[i]! = u := by
  rw [List.getElem!_eq_getElem?_getD, h]; rfl
section
variable {α : Type} [Inhabited α]
theorem flatK_list {en : α → List Value} {k : Nat} (hs : ∀ a, (en a).length = k) (hk : 0 < k) (d : Array α) : (flatK en k d).toList = (d.toList.map en).flatten := by
  have hlen : ∀ l : List α, (l.map en).flatten.length = l.length * k := by
    intro l
    induction l with
    | nil => simp
    | cons a l ih => rw [List.map_cons, List.flatten_cons, List.length_append, ih, hs, List.length_cons, Nat.succ_mul]; omega
  refine List.ext_getElem (by rw [Array.length_toList, size_flatK, hlen]; simp) fun t h1 h2 => ?_
  have ht : t < d.size * k := by rw [Array.length_toList, size_flatK] at h1; exact h1
  have h3 := get_flatK en k d t ht
  rw [getElem!_pos (flatK en k d) t (by rw [size_flatK]; exact ht)] at h3
  rw [Array.getElem_toList, h3]
  have hq : t / k < d.size := by rw [Nat.div_lt_iff_lt_mul hk]; exact ht
  have hr : t % k < k := Nat.mod_lt _ hk
  have hql : t / k < d.toList.length := by rw [Array.length_toList]; exact hq
  have hfa := flat_at (default : α) hs d.toList (t / k) hql
  have hgd : d.toList.getD (t / k) default = d[t / k]! := by
    rw [getElem!_pos d _ hq, List.getD_eq_getElem?_getD, List.getElem?_eq_getElem hql]; simp
  rw [hgd] at hfa
  have hgo : (en d[t / k]!)[t % k]? = (d.toList.flatMap en)[t]? := by
    rw [← hfa, List.getElem?_take_of_lt hr, List.getElem?_drop]
    congr 1
    have := Nat.div_add_mod t k
    rw [Nat.mul_comm] at this
    exact this
  rw [List.flatMap_def, List.getElem?_eq_getElem h2] at hgo
  rw [List.getElem!_eq_getElem?_getD, hgo]; rfl
variable {w0 w w' : World} {M : List Nat} {h : List HO}
/-- what the library asks of the row -/
theorem Sat.holdsK {en : α → List Value} {k : Nat} (hs : ∀ a, (en a).length = k) (hk : 0 < k) {g c E : Nat} {d : Array α} (S : Sat w0 M h w) (hh : Has h (.rw 0 (.slice (some ⟨g, 0, none⟩) d.size c) E k (d.toList.map en))) : HoldsK en k w g 0 d ∧ g < w.heap.size := by
  obtain ⟨_, _, hrow⟩ := S.ok _ hh.mem
  rcases hrow.2 with ⟨hv, _⟩ | ⟨g', cap, cur, hv, _, hgc, hnc, _, hcs, htake⟩
  · injection hv with h1 h2 h3; cases h1
  · simp only [Value.slice.injEq, Option.some.injEq, Addr.mk.injEq, and_true] at hv
    obtain ⟨rfl, _, rfl⟩ := hv
    rw [List.length_map, Array.length_toList] at htake hnc
    refine ⟨fun j hj => ⟨?_, by simp [World.frozen?, hgc]⟩, (Array.getElem?_eq_some_iff.1 hgc).1⟩
    rw [size_flatK] at hj
    rw [Nat.zero_add, cell_of_row w g j cur E _ hgc]
    have h1 : ((cur.toList.take (d.size * k))[j]? : Option Value) = ((d.toList.map en).flatten)[j]? := by rw [htake]
    rw [List.getElem?_take_of_lt hj, ← flatK_list hs hk, Array.getElem?_toList, Array.getElem?_toList] at h1
    rw [h1, getElem!_pos (flatK en k d) j (by rw [size_flatK]; exact hj)]
    exact Array.getElem?_eq_getElem _
/-- behind the library's work -/
theorem Sat.sorted {en : α → List Value} {k : Nat} (hs : ∀ a, (en a).length = k) (hk : 0 < k) {g c E : Nat} {d d' : Array α} {F : HO → List HO} (S : Sat w0 M h w) (hr : RepF h (.rw 0 (.slice (some ⟨g, 0, none⟩) d.size c) E k (d.toList.map en)) F) (hd : d'.size = d.size) (n : Nat) (os : Array Obj) :
    Sat w0 M (F (.rw 0 (.slice (some ⟨g, 0, none⟩) d.size c) E k (d'.toList.map en))) (sortWorldK en k w g 0 n d' os) := by
  obtain ⟨hm, hl, hrow⟩ := S.ok _ (hr.rep (.rw 0 (.slice (some ⟨g, 0, none⟩) d.size c) E k (d.toList.map en))).mem
  rcases hrow.2 with ⟨hv, _⟩ | ⟨g', cap, cur, hv, hb, hgc, hnc, hcm, hcs, htake⟩
  · injection hv with h1 h2 h3; cases h1
  · simp only [Value.slice.injEq, Option.some.injEq, Addr.mk.injEq, and_true] at hv
    obtain ⟨rfl, _, rfl⟩ := hv
    rw [List.length_map, Array.length_toList] at htake hnc
    have hgl : g < w.heap.size := (Array.getElem?_eq_some_iff.1 hgc).1
    have hF : (flatK en k d').size = d.size * k := by rw [size_flatK, hd]
    have hheap : (sortWorldK en k w g 0 n d' os).heap = w.heap.modify g (onCells (putCells id 0 (flatK en k d'))) ++ os := rfl
    have hg2 : (sortWorldK en k w g 0 n d' os).heap[g]? = some (.cells (putCells id 0 (flatK en k d') cur) E (0, 0)) := by
      rw [hheap, Array.getElem?_append_left (by simpa using hgl), Array.getElem?_modify, if_pos rfl, hgc]; rfl
    have hpt : (putCells id 0 (flatK en k d') cur).toList.take (d.size * k) = (d'.toList.map en).flatten := by
      rw [← flatK_list hs hk]
      refine List.ext_getElem? fun t => ?_
      by_cases ht : t < d.size * k
      · rw [List.getElem?_take_of_lt ht, Array.getElem?_toList, Array.getElem?_toList]
        have htc : t < cur.size := by
          have := Nat.mul_le_mul_right k hnc
          omega
        unfold putCells
        rw [Array.getElem?_mapIdx, Array.getElem?_eq_getElem htc, Option.map_some, if_pos ⟨Nat.zero_le _, by rw [hF, Nat.zero_add]; exact ht⟩, Nat.sub_zero, getElem!_pos (flatK en k d') t (by rw [hF]; exact ht)]
        exact (Array.getElem?_eq_getElem (by rw [hF]; exact ht)).symm
      · rw [List.getElem?_eq_none (by rw [List.length_take]; omega), List.getElem?_eq_none (by rw [Array.length_toList, hF]; omega)]
    refine S.rep (hr.rep _) ⟨rfl, rfl, rfl, by rw [hheap]; simp, fun i hi hne => ?_⟩ ⟨hm, ?_, ?_, ?_⟩ (fun b' hb' => .inl hb')
    · have hig : ¬ g = i := fun e => hne (by rw [← e]; rfl)
      rw [hheap, Array.getElem?_append_left (by simpa using hi), Array.getElem?_modify, if_neg hig]
    · intro r hr'
      obtain ⟨a, _, rfl⟩ := List.mem_map.1 hr'
      exact hs a
    · have h5 := flatK_list hs hk d'
      have h6 : (d'.toList.map en).flatten.length = d.size * k := by rw [← h5, Array.length_toList, hF]
      simp only [List.size_toArray, List.length_map, Array.length_toList, h6, hd]
    · refine .inr ⟨g, c, putCells id 0 (flatK en k d') cur, by rw [List.length_map, Array.length_toList, hd], hb, hg2, by rw [List.length_map, Array.length_toList, hd]; exact hnc, hcm, by simpa [putCells] using hcs, ?_⟩
      rw [List.length_map, Array.length_toList, hd]
      exact hpt
end
end Go.Proofs.YtdkknknebehkgaaGreatDoor
