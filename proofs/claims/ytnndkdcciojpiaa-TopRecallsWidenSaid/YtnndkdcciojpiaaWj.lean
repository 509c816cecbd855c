/- Names of a map, sorted, in plain words. No statement of the seat is proved here. -/
import Derived.Test.YtnndkdcciojpiaaWh
import Derived.Test.YtnndkdcciojpiaaWi
import Derived.Test.YtnndkdcciojpiaaEngQ
namespace Go.Proofs.Ytnndkdcciojpiaa.Rl
set_option linter.unusedVariables false
set_option linter.unusedSimpArgs false
open Go Go.RowKit Go.Maps
open Go.WideElems (Fit rg)
/-- the names for which a map has an entry, ascending, in a slice -/
structure NamesOf (m : Lit → Option Value) where
  A : Option Addr
  c : Nat
  ss : List ByteArray
  mem : ∀ s, s ∈ ss ↔ (m (keyL s)).isSome = true
  nd : ss.Nodup
  srt : ss.Pairwise fun x y => x.data.toList ≤ y.data.toList
abbrev NamesOf.sl {m : Lit → Option Value} (a : NamesOf m) : Value := .slice a.A a.ss.length a.c
abbrev NamesOf.ho {m : Lit → Option Value} (a : NamesOf m) : HO := .rw 0 (.slice a.A a.ss.length a.c) 9 1 (a.ss.map fun s => [.string s])
theorem isKey_keyL (s : ByteArray) : WideAt.IsKeyLit (keyL s) := trivial
theorem map_has {k : TypeId} {c b : Nat} {m : Lit → Option Value} {w : World} (K : Keyed Try.prog k) (hk : Try.prog.underlying k = some .string) (H : MapV Try.prog k c m (w.heap[b]?)) :
    ∃ D : DataW Value, w.ownsMap Try.prog k rawE b c D ∧ Maps.size D ≤ c ∧ (strKeys D).Nodup ∧ ∀ x, x ∈ strKeys D ↔ (m (.string x)).isSome = true := by
  obtain ⟨es, clock, hb, F, hs, hat⟩ := H
  have hown : w.ownsMap Try.prog k rawE b c (.map ((es.toList.map (rg Try.prog k rawE)).foldr DataW.insert [])) := ⟨es, clock, hb, F, hs, rfl⟩
  have hperm := WideShapes.sorted_perm (es.toList.map (rg Try.prog k rawE))
  have hap : ((es.toList.map (rg Try.prog k rawE)).foldr DataW.insert []).Pairwise (fun p q => p.1 ≠ q.1) :=
    (hperm.pairwise_iff (fun {a b} h => h.symm)).2 (Maps.fit_apart K F)
  have hks : ∀ p ∈ (es.toList.map (rg Try.prog k rawE)).foldr DataW.insert [], ∃ x, p.1 = .string x := fun p hp => by
    obtain ⟨v, hv⟩ := Maps.fit_keys F p (hperm.mem_iff.1 hp)
    obtain ⟨x, _, h2, _⟩ := Maps.keyOf_str hk hv
    exact ⟨x, h2⟩
  have hmem : ∀ x, x ∈ strKeys (.map ((es.toList.map (rg Try.prog k rawE)).foldr DataW.insert [])) ↔ (m (.string x)).isSome = true := fun x => by
    have h1 : Maps.has (DataW.map ((es.toList.map (rg Try.prog k rawE)).foldr DataW.insert [])) (.string x) = (m (.string x)).isSome := by
      cases hm : m (.string x) with
      | none => exact Maps.has_false_of_atKey (fun z => by rw [hat (.string x) trivial, hm]; rfl)
      | some u => exact Maps.has_true_of_atKey (y := .held u) (fun z => by rw [hat (.string x) trivial, hm]; rfl)
    rw [← h1, Maps.has_eq, List.any_eq_true]
    show x ∈ List.map (fun p : Lit × DataW Value => strOf p.1) _ ↔ _
    rw [List.mem_map]
    constructor
    · rintro ⟨p, hp, rfl⟩
      obtain ⟨y, hy⟩ := hks p hp
      refine ⟨p, hp, ?_⟩
      rw [hy]
      exact WideAt.sameKey_self (a := .string y) trivial
    · rintro ⟨p, hp, he⟩
      have := WideAt.sameKey_eq he
      exact ⟨p, hp, by rw [this]; rfl⟩
  refine ⟨_, hown, ?_, ?_, hmem⟩
  · rw [Maps.size_eq, hperm.length_eq]
    simpa using hs
  · show (List.map (fun p : Lit × DataW Value => strOf p.1) _).Nodup
    refine List.pairwise_map.2 (hap.imp_of_mem fun {p q} hp' hq' hne e => hne ?_)
    obtain ⟨a, ha⟩ := hks p hp'
    obtain ⟨b', hb'⟩ := hks q hq'
    rw [ha, hb'] at e ⊢
    exact congrArg _ e
theorem flat_str : ∀ rs : List (List UInt8), ((rs.map fun x => (⟨x.toArray⟩ : ByteArray)).map fun s => [Value.string s]).flatten = rs.map encStr
  | [] => rfl
  | x :: t => congrArg (encStr x :: ·) (flat_str t)
set_option maxRecDepth 100000 in
theorem e_sorted : Ent Try.prog 28 := fun _ _ => rfl
theorem sorted_c {b c : Nat} {m : Lit → Option Value} (hc : c ≤ 1000000) (w : World) (H : MapV Try.prog 9 c m (w.heap[b]?)) : Calls Try.prog 28 #[.map (some b)] w (RetP fun v w' => ∃ a : NamesOf m, v = a.sl ∧ Sat w [] [a.ho] w') := by
  obtain ⟨D, hown, hsz, hnd, hmem⟩ := map_has kS (by kernel_rfl) H
  have hm9 : Maps.size D ≤ maxLen := by unfold maxLen; omega
  refine (sorted_k b c D rawE w hown hm9 (by omega)).mono ?_
  rintro e w' ⟨v, ss, rfl, hp, hrow, hnil, hb⟩
  obtain ⟨rs, hrs⟩ : ∃ rs, ss.mergeSort (fun x y => decide (x ≤ y)) = rs := ⟨_, rfl⟩
  have hrp : rs.Perm (strKeys D) := hrs ▸ (List.mergeSort_perm _ _).trans hp
  have hpw : rs.Pairwise fun x y => x ≤ y := by
    have tr : ∀ a b c : List UInt8, decide (a ≤ b) = true → decide (b ≤ c) = true → decide (a ≤ c) = true := fun a b c h1 h2 => by simp only [decide_eq_true_eq] at *; exact List.le_trans h1 h2
    have to : ∀ a b : List UInt8, (decide (a ≤ b) || decide (b ≤ a)) = true := fun a b => by simp only [Bool.or_eq_true, decide_eq_true_eq]; exact List.le_total a b
    have := List.pairwise_mergeSort tr to ss
    rw [hrs] at this
    exact this.imp fun h => of_decide_eq_true h
  have hlen : ss.length = rs.length := by rw [← hrs, List.length_mergeSort]
  rw [hrs] at hrow
  have hl : (rs.map fun x => (⟨x.toArray⟩ : ByteArray)).length = rs.length := List.length_map _
  have hK : Keeps [] w w' := ⟨hb.os, hb.tape, hb.output, hb.size, fun k hk _ => hb.block k hk⟩
  have hfl := flat_str rs
  have key : ∃ A c', v = .slice A ss.length c' := by
    rcases hrow.2 with ⟨h1, h0⟩ | ⟨g, cap, cur, h1, _⟩
    · exact ⟨none, 0, by rw [h1, h0]⟩
    · exact ⟨_, _, h1⟩
  obtain ⟨A, c', rfl⟩ := key
  rw [hlen, ← hl] at hrow
  rw [hlen, ← hl]
  refine ⟨_, rfl, ⟨A, c', rs.map fun x => (⟨x.toArray⟩ : ByteArray), fun s => ?_, ?_, ?_⟩, rfl, ?_⟩
  · rw [List.mem_map]
    rw [show keyL s = .string s.data.toList from rfl, ← hmem, ← hrp.mem_iff]
    constructor
    · rintro ⟨x, hx, rfl⟩; exact hx
    · intro h; exact ⟨_, h, by simp⟩
  · exact List.pairwise_map.2 ((hrp.nodup_iff.2 hnd).imp fun h e => h (by simpa using e))
  · rw [List.pairwise_map]; exact hpw
  · have S := Sat.row (Sat.start [] w) hK (A := A) (c := c') (E := 9) (size := 1) (xs := (rs.map fun x => (⟨x.toArray⟩ : ByteArray)).map fun s => [Value.string s]) (by rw [List.length_map, hfl]; exact hrow) (by intro c hc; obtain ⟨s, _, rfl⟩ := List.mem_map.1 hc; rfl)
    rw [List.length_map] at S
    exact S
end Go.Proofs.Ytnndkdcciojpiaa.Rl
