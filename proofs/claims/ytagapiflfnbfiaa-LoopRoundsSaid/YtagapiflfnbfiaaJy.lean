/- All chains between two features, listed in plain words. No statement of the seat is proved here. -/
import Derived.Test.YtagapiflfnbfiaaJi
import Derived.Test.YtagapiflfnbfiaaJw
namespace Go.Proofs.Ytagapiflfnbfiaa
set_option linter.unusedVariables false
set_option linter.unusedSimpArgs false
open Go Go.RowKit
section
variable (l : List Dm)
def pthS (N : ByteArray → List Lk) (to : ByteArray) : Nat → ByteArray → List ByteArray → List (List Lk)
  | 0, _, _ => []
  | f + 1, a, pass => if a = to then [[]] else (N a).flatMap fun y => if hasB pass (stoE l y) = true then [] else (pthS N to f (stoE l y) (stoE l y :: pass)).map (y :: ·)
/-- a search that lists p, as long as there is room -/
def Lists (g : ByteArray → List Lk → List ByteArray → List (List Lk) → List (List Lk) × Bool) (p : ByteArray → List ByteArray → List (List Lk)) : Prop :=
  ∀ a c pass out, out.length ≤ 16384 → (out.length + (p a pass).length ≤ 16384 → g a c pass out = (out ++ (p a pass).map (c ++ ·), true)) ∧ (16384 < out.length + (p a pass).length → (g a c pass out).2 = false)
end
theorem growLs_lists {l : List Dm} {g : ByteArray → List Lk → List ByteArray → List (List Lk) → List (List Lk) × Bool} {p : ByteArray → List ByteArray → List (List Lk)} (H : Lists g p) (c : List Lk) (pass : List ByteArray) :
    ∀ (ys : List Lk) (out : List (List Lk)), out.length ≤ 16384 →
      (out.length + (ys.flatMap fun y => if hasB pass (stoE l y) = true then [] else (p (stoE l y) (stoE l y :: pass)).map (y :: ·)).length ≤ 16384 → growLs l g c pass ys out = (out ++ (ys.flatMap fun y => if hasB pass (stoE l y) = true then [] else (p (stoE l y) (stoE l y :: pass)).map (y :: ·)).map (c ++ ·), true)) ∧
      (16384 < out.length + (ys.flatMap fun y => if hasB pass (stoE l y) = true then [] else (p (stoE l y) (stoE l y :: pass)).map (y :: ·)).length → (growLs l g c pass ys out).2 = false)
  | [], out, h => by simp [growLs, h]
  | y :: ys, out, h => by
    rw [List.flatMap_cons, growLs]
    by_cases hp : hasB pass (stoE l y) = true
    · rw [if_pos hp, if_pos hp, List.nil_append]
      exact growLs_lists H c pass ys out h
    · rw [if_neg hp, if_neg hp, List.length_append, List.length_map, List.map_append]
      have h1 := H (stoE l y) (c ++ [y]) (stoE l y :: pass) out h
      generalize hP : p (stoE l y) (stoE l y :: pass) = P at *
      by_cases hr : out.length + P.length ≤ 16384
      · have h2 := h1.1 hr
        rw [h2]
        have h3 := growLs_lists (l := l) H c pass ys (out ++ P.map ((c ++ [y]) ++ ·)) (by rw [List.length_append, List.length_map]; exact hr)
        rw [List.length_append, List.length_map] at h3
        dsimp only
        rw [if_pos rfl]
        have e : List.map (fun x => c ++ x) (P.map (y :: ·)) = P.map ((c ++ [y]) ++ ·) := by rw [List.map_map]; exact List.map_congr_left fun x _ => by simp
        refine ⟨fun h4 => ?_, fun h4 => h3.2 (by omega)⟩
        rw [h3.1 (by omega), e, List.append_assoc]
      · have h2 := h1.2 (by omega)
        rw [if_neg (by rw [h2]; simp)]
        exact ⟨fun h4 => absurd h4 (by omega), fun _ => rfl⟩
theorem growS_lists (l : List Dm) (N : ByteArray → List Lk) (to : ByteArray) : ∀ f : Nat, Lists (growS l N to f) (pthS l N to f)
  | 0, a, c, pass, out, h => by
    simp only [growS, pthS, List.length_nil, List.map_nil, List.append_nil, Nat.add_zero]
    exact ⟨fun _ => trivial, fun h2 => absurd h2 (by omega)⟩
  | f + 1, a, c, pass, out, h => by
    rw [growS, pthS]
    by_cases ha : a = to
    · rw [if_pos ha, if_pos ha]
      by_cases hl : out.length = 16384
      · rw [if_pos hl]
        exact ⟨fun h2 => by simp at h2; omega, fun _ => rfl⟩
      · rw [if_neg hl]
        refine ⟨fun _ => by simp, fun h2 => ?_⟩
        simp at h2; omega
    · rw [if_neg ha, if_neg ha]
      exact growLs_lists (growS_lists l N to f) c pass (N a) out h
/-! ### what is listed -/
section
variable (l : List Dm)
def spP (N : ByteArray → List Lk) (to : ByteArray) : List Lk → ByteArray → List ByteArray → Prop
  | [], a, _ => a = to
  | y :: c, a, pass => ¬ a = to ∧ y ∈ N a ∧ ¬ hasB pass (stoE l y) = true ∧ spP N to c (stoE l y) (stoE l y :: pass)
/-- c leads from a to b over links of L -/
def lnk (L : List Lk) : ByteArray → List Lk → ByteArray → Prop
  | a, [], b => a = b
  | a, y :: c, b => y ∈ L ∧ begE l y = a ∧ lnk L (stoE l y) c b
def gp (L : List Lk) (a : ByteArray) (c : List Lk) (b : ByteArray) : Prop := lnk l L a c b ∧ (a :: c.map (stoE l)).Nodup
end
theorem pth_sp {l : List Dm} {N : ByteArray → List Lk} {to : ByteArray} : ∀ {f : Nat} {a : ByteArray} {pass : List ByteArray} {c : List Lk}, c ∈ pthS l N to f a pass → spP l N to c a pass
  | 0, _, _, _, h => by cases h
  | f + 1, a, pass, c, h => by
    rw [pthS] at h
    by_cases ha : a = to
    · rw [if_pos ha] at h
      simp at h
      subst h
      exact ha
    · rw [if_neg ha] at h
      obtain ⟨y, hy, h2⟩ := List.mem_flatMap.1 h
      by_cases hp : hasB pass (stoE l y) = true
      · rw [if_pos hp] at h2; cases h2
      · rw [if_neg hp] at h2
        obtain ⟨c', hc, rfl⟩ := List.mem_map.1 h2
        exact ⟨ha, hy, hp, pth_sp hc⟩
theorem sp_pth {l : List Dm} {N : ByteArray → List Lk} {to : ByteArray} : ∀ {f : Nat} {a : ByteArray} {pass : List ByteArray} {c : List Lk}, c.length < f → spP l N to c a pass → c ∈ pthS l N to f a pass
  | 0, _, _, _, h, _ => by omega
  | f + 1, a, pass, [], _, h => by
    rw [pthS, if_pos (show a = to from h)]; simp
  | f + 1, a, pass, y :: c, hf, ⟨ha, hy, hp, hc⟩ => by
    rw [pthS, if_neg ha]
    refine List.mem_flatMap.2 ⟨y, hy, ?_⟩
    rw [if_neg hp]
    exact List.mem_map_of_mem (sp_pth (by simp at hf; omega) hc)
theorem pth_nodup {l : List Dm} {N : ByteArray → List Lk} {to : ByteArray} (hN : ∀ a, (N a).Nodup) : ∀ (f : Nat) (a : ByteArray) (pass : List ByteArray), (pthS l N to f a pass).Nodup
  | 0, _, _ => List.nodup_nil
  | f + 1, a, pass => by
    rw [pthS]
    by_cases ha : a = to
    · rw [if_pos ha]; simp
    · rw [if_neg ha, List.Nodup, List.pairwise_flatMap]
      refine ⟨fun y _ => ?_, ?_⟩
      · by_cases hp : hasB pass (stoE l y) = true
        · rw [if_pos hp]; exact List.nodup_nil
        · rw [if_neg hp]
          exact List.pairwise_map.2 ((pth_nodup hN f _ _).imp fun h e => h (by injection e))
      · refine (hN a).imp fun {y z} hyz => ?_
        intro c h1 c' h2 e
        subst e
        split at h1
        · cases h1
        · split at h2
          · cases h2
          · obtain ⟨c1, _, rfl⟩ := List.mem_map.1 h1
            obtain ⟨c2, _, e⟩ := List.mem_map.1 h2
            injection e with e _
            exact hyz e.symm
theorem lnk_last {l : List Dm} {L : List Lk} : ∀ {c : List Lk} {a b : ByteArray} {y : Lk}, lnk l L a (y :: c) b → b ∈ (y :: c).map (stoE l)
  | [], a, b, y, ⟨_, _, h⟩ => by rw [show b = stoE l y from h.symm]; simp
  | z :: c, a, b, y, ⟨_, _, h⟩ => List.mem_cons_of_mem _ (lnk_last h)
theorem sp_lnk {l : List Dm} {L : List Lk} {to : ByteArray} : ∀ {c : List Lk} {a : ByteArray} {pass : List ByteArray}, a ∈ pass → (spP l (atS l L) to c a pass ↔ lnk l L a c to ∧ (c.map (stoE l)).Nodup ∧ ∀ s ∈ c.map (stoE l), s ∉ pass)
  | [], a, pass, _ => by simp [spP, lnk]
  | y :: c, a, pass, ha => by
    have ih := sp_lnk (l := l) (L := L) (to := to) (c := c) (a := stoE l y) (pass := stoE l y :: pass) (List.mem_cons_self ..)
    constructor
    · rintro ⟨h1, h2, h3, h4⟩
      obtain ⟨h5, h6, h7⟩ := ih.1 h4
      obtain ⟨h8, h9⟩ := atS_mem.1 h2
      refine ⟨⟨h8, h9, h5⟩, ?_, ?_⟩
      · rw [List.map_cons, List.nodup_cons]
        exact ⟨fun h => h7 _ h (List.mem_cons_self ..), h6⟩
      · intro s hs
        rw [List.map_cons] at hs
        rcases List.mem_cons.1 hs with rfl | hs
        · exact fun h => h3 (hasB_iff.2 h)
        · exact fun h => h7 s hs (List.mem_cons_of_mem _ h)
    · rintro ⟨h1, h2, h3⟩
      have hto := h3 _ (lnk_last h1)
      obtain ⟨h4, h5, h6⟩ := h1
      rw [List.map_cons, List.nodup_cons] at h2
      refine ⟨fun e => hto (e ▸ ha), atS_mem.2 ⟨h4, h5⟩, fun h => h3 _ (by simp) (hasB_iff.1 h), ih.2 ⟨h6, h2.2, fun s hs h => ?_⟩⟩
      rcases List.mem_cons.1 h with rfl | h
      · exact h2.1 hs
      · exact h3 s (List.mem_cons_of_mem _ hs) h
theorem sp_gp {l : List Dm} {L : List Lk} {c : List Lk} {a b : ByteArray} : spP l (atS l L) b c a [a] ↔ gp l L a c b := by
  rw [sp_lnk (List.mem_cons_self ..), gp, List.nodup_cons]
  constructor
  · rintro ⟨h1, h2, h3⟩
    exact ⟨h1, fun h => h3 a h (List.mem_cons_self ..), h2⟩
  · rintro ⟨h1, h2, h3⟩
    exact ⟨h1, h3, fun s hs h => by simp at h; subst h; exact h2 hs⟩
theorem lnk_mem {l : List Dm} {L : List Lk} : ∀ {c : List Lk} {a b : ByteArray}, lnk l L a c b → ∀ x ∈ c, x ∈ L
  | [], _, _, _, x, hx => by cases hx
  | y :: c, a, b, ⟨h1, _, h3⟩, x, hx => by
    rcases List.mem_cons.1 hx with rfl | hx
    · exact h1
    · exact lnk_mem h3 x hx
theorem gp_len {l : List Dm} {L : List Lk} {c : List Lk} {a b : ByteArray} (h : gp l L a c b) : c.length ≤ L.length := by
  have h1 : (c.map (stoE l)).Nodup := (List.nodup_cons.1 h.2).2
  have h2 : (c.map (stoE l)).length ≤ (L.map (stoE l)).length := h1.length_le_of_subset fun s hs => by
    obtain ⟨x, hx, rfl⟩ := List.mem_map.1 hs
    exact List.mem_map_of_mem (lnk_mem h.1 x hx)
  simpa using h2
/-! ### backwards -/
theorem lnk_app {l : List Dm} {L : List Lk} : ∀ {c d : List Lk} {a b e : ByteArray}, lnk l L a c b → lnk l L b d e → lnk l L a (c ++ d) e
  | [], d, a, b, e, h1, h2 => by rw [show a = b from h1]; exact h2
  | y :: c, d, a, b, e, ⟨h1, h2, h3⟩, h4 => ⟨h1, h2, lnk_app h3 h4⟩
theorem lnk_rev {l : List Dm} {L : List Lk} (hL : ∀ x ∈ L, flp x ∈ L) : ∀ {c : List Lk} {a b : ByteArray}, lnk l L a c b → lnk l L b (c.map flp).reverse a
  | [], a, b, h => Eq.symm h
  | y :: c, a, b, ⟨h1, h2, h3⟩ => by
    rw [List.map_cons, List.reverse_cons]
    exact lnk_app (lnk_rev hL h3) ⟨hL y h1, beg_flp y, (sto_flp y).trans h2⟩
theorem pts_rev {l : List Dm} {L : List Lk} : ∀ {c : List Lk} {a b : ByteArray}, lnk l L a c b → b :: ((c.map flp).reverse).map (stoE l) = (a :: c.map (stoE l)).reverse
  | [], a, b, h => by rw [show a = b from h]; rfl
  | y :: c, a, b, ⟨h1, h2, h3⟩ => by
    have ih := pts_rev h3
    rw [List.map_cons, List.reverse_cons, List.map_append, ← List.cons_append, ih, List.map_cons, List.map_nil, sto_flp, h2, List.map_cons, List.reverse_cons (a := a)]
theorem gp_rev {l : List Dm} {L : List Lk} (hL : ∀ x ∈ L, flp x ∈ L) {c : List Lk} {a b : ByteArray} (h : gp l L a c b) : gp l L b (rvL c) a := by
  rw [rvL_eq]
  refine ⟨lnk_rev hL h.1, ?_⟩
  rw [pts_rev h.1]
  exact (List.reverse_perm _).nodup_iff.2 h.2
end Go.Proofs.Ytagapiflfnbfiaa
