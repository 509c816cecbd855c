/- The order of chains: all chains in order, and the first of the shortest ones. No statement of the seat is proved here. -/
import Derived.Test.YtagapiflfnbfiaaUd
namespace Go.Proofs.Ytagapiflfnbfiaa
set_option linter.unusedVariables false
set_option linter.unusedSimpArgs false
open Go Go.RowKit
def lkLt (x y : Lk) : Prop := x.dm < y.dm ∨ (x.dm = y.dm ∧ x.bk = false)
theorem lk_eta {x y : Lk} (h1 : x.dm = y.dm) (h2 : x.bk = y.bk) : x = y := by cases x; cases y; dsimp only at h1 h2; subst h1; subst h2; rfl
theorem lkLt_total {x y : Lk} (h : ¬ x = y) : lkLt x y ∨ lkLt y x := by
  unfold lkLt
  by_cases h1 : x.dm = y.dm
  · cases hx : x.bk with
    | false => exact .inl (.inr ⟨h1, rfl⟩)
    | true => cases hy : y.bk with
      | false => exact .inr (.inr ⟨h1.symm, rfl⟩)
      | true => exact absurd (lk_eta h1 (hx.trans hy.symm)) h
  · omega
theorem lkLt_asym {x y : Lk} (h : ¬ x = y) (h1 : lkLt x y) (h2 : lkLt y x) : False := by
  unfold lkLt at *
  rcases h1 with h1 | ⟨h1, h3⟩
  · omega
  · rcases h2 with h2 | ⟨h2, h4⟩
    · omega
    · exact h (lk_eta h1 (h3.trans h4.symm))
theorem lkLt_trans {x y z : Lk} (hxy : ¬ x = y) (hyz : ¬ y = z) (h1 : lkLt x y) (h2 : lkLt y z) : ¬ x = z ∧ lkLt x z := by
  refine ⟨fun e => ?_, ?_⟩
  · subst e; exact lkLt_asym hxy h1 h2
  · unfold lkLt at *
    rcases h1 with h1 | ⟨h1, h3⟩
    · rcases h2 with h2 | ⟨h2, h4⟩
      · exact .inl (by omega)
      · exact .inl (by omega)
    · rcases h2 with h2 | ⟨h2, h4⟩
      · exact .inl (by omega)
      · exact .inr ⟨by omega, h3⟩
def cbef : List Lk → List Lk → Prop
  | [], [] => False
  | [], _ :: _ => True
  | _ :: _, [] => False
  | x :: a, y :: b => (x = y ∧ cbef a b) ∨ (¬ x = y ∧ lkLt x y)
theorem cbef_total : ∀ {a b : List Lk}, ¬ a = b → cbef a b ∨ cbef b a
  | [], [], h => absurd rfl h
  | [], _ :: _, _ => .inl trivial
  | _ :: _, [], _ => .inr trivial
  | x :: a, y :: b, h => by
    by_cases e : x = y
    · subst e
      rcases cbef_total (a := a) (b := b) (fun e => h (by rw [e])) with h1 | h1
      · exact .inl (.inl ⟨rfl, h1⟩)
      · exact .inr (.inl ⟨rfl, h1⟩)
    · rcases lkLt_total e with h1 | h1
      · exact .inl (.inr ⟨e, h1⟩)
      · exact .inr (.inr ⟨fun e2 => e e2.symm, h1⟩)
theorem cbef_asym : ∀ {a b : List Lk}, cbef a b → cbef b a → False
  | [], [], h, _ => h
  | [], _ :: _, _, h => h
  | _ :: _, [], h, _ => h
  | x :: a, y :: b, h1, h2 => by
    rcases h1 with ⟨e1, h1⟩ | ⟨e1, h1⟩
    · rcases h2 with ⟨_, h2⟩ | ⟨e2, _⟩
      · exact cbef_asym h1 h2
      · exact e2 e1.symm
    · rcases h2 with ⟨e2, _⟩ | ⟨_, h2⟩
      · exact e1 e2.symm
      · exact lkLt_asym e1 h1 h2
theorem cbef_irr {a : List Lk} (h : cbef a a) : False := cbef_asym h h
theorem cbef_trans : ∀ {a b c : List Lk}, cbef a b → cbef b c → cbef a c
  | [], [], _, h, _ => h.elim
  | [], _ :: _, [], _, h => h.elim
  | [], _ :: _, _ :: _, _, _ => trivial
  | _ :: _, [], _, h, _ => h.elim
  | _ :: _, _ :: _, [], _, h => h.elim
  | x :: a, y :: b, z :: c, h1, h2 => by
    rcases h1 with ⟨e1, h1⟩ | ⟨e1, h1⟩
    · subst e1
      rcases h2 with ⟨e2, h2⟩ | h2
      · exact .inl ⟨e2, cbef_trans h1 h2⟩
      · exact .inr h2
    · rcases h2 with ⟨e2, h2⟩ | ⟨e2, h2⟩
      · subst e2; exact .inr ⟨e1, h1⟩
      · exact .inr (lkLt_trans e1 e2 h1 h2)
theorem cbef_app : ∀ {a b s t : List Lk}, a.length = b.length → cbef a b → cbef (a ++ s) (b ++ t)
  | [], [], _, _, _, h => h.elim
  | [], _ :: _, _, _, h, _ => by simp at h
  | _ :: _, [], _, _, h, _ => by simp at h
  | x :: a, y :: b, s, t, h, h1 => by
    rcases h1 with ⟨e1, h1⟩ | h1
    · exact .inl ⟨e1, cbef_app (by simpa using h) h1⟩
    · exact .inr h1
theorem cbef_same {s t : List Lk} : ∀ {a : List Lk}, cbef s t → cbef (a ++ s) (a ++ t)
  | [], h => h
  | _ :: _, h => .inl ⟨rfl, cbef_same h⟩
/-- decided at the first place where they differ -/
theorem cbef_at : ∀ {a b : List Lk} {i : Nat}, (∀ j, j < i → lat a j = lat b j) → i < a.length → i < b.length → ¬ lat a i = lat b i → (cbef a b ↔ lkLt (lat a i) (lat b i))
  | [], _, _, _, h, _, _ => by simp at h
  | _ :: _, [], _, _, _, h, _ => by simp at h
  | x :: a, y :: b, 0, _, _, _, hn => by
    have hn' : ¬ x = y := hn
    show (x = y ∧ cbef a b) ∨ (¬ x = y ∧ lkLt x y) ↔ lkLt x y
    exact ⟨fun h => h.elim (fun h => absurd h.1 hn') (·.2), fun h => .inr ⟨hn', h⟩⟩
  | x :: a, y :: b, i + 1, he, h1, h2, hn => by
    have e0 : x = y := he 0 (Nat.succ_pos _)
    have ih := cbef_at (a := a) (b := b) (i := i) (fun j hj => he (j + 1) (by omega)) (by simpa using h1) (by simpa using h2) hn
    show (x = y ∧ cbef a b) ∨ (¬ x = y ∧ lkLt x y) ↔ lkLt (lat a i) (lat b i)
    rw [← ih]
    exact ⟨fun h => h.elim (·.2) (fun h => absurd e0 h.1), fun h => .inl ⟨e0, h⟩⟩
theorem cbef_end : ∀ {a b : List Lk} {i : Nat}, (∀ j, j < i → lat a j = lat b j) → ¬ (i < a.length ∧ i < b.length) → i ≤ a.length → i ≤ b.length → (cbef a b ↔ a.length < b.length)
  | [], [], _, _, _, _, _ => by simp [cbef]
  | [], _ :: _, _, _, _, _, _ => by simp [cbef]
  | _ :: _, [], _, _, _, _, _ => by simp [cbef]
  | x :: a, y :: b, 0, _, h, _, _ => by simp at h
  | x :: a, y :: b, i + 1, he, h, h1, h2 => by
    have e0 : x = y := he 0 (Nat.succ_pos _)
    have ih := cbef_end (a := a) (b := b) (i := i) (fun j hj => he (j + 1) (by omega)) (by simpa using h) (by simpa using h1) (by simpa using h2)
    show (x = y ∧ cbef a b) ∨ (¬ x = y ∧ lkLt x y) ↔ a.length + 1 < b.length + 1
    rw [show (a.length + 1 < b.length + 1) = (a.length < b.length) by simp, ← ih]
    exact ⟨fun h => h.elim (·.2) (fun h => absurd e0 h.1), fun h => .inl ⟨e0, h⟩⟩
/-! ### sorted lists -/
theorem sorted_uniq {α : Type} {R : α → α → Prop} (hR : ∀ a b, R a b → R b a → False) : ∀ {xs ys : List α}, xs.Perm ys → xs.Pairwise R → ys.Pairwise R → xs = ys
  | [], ys, h, _, _ => (List.nil_perm.1 h).symm
  | x :: xs, [], h, _, _ => by have := h.length_eq; simp at this
  | x :: xs, y :: ys, h, h1, h2 => by
    rw [List.pairwise_cons] at h1 h2
    have e : x = y := by
      rcases List.mem_cons.1 (h.subset (List.mem_cons_self ..)) with e | hx
      · exact e
      · rcases List.mem_cons.1 (h.symm.subset (List.mem_cons_self ..)) with e | hy
        · exact e.symm
        · exact (hR _ _ (h1.1 _ hy) (h2.1 _ hx)).elim
    subst e
    rw [sorted_uniq hR (List.Perm.cons_inv h) h1.2 h2.2]
theorem ins_perm {α : Type} {xs : List α} {c : α} {p : Nat} : (xs.take p ++ c :: xs.drop p).Perm (xs ++ [c]) := by
  have h1 : (xs.take p ++ c :: xs.drop p).Perm (c :: (xs.take p ++ xs.drop p)) := List.perm_middle
  rw [List.take_append_drop] at h1
  exact h1.trans (List.perm_append_comm (l₁ := [c]))
theorem ins_sorted {α : Type} {R : α → α → Prop} (tr : ∀ a b c, R a b → R b c → R a c) {xs : List α} {z c : α} {p : Nat} (hp : p ≤ xs.length) (hs : xs.Pairwise R) (h1 : 0 < p → R (xs.getD (p - 1) z) c) (h2 : ∀ i, p ≤ i → i < xs.length → R c (xs.getD i z)) : (xs.take p ++ c :: xs.drop p).Pairwise R := by
  have hg : ∀ i (h : i < xs.length), xs.getD i z = xs[i] := fun i h => by simp [List.getD_eq_getElem?_getD, h]
  have hpw := List.pairwise_iff_getElem.1 hs
  have h3 : ∀ a ∈ xs.take p, R a c := fun a ha => by
    obtain ⟨i, hi, rfl⟩ := List.mem_iff_getElem.1 ha
    rw [List.length_take] at hi
    rw [List.getElem_take]
    have h4 := h1 (by omega)
    rw [hg _ (by omega)] at h4
    by_cases e : i = p - 1
    · subst e; exact h4
    · exact tr _ _ _ (hpw i (p - 1) (by omega) (by omega) (by omega)) h4
  have h4 : ∀ b ∈ xs.drop p, R c b := fun b hb => by
    obtain ⟨i, hi, rfl⟩ := List.mem_iff_getElem.1 hb
    rw [List.length_drop] at hi
    rw [List.getElem_drop]
    have := h2 (p + i) (by omega) (by omega)
    rwa [hg _ (by omega)] at this
  rw [List.pairwise_append, List.pairwise_cons]
  refine ⟨hs.sublist (List.take_sublist _ _), ⟨h4, hs.sublist (List.drop_sublist _ _)⟩, fun a ha b hb => ?_⟩
  rcases List.mem_cons.1 hb with rfl | hb
  · exact h3 a ha
  · exact tr _ _ _ (h3 a ha) (h4 b hb)
theorem find_before {α : Type} {R : α → α → Prop} {p : α → Bool} {x y : α} : ∀ {xs : List α}, xs.Pairwise R → xs.find? p = some x → y ∈ xs → p y = true → x = y ∨ R x y
  | [], _, h, _, _ => by cases h
  | a :: xs, hs, h, hy, hp => by
    rw [List.pairwise_cons] at hs
    by_cases ha : p a = true
    · rw [List.find?_cons_of_pos ha] at h
      injection h with h
      subst h
      rcases List.mem_cons.1 hy with e | hy
      · exact .inl e.symm
      · exact .inr (hs.1 y hy)
    · rw [List.find?_cons_of_neg ha] at h
      rcases List.mem_cons.1 hy with e | hy
      · rw [e] at hp; exact absurd hp ha
      · exact find_before hs.2 h hy hp
/-! ### the links of a net, in order -/
abbrev lkR (x y : Lk) : Prop := ¬ x = y ∧ lkLt x y
theorem two_sorted (l : List Dm) (ax : Int) (use : Nat → Bool) (i : Nat) : (two l ax use i).Pairwise lkR := by
  unfold two
  split
  · rw [List.pairwise_cons]
    refine ⟨fun y hy => ?_, by simp⟩
    simp at hy
    subst hy
    exact ⟨by simp, .inr ⟨rfl, rfl⟩⟩
  · exact List.Pairwise.nil
theorem two_mem {l : List Dm} {ax : Int} {use : Nat → Bool} {i : Nat} {x : Lk} (h : x ∈ two l ax use i) : x.dm = i := by
  unfold two at h
  split at h
  · simp at h
    rcases h with rfl | rfl <;> rfl
  · cases h
theorem lkR_of {x y : Lk} (h : x.dm < y.dm) : lkR x y := ⟨fun e => by rw [e] at h; omega, .inl h⟩
theorem nlk_sorted (l : List Dm) (ax : Int) (use : Nat → Bool) : ∀ k : Nat, (nlk l ax use k).Pairwise lkR
  | 0 => List.Pairwise.nil
  | k + 1 => by
    rw [nlk, List.pairwise_append]
    refine ⟨nlk_sorted l ax use k, two_sorted l ax use k, fun x hx y hy => ?_⟩
    obtain ⟨i, h1, h2, _⟩ := (nlk_mem _).1 hx
    have := two_mem hy
    exact lkR_of (by omega)
theorem twos_sorted : ∀ k : Nat, (twos k).Pairwise lkR
  | 0 => List.Pairwise.nil
  | k + 1 => by
    rw [twos, List.pairwise_append]
    refine ⟨twos_sorted k, ?_, fun x hx y hy => ?_⟩
    · rw [List.pairwise_cons]
      refine ⟨fun y hy => ?_, by simp⟩
      simp at hy
      subst hy
      exact ⟨by simp, .inr ⟨rfl, rfl⟩⟩
    · have h1 := twos_mem.1 hx
      simp at hy
      rcases hy with rfl | rfl <;> exact lkR_of h1.2
theorem atS_sorted (l : List Dm) (ax : Int) (use : Nat → Bool) (a : ByteArray) : (atS l (nlk l ax use l.length) a).Pairwise lkR := (nlk_sorted l ax use _).filter _
theorem pth_sorted {l : List Dm} {N : ByteArray → List Lk} {to : ByteArray} (hN : ∀ a, (N a).Pairwise lkR) : ∀ (f : Nat) (a : ByteArray) (pass : List ByteArray), (pthS l N to f a pass).Pairwise cbef
  | 0, _, _ => List.Pairwise.nil
  | f + 1, a, pass => by
    rw [pthS]
    by_cases ha : a = to
    · rw [if_pos ha]; simp
    · rw [if_neg ha, List.pairwise_flatMap]
      refine ⟨fun y _ => ?_, ?_⟩
      · by_cases hp : hasB pass (stoE l y) = true
        · rw [if_pos hp]; exact List.Pairwise.nil
        · rw [if_neg hp]
          exact List.pairwise_map.2 ((pth_sorted hN f _ _).imp fun h => .inl ⟨rfl, h⟩)
      · refine (hN a).imp fun {y z} hyz => ?_
        intro c h1 c' h2
        split at h1
        · cases h1
        · split at h2
          · cases h2
          · obtain ⟨c1, _, rfl⟩ := List.mem_map.1 h1
            obtain ⟨c2, _, rfl⟩ := List.mem_map.1 h2
            exact .inr hyz
theorem pthA_sorted (l : List Dm) (ax : Int) (fr to : ByteArray) : (pthA l ax fr to).Pairwise cbef := pth_sorted (fun a => atS_sorted l ax allU a) _ _ _
/-! ### the reference's list, in order -/
theorem extR_sorted {l : List Dm} {ax : Int} {fr : ByteArray} {c : List Lk} {n : Nat} : (extR l ax fr c n).Pairwise cbef := by
  unfold extR
  exact List.pairwise_map.2 (((twos_sorted n).filter _).imp fun {x y} h => cbef_same (s := [x]) (t := [y]) (Or.inr h))
theorem levR_sorted {l : List Dm} {ax : Int} {fr : ByteArray} (hg : givenE l = 0) : ∀ k : Nat, (levR l ax fr k).Pairwise cbef
  | 0 => by simp [levR]
  | k + 1 => by
    rw [levR, nextR, List.pairwise_flatMap]
    refine ⟨fun c _ => extR_sorted, ?_⟩
    refine List.Pairwise.imp_of_mem (fun {c c'} hc hc' h => ?_) (levR_sorted hg k)
    intro d hd d' hd'
    obtain ⟨x, _, _, rfl⟩ := extR_mem.1 hd
    obtain ⟨y, _, _, rfl⟩ := extR_mem.1 hd'
    exact cbef_app (((lev_mem hg).1 hc).1.trans ((lev_mem hg).1 hc').1.symm) h
abbrev shortP (a b : List Lk) : Prop := a.length < b.length ∨ (a.length = b.length ∧ cbef a b)
theorem fromR_sorted {l : List Dm} {ax : Int} {fr : ByteArray} (hg : givenE l = 0) : ∀ m k : Nat, (fromR l ax fr m (levR l ax fr k)).Pairwise shortP
  | 0, k => List.Pairwise.nil
  | m + 1, k => by
    rw [fromR, show nextR l ax fr (levR l ax fr k) = levR l ax fr (k + 1) from rfl, List.pairwise_append]
    refine ⟨List.Pairwise.imp_of_mem (fun {c c'} hc hc' h => .inr ⟨((lev_mem hg).1 hc).1.trans ((lev_mem hg).1 hc').1.symm, h⟩) (levR_sorted hg (k + 1)), fromR_sorted hg m (k + 1), fun c hc d hd => ?_⟩
    obtain ⟨j, h1, _, h2⟩ := from_mem.1 hd
    have e1 := ((lev_mem hg).1 hc).1
    have e2 := ((lev_mem hg).1 h2).1
    exact .inl (by omega)
theorem leadR_sorted {l : List Dm} {ax : Int} {fr to : ByteArray} (hg : givenE l = 0) : (leadR l ax fr to).Pairwise shortP := (fromR_sorted hg l.length 0).filter _
theorem leadR_nodup {l : List Dm} {ax : Int} {fr to : ByteArray} (hg : givenE l = 0) : (leadR l ax fr to).Nodup :=
  (leadR_sorted hg).imp fun {a b} h e => by
    subst e
    rcases h with h | h
    · omega
    · exact cbef_irr h.2
theorem leadR_perm {l : List Dm} {ax : Int} {fr to : ByteArray} (hg : givenE l = 0) (hne : ¬ fr = to) : (leadR l ax fr to).Perm (pthA l ax fr to) :=
  (List.perm_ext_iff_of_nodup (leadR_nodup hg) (pthA_nodup _ _ _ _)).2 fun c => by rw [leadR_mem hg hne, pthA_iff]
/-- what is sorted of it is what the program lists -/
theorem lead_sorted {l : List Dm} {ax : Int} {fr to : ByteArray} {P : List (List Lk)} (hg : givenE l = 0) (hne : ¬ fr = to) (h1 : P.Perm (leadR l ax fr to)) (h2 : P.Pairwise cbef) : P = pthA l ax fr to :=
  sorted_uniq (fun _ _ => cbef_asym) (h1.trans (leadR_perm hg hne)) h2 (pthA_sorted _ _ _ _)
/-! ### the first of the shortest ones -/
theorem way_first {l : List Dm} {ax : Int} {use : Nat → Bool} (H : NetOk l (nlk l ax use l.length)) (to : ByteArray) : ∀ {d : Nat} {s : ByteArray} {c : List Lk}, farG (farT l (nlk l ax use l.length) to) s = some d → lnk l (nlk l ax use l.length) s c to → c.length = d →
    wayF l (atS l (nlk l ax use l.length)) (farT l (nlk l ax use l.length) to) d s = c ∨ cbef (wayF l (atS l (nlk l ax use l.length)) (farT l (nlk l ax use l.length) to) d s) c
  | 0, s, c, _, _, hl => .inl (List.length_eq_zero_iff.1 hl).symm
  | d + 1, s, [], _, _, hl => by simp at hl
  | d + 1, s, y :: c, hs, ⟨h1, h2, h3⟩, hl => by
    have hlc : c.length = d := by simpa using hl
    obtain ⟨e, he, hle⟩ := sh_least H nlk_flp h3
    obtain ⟨e2, he2, hle2⟩ := far_le H to he (c := [flp y]) (b := s) ⟨nlk_flp y h1, beg_flp y, (sto_flp y).trans h2⟩
    have hed : e = d := by
      rw [hs] at he2
      injection he2 with he2
      simp at hle2
      omega
    subst hed
    have hy : y ∈ atS l (nlk l ax use l.length) s := atS_mem.2 ⟨h1, h2⟩
    have hpy : decide (farG (farT l (nlk l ax use l.length) to) (stoE l y) = some e) = true := by simpa using he
    cases hf : (atS l (nlk l ax use l.length) s).find? (fun x => decide (farG (farT l (nlk l ax use l.length) to) (stoE l x) = some e)) with
    | none => rw [List.find?_eq_none] at hf; exact absurd hpy (hf y hy)
    | some x =>
      rw [wayF_some hf]
      rcases find_before (atS_sorted l ax use s) hf hy hpy with hxy | hxy
      · subst hxy
        rcases way_first H to he h3 hlc with h4 | h4
        · exact .inl (by rw [h4])
        · exact .inr (.inl ⟨rfl, h4⟩)
      · exact .inr (.inr hxy)
theorem sh_first {l : List Dm} {ax : Int} {fr to : ByteArray} (hg : givenE l = 0) (hne : ¬ fr = to) (h : (shS l (netL l ax) fr to).2 = true) : ∃ t, leadR l ax fr to = (shS l (netL l ax) fr to).1 :: t := by
  have H := nlk_ok l ax allU (givenE_len hg)
  have hp := (leadR_mem hg hne).2 (sh_gp H h)
  cases hL : leadR l ax fr to with
  | nil => rw [hL] at hp; cases hp
  | cons c t =>
    rw [hL] at hp
    have hs := leadR_sorted (l := l) (ax := ax) (fr := fr) (to := to) hg
    rw [hL, List.pairwise_cons] at hs
    rcases List.mem_cons.1 hp with e | hp
    · exact ⟨t, by rw [e]⟩
    · exfalso
      have hc : gp l (netL l ax) fr c to := (leadR_mem hg hne).1 (by rw [hL]; simp)
      have h1 := (sh_min H nlk_flp hc.1).2
      rcases hs.1 _ hp with h2 | ⟨h2, h3⟩
      · omega
      · cases hf : farG (farT l (netL l ax) to) fr with
        | none => rw [shS_no hf] at h; cases h
        | some d =>
          rw [shS_yes hf] at h2 h3
          have h4 := (way_lnk H to hf).2.1
          rcases way_first H to hf hc.1 (h2.trans h4) with h5 | h5
          · rw [h5] at h3; exact cbef_irr h3
          · exact cbef_asym h3 h5
theorem sh_none {l : List Dm} {ax : Int} {fr to : ByteArray} (hg : givenE l = 0) (hne : ¬ fr = to) (h : ¬ (shS l (netL l ax) fr to).2 = true) : leadR l ax fr to = [] := by
  refine List.eq_nil_iff_forall_not_mem.2 fun c hc => ?_
  have hc := (leadR_mem hg hne).1 hc
  exact h (sh_min (nlk_ok l ax allU (givenE_len hg)) nlk_flp hc.1).1
end Go.Proofs.Ytagapiflfnbfiaa
