/- Arguments with slices in them, opened: their leaves and what their slices read as. No statement of the seat is proved here. -/
import Derived.Test.YtagapiflfnbfiaaEngL
import Derived.Test.YtagapiflfnbfiaaEngH
namespace Go.Proofs.Ytagapiflfnbfiaa
set_option linter.unusedVariables false
set_option linter.unusedSimpArgs false
open Go Go.RowKit Go.WideShapes Go.ChangeShapes
inductive Sh where
  | int (k : IntKind)
  | bool
  | string
  | slice (size : Nat) (ks : List Sh)
mutual
def LeafS (w : World) : Sh → Value → Prop
  | .int k, v => ∃ m : Int, v = .int k m ∧ (Lit.int k m).wf = true
  | .bool, v => ∃ b : Bool, v = .bool b
  | .string, v => ∃ s : ByteArray, v = .string s ∧ s.size ≤ maxLen
  | .slice size ks, v => ∃ (A : Option Addr) (cap : Nat) (css : List (List Value)), v = .slice A css.length cap ∧ css.length ≤ cap ∧ cap ≤ maxLen ∧ Rd w A size css.length (fun i => css.getD i []) ∧ ∀ c ∈ css, LeavesS w ks c
def LeavesS (w : World) : List Sh → List Value → Prop
  | [], cs => cs = []
  | d :: ds, cs => ∃ v r, cs = v :: r ∧ LeafS w d v ∧ LeavesS w ds r
end
theorem LeavesS.append {w : World} : ∀ {a b : List Sh} {x y : List Value}, LeavesS w a x → LeavesS w b y → LeavesS w (a ++ b) (x ++ y)
  | [], _, x, _, h, h' => by
    have h : x = [] := by simpa [LeavesS] using h
    subst h; exact h'
  | _ :: _, _, _, _, h, h' => by
    simp only [LeavesS] at h
    obtain ⟨v, r, e, hl, hr⟩ := h
    subst e
    simp only [List.cons_append, LeavesS]
    exact ⟨v, _, rfl, hl, LeavesS.append hr h'⟩
def shpFs (P : Program) (g : TypeId → Option (List Sh)) : List Field → Nat → Option (List Sh)
  | [], _ => some []
  | fd :: fs, off =>
    match g fd.type with
    | some k => bif Nat.beq fd.offset off && Nat.beq (P.cellsOf fd.type) k.length then (shpFs P g fs (off + k.length)).map (k ++ ·) else none
    | none => none
def shp (P : Program) : Nat → TypeId → Option (List Sh)
  | 0, _ => none
  | n + 1, t =>
    match P.underlying t with
    | some .bool => some [.bool]
    | some (.int k) => some [.int k]
    | some .string => some [.string]
    | some (.slice e) => (shp P n e).bind fun k => bif Nat.beq (P.cellsOf e) k.length then some [.slice k.length k] else none
    | some (.struct fs) => (shpFs P (shp P n) fs.toList 0).bind fun k => bif Nat.beq (P.cellsOf t) k.length then some k else none
    | some (.array m e) => (shp P n e).bind fun k => bif Nat.beq (P.cellsOf e) k.length && Nat.beq (P.cellsOf t) (m * k.length) then some (List.replicate m k).flatten else none
    | _ => none
section
variable {H : Type} {enc : TypeId × Value → H} {P : Program} {w : World} {held : Bool}
theorem leavesS_fs {g : TypeId → Option (List Sh)} {rd : TypeId → List Value → Option (DataW H × List MemPlace)} (hg : ∀ t k, g t = some k → ∀ cs x, rd t cs = some x → cs.length = k.length → LeavesS w k cs) (cs : List Value) :
    ∀ (fs : List Field) (off : Nat) (k : List Sh) (xs : List (DataW H × List MemPlace)), shpFs P g fs off = some k → fs.mapM (fun f => rd f.type ((cs.drop f.offset).take (P.cellsOf f.type))) = some xs → off + k.length = cs.length → LeavesS w k (cs.drop off)
  | [], off, k, xs, hk, _, hl => by
    simp only [shpFs, Option.some.injEq] at hk
    subst hk
    simp only [LeavesS]
    exact List.drop_of_length_le (by simp at hl; omega)
  | fd :: fs, off, k, xs, hk, hx, hl => by
    simp only [shpFs] at hk
    split at hk
    · rename_i k1 hk1
      cases hb : (Nat.beq fd.offset off && Nat.beq (P.cellsOf fd.type) k1.length) with
      | false => rw [hb] at hk; simp at hk
      | true =>
        rw [hb] at hk
        simp only [cond_true] at hk
        obtain ⟨k2, hk2, rfl⟩ := Option.map_eq_some_iff.1 hk
        simp only [Bool.and_eq_true] at hb
        have h1 := Nat.eq_of_beq_eq_true hb.1
        have h2 := Nat.eq_of_beq_eq_true hb.2
        rw [List.mapM_cons] at hx
        obtain ⟨y, hy, hx⟩ := Option.bind_eq_some_iff.1 hx
        obtain ⟨zs, hz, _⟩ := Option.bind_eq_some_iff.1 hx
        rw [h1, h2] at hy
        simp only [List.length_append] at hl
        have e : cs.drop off = (cs.drop off).take k1.length ++ cs.drop (off + k1.length) := by rw [← List.drop_drop, List.take_append_drop]
        rw [e]
        exact (hg _ _ hk1 _ _ hy (by simp; omega)).append (leavesS_fs hg cs fs _ k2 zs hk2 hz (by omega))
    · cases hk
theorem leavesS_arr {k : List Sh} {rd : List Value → Option (DataW H × List MemPlace)} (hg : ∀ cs x, rd cs = some x → cs.length = k.length → LeavesS w k cs) (cs : List Value) :
    ∀ (m i : Nat), (∀ j, j < m → ∃ x, rd ((cs.drop ((i + j) * k.length)).take k.length) = some x) → (i + m) * k.length = cs.length → LeavesS w (List.replicate m k).flatten (cs.drop (i * k.length))
  | 0, i, _, hl => by
    simp only [List.replicate_zero, List.flatten_nil, LeavesS]
    exact List.drop_of_length_le (by simp at hl; omega)
  | m + 1, i, h, hl => by
    have hlen : i * k.length + k.length + m * k.length = cs.length := by rw [← hl, Nat.add_mul, Nat.succ_mul]; omega
    obtain ⟨x, hx⟩ := h 0 (by omega)
    rw [Nat.add_zero] at hx
    have e : cs.drop (i * k.length) = (cs.drop (i * k.length)).take k.length ++ cs.drop ((i + 1) * k.length) := by rw [Nat.succ_mul, ← List.drop_drop, List.take_append_drop]
    rw [e, List.replicate_succ, List.flatten_cons]
    exact (hg _ _ hx (by simp; omega)).append (leavesS_arr hg cs m (i + 1) (fun j hj => by have := h (j + 1) (by omega); rwa [show i + (j + 1) = i + 1 + j by omega] at this) (by rw [← hl]; congr 1; omega))
theorem mapM_len {α β : Type} {f : α → Option β} : ∀ (l : List α) (ys : List β), l.mapM f = some ys → ∀ j (h : j < l.length), ∃ y, f l[j] = some y
  | [], _, _, j, h => by simp at h
  | a :: l, ys, hm, j, h => by
    rw [List.mapM_cons] at hm
    obtain ⟨y, hy, hm⟩ := Option.bind_eq_some_iff.1 hm
    obtain ⟨zs, hz, _⟩ := Option.bind_eq_some_iff.1 hm
    cases j with
    | zero => exact ⟨y, hy⟩
    | succ j => exact mapM_len l zs hz j (by simpa using h)
theorem mapM_length {α β : Type} {f : α → Option β} : ∀ (l : List α) (ys : List β), l.mapM f = some ys → ys.length = l.length
  | [], ys, h => by simp at h; subst h; rfl
  | a :: l, ys, hm => by
    rw [List.mapM_cons] at hm
    obtain ⟨y, hy, hm⟩ := Option.bind_eq_some_iff.1 hm
    obtain ⟨zs, hz, hm⟩ := Option.bind_eq_some_iff.1 hm
    have hm : y :: zs = ys := by simpa using hm
    subst hm
    simp [mapM_length l zs hz]
theorem mapM_at' {α β : Type} {f : α → Option β} : ∀ (l : List α) (ys : List β), l.mapM f = some ys → ∀ j (h : j < ys.length) (h' : j < l.length), f l[j] = some ys[j]
  | [], ys, hm, j, h, h' => by simp at h'
  | a :: l, ys, hm, j, h, h' => by
    rw [List.mapM_cons] at hm
    obtain ⟨y, hy, hm⟩ := Option.bind_eq_some_iff.1 hm
    obtain ⟨zs, hz, hm⟩ := Option.bind_eq_some_iff.1 hm
    have hm : y :: zs = ys := by simpa using hm
    subst hm
    cases j with
    | zero => exact hy
    | succ j => exact mapM_at' l zs hz j (by simpa using h) (by simpa using h')
theorem cells_get {b0 : Nat} {a : Addr} {n : Nat} {cs : List Value} (h : w.cells? b0 a n = some cs) : cs.length = n ∧ ∀ j u, cs[j]? = some u → w.cell? (a.add j) = some u := by
  unfold World.cells? at h
  split at h
  · refine ⟨?_, fun j u hu => ?_⟩
    · simpa using mapM_length _ _ h
    · obtain ⟨hj, rfl⟩ := List.getElem?_eq_some_iff.1 hu
      have hl := mapM_length _ _ h
      have := mapM_at' _ _ h j hj (by rw [← hl]; exact hj)
      simpa using this
  · cases h
theorem trod_leavesS {sp : Nat → Bool} {b0 : Nat} : ∀ (n : Nat) (t : TypeId) (k : List Sh), shp P n t = some k → ∀ (fuel : Nat) (cs : List Value) (x : DataW H × List MemPlace), DataW.trod enc P w b0 sp held fuel t cs = some x → LeavesS w k cs
  | 0, _, _, h, _, _, _, _ => by cases h
  | n + 1, t, k, h, 0, cs, x, hx => by simp [DataW.trod] at hx
  | n + 1, t, k, h, fuel + 1, cs, x, hx => by
    simp only [shp] at h
    split at h <;> try (cases h; done)
    · rename_i hu
      injection h with h; subst h
      unfold DataW.trod at hx
      rw [hu] at hx
      rcases cs with _ | ⟨v, _ | ⟨v2, r⟩⟩
      · cases hx
      · cases v <;> try (cases hx; done)
        simp [LeavesS, LeafS]
      · cases v <;> cases hx
    · rename_i kd hu
      injection h with h; subst h
      obtain ⟨m, rfl, _, hw⟩ := DataW.trod_int hu hx
      simp only [LeavesS, LeafS]
      exact ⟨_, _, rfl, ⟨m, rfl, hw⟩, rfl⟩
    · rename_i hu
      injection h with h; subst h
      obtain ⟨s, rfl, _, hw⟩ := DataW.trod_string hu hx
      simp only [LeavesS, LeafS]
      exact ⟨_, _, rfl, ⟨s, rfl, hw⟩, rfl⟩
    · rename_i e hu
      obtain ⟨k', hk, h⟩ := Option.bind_eq_some_iff.1 h
      cases hb : Nat.beq (P.cellsOf e) k'.length with
      | false => rw [hb] at h; simp at h
      | true =>
        rw [hb] at h
        simp only [cond_true, Option.some.injEq] at h
        subst h
        have hce := Nat.eq_of_beq_eq_true hb
        unfold DataW.trod at hx
        rw [hu] at hx
        rcases cs with _ | ⟨v, _ | ⟨v2, r⟩⟩
        · cases hx
        · cases v <;> try (cases hx; done)
          rename_i a len cap
          cases a with
          | none =>
            rcases len with _ | len
            · rcases cap with _ | cap
              · simp only [LeavesS, LeafS]
                exact ⟨_, _, rfl, ⟨none, 0, [], rfl, Nat.le_refl _, Nat.zero_le _, Rd.nil _ _ _ _, fun c hc => by cases hc⟩, rfl⟩
              · cases hx
            · cases hx
          | some a =>
            simp only at hx
            split at hx
            · rename_i hc
              obtain ⟨els, he, _⟩ := Option.bind_eq_some_iff.1 hx
              have hel : ∀ i, i < len → ∃ cs, w.cells? b0 (a.add (i * k'.length)) k'.length = some cs ∧ LeavesS w k' cs := fun i hi => by
                obtain ⟨y, hy⟩ := mapM_len _ _ he i (by simpa using hi)
                obtain ⟨cs, h1, h2⟩ := Option.bind_eq_some_iff.1 hy
                simp only [List.getElem_range, hce] at h1
                exact ⟨cs, h1, trod_leavesS n e k' hk fuel cs y h2⟩
              let css := (List.range len).map fun i => (w.cells? b0 (a.add (i * k'.length)) k'.length).getD []
              have hlen : css.length = len := by simp [css]
              simp only [LeavesS, LeafS]
              refine ⟨_, _, rfl, ⟨some a, cap, css, by rw [hlen], by omega, hc.2.2, ⟨fun _ => rfl, fun i j u hi hu' => ?_⟩, fun c hcm => ?_⟩, rfl⟩
              · rw [hlen] at hi
                obtain ⟨cs, h1, _⟩ := hel i hi
                have hg : css.getD i [] = cs := by
                  simp [css, List.getD_eq_getElem?_getD, hi, h1]
                simp only [hg] at hu'
                have := (cells_get h1).2 j u hu'
                rw [add_add'] at this
                exact this
              · obtain ⟨i, hi, rfl⟩ := List.mem_map.1 hcm
                obtain ⟨cs, h1, h2⟩ := hel i (List.mem_range.1 hi)
                rw [h1]
                exact h2
            · cases hx
        · cases v <;> first | (cases hx; done) | (rename_i a len cap; rcases a with _ | a <;> rcases len with _ | len <;> rcases cap with _ | cap <;> cases hx)
    · rename_i fs hu
      obtain ⟨k', hk, h⟩ := Option.bind_eq_some_iff.1 h
      cases hb : Nat.beq (P.cellsOf t) k'.length with
      | false => rw [hb] at h; simp at h
      | true =>
        rw [hb] at h
        simp only [cond_true, Option.some.injEq] at h
        subst h
        have hc := Nat.eq_of_beq_eq_true hb
        unfold DataW.trod at hx
        rw [hu] at hx
        simp only at hx
        split at hx
        · rename_i hl
          obtain ⟨xs, he, _⟩ := Option.map_eq_some_iff.1 hx
          have := leavesS_fs (P := P) (w := w) (rd := fun t cs => DataW.trod enc P w b0 sp held fuel t cs) (fun t k hk cs x hx _ => trod_leavesS n t k hk fuel cs x hx) cs fs.toList 0 k' xs hk he (by omega)
          simpa using this
        · cases hx
    · rename_i m e hu
      obtain ⟨k', hk, h⟩ := Option.bind_eq_some_iff.1 h
      cases hb : (Nat.beq (P.cellsOf e) k'.length && Nat.beq (P.cellsOf t) (m * k'.length)) with
      | false => rw [hb] at h; simp at h
      | true =>
        rw [hb] at h
        simp only [cond_true, Option.some.injEq] at h
        subst h
        simp only [Bool.and_eq_true] at hb
        have h1 := Nat.eq_of_beq_eq_true hb.1
        have h2 := Nat.eq_of_beq_eq_true hb.2
        unfold DataW.trod at hx
        rw [hu] at hx
        simp only at hx
        split at hx
        · rename_i hl
          obtain ⟨xs, he, _⟩ := Option.map_eq_some_iff.1 hx
          have := leavesS_arr (w := w) (rd := fun cs => DataW.trod enc P w b0 sp held fuel e cs) (fun cs x hx _ => trod_leavesS n e k' hk fuel cs x hx) cs m 0 (fun j hj => by
            obtain ⟨x, hx⟩ := mapM_len _ _ he j (by simpa using hj)
            rw [h1] at hx
            exact ⟨x, by simpa using hx⟩) (by rw [Nat.zero_add, hl, h2])
          simpa using this
        · cases hx
def isSl : TypeDesc → Bool
  | .slice _ => true
  | _ => false
theorem open_agg {r : Reach} {b1 b0 : Nat} {sp : Nat → Bool} {n : Nat} {t : TypeId} {k : List Sh} {v : Value} {d : DataW H} {p : List MemPlace} (hk : shp P n t = some k) (hag : (P.underlying t).map isAgg' = some true) (hv : Value.okWide P w r b1 t v) (h : DataW.Trod enc P w b0 sp held t v d p) :
    ∃ l : List Value, v = .agg l.toArray ∧ LeavesS w k l := by
  obtain ⟨dd, hu, hd⟩ := Option.map_eq_some_iff.1 hag
  obtain ⟨fuel, hf⟩ := h
  have key : ∃ cs : Array Value, v = .agg cs := by
    cases dd <;> first | (cases hd; done) | (simp only [Value.okWide, hu] at hv; obtain ⟨cs, h1, _⟩ := hv; exact ⟨cs, h1⟩)
  obtain ⟨cs, rfl⟩ := key
  refine ⟨cs.toList, by simp, ?_⟩
  exact trod_leavesS n t k hk fuel _ _ hf
theorem open_slice {b0 : Nat} {sp : Nat → Bool} {n : Nat} {t : TypeId} {k : List Sh} {r : Reach} {b1 : Nat} {v : Value} {d : DataW H} {p : List MemPlace} (hk : shp P n t = some k) (hsl' : (P.underlying t).map isSl = some true) (hv : Value.okWide P w r b1 t v) (h : DataW.Trod enc P w b0 sp held t v d p) :
    LeavesS w k [v] := by
  obtain ⟨fuel, hf⟩ := h
  obtain ⟨e, hsl⟩ : ∃ e, P.underlying t = some (.slice e) := by
    obtain ⟨dd, hu, hd⟩ := Option.map_eq_some_iff.1 hsl'
    cases dd <;> first | (cases hd; done) | exact ⟨_, hu⟩
  have key : v.cells.toList = [v] := by
    unfold Value.okWide at hv
    rw [hsl] at hv
    simp only [Cell.okWide, hsl, Cell.ok] at hv
    cases v <;> first | rfl | exact hv.elim
  rw [key] at hf
  exact trod_leavesS n t k hk fuel _ _ hf
end
/-- lists of records -/
theorem ex_map {α β : Type} {f : α → β} {p : α → Prop} : ∀ (l : List β), (∀ c ∈ l, ∃ a, c = f a ∧ p a) → ∃ m : List α, l = m.map f ∧ ∀ a ∈ m, p a
  | [], _ => ⟨[], rfl, fun a ha => by cases ha⟩
  | c :: l, h => by
    obtain ⟨a, rfl, ha⟩ := h c List.mem_cons_self
    obtain ⟨m, rfl, hm⟩ := ex_map l (fun c hc => h c (List.mem_cons_of_mem _ hc))
    exact ⟨a :: m, rfl, fun x hx => by rcases List.mem_cons.1 hx with rfl | hx; exact ha; exact hm x hx⟩
theorem Rd.map {α : Type} {w : World} {A : Option Addr} {size : Nat} {f : α → List Value} {l : List α} (z : α) (h : Rd w A size (l.map f).length (fun i => (l.map f).getD i [])) : Rd w A size l.length (fun i => f (l.getD i z)) := by
  rw [List.length_map] at h
  refine ⟨h.some_, fun i j u hi hu => h.at_ i j u hi ?_⟩
  simpa [List.getD_eq_getElem?_getD, hi] using hu
theorem flat_at {α : Type} {f : α → List Value} {size : Nat} (z : α) (hs : ∀ a, (f a).length = size) : ∀ (l : List α) (i : Nat), i < l.length → ((l.flatMap f).drop (i * size)).take size = f (l.getD i z)
  | [], i, h => by simp at h
  | a :: l, 0, _ => by
    simp only [List.flatMap_cons, Nat.zero_mul, List.drop_zero, List.getD_cons_zero]
    rw [List.take_append_of_le_length (by rw [hs]; omega), List.take_of_length_le (by rw [hs]; omega)]
  | a :: l, i + 1, h => by
    simp only [List.flatMap_cons, List.getD_cons_succ]
    rw [← flat_at z hs l i (by simpa using h), List.drop_append, hs, List.drop_of_length_le (by rw [hs, Nat.succ_mul]; omega)]
    rw [List.nil_append]
    congr 2
    rw [Nat.succ_mul]; omega
theorem Sat.rdcs {α : Type} {f : α → List Value} {size : Nat} {w0 w : World} {M : List Nat} {h : List HO} {b : Nat} {T : TypeId} {l : List α} (z : α) (hs : ∀ a, (f a).length = size) (S : Sat w0 M h w) (hh : Has h (.cl b T (l.flatMap f))) :
    Rd w (some ⟨b, 0, none⟩) size l.length (fun i => f (l.getD i z)) :=
  (S.rdcl hh size l.length).congr fun i hi => (flat_at z hs l i hi).symm
theorem getD_mem {α : Type} {l : List α} {k : Nat} (z : α) (h : k < l.length) : l.getD k z ∈ l := by
  simp [List.getD_eq_getElem?_getD, h]
theorem mem_getD {α : Type} {l : List α} {a : α} (z : α) (h : a ∈ l) : ∃ k, k < l.length ∧ l.getD k z = a := by
  obtain ⟨k, hk, rfl⟩ := List.mem_iff_getElem.1 h
  exact ⟨k, hk, by simp [List.getD_eq_getElem?_getD, hk]⟩
end Go.Proofs.Ytagapiflfnbfiaa
