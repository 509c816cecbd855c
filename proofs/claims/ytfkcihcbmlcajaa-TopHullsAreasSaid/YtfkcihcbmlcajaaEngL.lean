/- Arguments read again in a later world; a statement lifted from its walk. No statement of the seat is proved here. -/
import Derived.Test.YtfkcihcbmlcajaaEngB
import Derived.ChangeSame
import Derived.WideShapes
import Derived.Below
import Derived.RowKit
import Derived.OpenShut
namespace Go.Proofs.Ytfkcihcbmlcajaa
set_option linter.unusedVariables false
set_option linter.unusedSimpArgs false
open Go Go.RowKit Go.WideShapes Go.ChangeShapes
/-- types whose values are read again: numbers, bools, strings; slices (of elements of a cell or more), structs, arrays of such -/
def okT (P : Program) : Nat → TypeId → Bool
  | 0, _ => false
  | n + 1, t =>
    match P.underlying t with
    | some .bool => true
    | some (.int _) => true
    | some .string => true
    | some (.slice e) => !(Nat.beq (P.cellsOf e) 0) && okT P n e
    | some (.struct fs) => fs.toList.all fun f => okT P n f.type
    | some (.array _ e) => okT P n e
    | _ => false
theorem mapM_again {α β : Type} {f g : α → Option β} : ∀ (l : List α) (ys : List β), l.mapM f = some ys → (∀ a ∈ l, ∀ y ∈ ys, f a = some y → g a = some y) → l.mapM g = some ys
  | [], ys, h, _ => by simpa using h
  | a :: l, ys, h, hg => by
    rw [List.mapM_cons] at h ⊢
    obtain ⟨y, hy, h⟩ := Option.bind_eq_some_iff.1 h
    obtain ⟨zs, hz, h⟩ := Option.bind_eq_some_iff.1 h
    have h : y :: zs = ys := by simpa using h
    subst h
    rw [hg a List.mem_cons_self y List.mem_cons_self hy, mapM_again l zs hz (fun b hb z hz' => hg b (List.mem_cons_of_mem _ hb) z (List.mem_cons_of_mem _ hz'))]
    rfl
def isAgg' : TypeDesc → Bool
  | .struct _ => true
  | .array _ _ => true
  | _ => false
section
variable {H : Type} {enc : TypeId × Value → H} {P : Program}
theorem post_of_below {f : Func} {s : ChangeSpec} {apart fresh handsOn again : Bool} {W W' : World} {args : Array Value} {v : Value} {ds gs : List (DataW H)} {before pa pv : List MemPlace}
    (hW : DataW.Whole enc P f.params.toList s.vars apart W args.toList ds gs before)
    (hres : ∀ (b : Nat) (sp : Nat → Bool) (hd : Bool), DataW.TrodAll enc P W' b sp hd f.resultTypes.toList (v.resultList f.resultTypes.size) (s.fn H (ds ++ gs)).results [])
    (hargs : ∀ sp : Nat → Bool, (∀ p ∈ before, sp p.block = true) → DataW.TrodAll enc P W' 0 sp true f.params.toList args.toList (s.fn H (ds ++ gs)).args pa)
    (hvars : ∀ sp : Nat → Bool, (∀ p ∈ before, sp p.block = true) → DataW.TrodVars enc P W' sp s.vars (s.fn H (ds ++ gs)).vars pv)
    (hps : before = pa ++ pv) (hb : Below W.heap.size W W')
    (hok : ∀ (j : Nat) (t : TypeId) (r : Value), f.resultTypes[j]? = some t → (v.resultList f.resultTypes.size)[j]? = some r → Value.okWide P W' .any 0 t r) :
    s.post enc P f apart fresh handsOn again W args v W' := by
  have hlt : ∀ p ∈ before, p.block < W.heap.size := fun p hp => hW.lt p hp
  have hold : ∀ p ∈ before, (fun b => decide (b < W.heap.size)) p.block = true := fun p hp => by simpa using hlt p hp
  refine ⟨ds, gs, before, [], pa, pv, hW, hres _ _ _, hargs _ hold, hvars _ hold, World.keptBut_mono (fun p hp => ⟨hp, ?_⟩) (hb.frame (· ∈ before)), fun _ => ?_⟩
  · rw [hps, List.mem_append] at hp
    exact Or.inr hp
  · obtain ⟨_, _, _, _, _, hz, hn⟩ := hW
    refine ⟨hok, _, _, ([] ++ pa) ++ pv, ⟨[] ++ pa, pv, trodAll_append (hargs _ (fun _ _ => rfl)) (hres _ _ _), hvars _ (fun _ _ => rfl), rfl, ?_, ?_⟩, ?_⟩
    · intro b off hp
      have hin : MemPlace.cell b off ∈ before := by rw [hps]; simpa using hp
      rw [hb.frozen (hlt _ hin)]
      exact hz b off hin
    · intro ha
      have := hn ha
      rw [hps] at this
      simpa using this
    · intro p hp _
      rw [hps]
      simpa using hp
end
section
variable {H : Type} {enc : TypeId × Value → H} {P : Program} {w w' : World} {b0 : Nat} {held : Bool}
theorem cells_again (hw : ∀ k, k < w.heap.size → w'.heap[k]? = w.heap[k]?) {a : Addr} {n : Nat} {cs : List Value} (h : w.cells? b0 a n = some cs) : w'.cells? b0 a n = some cs := by
  unfold World.cells? at h ⊢
  split at h
  · rename_i hb
    rw [if_pos hb]
    refine mapM_again _ _ h (fun i _ y _ hy => ?_)
    exact (World.cell?_of_block (hw _ (World.block_lt_of_cell? w _ hy))).trans hy
  · cases h
theorem trod_again (hw : ∀ k, k < w.heap.size → w'.heap[k]? = w.heap[k]?) : ∀ (n : Nat) (t : TypeId), okT P n t = true → ∀ (fuel : Nat) (cs : List Value) (x : DataW H × List MemPlace),
    DataW.trod enc P w b0 (fun _ => true) held fuel t cs = some x → ∀ sp : Nat → Bool, (∀ p ∈ x.2, sp p.block = true) → DataW.trod enc P w' b0 sp held fuel t cs = some x
  | 0, _, h, _, _, _, _, _, _ => by cases h
  | n + 1, t, h, 0, cs, x, hx, sp, hsp => by simp [DataW.trod] at hx
  | n + 1, t, h, fuel + 1, cs, x, hx, sp, hsp => by
    simp only [okT] at h
    split at h <;> try (cases h; done)
    · rename_i hu
      rw [← hx]
      unfold DataW.trod
      rw [hu]
      rcases cs with _ | ⟨v, _ | ⟨v2, r⟩⟩ <;> (try cases v) <;> rfl
    · rename_i k hu
      rw [← hx]
      unfold DataW.trod
      rw [hu]
      rcases cs with _ | ⟨v, _ | ⟨v2, r⟩⟩ <;> (try cases v) <;> rfl
    · rename_i hu
      rw [← hx]
      unfold DataW.trod
      rw [hu]
      rcases cs with _ | ⟨v, _ | ⟨v2, r⟩⟩ <;> (try cases v) <;> rfl
    · rename_i e hu
      simp only [Bool.and_eq_true, Bool.not_eq_true'] at h
      have hce : ¬ P.cellsOf e = 0 := fun e0 => by rw [e0] at h; simp at h
      unfold DataW.trod at hx ⊢
      rw [hu] at hx ⊢
      rcases cs with _ | ⟨v, _ | ⟨v2, r⟩⟩
      · cases hx
      · cases v <;> try (cases hx; done)
        rename_i a len cap
        cases a with
        | none =>
          rcases len with _ | len
          · rcases cap with _ | cap
            · exact hx
            · cases hx
          · cases hx
        | some a =>
          simp only at hx ⊢
          split at hx
          · rename_i hc
            rw [if_pos hc]
            obtain ⟨els, he, hx⟩ := Option.bind_eq_some_iff.1 hx
            simp only [if_true] at hx
            obtain ⟨rest, hr, hx⟩ := Option.map_eq_some_iff.1 hx
            subst hx
            have hpl : ∀ y, y ∈ els ∨ y ∈ rest → ∀ p ∈ y.2, sp p.block = true := fun y hy p hp => hsp p (List.mem_append_right _ (List.mem_flatMap.2 ⟨y, List.mem_append.2 hy, hp⟩))
            have hel : ∀ i, ∀ y, (y ∈ els ∨ y ∈ rest) → ((w.cells? b0 (a.add (i * P.cellsOf e)) (P.cellsOf e)).bind (DataW.trod enc P w b0 (fun _ => true) held fuel e)) = some y →
                ((w'.cells? b0 (a.add (i * P.cellsOf e)) (P.cellsOf e)).bind (DataW.trod enc P w' b0 sp held fuel e)) = some y := fun i y hy hf => by
              obtain ⟨cs, h1, h2⟩ := Option.bind_eq_some_iff.1 hf
              rw [cells_again hw h1]
              exact trod_again hw n e h.2 fuel cs y h2 sp (hpl y hy)
            rw [mapM_again _ _ he (fun i _ y hy hf => hel i y (.inl hy) hf)]
            simp only [Option.bind_some]
            by_cases hsa : sp a.block = true
            · rw [if_pos hsa, mapM_again _ _ hr (fun j _ y hy hf => hel (len + j) y (.inr hy) hf)]
              rfl
            · have hlr : els.length + rest.length = 0 := by
                refine Classical.byContradiction fun hne => hsa ?_
                refine hsp (.cell a.block (a.off + 0)) (List.mem_append_left _ (List.mem_map.2 ⟨0, List.mem_range.2 ?_, rfl⟩))
                exact Nat.mul_pos (Nat.pos_of_ne_zero hne) (Nat.pos_of_ne_zero hce)
              have hr0 : rest = [] := List.eq_nil_of_length_eq_zero (by omega)
              rw [if_neg hsa, hr0]
              rfl
          · cases hx
      · cases v <;> first | (cases hx; done) | (rename_i a len cap; rcases a with _ | a <;> rcases len with _ | len <;> rcases cap with _ | cap <;> cases hx)
    · rename_i fs hu
      unfold DataW.trod at hx ⊢
      rw [hu] at hx ⊢
      simp only at hx ⊢
      split at hx
      · rename_i hc
        rw [if_pos hc]
        obtain ⟨xs, he, hx⟩ := Option.map_eq_some_iff.1 hx
        subst hx
        rw [mapM_again _ _ he (fun fd hfd y hy hf => trod_again hw n fd.type (List.all_eq_true.1 h fd hfd) fuel _ y hf sp (fun p hp => hsp p (List.mem_flatMap.2 ⟨y, hy, hp⟩)))]
        rfl
      · cases hx
    · rename_i m e hu
      unfold DataW.trod at hx ⊢
      rw [hu] at hx ⊢
      simp only at hx ⊢
      split at hx
      · rename_i hc
        rw [if_pos hc]
        obtain ⟨xs, he, hx⟩ := Option.map_eq_some_iff.1 hx
        subst hx
        rw [mapM_again _ _ he (fun i _ y hy hf => trod_again hw n e h fuel _ y hf sp (fun p hp => hsp p (List.mem_flatMap.2 ⟨y, hy, hp⟩)))]
        rfl
      · cases hx
theorem trodAll_again (hw : ∀ k, k < w.heap.size → w'.heap[k]? = w.heap[k]?) (n : Nat) : ∀ (ts : List TypeId) (vs : List Value) (ds : List (DataW H)) (ps : List MemPlace), ts.all (okT P n) = true → DataW.TrodAll enc P w b0 (fun _ => true) held ts vs ds ps →
    ∀ sp : Nat → Bool, (∀ p ∈ ps, sp p.block = true) → DataW.TrodAll enc P w' b0 sp held ts vs ds ps
  | [], [], [], _, _, h, _, _ => h
  | t :: ts, v :: vs, d :: ds, ps, ht, ⟨p, q, ⟨fuel, h1⟩, h2, e⟩, sp, hsp => by
    simp only [List.all_cons, Bool.and_eq_true] at ht
    subst e
    exact ⟨p, q, ⟨fuel, trod_again hw n t ht.1 fuel _ _ h1 sp (fun x hx => hsp x (List.mem_append_left _ hx))⟩, trodAll_again hw n ts vs ds q ht.2 h2 sp (fun x hx => hsp x (List.mem_append_right _ hx)), rfl⟩
/-! ### the leaves of flat values -/
def Leaf : TypeDesc → Value → Prop
  | .int k, v => ∃ m : Int, v = .int k m ∧ (Lit.int k m).wf = true
  | .bool, v => ∃ b : Bool, v = .bool b
  | .string, v => ∃ s : ByteArray, v = .string s ∧ s.size ≤ maxLen
  | _, _ => False
def Leaves : List TypeDesc → List Value → Prop
  | [], cs => cs = []
  | d :: ds, cs => ∃ v r, cs = v :: r ∧ Leaf d v ∧ Leaves ds r
theorem Leaves.append : ∀ {a b : List TypeDesc} {x y : List Value}, Leaves a x → Leaves b y → Leaves (a ++ b) (x ++ y)
  | [], _, _, _, h, h' => by cases h; exact h'
  | _ :: _, _, _, _, ⟨v, r, e, hl, hr⟩, h' => by subst e; exact ⟨v, _, rfl, hl, Leaves.append hr h'⟩
def shapeFs (P : Program) (g : TypeId → Option (List TypeDesc)) : List Field → Nat → Option (List TypeDesc)
  | [], _ => some []
  | fd :: fs, off =>
    match g fd.type with
    | some k => bif Nat.beq fd.offset off && Nat.beq (P.cellsOf fd.type) k.length then (shapeFs P g fs (off + k.length)).map (k ++ ·) else none
    | none => none
def shape (P : Program) : Nat → TypeId → Option (List TypeDesc)
  | 0, _ => none
  | n + 1, t =>
    match P.underlying t with
    | some .bool => some [.bool]
    | some (.int k) => some [.int k]
    | some .string => some [.string]
    | some (.struct fs) => (shapeFs P (shape P n) fs.toList 0).bind fun k => bif Nat.beq (P.cellsOf t) k.length then some k else none
    | some (.array m e) => (shape P n e).bind fun k => bif Nat.beq (P.cellsOf e) k.length && Nat.beq (P.cellsOf t) (m * k.length) then some (List.replicate m k).flatten else none
    | _ => none
theorem leaves_fs {g : TypeId → Option (List TypeDesc)} {rd : TypeId → List Value → Option (DataW H × List MemPlace)} (hg : ∀ t k, g t = some k → ∀ cs x, rd t cs = some x → cs.length = k.length → Leaves k cs) (cs : List Value) :
    ∀ (fs : List Field) (off : Nat) (k : List TypeDesc) (xs : List (DataW H × List MemPlace)), shapeFs P g fs off = some k → fs.mapM (fun f => rd f.type ((cs.drop f.offset).take (P.cellsOf f.type))) = some xs → off + k.length = cs.length → Leaves k (cs.drop off)
  | [], off, k, xs, hk, _, hl => by
    simp only [shapeFs, Option.some.injEq] at hk
    subst hk
    exact List.drop_of_length_le (by simp at hl; omega)
  | fd :: fs, off, k, xs, hk, hx, hl => by
    simp only [shapeFs] at hk
    split at hk
    · rename_i k1 hk1
      cases hb : (Nat.beq fd.offset off && Nat.beq (P.cellsOf fd.type) k1.length) with
      | false => rw [hb] at hk; simp at hk
      | true =>
        rw [hb] at hk
        simp only [cond_true] at hk
        obtain ⟨k2, hk2, rfl⟩ := Option.map_eq_some_iff.1 hk
        simp only [Bool.and_eq_true] at hb
        have h1 := Nat.eq_of_beq_eq_true hb.1
        have h2 := Nat.eq_of_beq_eq_true hb.2
        rw [List.mapM_cons] at hx
        obtain ⟨y, hy, hx⟩ := Option.bind_eq_some_iff.1 hx
        obtain ⟨zs, hz, _⟩ := Option.bind_eq_some_iff.1 hx
        rw [h1, h2] at hy
        simp only [List.length_append] at hl
        have e : cs.drop off = (cs.drop off).take k1.length ++ cs.drop (off + k1.length) := by rw [← List.drop_drop, List.take_append_drop]
        rw [e]
        exact (hg _ _ hk1 _ _ hy (by simp; omega)).append (leaves_fs hg cs fs _ k2 zs hk2 hz (by omega))
    · cases hk
theorem leaves_arr {k : List TypeDesc} {rd : List Value → Option (DataW H × List MemPlace)} (hg : ∀ cs x, rd cs = some x → cs.length = k.length → Leaves k cs) (cs : List Value) :
    ∀ (m i : Nat), (∀ j, j < m → ∃ x, rd ((cs.drop ((i + j) * k.length)).take k.length) = some x) → (i + m) * k.length = cs.length → Leaves (List.replicate m k).flatten (cs.drop (i * k.length))
  | 0, i, _, hl => List.drop_of_length_le (by simp at hl; omega)
  | m + 1, i, h, hl => by
    have hlen : i * k.length + k.length + m * k.length = cs.length := by rw [← hl, Nat.add_mul, Nat.succ_mul]; omega
    obtain ⟨x, hx⟩ := h 0 (by omega)
    rw [Nat.add_zero] at hx
    have e : cs.drop (i * k.length) = (cs.drop (i * k.length)).take k.length ++ cs.drop ((i + 1) * k.length) := by rw [Nat.succ_mul, ← List.drop_drop, List.take_append_drop]
    rw [e, List.replicate_succ, List.flatten_cons]
    exact (hg _ _ hx (by simp; omega)).append (leaves_arr hg cs m (i + 1) (fun j hj => by have := h (j + 1) (by omega); rwa [show i + (j + 1) = i + 1 + j by omega] at this) (by rw [← hl]; congr 1; omega))
theorem trod_leaves {sp : Nat → Bool} : ∀ (n : Nat) (t : TypeId) (k : List TypeDesc), shape P n t = some k → ∀ (fuel : Nat) (cs : List Value) (x : DataW H × List MemPlace), DataW.trod enc P w b0 sp held fuel t cs = some x → Leaves k cs
  | 0, _, _, h, _, _, _, _ => by cases h
  | n + 1, t, k, h, 0, cs, x, hx => by simp [DataW.trod] at hx
  | n + 1, t, k, h, fuel + 1, cs, x, hx => by
    simp only [shape] at h
    split at h <;> try (cases h; done)
    · rename_i hu
      injection h with h; subst h
      unfold DataW.trod at hx
      rw [hu] at hx
      rcases cs with _ | ⟨v, _ | ⟨v2, r⟩⟩
      · cases hx
      · cases v <;> try (cases hx; done)
        exact ⟨_, _, rfl, ⟨_, rfl⟩, rfl⟩
      · cases v <;> cases hx
    · rename_i kd hu
      injection h with h; subst h
      obtain ⟨m, rfl, _, hw⟩ := DataW.trod_int hu hx
      exact ⟨_, _, rfl, ⟨m, rfl, hw⟩, rfl⟩
    · rename_i hu
      injection h with h; subst h
      obtain ⟨s, rfl, _, hw⟩ := DataW.trod_string hu hx
      exact ⟨_, _, rfl, ⟨s, rfl, hw⟩, rfl⟩
    · rename_i fs hu
      obtain ⟨k', hk, h⟩ := Option.bind_eq_some_iff.1 h
      cases hb : Nat.beq (P.cellsOf t) k'.length with
      | false => rw [hb] at h; simp at h
      | true =>
        rw [hb] at h
        simp only [cond_true, Option.some.injEq] at h
        subst h
        have hc := Nat.eq_of_beq_eq_true hb
        unfold DataW.trod at hx
        rw [hu] at hx
        simp only at hx
        split at hx
        · rename_i hl
          obtain ⟨xs, he, _⟩ := Option.map_eq_some_iff.1 hx
          have := leaves_fs (P := P) (rd := fun t cs => DataW.trod enc P w b0 sp held fuel t cs) (fun t k hk cs x hx _ => trod_leaves n t k hk fuel cs x hx) cs fs.toList 0 k' xs hk he (by omega)
          simpa using this
        · cases hx
    · rename_i m e hu
      obtain ⟨k', hk, h⟩ := Option.bind_eq_some_iff.1 h
      cases hb : (Nat.beq (P.cellsOf e) k'.length && Nat.beq (P.cellsOf t) (m * k'.length)) with
      | false => rw [hb] at h; simp at h
      | true =>
        rw [hb] at h
        simp only [cond_true, Option.some.injEq] at h
        subst h
        simp only [Bool.and_eq_true] at hb
        have h1 := Nat.eq_of_beq_eq_true hb.1
        have h2 := Nat.eq_of_beq_eq_true hb.2
        unfold DataW.trod at hx
        rw [hu] at hx
        simp only at hx
        split at hx
        · rename_i hl
          obtain ⟨xs, he, _⟩ := Option.map_eq_some_iff.1 hx
          have hall : ∀ (l : List Nat) (xs : List (DataW H × List MemPlace)) (g : Nat → Option (DataW H × List MemPlace)), l.mapM g = some xs → ∀ j ∈ l, ∃ x, g j = some x := by
            intro l
            induction l with
            | nil => intro _ _ _ j hj; cases hj
            | cons a l ih =>
              intro xs g hm j hj
              rw [List.mapM_cons] at hm
              obtain ⟨y, hy, hm⟩ := Option.bind_eq_some_iff.1 hm
              obtain ⟨zs, hz, _⟩ := Option.bind_eq_some_iff.1 hm
              rcases List.mem_cons.1 hj with rfl | hj
              · exact ⟨y, hy⟩
              · exact ih zs g hz j hj
          have := leaves_arr (rd := fun cs => DataW.trod enc P w b0 sp held fuel e cs) (fun cs x hx _ => trod_leaves n e k' hk fuel cs x hx) cs m 0 (fun j hj => by
            obtain ⟨x, hx⟩ := hall _ _ _ he j (List.mem_range.2 hj)
            rw [h1] at hx
            exact ⟨x, by simpa using hx⟩) (by rw [Nat.zero_add, hl, h2])
          simpa using this
        · cases hx
theorem open_flat {r : Reach} {b1 : Nat} {sp : Nat → Bool} {n : Nat} {t : TypeId} {k : List TypeDesc} {v : Value} {d : DataW H} {p : List MemPlace} (hk : shape P n t = some k) (hag : (P.underlying t).map isAgg' = some true) (hv : Value.okWide P w r b1 t v) (h : DataW.Trod enc P w b0 sp held t v d p) :
    ∃ l : List Value, v = .agg l.toArray ∧ Leaves k l := by
  obtain ⟨dd, hu, hd⟩ := Option.map_eq_some_iff.1 hag
  obtain ⟨fuel, hf⟩ := h
  have key : ∃ cs : Array Value, v = .agg cs := by
    cases dd <;> first | (cases hd; done) | (simp only [Value.okWide, hu] at hv; obtain ⟨cs, h1, _⟩ := hv; exact ⟨cs, h1⟩)
  obtain ⟨cs, rfl⟩ := key
  refine ⟨cs.toList, by simp, ?_⟩
  exact trod_leaves n t k hk fuel _ _ hf
theorem post_true {f : Func} {s : ChangeSpec} {apart fresh handsOn again : Bool} {W W' : World} {args : Array Value} {ds gs : List (DataW H)} {before : List MemPlace} {tb : TypeId} (n : Nat)
    (hW : DataW.Whole enc P f.params.toList s.vars apart W args.toList ds gs before) (hvs : s.vars = []) (hgs : gs = []) (hfn : s.fn H (ds ++ gs) = { results := [.lit (.bool true)], args := ds })
    (hrt : f.resultTypes = #[tb]) (htb : P.underlying tb = some .bool) (hok : f.params.toList.all (okT P n) = true) (hb : Below W.heap.size W W') :
    s.post enc P f apart fresh handsOn again W args (.bool true) W' := by
  have hW' := hW
  obtain ⟨p, q, hA, hV, rfl, _, _⟩ := hW
  have hq : q = [] := by
    rw [hvs, hgs] at hV
    exact hV
  subst hq
  refine post_of_below (pa := p) (pv := []) hW' (fun b sp hd => ?_) (fun sp hsp => ?_) (fun sp _ => ?_) rfl hb (ok_one hrt rfl (okWide_bool_mk htb _))
  · rw [hfn, hrt]
    exact trodAll_cons_mk (shut_bool htb _) trodAll_mk0
  · rw [hfn]
    exact trodAll_again (fun k hk => hb.block k hk) n _ _ _ _ hok hA sp (fun x hx => hsp x (List.mem_append_left _ hx))
  · rw [hfn, hvs]
    rfl
end
end Go.Proofs.Ytfkcihcbmlcajaa
