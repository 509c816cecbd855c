/- Arguments with slices in them, opened: their leaves, what their slices read as, and how great they may be. No statement of the seat is proved here. -/
import Derived.Test.YtdkknknebehkgaaGreatDoorEngG
import Derived.Test.YtdkknknebehkgaaGreatDoorEngW
import Derived.SizedLaws
namespace Go.Proofs.YtdkknknebehkgaaGreatDoor
set_option linter.unusedVariables false
set_option linter.unusedSimpArgs false
open Go Go.RowKit Go.WideShapes Go.ChangeShapes
inductive Zh where
  | int (k : IntKind)
  | bool
  | string
  | slice (bytes size : Nat) (ks : List Zh)
mutual
def LeafZ (w : World) : Zh → Value → Prop
  | .int k, v => ∃ m : Int, v = .int k m ∧ (Lit.int k m).wf = true
  | .bool, v => ∃ b : Bool, v = .bool b
  | .string, v => ∃ s : ByteArray, v = .string s ∧ s.size ≤ maxLen
  | .slice bytes size ks, v => ∃ (A : Option Addr) (cap : Nat) (css : List (List Value)), v = .slice A css.length cap ∧ css.length ≤ cap ∧ cap ≤ maxLen ∧ Rd w A size css.length (fun i => css.getD i []) ∧ (∀ c ∈ css, LeavesZ w ks c) ∧ css.length * bytes ≤ reachBytes
def LeavesZ (w : World) : List Zh → List Value → Prop
  | [], cs => cs = []
  | d :: ds, cs => ∃ v r, cs = v :: r ∧ LeafZ w d v ∧ LeavesZ w ds r
end
theorem LeavesZ.append {w : World} : ∀ {a b : List Zh} {x y : List Value}, LeavesZ w a x → LeavesZ w b y → LeavesZ w (a ++ b) (x ++ y)
  | [], _, x, _, h, h' => by
    have h : x = [] := by simpa [LeavesZ] using h
    subst h; exact h'
  | _ :: _, _, _, _, h, h' => by
    simp only [LeavesZ] at h
    obtain ⟨v, r, e, hl, hr⟩ := h
    subst e
    simp only [List.cons_append, LeavesZ]
    exact ⟨v, _, rfl, hl, LeavesZ.append hr h'⟩
def zhpFs (P : Program) (g : TypeId → Option (List Zh)) : List Field → Nat → Option (List Zh)
  | [], _ => some []
  | fd :: fs, off =>
    match g fd.type with
    | some k => bif Nat.beq fd.offset off && Nat.beq (P.cellsOf fd.type) k.length then (zhpFs P g fs (off + k.length)).map (k ++ ·) else none
    | none => none
def zhp (P : Program) : Nat → TypeId → Option (List Zh)
  | 0, _ => none
  | n + 1, t =>
    match P.underlying t with
    | some .bool => some [.bool]
    | some (.int k) => some [.int k]
    | some .string => some [.string]
    | some (.slice e) => (zhp P n e).bind fun k => bif Nat.beq (P.cellsOf e) k.length then some [.slice (P.bytesOf e) k.length k] else none
    | some (.struct fs) => (zhpFs P (zhp P n) fs.toList 0).bind fun k => bif Nat.beq (P.cellsOf t) k.length then some k else none
    | some (.array m e) => (zhp P n e).bind fun k => bif Nat.beq (P.cellsOf e) k.length && Nat.beq (P.cellsOf t) (m * k.length) then some (List.replicate m k).flatten else none
    | _ => none
section
variable {H : Type} {enc : TypeId × Value → H} {P : Program} {w : World} {held : Bool}
def szd (P : Program) (t : TypeId) (d : DataW H) : Bool := (d.weights P t).all (· ≤ reachBytes)
theorem szd_all {e : TypeId} : ∀ {ds : List (DataW H)}, (DataW.weightsAll P e ds).all (· ≤ reachBytes) = true → ∀ d ∈ ds, szd P e d = true
  | [], _, d, hd => by cases hd
  | a :: r, h, d, hd => by
    rw [DataW.weightsAll, List.all_append, Bool.and_eq_true] at h
    rcases List.mem_cons.1 hd with rfl | hd
    · exact h.1
    · exact szd_all h.2 d hd
theorem szd_each {ts : List TypeId} {ds : List (DataW H)} (h : (DataW.weightsEach P ts ds).all (· ≤ reachBytes) = true) {j : Nat} {t : TypeId} {d : DataW H} (ht : ts[j]? = some t) (hd : ds[j]? = some d) : szd P t d = true := by
  unfold szd
  rw [List.all_eq_true] at h ⊢
  exact fun n hn => h n (DataW.weights_mem_each ht hd n hn)
theorem leavesZ_fs {g : TypeId → Option (List Zh)} {rd : TypeId → List Value → Option (DataW H × List MemPlace)} (hg : ∀ t k, g t = some k → ∀ cs x, rd t cs = some x → szd P t x.1 = true → cs.length = k.length → LeavesZ w k cs) (cs : List Value) :
    ∀ (fs : List Field) (off : Nat) (k : List Zh) (xs : List (DataW H × List MemPlace)), zhpFs P g fs off = some k → fs.mapM (fun f => rd f.type ((cs.drop f.offset).take (P.cellsOf f.type))) = some xs →
      (DataW.weightsEach P (fs.map (·.type)) (xs.map (·.1))).all (· ≤ reachBytes) = true → off + k.length = cs.length → LeavesZ w k (cs.drop off)
  | [], off, k, xs, hk, _, _, hl => by
    simp only [zhpFs, Option.some.injEq] at hk
    subst hk
    simp only [LeavesZ]
    exact List.drop_of_length_le (by simp at hl; omega)
  | fd :: fs, off, k, xs, hk, hx, hs, hl => by
    simp only [zhpFs] at hk
    split at hk
    · rename_i k1 hk1
      cases hb : (Nat.beq fd.offset off && Nat.beq (P.cellsOf fd.type) k1.length) with
      | false => rw [hb] at hk; simp at hk
      | true =>
        rw [hb] at hk
        simp only [cond_true] at hk
        obtain ⟨k2, hk2, rfl⟩ := Option.map_eq_some_iff.1 hk
        simp only [Bool.and_eq_true] at hb
        have h1 := Nat.eq_of_beq_eq_true hb.1
        have h2 := Nat.eq_of_beq_eq_true hb.2
        rw [List.mapM_cons] at hx
        obtain ⟨y, hy, hx⟩ := Option.bind_eq_some_iff.1 hx
        obtain ⟨zs, hz, hx⟩ := Option.bind_eq_some_iff.1 hx
        have hx : y :: zs = xs := by simpa using hx
        subst hx
        rw [h1, h2] at hy
        simp only [List.map_cons, DataW.weightsEach, List.all_append, Bool.and_eq_true] at hs
        simp only [List.length_append] at hl
        have e : cs.drop off = (cs.drop off).take k1.length ++ cs.drop (off + k1.length) := by rw [← List.drop_drop, List.take_append_drop]
        rw [e]
        exact (hg _ _ hk1 _ _ hy hs.1 (by simp; omega)).append (leavesZ_fs hg cs fs _ k2 zs hk2 hz hs.2 (by omega))
    · cases hk
theorem leavesZ_arr {k : List Zh} {rd : List Value → Option (DataW H × List MemPlace)} {ok : DataW H → Prop} (hg : ∀ cs x, rd cs = some x → ok x.1 → cs.length = k.length → LeavesZ w k cs) (cs : List Value) :
    ∀ (m i : Nat), (∀ j, j < m → ∃ x, rd ((cs.drop ((i + j) * k.length)).take k.length) = some x ∧ ok x.1) → (i + m) * k.length = cs.length → LeavesZ w (List.replicate m k).flatten (cs.drop (i * k.length))
  | 0, i, _, hl => by
    simp only [List.replicate_zero, List.flatten_nil, LeavesZ]
    exact List.drop_of_length_le (by simp at hl; omega)
  | m + 1, i, h, hl => by
    have hlen : i * k.length + k.length + m * k.length = cs.length := by rw [← hl, Nat.add_mul, Nat.succ_mul]; omega
    obtain ⟨x, hx, hok⟩ := h 0 (by omega)
    rw [Nat.add_zero] at hx
    have e : cs.drop (i * k.length) = (cs.drop (i * k.length)).take k.length ++ cs.drop ((i + 1) * k.length) := by rw [Nat.succ_mul, ← List.drop_drop, List.take_append_drop]
    rw [e, List.replicate_succ, List.flatten_cons]
    exact (hg _ _ hx hok (by simp; omega)).append (leavesZ_arr hg cs m (i + 1) (fun j hj => by have := h (j + 1) (by omega); rwa [show i + (j + 1) = i + 1 + j by omega] at this) (by rw [← hl]; congr 1; omega))
theorem trod_leavesZ {sp : Nat → Bool} {b0 : Nat} : ∀ (n : Nat) (t : TypeId) (k : List Zh), zhp P n t = some k → ∀ (fuel : Nat) (cs : List Value) (x : DataW H × List MemPlace), DataW.trod enc P w b0 sp held fuel t cs = some x → szd P t x.1 = true → LeavesZ w k cs
  | 0, _, _, h, _, _, _, _, _ => by cases h
  | n + 1, t, k, h, 0, cs, x, hx, _ => by simp [DataW.trod] at hx
  | n + 1, t, k, h, fuel + 1, cs, x, hx, hz => by
    simp only [zhp] at h
    split at h <;> try (cases h; done)
    · rename_i hu
      injection h with h; subst h
      unfold DataW.trod at hx
      rw [hu] at hx
      rcases cs with _ | ⟨v, _ | ⟨v2, r⟩⟩
      · cases hx
      · cases v <;> try (cases hx; done)
        simp [LeavesZ, LeafZ]
      · cases v <;> cases hx
    · rename_i kd hu
      injection h with h; subst h
      obtain ⟨m, rfl, _, hw⟩ := DataW.trod_int hu hx
      simp only [LeavesZ, LeafZ]
      exact ⟨_, _, rfl, ⟨m, rfl, hw⟩, rfl⟩
    · rename_i hu
      injection h with h; subst h
      obtain ⟨s, rfl, _, hw⟩ := DataW.trod_string hu hx
      simp only [LeavesZ, LeafZ]
      exact ⟨_, _, rfl, ⟨s, rfl, hw⟩, rfl⟩
    · rename_i e hu
      obtain ⟨k', hk, h⟩ := Option.bind_eq_some_iff.1 h
      cases hb : Nat.beq (P.cellsOf e) k'.length with
      | false => rw [hb] at h; simp at h
      | true =>
        rw [hb] at h
        simp only [cond_true, Option.some.injEq] at h
        subst h
        have hce := Nat.eq_of_beq_eq_true hb
        unfold DataW.trod at hx
        rw [hu] at hx
        rcases cs with _ | ⟨v, _ | ⟨v2, r⟩⟩
        · cases hx
        · cases v <;> try (cases hx; done)
          rename_i a len cap
          cases a with
          | none =>
            rcases len with _ | len
            · rcases cap with _ | cap
              · simp only [LeavesZ, LeafZ]
                exact ⟨_, _, rfl, ⟨none, 0, [], rfl, Nat.le_refl _, Nat.zero_le _, Rd.nil _ _ _ _, (fun c hc => by cases hc), by simp⟩, rfl⟩
              · cases hx
            · cases hx
          | some a =>
            simp only at hx
            split at hx
            · rename_i hc
              obtain ⟨els, he, hx⟩ := Option.bind_eq_some_iff.1 hx
              obtain ⟨rest, _, hx⟩ := Option.map_eq_some_iff.1 hx
              subst hx
              have hlen' := mapM_length _ _ he
              unfold szd at hz
              simp only [DataW.weights, hu, List.all_cons, List.all_append, Bool.and_eq_true, decide_eq_true_eq, List.length_map] at hz
              have hel : ∀ i, i < len → ∃ cs, w.cells? b0 (a.add (i * k'.length)) k'.length = some cs ∧ LeavesZ w k' cs := fun i hi => by
                have hil : i < els.length := by rw [hlen']; simpa using hi
                have hy := mapM_at' _ _ he i hil (by simpa using hi)
                obtain ⟨cs, h1, h2⟩ := Option.bind_eq_some_iff.1 hy
                simp only [List.getElem_range, hce] at h1
                exact ⟨cs, h1, trod_leavesZ n e k' hk fuel cs _ h2 (szd_all hz.2.1 _ (List.mem_map_of_mem (List.getElem_mem hil)))⟩
              let css := (List.range len).map fun i => (w.cells? b0 (a.add (i * k'.length)) k'.length).getD []
              have hlen : css.length = len := by simp [css]
              simp only [LeavesZ, LeafZ]
              refine ⟨_, _, rfl, ⟨some a, cap, css, by rw [hlen], by omega, hc.2.2, ⟨fun _ => rfl, fun i j u hi hu' => ?_⟩, (fun c hcm => ?_), ?_⟩, rfl⟩
              · rw [hlen] at hi
                obtain ⟨cs, h1, _⟩ := hel i hi
                have hg : css.getD i [] = cs := by
                  simp [css, List.getD_eq_getElem?_getD, hi, h1]
                simp only [hg] at hu'
                have := (cells_get h1).2 j u hu'
                rw [add_add'] at this
                exact this
              · obtain ⟨i, hi, rfl⟩ := List.mem_map.1 hcm
                obtain ⟨cs, h1, h2⟩ := hel i (List.mem_range.1 hi)
                rw [h1]
                exact h2
              · have h7 := hz.1
                rw [hlen', List.length_range] at h7
                rw [hlen]
                exact Nat.le_trans (Nat.mul_le_mul_right _ (Nat.le_add_right _ _)) h7
            · cases hx
        · cases v <;> first | (cases hx; done) | (rename_i a len cap; rcases a with _ | a <;> rcases len with _ | len <;> rcases cap with _ | cap <;> cases hx)
    · rename_i fs hu
      obtain ⟨k', hk, h⟩ := Option.bind_eq_some_iff.1 h
      cases hb : Nat.beq (P.cellsOf t) k'.length with
      | false => rw [hb] at h; simp at h
      | true =>
        rw [hb] at h
        simp only [cond_true, Option.some.injEq] at h
        subst h
        have hc := Nat.eq_of_beq_eq_true hb
        unfold DataW.trod at hx
        rw [hu] at hx
        simp only at hx
        split at hx
        · rename_i hl
          obtain ⟨xs, he, hx⟩ := Option.map_eq_some_iff.1 hx
          subst hx
          unfold szd at hz
          simp only [DataW.weights, hu] at hz
          have := leavesZ_fs (P := P) (w := w) (rd := fun t cs => DataW.trod enc P w b0 sp held fuel t cs) (fun t k hk cs x hx hz _ => trod_leavesZ n t k hk fuel cs x hx hz) cs fs.toList 0 k' xs hk he hz (by omega)
          simpa using this
        · cases hx
    · rename_i m e hu
      obtain ⟨k', hk, h⟩ := Option.bind_eq_some_iff.1 h
      cases hb : (Nat.beq (P.cellsOf e) k'.length && Nat.beq (P.cellsOf t) (m * k'.length)) with
      | false => rw [hb] at h; simp at h
      | true =>
        rw [hb] at h
        simp only [cond_true, Option.some.injEq] at h
        subst h
        simp only [Bool.and_eq_true] at hb
        have h1 := Nat.eq_of_beq_eq_true hb.1
        have h2 := Nat.eq_of_beq_eq_true hb.2
        unfold DataW.trod at hx
        rw [hu] at hx
        simp only at hx
        split at hx
        · rename_i hl
          obtain ⟨xs, he, hx⟩ := Option.map_eq_some_iff.1 hx
          subst hx
          unfold szd at hz
          simp only [DataW.weights, hu] at hz
          have hlen' := mapM_length _ _ he
          have := leavesZ_arr (w := w) (rd := fun cs => DataW.trod enc P w b0 sp held fuel e cs) (ok := fun d => szd P e d = true) (fun cs x hx hz _ => trod_leavesZ n e k' hk fuel cs x hx hz) cs m 0 (fun j hj => by
            have hjl : j < xs.length := by rw [hlen']; simpa using hj
            have hx := mapM_at' _ _ he j hjl (by simpa using hj)
            rw [h1] at hx
            exact ⟨_, by simpa using hx, szd_all hz _ (List.mem_map_of_mem (List.getElem_mem hjl))⟩) (by rw [Nat.zero_add, hl, h2])
          simpa using this
        · cases hx
theorem open_aggZ {r : Reach} {b1 b0 : Nat} {sp : Nat → Bool} {n : Nat} {t : TypeId} {k : List Zh} {v : Value} {d : DataW H} {p : List MemPlace} (hk : zhp P n t = some k) (hag : (P.underlying t).map isAgg' = some true) (hv : Value.okWide P w r b1 t v) (h : DataW.Trod enc P w b0 sp held t v d p) (hz : szd P t d = true) :
    ∃ l : List Value, v = .agg l.toArray ∧ LeavesZ w k l := by
  obtain ⟨dd, hu, hd⟩ := Option.map_eq_some_iff.1 hag
  obtain ⟨fuel, hf⟩ := h
  have key : ∃ cs : Array Value, v = .agg cs := by
    cases dd <;> first | (cases hd; done) | (simp only [Value.okWide, hu] at hv; obtain ⟨cs, h1, _⟩ := hv; exact ⟨cs, h1⟩)
  obtain ⟨cs, rfl⟩ := key
  refine ⟨cs.toList, by simp, ?_⟩
  exact trod_leavesZ n t k hk fuel _ _ hf hz
theorem open_sliceZ {b0 : Nat} {sp : Nat → Bool} {n : Nat} {t : TypeId} {k : List Zh} {r : Reach} {b1 : Nat} {v : Value} {d : DataW H} {p : List MemPlace} (hk : zhp P n t = some k) (hsl' : (P.underlying t).map isSl = some true) (hv : Value.okWide P w r b1 t v) (h : DataW.Trod enc P w b0 sp held t v d p) (hz : szd P t d = true) :
    LeavesZ w k [v] := by
  obtain ⟨fuel, hf⟩ := h
  obtain ⟨e, hsl⟩ : ∃ e, P.underlying t = some (.slice e) := by
    obtain ⟨dd, hu, hd⟩ := Option.map_eq_some_iff.1 hsl'
    cases dd <;> first | (cases hd; done) | exact ⟨_, hu⟩
  have key : v.cells.toList = [v] := by
    unfold Value.okWide at hv
    rw [hsl] at hv
    simp only [Cell.okWide, hsl, Cell.ok] at hv
    cases v <;> first | rfl | exact hv.elim
  rw [key] at hf
  exact trod_leavesZ n t k hk fuel _ _ hf hz
end
/-! ### append where the row may be great -/
section
variable {P : Program} {ro : Option Nat} {n : Nat} {Q : Post} {D : List Deferred} {f : Fm} {w w0 : World} {M : List Nat} {h : List HO}
variable {ops : Array Oper} {rest : List Oper} {d ty : Nat} {ps : String} {af : Array Edge} {gd : Option (Nat × Bool)} {x y : Operand}
theorem x_append1B {T e : TypeId} {size bytes k c b : Nat} {A : Option Addr} {xs : List (List Value)} {cs : List Value} {F : HO → List HO} (S : Sat w0 M h w)
    (hg : want ops f ⟨some d, .call ⟨.builtin .append, #[x, y], #[T, T]⟩, ty, ps, af, gd⟩ = true) (hdn : Nat.blt d n = true) (hk : apk P T = some (e, size, bytes)) (hx : fev f x = .slice A k c) (hy : fev f y = .slice (some ⟨b, 0, none⟩) 1 1)
    (hr : RepF h (.rw 0 (.slice A k c) e size xs) F) (hh : Has h (.cl b e cs)) (hl : Nat.beq cs.length size = true) (ho : ones cs = true) (hby : Nat.blt 0 bytes = true) (hsm : (xs.length + 1) * bytes ≤ reachBytes)
    (kk : ∀ g cap w', Sat w0 M (F (.rw 0 (.slice (some ⟨g, 0, none⟩) (xs.length + 1) cap) e size (xs ++ [cs]))) w' → WL P ro n ops Q rest D (upd f d (.slice (some ⟨g, 0, none⟩) (xs.length + 1) cap)) w') :
    WL P ro n ops Q (⟨some d, .call ⟨.builtin .append, #[x, y], #[T, T]⟩, ty, ps, af, gd⟩ :: rest) D f w := by
  have hm := (hr.rep (.rw 0 (.slice A k c) e size xs)).mem
  obtain ⟨h1, h2, h3⟩ := S.ok _ hm
  have hcl := S.cl hh
  have hl' := Nat.eq_of_beq_eq_true hl
  have hrb : reachBytes ≤ 140737488355328 := by decide
  have hby' : 1 ≤ bytes := by
    have h4 : 0 + 1 ≤ bytes := by simpa [Nat.blt] using hby
    omega
  have hlen : xs.length + 1 ≤ (xs.length + 1) * bytes := Nat.le_mul_of_pos_right _ hby'
  have hbound : (xs.length + 1) * bytes ≤ 140737488355328 := Nat.le_trans hsm hrb
  obtain ⟨v', w', hrun, hown, hgr, hob⟩ := run_append (P := P) (f := f) (d := d) (ty := ty) (ps := ps) (af := af) (gd := gd) (m := 1) (c := 1) (ad := ⟨b, 0, none⟩) (news := cs) hk hx hy h3 (by omega)
    (fun j u hu => by rw [add_at, cell_of_row w b _ _ _ _ hcl]; simpa using hu) (ones_mem ho) (by unfold maxLen; omega) hbound (Nat.zero_le _)
  obtain ⟨g, cap, rfl⟩ := ownsRow_succ hown
  refine wl_run (v := .slice (some ⟨g, 0, none⟩) (xs.length + 1) cap) hg hdn hrun ?_
  have hmine : ∀ b', (Value.slice (some ⟨g, 0, none⟩) (xs.length + 1) cap).ownBlock = some b' → (Value.slice A k c).ownBlock = some b' ∨ b' = w.heap.size := by
    intro b' hb2
    rcases hob with e1 | e1
    · left; exact e1.symm.trans hb2
    · right
      have := e1.symm.trans hb2
      injection this with e2
      exact e2.symm
  refine kk g cap w' (S.rep (hr.rep _) hgr ⟨fun b' hb' => ?_, ?_, ?_⟩ ?_)
  · rcases hmine b' hb' with e1 | e1
    · exact h1 b' e1
    · exact .inl (by have := S.le; omega)
  · intro c' hc'
    rcases List.mem_append.1 hc' with hc' | hc'
    · exact h2 c' hc'
    · rcases List.mem_cons.1 hc' with rfl | hc'
      · exact hl'
      · cases hc'
  · simpa using hown
  · intro b' hb'
    exact (hmine b' hb').imp id (fun e => by omega)
end
end Go.Proofs.YtdkknknebehkgaaGreatDoor
