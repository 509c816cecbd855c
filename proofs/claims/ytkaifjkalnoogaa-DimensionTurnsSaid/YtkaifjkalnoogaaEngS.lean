/- Slices: parts of them, and appending to those of the call's own. No statement of the seat is proved here. -/
import Derived.Test.YtkaifjkalnoogaaEngR
import Derived.RangeFuncBox
import Derived.Maps.AppendAt
namespace Go.Proofs.Ytkaifjkalnoogaa
open Go Go.RowKit
inductive RepF : List HO → HO → (HO → List HO) → Prop
  | head {o : HO} {t : List HO} : RepF (o :: t) o (fun o' => o' :: t)
  | tail {o x : HO} {t : List HO} {F : HO → List HO} : RepF t o F → RepF (x :: t) o (fun o' => x :: F o')
theorem RepF.rep {h : List HO} {o : HO} {F : HO → List HO} (r : RepF h o F) (o' : HO) : Rep h o o' (F o') := by
  induction r with
  | head => exact .head
  | tail _ ih => exact .tail ih
def apk (P : Program) (T : TypeId) : Option (TypeId × Nat × Nat) :=
  match P.underlying T with
  | some (.slice e) =>
    match P.info? e with
    | some i =>
      match i.zero with
      | some z => bif Nat.beq (cl1 z).length i.size && Nat.blt 0 i.size then some (e, i.size, i.bytes) else none
      | none => none
    | none => none
  | _ => none
/-- the address behind k elements -/
def sub (A : Option Addr) (k size c : Nat) : Option Addr := if c = k then A else A.map (·.add (k * size))
theorem Rd.take {w : World} {A : Option Addr} {size n m : Nat} {cell : Nat → List Value} (R : Rd w A size n cell) (h : m ≤ n) : Rd w A size m cell :=
  ⟨fun hm => R.some_ (by omega), fun i j u hi hu => R.at_ i j u (by omega) hu⟩
theorem Rd.drop {w : World} {A : Option Addr} {size n k c : Nat} {cell : Nat → List Value} (R : Rd w A size n cell) (h : k ≤ n) (hc : n ≤ c) : Rd w (sub A k size c) size (n - k) (fun i => cell (k + i)) := by
  unfold sub
  split
  · rename_i e
    have : n - k = 0 := by omega
    rw [this]
    exact Rd.nil _ _ _ _
  · refine ⟨fun hm => ?_, fun i j u hi hu => ?_⟩
    · have := R.some_ (by omega)
      obtain ⟨a, rfl⟩ := Option.isSome_iff_exists.1 this
      rfl
    · have hs := R.some_ (by omega)
      obtain ⟨a, rfl⟩ := Option.isSome_iff_exists.1 hs
      have := R.at_ (k + i) j u (by omega) hu
      unfold ea at this ⊢
      simp only [Option.map_some, Option.getD_some] at this ⊢
      rw [add_add', show k * size + (i * size + j) = (k + i) * size + j by rw [Nat.add_mul]; omega]
      exact this
section
variable {P : Program} {ro : Option Nat} {n : Nat} {Q : Post} {D : List Deferred} {f : Fm} {w w0 w' : World} {M : List Nat} {h : List HO}
variable {ops : Array Oper} {rest : List Oper} {prest : List (Nat × Oper)} {d ty xt yt : Nat} {ps : String} {af : Array Edge} {gd : Option (Nat × Bool)} {x y : Operand}
theorem Sat.addNil (S : Sat w0 M h w) (E : TypeId) (size : Nat) : Sat w0 M (.rw w0.heap.size (.slice none 0 0) E size [] :: h) w :=
  S.add ⟨rfl, rfl, rfl, Nat.le_refl _, fun _ _ _ => rfl⟩ ⟨Nat.le_refl _, fun c hc => (by cases hc), World.ownsRow_nil w _ E size⟩ (fun b hb => by cases hb)
theorem q_retM1 {fn : Func} {R : Value → World → Prop} {rs : List ResultVar} {vs : List Value} {D1 : Nat} {F : HO → List HO} (S : Sat w0 M h w) (hh : RepF h (.pr D1 (Just (.deferred (some [])))) F) (hf : fn.results = rs.toArray) (hr : RV P f (F (.pr D1 (fun _ => True))) rs vs)
    (hR : ∀ w', Sat w0 M (F (.pr D1 (fun _ => True))) w' → R (pack vs) w') : retQM P fn R .ret [mark D1] f w := by
  have hok : HO.ok w0 M w (.pr D1 (Just (.deferred (some [])))) := S.ok _ (hh.rep (.pr D1 (fun _ => True))).mem
  have S2 := Sat.putPr S (φ' := fun _ => True) (o' := .deferred none) (hh.rep _) trivial
  exact ⟨D1, rfl, hok.2.1, _, run_results hf hr S2, hR _ S2⟩
theorem run_append {T e : TypeId} {size bytes base m : Nat} {v : Value} {xs news : List Value} {k : Nat} {ad : Addr} {c : Nat} (hk : apk P T = some (e, size, bytes)) (hx : fev f x = v) (hy : fev f y = .slice (some ad) m c)
    (hown : w.ownsRow base e size v k xs) (hl : news.length = m * size) (hnews : ∀ j u, news[j]? = some u → w.cell? (ad.add j) = some u) (h1 : ∀ u ∈ news, u.oneCell' = true)
    (h63 : k + m ≤ maxLen) (hbytes : (k + m) * bytes ≤ 140737488355328) (hbase : base ≤ w.heap.size) :
    ∃ v' w', (execOp (fev f) ⟨some d, .call ⟨.builtin .append, #[x, y], #[T, T]⟩, ty, ps, af, gd⟩).run P w = .ok (.value v') w' ∧ w'.ownsRow base e size v' (k + m) (xs ++ news) ∧ w.grownBy w' v.ownBlock ∧
      (v'.ownBlock = v.ownBlock ∨ v'.ownBlock = some w.heap.size) := by
  unfold apk at hk
  split at hk <;> try (cases hk; done)
  rename_i e' hu
  split at hk <;> try (cases hk; done)
  rename_i i hi
  split at hk <;> try (cases hk; done)
  rename_i z hz
  cases hb : Nat.beq (cl1 z).length i.size && Nat.blt 0 i.size with
  | false => rw [hb] at hk; simp at hk
  | true =>
    rw [hb] at hk
    simp only [cond_true, Option.some.injEq, Prod.mk.injEq] at hk
    obtain ⟨rfl, rfl, rfl⟩ := hk
    simp only [Bool.and_eq_true] at hb
    have hz1 := Nat.eq_of_beq_eq_true hb.1
    have hz2 : 0 < i.size := by
      have h4 : 0 + 1 ≤ i.size := by simpa [Nat.blt] using hb.2
      omega
    obtain ⟨v', w', hr, h2, h3, _, h5⟩ := run_append_own_at (P := P) (w := w) base T ty e' i z i.size i.bytes hu hi hz rfl rfl (by rw [← cl1_eq]; simpa using hz1) hz2 v k xs hown ad m c news hl hnews h1 h63 hbytes hbase
    refine ⟨v', w', ?_, h2, h3, h5⟩
    simp [execOp, resolve, invoke, builtin, hx, hy, hr, Result.andThen, Sem.run_bind, Sem.run_pure]
/-- append(x, one element), where x is the call's own -/
theorem x_append1 {T e : TypeId} {size bytes k c b : Nat} {A : Option Addr} {xs : List (List Value)} {cs : List Value} {F : HO → List HO} (S : Sat w0 M h w)
    (hg : want ops f ⟨some d, .call ⟨.builtin .append, #[x, y], #[T, T]⟩, ty, ps, af, gd⟩ = true) (hdn : Nat.blt d n = true) (hk : apk P T = some (e, size, bytes)) (hx : fev f x = .slice A k c) (hy : fev f y = .slice (some ⟨b, 0, none⟩) 1 1)
    (hr : RepF h (.rw w0.heap.size (.slice A k c) e size xs) F) (hh : Has h (.cl b e cs)) (hl : Nat.beq cs.length size = true) (ho : ones cs = true) (hby : Nat.ble bytes 100000 = true) (hsm : xs.length < 1000000000)
    (kk : ∀ g cap w', Sat w0 M (F (.rw w0.heap.size (.slice (some ⟨g, 0, none⟩) (xs.length + 1) cap) e size (xs ++ [cs]))) w' → WL P ro n ops Q rest D (upd f d (.slice (some ⟨g, 0, none⟩) (xs.length + 1) cap)) w') :
    WL P ro n ops Q (⟨some d, .call ⟨.builtin .append, #[x, y], #[T, T]⟩, ty, ps, af, gd⟩ :: rest) D f w := by
  have hm := (hr.rep (.rw w0.heap.size (.slice A k c) e size xs)).mem
  obtain ⟨h1, h2, h3⟩ := S.ok _ hm
  have hcl := S.cl hh
  have hby' := Nat.le_of_ble_eq_true hby
  have hl' := Nat.eq_of_beq_eq_true hl
  have hbound : (xs.length + 1) * bytes ≤ 140737488355328 := Nat.le_trans (Nat.mul_le_mul (show xs.length + 1 ≤ 1000000000 by omega) hby') (by decide)
  obtain ⟨v', w', hrun, hown, hgr, hob⟩ := run_append (P := P) (f := f) (d := d) (ty := ty) (ps := ps) (af := af) (gd := gd) (m := 1) (c := 1) (ad := ⟨b, 0, none⟩) (news := cs) hk hx hy h3 (by omega)
    (fun j u hu => by rw [add_at, cell_of_row w b _ _ _ _ hcl]; simpa using hu) (ones_mem ho) (by unfold maxLen; omega) hbound S.le
  obtain ⟨g, cap, rfl⟩ := ownsRow_succ hown
  refine wl_run (v := .slice (some ⟨g, 0, none⟩) (xs.length + 1) cap) hg hdn hrun ?_
  refine kk g cap w' (S.rep (hr.rep _) hgr ⟨h1, ?_, ?_⟩ ?_)
  · intro c' hc'
    rcases List.mem_append.1 hc' with hc' | hc'
    · exact h2 c' hc'
    · rcases List.mem_cons.1 hc' with rfl | hc'
      · exact hl'
      · cases hc'
  · simpa using hown
  · intro b' hb'
    have hb2 : (Value.slice (some ⟨g, 0, none⟩) (xs.length + 1) cap).ownBlock = some b' := hb'
    rcases hob with e1 | e1
    · left; exact e1.symm.trans hb2
    · right
      have := e1.symm.trans hb2
      injection this with e2
      omega
theorem add_zero' (a : Addr) : a.add 0 = a := by unfold Addr.add; rw [if_pos rfl]
theorem run_sliceHi {T : TypeId} {A : Option Addr} {m c size : Nat} {kd : IntKind} {e : Int} (hx : fev f x = .slice A m c) (hy : fev f y = .int kd e) (hs : elemSize P T = some size) (h0 : 0 ≤ e) (h1 : e ≤ c) :
    (execOp (fev f) ⟨some d, .slice T x none (some y) none, ty, ps, af, gd⟩).run P w = .ok (.value (.slice A e.toNat c)) w := by
  unfold elemSize at hs
  split at hs <;> try (cases hs; done)
  rename_i el hu
  obtain ⟨i, hi, hsz⟩ := Option.map_eq_some_iff.1 hs
  simp [execOp, Instr.sliceAt, Instr.slice, Instr.sliceBounds, Instr.sliceBound, run_underlying hu, hx, hy, Sem.run_bind, Sem.run_pure, Result.andThen, asIntOf, h0, h1, sizeOf, typeInfo, hi, go_sem]
  try (cases A <;> simp [add_zero'])
theorem run_sliceLo {T : TypeId} {A : Option Addr} {m c size : Nat} {kd : IntKind} {e : Int} (hx : fev f x = .slice A m c) (hy : fev f y = .int kd e) (hs : elemSize P T = some size) (h0 : 0 ≤ e) (h1 : e ≤ m) :
    (execOp (fev f) ⟨some d, .slice T x (some y) none none, ty, ps, af, gd⟩).run P w = .ok (.value (.slice (sub A e.toNat size c) (m - e.toNat) (c - e.toNat))) w := by
  unfold elemSize at hs
  split at hs <;> try (cases hs; done)
  rename_i el hu
  obtain ⟨i, hi, hsz⟩ := Option.map_eq_some_iff.1 hs
  subst hsz
  simp [execOp, Instr.sliceAt, Instr.slice, Instr.sliceBounds, Instr.sliceBound, run_underlying hu, hx, hy, Sem.run_bind, Sem.run_pure, Result.andThen, asIntOf, h0, h1, sizeOf, typeInfo, hi, go_sem, sub]
theorem x_sliceHi {T : TypeId} {A : Option Addr} {m c size : Nat} {kd : IntKind} {e : Int} (hg : want ops f ⟨some d, .slice T x none (some y) none, ty, ps, af, gd⟩ = true) (hdn : Nat.blt d n = true) (hx : fev f x = .slice A m c) (hy : fev f y = .int kd e) (hs : elemSize P T = some size) (h0 : 0 ≤ e) (h1 : e ≤ c)
    (k : WL P ro n ops Q rest D (upd f d (.slice A e.toNat c)) w) : WL P ro n ops Q (⟨some d, .slice T x none (some y) none, ty, ps, af, gd⟩ :: rest) D f w :=
  wl_val hg rfl hdn (run_sliceHi hx hy hs h0 h1) (.z .slice) k
theorem x_sliceLo {T : TypeId} {A : Option Addr} {m c size sz : Nat} {kd : IntKind} {e : Int} (hg : want ops f ⟨some d, .slice T x (some y) none none, ty, ps, af, gd⟩ = true) (hdn : Nat.blt d n = true) (hx : fev f x = .slice A m c) (hy : fev f y = .int kd e) (hs : elemSize P T = some size) (hz : IsN size sz) (h0 : 0 ≤ e) (h1 : e ≤ m)
    (k : WL P ro n ops Q rest D (upd f d (.slice (sub A e.toNat sz c) (m - e.toNat) (c - e.toNat))) w) : WL P ro n ops Q (⟨some d, .slice T x (some y) none none, ty, ps, af, gd⟩ :: rest) D f w :=
  by
  have hz := hz.eq
  subst hz
  exact wl_val hg rfl hdn (run_sliceLo hx hy hs h0 h1) (.z .slice) k
end
end Go.Proofs.Ytkaifjkalnoogaa
