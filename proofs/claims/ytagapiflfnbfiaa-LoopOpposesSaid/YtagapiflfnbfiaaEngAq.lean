/- A queue: a slice of single cells, cut in front and appended to. No statement of the seat is proved here. -/
import Derived.Test.YtagapiflfnbfiaaEngQ
import Derived.Test.YtagapiflfnbfiaaEngX
namespace Go.Proofs.Ytagapiflfnbfiaa
set_option linter.unusedVariables false
set_option linter.unusedSimpArgs false
open Go Go.RowKit
/-- a block of which the cells from k on hold xs, and c cells from k on may be used -/
def QB (e k c : Nat) (xs : List Value) : Option Obj → Prop := fun o =>
  ∃ cur : Array Value, o = some (.cells cur e (0, 0)) ∧ k + c ≤ cur.size ∧ xs.length ≤ c ∧ ∀ j v, xs[j]? = some v → cur[k + j]? = some v
section
variable {P : Program} {ro : Option Nat} {n : Nat} {Q : Post} {D : List Deferred} {f : Fm} {w w0 : World} {M : List Nat} {h : List HO}
variable {ops : Array Oper} {rest : List Oper} {d ty : Nat} {ps : String} {af : Array Edge} {gd : Option (Nat × Bool)} {x y z : Operand}
theorem run_append_room_off (t ty e : TypeId) (i : TypeInfo) (ht : P.underlying t = some (.slice e)) (hi : P.info? e = some i)
    (g off sLen sCap : Nat) (cur : Array Value) (hg : w.heap[g]? = some (.cells cur e (0, 0)))
    (a : Addr) (m c : Nat) (news : List Value) (hl : news.length = m * i.size) (hnews : ∀ j u, news[j]? = some u → w.cell? (a.add j) = some u) (h1 : ∀ u ∈ news, u.oneCell' = true)
    (hroom : sLen + m ≤ sCap) (hfit : off + sLen * i.size + news.length ≤ cur.size) :
    (Builtin.append_ #[t, t] ty #[.slice (some ⟨g, off, none⟩) sLen sCap, .slice (some a) m c]).run P w =
      .ok (.slice (some ⟨g, off, none⟩) (sLen + m) sCap) (w.setRow g (cur.toList.take (off + sLen * i.size) ++ news ++ cur.toList.drop (off + sLen * i.size + news.length)).toArray) := by
  have hf := run_firstCells_some (P := P) w i.size m a m c news hl hnews
  have hst := run_storeCells_at P g (off + sLen * i.size) e news 0 cur w hg (by simpa using hfit) h1
  simp only [Nat.add_zero] at hst
  simp [Builtin.append_, run_underlying ht, sizeOf, typeInfo, hi, Builtin.lenOf, hroom, hf, Addr.add_lit, hst]
theorem Sat.toQ {b e : Nat} {cs : List Value} {F : HO → List HO} (S : Sat w0 M h w) (hr : RepF h (.cl b e cs) F) : Sat w0 M (F (.pr b (QB e 0 cs.length cs))) w := by
  obtain ⟨h1, h2⟩ := S.ok _ (hr.rep (.cl b e cs)).mem
  refine S.rep (hr.rep _) ⟨rfl, rfl, rfl, Nat.le_refl _, fun _ _ _ => rfl⟩ ⟨(Array.getElem?_eq_some_iff.1 h1).1, ⟨cs.toArray, h1, by simp, Nat.le_refl _, fun j v hj => ?_⟩, h2⟩ (fun b' hb' => .inl hb')
  rw [Nat.zero_add]; simpa using hj
theorem QB.cut {e k c : Nat} {v : Value} {xs : List Value} {o : Option Obj} (H : QB e k c (v :: xs) o) : QB e (k + 1) (c - 1) xs o := by
  obtain ⟨cur, h1, h2, h3, h4⟩ := H
  simp only [List.length_cons] at h3
  refine ⟨cur, h1, by omega, by omega, fun j u hj => ?_⟩
  have := h4 (j + 1) u (by simpa using hj)
  rw [show k + 1 + j = k + (j + 1) by omega]
  exact this
theorem QB.cut0 {e k c : Nat} {v : Value} {o : Option Obj} (H : QB e k c [v] o) : QB e k (c - 1) [] o := by
  obtain ⟨cur, h1, h2, h3, h4⟩ := H
  exact ⟨cur, h1, by omega, Nat.zero_le _, fun j u hj => by simp at hj⟩
theorem x_loadQ {T g e k c : Nat} {v : Value} {xs : List Value} (S : Sat w0 M h w) (hg : want ops f ⟨some d, .load T x, ty, ps, af, gd⟩ = true) (hdn : Nat.blt d n = true)
    (hx : fev f x = .pointer (some (ea (some ⟨g, k, none⟩) 1 0 0))) (hh : Has h (.pr g (QB e k c (v :: xs)))) (hk : ldk P T = some none)
    (kk : WL P ro n ops Q rest D (upd f d v) w) : WL P ro n ops Q (⟨some d, .load T x, ty, ps, af, gd⟩ :: rest) D f w := by
  obtain ⟨cur, h1, h2, h3, h4⟩ := S.prAt hh
  have hcell : ∀ j u, [v][0 + j]? = some u → w.cell? ((ea (some ⟨g, k, none⟩) 1 0 0).add j) = some u := fun j u hj => by
    have e0 : ea (some ⟨g, k, none⟩) 1 0 0 = ⟨g, k, none⟩ := rfl
    have hj0 : j = 0 := by
      have := (List.getElem?_eq_some_iff.1 hj).1
      simp at this; omega
    subst hj0
    rw [e0, add_at, cell_of_row w g _ _ _ _ h1]
    simp at hj
    subst hj
    exact h4 0 v rfl
  exact wl_run (v := v) (w' := w) hg hdn (r_load_at (v0 := v) rfl hx hcell hk rfl) kk
theorem x_sliceQ {T g e k c : Nat} {v : Value} {xs : List Value} {kd : IntKind} {F : HO → List HO} (S : Sat w0 M h w) (hg : want ops f ⟨some d, .slice T x (some y) none none, ty, ps, af, gd⟩ = true) (hdn : Nat.blt d n = true)
    (hx : fev f x = .slice (some ⟨g, k, none⟩) (xs.length + 1) c) (hy : fev f y = .int kd 1) (hr : RepF h (.pr g (QB e k c (v :: xs))) F) (hs : elemSize P T = some 1)
    (kk : ∀ k' c', Sat w0 M (F (.pr g (QB e k' c' xs))) w → WL P ro n ops Q rest D (upd f d (.slice (some ⟨g, k', none⟩) xs.length c')) w) : WL P ro n ops Q (⟨some d, .slice T x (some y) none none, ty, ps, af, gd⟩ :: rest) D f w := by
  have hrun := run_sliceLo (P := P) (w := w) (d := d) (ty := ty) (ps := ps) (af := af) (gd := gd) hx hy hs (by omega) (by omega)
  have hok := S.ok _ (hr.rep (.pr g (QB e k c (v :: xs)))).mem
  have turn : ∀ k' c', QB e k' c' xs (w.heap[g]?) → Sat w0 M (F (.pr g (QB e k' c' xs))) w := fun k' c' hq =>
    S.rep (hr.rep _) ⟨rfl, rfl, rfl, Nat.le_refl _, fun _ _ _ => rfl⟩ ⟨hok.1, hq, hok.2.2⟩ (fun b' hb' => .inl hb')
  have e1 : (1 : Int).toNat = 1 := rfl
  rw [e1, Nat.add_sub_cancel] at hrun
  by_cases hc : c = 1
  · subst hc
    have hx0 : xs = [] := by
      obtain ⟨_, _, _, h3, _⟩ := hok.2.1
      simp only [List.length_cons] at h3
      exact List.length_eq_zero_iff.1 (by omega)
    subst hx0
    exact wl_run hg hdn hrun (kk k 0 (turn k 0 hok.2.1.cut0))
  · have e2 : sub (some ⟨g, k, none⟩) 1 1 c = some ⟨g, k + 1, none⟩ := by
      unfold sub
      rw [if_neg hc]
      simp [add_at]
    rw [e2] at hrun
    exact wl_run hg hdn hrun (kk (k + 1) (c - 1) (turn _ _ hok.2.1.cut))
theorem x_appendQ {T e bytes g k c b : Nat} {v : Value} {xs : List Value} {F : HO → List HO} (S : Sat w0 M h w)
    (hg : want ops f ⟨some d, .call ⟨.builtin .append, #[x, y], #[T, T]⟩, ty, ps, af, gd⟩ = true) (hdn : Nat.blt d n = true) (hk : apk P T = some (e, 1, bytes)) (hx : fev f x = .slice (some ⟨g, k, none⟩) xs.length c) (hy : fev f y = .slice (some ⟨b, 0, none⟩) 1 1)
    (hr : RepF h (.pr g (QB e k c xs)) F) (hh : Has h (.cl b e [v])) (h1 : one v = true) (hby : Nat.ble bytes 100000 = true) (hsm : xs.length < 1000000000)
    (kk : ∀ g' k' c' w', Sat w0 M (F (.pr g' (QB e k' c' (xs ++ [v])))) w' → WL P ro n ops Q rest D (upd f d (.slice (some ⟨g', k', none⟩) (xs.length + 1) c')) w') :
    WL P ro n ops Q (⟨some d, .call ⟨.builtin .append, #[x, y], #[T, T]⟩, ty, ps, af, gd⟩ :: rest) D f w := by
  obtain ⟨hlt, ⟨cur, hcur, hfit, hlen, hat⟩, hmine⟩ := S.ok _ (hr.rep (.pr g (QB e k c xs))).mem
  have hcl := S.cl hh
  have hone : v.oneCell' = true := by rw [← one_eq]; exact h1
  obtain ⟨hu, i, zv, hi, hz, hsize, hbyt, hzs, hsz⟩ := apk_parts hk
  have hnews : ∀ j u, [v][j]? = some u → w.cell? ((⟨b, 0, none⟩ : Addr).add j) = some u := fun j u hj => by
    rw [add_at, cell_of_row w b _ _ _ _ hcl]; simpa using hj
  by_cases hroom : xs.length + 1 ≤ c
  · have hrun := run_append_room_off (P := P) (w := w) T ty e i hu hi g k xs.length c cur hcur ⟨b, 0, none⟩ 1 1 [v] (by rw [hsize]; rfl) hnews (by intro u hu2; simp at hu2; subst hu2; exact hone) hroom (by rw [hsize, Nat.mul_one]; show k + xs.length + 1 ≤ cur.size; omega)
    rw [hsize, Nat.mul_one] at hrun
    have hexec : (execOp (fev f) ⟨some d, .call ⟨.builtin .append, #[x, y], #[T, T]⟩, ty, ps, af, gd⟩).run P w = .ok (.value (.slice (some ⟨g, k, none⟩) (xs.length + 1) c)) (w.setRow g (cur.toList.take (k + xs.length) ++ [v] ++ cur.toList.drop (k + xs.length + [v].length)).toArray) := by
      simp [execOp, resolve, invoke, builtin, hx, hy, hrun, Result.andThen, Sem.run_bind, Sem.run_pure]
    refine wl_run hg hdn hexec (kk g k c _ ?_)
    refine S.rep (hr.rep _) ⟨rfl, rfl, rfl, by simp, fun q _ hq => setRow_other w g q _ (fun e => hq (by rw [e]; rfl))⟩ ⟨by simpa using hlt, ⟨_, setRow_heap w g _ _ e _ hcur, ?_, by simpa using hroom, fun j u hj => ?_⟩, hmine⟩ (fun b' hb' => .inl hb')
    · simp; omega
    · have hkl : k + xs.length ≤ cur.toList.length := by simp; omega
      rw [List.getElem?_toArray]
      by_cases hjl : j < xs.length
      · rw [List.getElem?_append_left hjl] at hj
        rw [List.append_assoc, List.getElem?_append_left (by rw [List.length_take]; omega), List.getElem?_take_of_lt (by omega), Array.getElem?_toList]
        exact hat j u hj
      · have hj2 : j = xs.length := by
          have := (List.getElem?_eq_some_iff.1 hj).1
          simp at this; omega
        subst hj2
        rw [List.getElem?_append_right (Nat.le_refl _), Nat.sub_self] at hj
        rw [List.append_assoc, List.getElem?_append_right (by rw [List.length_take]; omega), List.length_take, Nat.min_eq_left hkl, Nat.sub_self]
        simpa using hj
  · have hbound : (xs.length + 1) * bytes ≤ 140737488355328 := Nat.le_trans (Nat.mul_le_mul (show xs.length + 1 ≤ 1000000000 by omega) (Nat.le_of_ble_eq_true hby)) (by decide)
    obtain ⟨v', w', hrun, hown, hgr⟩ := run_append_arg_grows (P := P) (w := w) T ty e i zv 1 bytes hu hi hz hsize hbyt hzs hsz ⟨g, k, none⟩ xs.length c xs (by simp) (fun j u hj => by rw [add_at, cell_of_row w g _ _ _ _ hcur]; exact hat j u hj) ⟨b, 0, none⟩ 1 1 [v] rfl hnews (by omega) (by unfold maxLen; omega) hbound
    obtain ⟨g', cap, rfl⟩ := ownsRow_succ hown
    have hexec : (execOp (fev f) ⟨some d, .call ⟨.builtin .append, #[x, y], #[T, T]⟩, ty, ps, af, gd⟩).run P w = .ok (.value (.slice (some ⟨g', 0, none⟩) (xs.length + 1) cap)) w' := by
      simp [execOp, resolve, invoke, builtin, hx, hy, hrun, Result.andThen, Sem.run_bind, Sem.run_pure]
    refine wl_run hg hdn hexec (kk g' 0 cap w' ?_)
    rcases hown.2 with ⟨h5, _⟩ | ⟨g2, cap2, cur2, h5, h6, h7, h8, h9, h10, h11⟩
    · simp at h5
    · simp only [Value.slice.injEq, Option.some.injEq, Addr.mk.injEq, and_true, true_and] at h5
      obtain ⟨rfl, rfl⟩ := h5
      refine S.rep (hr.rep _) ⟨hgr.os, hgr.tape, hgr.output, hgr.size, fun q hq _ => hgr.block q hq (by simp)⟩ ⟨(Array.getElem?_eq_some_iff.1 h7).1, ⟨cur2, h7, by omega, by simpa using h8, fun j u hj => ?_⟩, .inl (by have := S.le; omega)⟩ (fun b' hb' => .inr (by injection hb' with e1; omega))
      rw [Nat.mul_one] at h11
      rw [Nat.zero_add, ← Array.getElem?_toList]
      rw [← h11] at hj
      have hjl : j < xs.length + 1 := by
        have := (List.getElem?_eq_some_iff.1 hj).1
        rw [List.length_take] at this
        omega
      rwa [List.getElem?_take_of_lt hjl] at hj
theorem x_insV {T k : TypeId} {zv v : Value} {b c : Nat} {m : Lit → Option Value} {key : Value} {kl : Lit} {F : HO → List HO} (S : Sat w0 M h w) (hg : want ops f ⟨none, .insert T x y z, ty, ps, af, gd⟩ = true) (hk : mapZ P T = some (k, zv)) (K : Go.Maps.Keyed P k)
    (hx : fev f x = .map (some b)) (hy : fev f y = key) (hz : Is (fev f z) v) (hr : RepF h (.pr b (MapV P k c m)) F) (hc : c < maxLen) (hkey : keyOf P k key = some kl)
    (kk : ∀ w', Sat w0 M (F (.pr b (MapV P k (c + 1) (putV m kl v)))) w' → WL P ro n ops Q rest D f w') : WL P ro n ops Q (⟨none, .insert T x y z, ty, ps, af, gd⟩ :: rest) D f w := by
  obtain ⟨w', hrun, S', _⟩ := putV_run (P := P) (f := f) (ty := ty) (ps := ps) (af := af) (gd := gd) S hk K hx hy hz.eq hr hc hkey
  refine wl_runSkip hg rfl ?_ (kk w' S')
  rw [← hrun]
  rfl
end
end Go.Proofs.Ytagapiflfnbfiaa
