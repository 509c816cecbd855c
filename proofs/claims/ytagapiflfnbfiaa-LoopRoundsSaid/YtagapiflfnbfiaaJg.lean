/- All chains between two features: the search in plain words; rows of rows. No statement of the seat is proved here. -/
import Derived.Test.YtagapiflfnbfiaaJf
import Derived.Test.YtagapiflfnbfiaaEngQ
import Derived.Test.YtagapiflfnbfiaaEngK
import Derived.Test.YtagapiflfnbfiaaEngN
namespace Go.Proofs.Ytagapiflfnbfiaa
set_option linter.unusedVariables false
set_option linter.unusedSimpArgs false
open Go Go.RowKit
open Go.Maps (Keyed)
def hasB (pass : List ByteArray) (s : ByteArray) : Bool := pass.any fun t => decide (t = s)
theorem hasB_iff {pass : List ByteArray} {s : ByteArray} : hasB pass s = true ↔ s ∈ pass := by
  unfold hasB
  rw [List.any_eq_true]
  constructor
  · rintro ⟨t, h1, h2⟩
    rw [decide_eq_true_iff] at h2
    exact h2 ▸ h1
  · intro h
    exact ⟨s, h, by simp⟩
theorem hasB_cons {pass : List ByteArray} {s t : ByteArray} : hasB (t :: pass) s = (decide (t = s) || hasB pass s) := rfl
section
variable (l : List Dm)
def growLs (g : ByteArray → List Lk → List ByteArray → List (List Lk) → List (List Lk) × Bool) (c : List Lk) (pass : List ByteArray) : List Lk → List (List Lk) → List (List Lk) × Bool
  | [], out => (out, true)
  | y :: ys, out => if hasB pass (stoE l y) = true then growLs g c pass ys out else
      if (g (stoE l y) (c ++ [y]) (stoE l y :: pass) out).2 = true then growLs g c pass ys (g (stoE l y) (c ++ [y]) (stoE l y :: pass) out).1
      else ((g (stoE l y) (c ++ [y]) (stoE l y :: pass) out).1, false)
def growS (N : ByteArray → List Lk) (to : ByteArray) : Nat → ByteArray → List Lk → List ByteArray → List (List Lk) → List (List Lk) × Bool
  | 0, _, _, _, out => (out, true)
  | f + 1, a, c, pass, out => if a = to then (if out.length = 16384 then (out, false) else (out ++ [c], true)) else growLs l (growS N to f) c pass (N a) out
end
def need (K pass : List ByteArray) : Nat := (K.filter fun s => !hasB pass s).length
theorem need_lt {K pass : List ByteArray} {s : ByteArray} (hs : s ∈ K) (hp : hasB pass s = false) : need K (s :: pass) < need K pass := by
  unfold need
  have h2 : K.filter (fun t => !hasB (s :: pass) t) = (K.filter fun t => !hasB pass t).filter fun t => !decide (s = t) := by
    rw [List.filter_filter]
    refine List.filter_congr fun t _ => ?_
    rw [hasB_cons, Bool.not_or, Bool.and_comm]
  rw [h2]
  have h3 : s ∈ K.filter fun t => !hasB pass t := List.mem_filter.2 ⟨hs, by rw [hp]; rfl⟩
  exact List.length_filter_lt_length_iff_exists.2 ⟨s, h3, by simp⟩
theorem drop_getL {c : List Lk} {k : Nat} (h : k < c.length) : c.drop k = c.getD k lk0 :: c.drop (k + 1) := by
  rw [List.drop_eq_getElem_cons h, List.getD_eq_getElem?_getD, List.getElem?_eq_getElem h]; rfl
theorem Sat.cast {w0 w : World} {M : List Nat} {h h' : List HO} (e : h = h') (S : Sat w0 M h w) : Sat w0 M h' w := e ▸ S
/-! ### rows of rows -/
structure OR where
  A : Option Addr
  c : Nat
  xs : List Lk
def orV (r : OR) : List Value := [.slice r.A r.xs.length r.c]
def orH (r : OR) : HO := .rw 0 (.slice r.A r.xs.length r.c) 59 2 (r.xs.map lkC)
def outFs (b : Nat) (A : Option Addr) (c : Nat) (rs : List OR) : List HO :=
  .cl b 41 [.slice A rs.length c] :: .rw 0 (.slice A rs.length c) 23 1 (rs.map orV) :: rs.map orH
/-! ### what was passed -/
def PassM (m : Lit → Option Value) (pass : List ByteArray) : Prop := ∀ s, (m (sK s)).getD (.bool false) = .bool (hasB pass s)
theorem PassM.on {m : Lit → Option Value} {pass : List ByteArray} (H : PassM m pass) (s : ByteArray) : PassM (putV m (sK s) (.bool true)) (s :: pass) := fun t => by
  rw [hasB_cons]
  by_cases h : t = s
  · subst h; rw [putV_same]; simp
  · have h2 : ¬ s = t := fun e => h e.symm
    rw [putV_other (fun e => h (sK_inj e)), H t]; simp [h2]
theorem PassM.off {m : Lit → Option Value} {pass : List ByteArray} {s : ByteArray} (H : PassM m (s :: pass)) (hs : hasB pass s = false) : PassM (putV m (sK s) (.bool false)) pass := fun t => by
  by_cases h : t = s
  · subst h; rw [putV_same, hs]; rfl
  · have h2 : ¬ s = t := fun e => h e.symm
    rw [putV_other (fun e => h (sK_inj e)), H t, hasB_cons]; simp [h2]
def KeysIn (m : Lit → Option Value) (Ks : List Lit) : Prop := ∀ kl, (m kl).isSome = true → kl ∈ Ks
theorem KeysIn.put {m : Lit → Option Value} {Ks : List Lit} {kl : Lit} {v : Value} (H : KeysIn m Ks) (h : kl ∈ Ks) : KeysIn (putV m kl v) Ks := fun z hz => by
  by_cases e : z = kl
  · rw [e]; exact h
  · rw [putV_other e] at hz; exact H z hz
section
variable {P : Program} {ro : Option Nat} {n : Nat} {Q : Post} {D : List Deferred} {f : Fm} {w w0 : World} {M : List Nat} {h : List HO}
variable {ops : Array Oper} {rest : List Oper} {d ty : Nat} {ps : String} {af : Array Edge} {gd : Option (Nat × Bool)} {x y z : Operand}
theorem Sat.prMono {b : Nat} {φ ψ : Option Obj → Prop} {F : HO → List HO} (S : Sat w0 M h w) (hr : RepF h (.pr b φ) F) (H : φ (w.heap[b]?) → ψ (w.heap[b]?)) : Sat w0 M (F (.pr b ψ)) w := by
  have hok := S.ok _ (hr.rep (.pr b φ)).mem
  exact S.rep (hr.rep _) ⟨rfl, rfl, rfl, Nat.le_refl _, fun _ _ _ => rfl⟩ ⟨hok.1, H hok.2.1, hok.2.2⟩ (fun b' hb' => .inl hb')
theorem x_putVK {T k : TypeId} {zv v : Value} {b : Nat} {m : Lit → Option Value} {key : Value} {kl : Lit} {Ks : List Lit} {F : HO → List HO} (S : Sat w0 M h w) (hg : want ops f ⟨none, .mapUpdate T x y z, ty, ps, af, gd⟩ = true) (hk : mapZ P T = some (k, zv)) (K : Keyed P k)
    (hx : fev f x = .map (some b)) (hy : fev f y = key) (hz : Is (fev f z) v) (hr : RepF h (.pr b (MapV P k Ks.length m)) F) (hc : Ks.length < maxLen) (hkey : keyOf P k key = some kl) (hK : KeysIn m Ks) (hin : kl ∈ Ks)
    (kk : ∀ w', Sat w0 M (F (.pr b (MapV P k Ks.length (putV m kl v)))) w' → WL P ro n ops Q rest D f w') : WL P ro n ops Q (⟨none, .mapUpdate T x y z, ty, ps, af, gd⟩ :: rest) D f w :=
  x_putV S hg hk K hx hy hz hr hc hkey fun w' S' => kk w' (S'.prMono (hr.again _) (fun H => H.shrink K (hK.put hin)))
end
section
variable {P : Program} {ro : Option Nat} {Q : Post} {D : List Deferred} {f : Fm} {w0 : World} {M : List Nat} {h : List HO}
variable {ops : Array Oper} {prest : List (Nat × Oper)} {d ty : Nat} {ps : String} {af : Array Edge} {gd : Option (Nat × Bool)} {x y : Operand}
theorem z2_appendRoomE {T e : TypeId} {size bytes k c b g m' : Nat} {xs ys : List (List Value)} {cs : List Value} {F : HO → List HO} (hroom : k < c) (hm : xs.length + 1 = m') (hys : xs ++ [cs] = ys)
    (hg : want ops f ⟨some d, .call ⟨.builtin .append, #[x, y], #[T, T]⟩, ty, ps, af, gd⟩ = true) (hk : apk P T = some (e, size, bytes)) (hx : fev f x = .slice (some ⟨g, 0, none⟩) k c) (hy : fev f y = .slice (some ⟨b, 0, none⟩) 1 1)
    (hr : RepF h (.rw 0 (.slice (some ⟨g, 0, none⟩) k c) e size xs) F) (hh : Has h (.cl b e cs)) (hl : Nat.beq cs.length size = true) (ho : ones cs = true) (hby : Nat.ble bytes 100000 = true) (hsm : xs.length < 1000000000)
    (kk : PV P ro ops Q w0 M (F (.rw 0 (.slice (some ⟨g, 0, none⟩) m' c) e size ys)) prest D (upd f d (.slice (some ⟨g, 0, none⟩) m' c))) :
    PV P ro ops Q w0 M h ((2, ⟨some d, .call ⟨.builtin .append, #[x, y], #[T, T]⟩, ty, ps, af, gd⟩) :: prest) D f := by
  subst hm
  subst hys
  exact z2_appendRoom hroom hg hk hx hy hr hh hl ho hby hsm kk
theorem z2_appendNewE {T e : TypeId} {size bytes k c b m' : Nat} {A : Option Addr} {xs ys : List (List Value)} {cs : List Value} (hroom : ¬ k < c) (hm : xs.length + 1 = m') (hys : xs ++ [cs] = ys)
    (hg : want ops f ⟨some d, .call ⟨.builtin .append, #[x, y], #[T, T]⟩, ty, ps, af, gd⟩ = true) (hk : apk P T = some (e, size, bytes)) (hx : fev f x = .slice A k c) (hy : fev f y = .slice (some ⟨b, 0, none⟩) 1 1)
    (hr : Has h (.rw 0 (.slice A k c) e size xs)) (hh : Has h (.cl b e cs)) (hl : Nat.beq cs.length size = true) (ho : ones cs = true) (hby : Nat.ble bytes 100000 = true) (hsm : xs.length < 1000000000)
    (kk : ∀ g cap, PV P ro ops Q w0 M (.rw 0 (.slice (some ⟨g, 0, none⟩) m' cap) e size ys :: h) prest D (upd f d (.slice (some ⟨g, 0, none⟩) m' cap))) :
    PV P ro ops Q w0 M h ((2, ⟨some d, .call ⟨.builtin .append, #[x, y], #[T, T]⟩, ty, ps, af, gd⟩) :: prest) D f := by
  subst hm
  subst hys
  exact z2_appendNew hroom hg hk hx hy hr hh hl ho hby hsm kk
end
/-! ### a net that was there, out of M -/
structure NetOld (w : World) (M : List Nat) (l : List Dm) (b : Nat) (L : List Lk) : Prop where
  at_ : ∃ (n : Nat) (m : Lit → Option Value), OldP w M b (MapV Try.prog 9 n m) ∧ ∀ s, ∃ (A : Option Addr) (c : Nat), (m (sK s)).getD (.slice none 0 0) = .slice A (atS l L s).length c ∧ Old w M A 2 (atS l L s).length (fun i => lkC ((atS l L s).getD i lk0))
theorem NetRd.old {w : World} {l : List Dm} {b : Nat} {L : List Lk} (R : NetRd w l b L) : NetOld w [] l b L := by
  obtain ⟨n, m, h1, h2⟩ := R.at_
  refine ⟨n, m, h1, fun s => ?_⟩
  obtain ⟨A, c, h3, h4⟩ := h2 s
  exact ⟨A, c, h3, h4.old⟩
theorem NetOld.next {w0 w : World} {M : List Nat} {hc fr : List HO} {l : List Dm} {b : Nat} {L : List Lk} (R : NetOld w0 M l b L) (S : Sat w0 M (hc ++ fr) w) : NetOld w (blks hc) l b L := by
  obtain ⟨n, m, h1, h2⟩ := R.at_
  refine ⟨n, m, h1.next S, fun s => ?_⟩
  obtain ⟨A, c, h3, h4⟩ := h2 s
  exact ⟨A, c, h3, h4.next (fun i _ => by simp) S⟩
theorem NetI.oldL {l : List Dm} {b : Nat} {L : List Lk} {h hc fr : List HO} {w0 w : World} {M : List Nat} (N : NetI l b L h) (S : Sat w0 M (hc ++ (h ++ fr)) w) : NetOld w (blks hc) l b L := by
  have S1 : Sat w0 M (h ++ (hc ++ fr)) w := S.perm' (by rw [← List.append_assoc, ← List.append_assoc]; exact List.perm_append_comm.append_right _)
  have R := N.rdL S1
  obtain ⟨n, m, rows, hn, hp, hnd, hm, he⟩ := N
  have S2 : Sat w0 M (hc ++ (.pr b (MapV Try.prog 9 n m) :: (rows.map (rowH l L) ++ fr))) w := S.perm' (List.Perm.append_left _ (hp.append_right _))
  have hout : ∀ (A : Option Addr) (s : ByteArray) (c : Nat), (m (sK s)).getD (.slice none 0 0) = .slice A (atS l L s).length c → 0 < (atS l L s).length → ∀ a, A = some a → a.block ∉ blks hc := fun A s c hs hpos a ha => by
    subst ha
    by_cases hk : s ∈ rows.map NR.s
    · obtain ⟨r, hr, rfl⟩ := List.mem_map.1 hk
      rw [hm, find_key hnd hr] at hs
      injection hs with e1 _ _
      intro hb
      obtain ⟨o2, h2, h3⟩ := blks_mem hb
      obtain ⟨_, _, hap⟩ := List.pairwise_append.1 S2.apart
      refine hap o2 h2 (rowH l L r) (List.mem_cons_of_mem _ (List.mem_append_left _ (List.mem_map_of_mem hr))) a.block h3 ?_
      have hok := S2.ok (rowH l L r) (List.mem_append_right _ (List.mem_cons_of_mem _ (List.mem_append_left _ (List.mem_map_of_mem hr))))
      rcases hok.2.2.2 with ⟨hv, _⟩ | ⟨g, cap, cur, hv, _⟩
      · rw [e1] at hv; cases hv
      · unfold rowH HO.own
        rw [hv]
        rw [e1] at hv
        injection hv with hv _ _
        injection hv with hv
        rw [hv]; rfl
    · rw [he s hk] at hpos; simp at hpos
  have O1 : OldP w (blks hc) b (MapV Try.prog 9 n m) := S2.oldPr List.mem_cons_self
  obtain ⟨n2, m2, h1, h2⟩ := R.at_
  refine ⟨n, m, O1, fun s => ?_⟩
  by_cases hk : s ∈ rows.map NR.s
  · obtain ⟨r, hr, rfl⟩ := List.mem_map.1 hk
    have hv : (m (sK r.s)).getD (.slice none 0 0) = .slice r.A (atS l L r.s).length r.c := by rw [hm, find_key hnd hr]; rfl
    refine ⟨r.A, r.c, hv, ⟨?_, fun hpos a ha => hout r.A r.s r.c hv hpos a ha⟩⟩
    obtain ⟨r1, r2, hrr⟩ := List.append_of_mem (List.mem_map_of_mem (f := rowH l L) hr)
    have S3 : Sat w0 M (rowH l L r :: (hc ++ (.pr b (MapV Try.prog 9 n m) :: (r1 ++ r2 ++ fr)))) w := by
      refine S2.perm' ?_
      rw [hrr]
      refine List.Perm.trans ?_ List.perm_middle
      refine List.Perm.append_left _ ?_
      refine List.Perm.trans ?_ (List.Perm.swap _ _ _)
      refine List.Perm.cons _ ?_
      rw [List.append_assoc, List.append_assoc]
      exact List.perm_middle
    exact Sat.rdmapN lk0 S3 .head rfl
  · refine ⟨none, 0, by rw [hm, find_none hk, he s hk]; rfl, ?_⟩
    rw [he s hk]
    exact ⟨Rd.nil _ _ _ _, fun h => by simp at h⟩
end Go.Proofs.Ytagapiflfnbfiaa
