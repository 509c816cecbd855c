/- Tasks of choices, copied; solutions; values of picks. No statement of the seat is proved here. -/
import Derived.Test.YtdkknknebehkgaaGreatDoorOc
import Derived.Test.YtdkknknebehkgaaGreatDoorV1
import Derived.Test.YtdkknknebehkgaaGreatDoorVg
import Derived.Test.YtdkknknebehkgaaGreatDoorVd
import Derived.Test.YtdkknknebehkgaaGreatDoorEngP
import Derived.Test.YtdkknknebehkgaaGreatDoorEngRl
import Derived.SizedLaws
namespace Go.Proofs.YtdkknknebehkgaaGreatDoor.Al
set_option linter.unusedVariables false
set_option linter.unusedSimpArgs false
open Go Go.RowKit
def qH (q : Pt) : HO := .rw 0 (.slice q.A q.cs.length q.cA) 36 2 (q.cs.map chC)
structure OQ (ps : List Pt) where
  A : Option Addr
  c : Nat
  qs : List Pt
  pl : qs.map Pt.pl = ps.map Pt.pl
abbrev oqV (m : Int) {ps : List Pt} (q : OQ ps) : Value := .agg #[.int .i64 m, .slice q.A q.qs.length q.c]
def oqH {ps : List Pt} (q : OQ ps) : List HO := .rw 0 (.slice q.A q.qs.length q.c) 33 2 (q.qs.map ptC) :: q.qs.map qH
theorem OQ.len {ps : List Pt} (q : OQ ps) : q.qs.length = ps.length := by
  have := congrArg List.length q.pl
  simpa using this
structure Tk where
  m : Int
  B : Option Addr
  cB : Nat
  ps : List Pt
def tkV (t : Tk) : Value := .agg #[.int .i64 t.m, .slice t.B t.ps.length t.cB]
structure Tk.ok (t : Tk) (w : World) : Prop where
  hp : t.ps.length ≤ 9223372036854775807
  hcs : ∀ i, i < t.ps.length → (pat t.ps i).cs.length ≤ 9223372036854775807
  hz : t.ps.length * 32 ≤ reachBytes
  hcz : ∀ i, i < t.ps.length → (pat t.ps i).cs.length * 16 ≤ reachBytes
  hcB : t.ps.length ≤ t.cB
  R : Rd w t.B 2 t.ps.length (fun i => ptC (t.ps.getD i pt0))
  R2 : ∀ i, i < t.ps.length → Rd w (pat t.ps i).A 2 (pat t.ps i).cs.length (fun j => chC ((pat t.ps i).cs.getD j ch0))
theorem openTk {w : World} {v : Value} (h : ∃ l : List Value, v = .agg l.toArray ∧ LeavesZ w [.int .i64, .slice 32 2 [.int .i64, .slice 16 2 [.int .i64, .int .i64]]] l) : ∃ t : Tk, v = tkV t ∧ t.ok w := by
  obtain ⟨_, rfl, h⟩ := h
  simp only [LeavesZ, LeafZ] at h
  obtain ⟨_, _, rfl, ⟨m, rfl, _⟩, _, _, rfl, ⟨B, cB, css, rfl, h1, h2, R, hc, hz⟩, rfl⟩ := h
  have hm : maxLen = 9223372036854775807 := rfl
  obtain ⟨ps, rfl, hl⟩ := ex_map (f := ptC) (p := fun p : Pt => p.cs.length ≤ 9223372036854775807 ∧ p.cs.length * 16 ≤ reachBytes ∧ Rd w p.A 2 p.cs.length (fun j => chC (p.cs.getD j ch0))) css (fun c hcm => by
    obtain ⟨_, _, rfl, ⟨a, rfl, _⟩, _, _, rfl, ⟨A, cA, dss, rfl, h3, h4, R2, hd, hy⟩, rfl⟩ := hc c hcm
    obtain ⟨cs, rfl, _⟩ := ex_map (f := chC) (p := fun _ => True) dss (fun c hcm => by
      obtain ⟨_, _, rfl, ⟨x, rfl, _⟩, _, _, rfl, ⟨y, rfl, _⟩, rfl⟩ := hd c hcm
      exact ⟨⟨x, y⟩, rfl, trivial⟩)
    rw [List.length_map] at h3 hy
    refine ⟨⟨a, A, cA, cs⟩, ?_, show cs.length ≤ _ by omega, hy, R2.map ch0⟩
    rw [List.length_map])
  rw [List.length_map] at h1 hz
  refine ⟨⟨m, B, cB, ps⟩, ?_, show ps.length ≤ _ by omega, fun i hi => (hl _ (getD_mem pt0 hi)).1, hz, fun i hi => (hl _ (getD_mem pt0 hi)).2.1, h1, R.map pt0, fun i hi => (hl _ (getD_mem pt0 hi)).2.2⟩
  unfold tkV
  rw [List.length_map]
section
variable {qs ps : List Pt}
theorem same_len (h : qs.map Pt.pl = ps.map Pt.pl) : qs.length = ps.length := by simpa using congrArg List.length h
theorem same_at (h : qs.map Pt.pl = ps.map Pt.pl) (i : Nat) : (qs.getD i pt0).wt = (ps.getD i pt0).wt ∧ (qs.getD i pt0).cs = (ps.getD i pt0).cs := by
  have h1 := pl_get qs i
  have h2 := pl_get ps i
  rw [h] at h1
  have h3 := h1.symm.trans h2
  exact ⟨congrArg Prod.fst h3, congrArg Prod.snd h3⟩
theorem partE_same {p q : Pt} (h : q.wt = p.wt) (h2 : q.cs = p.cs) : partE q = partE p := by unfold partE; rw [h, h2]
theorem chkE_same (h : qs.map Pt.pl = ps.map Pt.pl) (m : Int) : chkE m qs = chkE m ps := by
  have e : (fun i => partE (pat qs i)) = fun i => partE (pat ps i) := funext fun i => partE_same (same_at h i).1 (same_at h i).2
  unfold chkE
  rw [e, same_len h]
theorem prodN_same : ∀ {qs ps : List Pt}, qs.map Pt.pl = ps.map Pt.pl → prodN qs = prodN ps
  | [], [], _ => rfl
  | [], _ :: _, h => by simp at h
  | _ :: _, [], h => by simp at h
  | q :: qs, p :: ps, h => by
    rw [List.map_cons, List.map_cons] at h
    injection h with h1 h2
    rw [prodN, prodN, prodN_same h2, show q.cs = p.cs from congrArg Prod.snd h1]
end
section
variable {qs ps : List Pt} {w w0 : World} {M : List Nat} {h : List HO}
theorem oq_rd {q : OQ ps} (S : Sat w0 M h w) (hm : ∀ o ∈ oqH q, o ∈ h) : Rd w q.A 2 q.qs.length (fun i => ptC (q.qs.getD i pt0)) ∧ ∀ i, i < q.qs.length → Rd w (pat q.qs i).A 2 (pat q.qs i).cs.length (fun j => chC ((pat q.qs i).cs.getD j ch0)) := by
  refine ⟨Sat.rdmapN (en := ptC) pt0 S (hasOf (hm _ (List.mem_cons_self ..))) rfl, fun i hi => ?_⟩
  exact Sat.rdmapN (en := chC) ch0 S (hasOf (hm (qH (q.qs.getD i pt0)) (List.mem_cons_of_mem _ (List.mem_map_of_mem (getD_mem pt0 hi))))) rfl
theorem q_len (q : OQ ps) (hp : ps.length ≤ 9223372036854775807) : q.qs.length ≤ 9223372036854775807 := by rw [q.len]; exact hp
theorem q_cs (q : OQ ps) (hcs : ∀ i, i < ps.length → (pat ps i).cs.length ≤ 9223372036854775807) : ∀ i, i < q.qs.length → (pat q.qs i).cs.length ≤ 9223372036854775807 := fun i hi => by
  have h1 := hcs i (by rw [← q.len]; exact hi)
  have h2 := (same_at q.pl i).2
  show (q.qs.getD i pt0).cs.length ≤ _
  rw [h2]
  exact h1
theorem rCheck_o (m : Int) {q : OQ ps} (hp : ps.length ≤ 9223372036854775807) (hcs : ∀ i, i < ps.length → (pat ps i).cs.length ≤ 9223372036854775807) (S : Sat w0 M h w) (hm : ∀ o ∈ oqH q, o ∈ h) : Calls Tryz.prog 5 #[oqV m q] w (RetP (Val (.int .i64 (chkE m ps)) w)) := by
  have := rCheckT_c m q.A q.c q.qs (q_len q hp) (q_cs q hcs) w (oq_rd S hm).1 (oq_rd S hm).2
  rw [chkE_same q.pl] at this
  exact this
theorem few_same {qs ps : List Pt} (h : qs.map Pt.pl = ps.map Pt.pl) (m : Int) : FewT m qs ↔ FewT m ps := by
  have hl := same_len h
  constructor
  · rintro ⟨h1, h2, h3⟩
    exact ⟨by omega, fun i hi => by rw [← (same_at h i).2]; exact h2 i (by omega), fun hc => by rw [← prodN_same h]; exact h3 (by rw [chkE_same h]; exact hc)⟩
  · rintro ⟨h1, h2, h3⟩
    exact ⟨by omega, fun i hi => by rw [(same_at h i).2]; exact h2 i (by omega), fun hc => by rw [prodN_same h]; exact h3 (by rw [← chkE_same h]; exact hc)⟩
theorem val_ofA {P : Program} {g : FuncId} {args : Array Value} {w : World} {v v' : Value} (h : Calls P g args w (RetP (Val v w))) (e : v = v') : Calls P g args w (RetP (Val v' w)) := e ▸ h
theorem rFew_y (m : Int) {q : OQ ps} (hp : ps.length ≤ 9223372036854775807) (hcs : ∀ i, i < ps.length → (pat ps i).cs.length ≤ 9223372036854775807) (S : Sat w0 M h w) (hm : ∀ o ∈ oqH q, o ∈ h) (hf : FewT m ps) : Calls Tryz.prog 4 #[oqV m q] w (RetP (Val (.bool true) w)) :=
  val_ofA (rFew_c m q.A q.c q.qs (q_len q hp) (q_cs q hcs) w (oq_rd S hm).1 (oq_rd S hm).2) (congrArg Value.bool (by simp [few_same q.pl, hf]))
theorem rFew_n (m : Int) {q : OQ ps} (hp : ps.length ≤ 9223372036854775807) (hcs : ∀ i, i < ps.length → (pat ps i).cs.length ≤ 9223372036854775807) (S : Sat w0 M h w) (hm : ∀ o ∈ oqH q, o ∈ h) (hf : ¬ FewT m ps) : Calls Tryz.prog 4 #[oqV m q] w (RetP (Val (.bool false) w)) :=
  val_ofA (rFew_c m q.A q.c q.qs (q_len q hp) (q_cs q hcs) w (oq_rd S hm).1 (oq_rd S hm).2) (congrArg Value.bool (by simp [few_same q.pl, hf]))
end
theorem Solve_y {l : List Int} {c e : Int} (m : Int) (B : Option Addr) (cB : Nat) (ps : List Pt) (hp : ps.length ≤ 9223372036854775807) (hcs : ∀ i, i < ps.length → (pat ps i).cs.length ≤ 9223372036854775807) (hN : chkE m ps = 0 → prodN ps ≤ 20000) (hv : slvL m ps = (l, c, e)) (w : World) (R : Rd w B 2 ps.length (fun i => ptC (ps.getD i pt0))) (R2 : ∀ i, i < ps.length → Rd w (pat ps i).A 2 (pat ps i).cs.length (fun j => chC ((pat ps i).cs.getD j ch0))) : Calls Tryz.prog 7 #[.agg #[.int .i64 m, .slice B ps.length cB]] w (RetP (RowR (fun v => .tuple #[v, .int .i64 c, .int .i64 e]) 3 1 (l.map pkC) w)) := by
  have := SolveT_c m B cB ps hp hcs hN w R R2
  rw [hv] at this
  exact this
theorem slv_cases {m : Int} {ps : List Pt} (hck : chkE m ps = 0) : (chpS (frF ps) m = none ∧ slvL m ps = ([], 0, 6)) ∨ ∃ l c, chpS (frF ps) m = some c ∧ slvL m ps = (l, c, 0) ∧ Sol m ps l c := by
  cases h : chpS (frF ps) m with
  | none => exact .inl ⟨rfl, slvL_n hck h⟩
  | some c => exact .inr ⟨_, c, rfl, slvL_s hck h, slv_sol h⟩
theorem Value_y {a b c : Int} (m : Int) (B : Option Addr) (cB : Nat) (ps : List Pt) (hp : ps.length ≤ 9223372036854775807) (hcs : ∀ i, i < ps.length → (pat ps i).cs.length ≤ 9223372036854775807) (L : Option Addr) (cL : Nat) (l : List Int) (hl : l.length ≤ 9223372036854775807) (hv : valV m ps l = [.int .i64 a, .int .i64 b, .int .i64 c]) (w : World) (R : Rd w B 2 ps.length (fun i => ptC (ps.getD i pt0))) (R2 : ∀ i, i < ps.length → Rd w (pat ps i).A 2 (pat ps i).cs.length (fun j => chC ((pat ps i).cs.getD j ch0))) (R3 : Rd w L 1 l.length (fun i => pkC (l.getD i 0))) : Calls Tryz.prog 10 #[.agg #[.int .i64 m, .slice B ps.length cB], .slice L l.length cL] w (RetP (Val (.tuple #[.int .i64 a, .int .i64 b, .int .i64 c]) w)) := by
  have := ValueT_c m B cB ps hp hcs L cL l hl w R R2 R3
  rw [hv] at this
  exact this
theorem Value_m {a b c : Int} {n : Nat} (m : Int) (B : Option Addr) (cB : Nat) (ps : List Pt) (hp : ps.length ≤ 9223372036854775807) (hcs : ∀ i, i < ps.length → (pat ps i).cs.length ≤ 9223372036854775807) (L : Option Addr) (cL : Nat) (l : List Int) (hn : n = l.length) (hl : l.length ≤ 9223372036854775807) (hv : valV m ps l = [.int .i64 a, .int .i64 b, .int .i64 c]) (w : World) (R : Rd w B 2 ps.length (fun i => ptC (ps.getD i pt0))) (R2 : ∀ i, i < ps.length → Rd w (pat ps i).A 2 (pat ps i).cs.length (fun j => chC ((pat ps i).cs.getD j ch0))) (R3 : Rd w L 1 l.length (fun i => pkC (l.getD i 0))) : Calls Tryz.prog 10 #[.agg #[.int .i64 m, .slice B ps.length cB], .slice L n cL] w (RetP (Val (.tuple #[.int .i64 a, .int .i64 b, .int .i64 c]) w)) := by
  subst hn
  exact Value_y m B cB ps hp hcs L cL l hl hv w R R2 R3
section
variable {P : Program} {ro : Option Nat} {n : Nat} {Q : Post} {D : List Deferred} {f : Fm} {w : World}
variable {ops : Array Oper} {rest : List Oper} {d ty : Nat} {ps : String} {af : Array Edge} {gd : Option (Nat × Bool)} {x : Operand}
variable {w0 w' : World} {M : List Nat} {h : List HO} {y : Operand}
theorem x_storeRowEA {T E size i off m c : Nat} {A : Option Addr} {v : Value} {xs ys : List (List Value)} {F : HO → List HO} (S : Sat w0 M h w) (hg : want ops f ⟨none, .store T x y, ty, ps, af, gd⟩ = true)
    (hx : fev f x = .pointer (some (ea A size i off))) (hy : Is (fev f y) v) (h1 : one v = true) (hs : (P.info? T).map (·.size) = some 1) (hr : RepF h (.rw 0 (.slice A m c) E size xs) F) (hi : i < xs.length) (ho : off < size) (he : xs.set i ((xs.getD i []).set off v) = ys)
    (k : ∀ w', Sat w0 M (F (.rw 0 (.slice A m c) E size ys)) w' → WL P ro n ops Q rest D f w') :
    WL P ro n ops Q (⟨none, .store T x y, ty, ps, af, gd⟩ :: rest) D f w := by
  subst he
  exact x_storeRow S hg hx hy h1 hs hr hi ho k
end
theorem set_pk {l : List Int} {i : Nat} {z : Int} (h : i < l.length) : (l.map pkC).set i (((l.map pkC).getD i []).set 0 (.int .i64 z)) = (l.set i z).map pkC := by
  have e : (l.map pkC).getD i [] = pkC (l.getD i 0) := by simp [List.getD_eq_getElem?_getD, h]
  rw [e, List.map_set]
  rfl
theorem set_get {l : List Int} {i j : Nat} {z : Int} (hi : i < l.length) : (l.set i z).getD j 0 = if i = j then z else l.getD j 0 := by
  simp only [List.getD_eq_getElem?_getD, List.getElem?_set]
  by_cases e : i = j
  · subst e; simp [hi]
  · simp [e]
theorem okL_set {ps : List Pt} {l : List Int} {i a : Nat} (ho : okL ps l l.length) (hi : i < l.length) (ha : a < (ps.getD i pt0).cs.length) : okL ps (l.set i (a : Int)) (l.set i (a : Int)).length := fun j hj => by
  rw [List.length_set] at hj
  rw [set_get hi]
  split
  · rename_i e
    subst e
    omega
  · exact ho j hj
end Go.Proofs.YtdkknknebehkgaaGreatDoor.Al
