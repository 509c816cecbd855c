/- Tasks of choices as arguments; what is said of a copied task is said of the task. No statement of the seat is proved here. -/
import Derived.Test.YtecmgjhnfgeldaaV5
import Derived.Test.YtecmgjhnfgeldaaV3
import Derived.Test.YtecmgjhnfgeldaaV2
import Derived.Test.YtecmgjhnfgeldaaVk
namespace Go.Proofs.Ytecmgjhnfgeldaa.Al
set_option linter.unusedVariables false
set_option linter.unusedSimpArgs false
open Go Go.RowKit
theorem openZs {w : World} {v : Value} (h : LeavesZ w [.slice 8 1 [.int .i64]] [v]) :
    ∃ (A : Option Addr) (cap : Nat) (l : List Int), v = .slice A l.length cap ∧ l.length ≤ cap ∧ cap ≤ maxLen ∧ Rd w A 1 l.length (fun i => pkC (l.getD i 0)) ∧ (∀ p ∈ l, True) ∧ l.length * 8 ≤ reachBytes := by
  simp only [LeavesZ, LeafZ] at h
  obtain ⟨_, _, e, ⟨A, cap, css, rfl, h1, h2, R, hc, hz⟩, rfl⟩ := h
  injection e with e _
  subst e
  obtain ⟨l, rfl, hl⟩ := ex_map (f := fun z : Int => [Value.int .i64 z]) (p := fun _ => True) css (fun c hcm => by
    obtain ⟨_, _, rfl, ⟨a, rfl, _⟩, rfl⟩ := hc c hcm
    exact ⟨a, rfl, trivial⟩)
  rw [List.length_map] at h1 hz
  exact ⟨A, cap, l, by rw [List.length_map], h1, h2, R.map (f := fun z : Int => [Value.int .i64 z]) 0, hl, hz⟩
structure Tk where
  m : Int
  B : Option Addr
  cB : Nat
  ps : List Pt
def tkV (t : Tk) : Value := .agg #[.int .i64 t.m, .slice t.B t.ps.length t.cB]
structure Tk.ok (t : Tk) (w : World) : Prop where
  hp : t.ps.length ≤ 9223372036854775807
  hcs : ∀ i, i < t.ps.length → (pat t.ps i).cs.length ≤ 9223372036854775807
  hz : t.ps.length * 32 ≤ reachBytes
  hcz : ∀ i, i < t.ps.length → (pat t.ps i).cs.length * 16 ≤ reachBytes
  hcB : t.ps.length ≤ t.cB
  R : Rd w t.B 2 t.ps.length (fun i => ptC (t.ps.getD i pt0))
  R2 : ∀ i, i < t.ps.length → Rd w (pat t.ps i).A 2 (pat t.ps i).cs.length (fun j => chC ((pat t.ps i).cs.getD j ch0))
theorem openTk {w : World} {v : Value} (h : ∃ l : List Value, v = .agg l.toArray ∧ LeavesZ w [.int .i64, .slice 32 2 [.int .i64, .slice 16 2 [.int .i64, .int .i64]]] l) : ∃ t : Tk, v = tkV t ∧ t.ok w := by
  obtain ⟨_, rfl, h⟩ := h
  simp only [LeavesZ, LeafZ] at h
  obtain ⟨_, _, rfl, ⟨m, rfl, _⟩, _, _, rfl, ⟨B, cB, css, rfl, h1, h2, R, hc, hz⟩, rfl⟩ := h
  have hm : maxLen = 9223372036854775807 := rfl
  obtain ⟨ps, rfl, hl⟩ := ex_map (f := ptC) (p := fun p : Pt => p.cs.length ≤ 9223372036854775807 ∧ p.cs.length * 16 ≤ reachBytes ∧ Rd w p.A 2 p.cs.length (fun j => chC (p.cs.getD j ch0))) css (fun c hcm => by
    obtain ⟨_, _, rfl, ⟨a, rfl, _⟩, _, _, rfl, ⟨A, cA, dss, rfl, h3, h4, R2, hd, hy⟩, rfl⟩ := hc c hcm
    obtain ⟨cs, rfl, _⟩ := ex_map (f := chC) (p := fun _ => True) dss (fun c hcm => by
      obtain ⟨_, _, rfl, ⟨x, rfl, _⟩, _, _, rfl, ⟨y, rfl, _⟩, rfl⟩ := hd c hcm
      exact ⟨⟨x, y⟩, rfl, trivial⟩)
    rw [List.length_map] at h3 hy
    refine ⟨⟨a, A, cA, cs⟩, ?_, show cs.length ≤ _ by omega, hy, R2.map ch0⟩
    rw [List.length_map])
  rw [List.length_map] at h1 hz
  refine ⟨⟨m, B, cB, ps⟩, ?_, show ps.length ≤ _ by omega, fun i hi => (hl _ (getD_mem pt0 hi)).1, hz, fun i hi => (hl _ (getD_mem pt0 hi)).2.1, h1, R.map pt0, fun i hi => (hl _ (getD_mem pt0 hi)).2.2⟩
  unfold tkV
  rw [List.length_map]
/-! ### copied tasks -/
variable {qs ps : List Pt}
theorem same_len (h : qs.map Pt.pl = ps.map Pt.pl) : qs.length = ps.length := by simpa using congrArg List.length h
theorem same_at (h : qs.map Pt.pl = ps.map Pt.pl) (i : Nat) : (qs.getD i pt0).wt = (ps.getD i pt0).wt ∧ (qs.getD i pt0).cs = (ps.getD i pt0).cs := by
  have h1 := pl_get qs i
  have h2 := pl_get ps i
  rw [h] at h1
  have h3 := h1.symm.trans h2
  exact ⟨congrArg Prod.fst h3, congrArg Prod.snd h3⟩
theorem partE_same {p q : Pt} (h : q.wt = p.wt) (h2 : q.cs = p.cs) : partE q = partE p := by unfold partE; rw [h, h2]
theorem chkE_same (h : qs.map Pt.pl = ps.map Pt.pl) (m : Int) : chkE m qs = chkE m ps := by
  have e : (fun i => partE (pat qs i)) = fun i => partE (pat ps i) := funext fun i => partE_same (same_at h i).1 (same_at h i).2
  unfold chkE
  rw [e, same_len h]
theorem chO_same (h : qs.map Pt.pl = ps.map Pt.pl) (l : List Int) (k : Nat) : chO qs l k = chO ps l k := by unfold chO; rw [(same_at h k).2]
theorem wS_same (h : qs.map Pt.pl = ps.map Pt.pl) (l : List Int) : ∀ k, wS qs l k = wS ps l k ∧ cS qs l k = cS ps l k
  | 0 => ⟨rfl, rfl⟩
  | k + 1 => by
    rw [wS, wS, cS, cS, (wS_same h l k).1, (wS_same h l k).2, chO_same h, (same_at h k).1]
    exact ⟨rfl, rfl⟩
theorem okL_same (h : qs.map Pt.pl = ps.map Pt.pl) (l : List Int) (k : Nat) : okL qs l k ↔ okL ps l k := by
  unfold okL
  refine forall_congr' fun i => ?_
  rw [(same_at h i).2]
theorem begV_same (h : qs.map Pt.pl = ps.map Pt.pl) (l : List Int) : begV qs l = begV ps l := by
  by_cases ho : okL ps l l.length
  · rw [begV_ok ho, begV_ok ((okL_same h l _).2 ho), (wS_same h l _).1, (wS_same h l _).2]
  · rw [begV_no ho, begV_no fun hq => ho ((okL_same h l _).1 hq)]
theorem bgE_same (h : qs.map Pt.pl = ps.map Pt.pl) (l : List Int) : bgE qs l = bgE ps l := by
  have e := same_len h
  by_cases h1 : ps.length < l.length
  · rw [bgE_8 h1, bgE_8 (by omega)]
  by_cases ho : okL ps l l.length
  · rw [bgE_0 h1 ho, bgE_0 (by omega) ((okL_same h l _).2 ho)]
  · rw [bgE_2 h1 ho, bgE_2 (by omega) fun hq => ho ((okL_same h l _).1 hq)]
theorem valV_same (h : qs.map Pt.pl = ps.map Pt.pl) (m : Int) (l : List Int) : valV m qs l = valV m ps l := by
  unfold valV
  rw [chkE_same h, same_len h, begV_same h]
theorem nar_same {p q : Pt} (h : q.wt = p.wt) (h2 : q.cs = p.cs) : nar q = nar p := by unfold nar; rw [h, h2]
theorem bst_same {p q : Pt} (h : q.wt = p.wt) (h2 : q.cs = p.cs) (m T : Int) : bst m T q = bst m T p := by unfold bst; rw [nar_same h h2, h, h2]
theorem rS_same (h : qs.map Pt.pl = ps.map Pt.pl) (q : Nat) : ∀ k, rS qs q k = rS ps q k
  | 0 => rfl
  | k + 1 => by rw [rS, rS, rS_same h q k, nar_same (same_at h _).1 (same_at h _).2]
theorem bS_same (h : qs.map Pt.pl = ps.map Pt.pl) (m T : Int) (q : Nat) : ∀ k, bS m T qs q k = bS m T ps q k
  | 0 => rfl
  | k + 1 => by rw [bS, bS, bS_same h m T q k, bst_same (same_at h _).1 (same_at h _).2]
theorem bndV_same (h : qs.map Pt.pl = ps.map Pt.pl) (m : Int) (l : List Int) : bndV m qs l = bndV m ps l := by
  have ht : totW qs l = totW ps l := by unfold totW; rw [(wS_same h l _).1, rS_same h, same_len h]
  unfold bndV
  rw [chkE_same h, bgE_same h, ht, (wS_same h l _).2, bS_same h, same_len h]
theorem prodN_same : ∀ {qs ps : List Pt}, qs.map Pt.pl = ps.map Pt.pl → prodN qs = prodN ps
  | [], [], _ => rfl
  | [], _ :: _, h => by simp at h
  | _ :: _, [], h => by simp at h
  | q :: qs, p :: ps, h => by
    rw [List.map_cons, List.map_cons] at h
    injection h with h1 h2
    rw [prodN, prodN, prodN_same h2, show q.cs = p.cs from congrArg Prod.snd h1]
/-! ### a copied task, read -/
section
variable {w w0 : World} {M : List Nat} {h : List HO}
theorem oq_rd {q : OQ ps} (S : Sat w0 M h w) (hm : ∀ o ∈ oqH q, o ∈ h) : Rd w q.A 2 q.qs.length (fun i => ptC (q.qs.getD i pt0)) ∧ ∀ i, i < q.qs.length → Rd w (pat q.qs i).A 2 (pat q.qs i).cs.length (fun j => chC ((pat q.qs i).cs.getD j ch0)) := by
  refine ⟨Sat.rdmapN (en := ptC) pt0 S (hasOf (hm _ (List.mem_cons_self ..))) rfl, fun i hi => ?_⟩
  exact Sat.rdmapN (en := chC) ch0 S (hasOf (hm (qH (q.qs.getD i pt0)) (List.mem_cons_of_mem _ (List.mem_map_of_mem (getD_mem pt0 hi))))) rfl
theorem q_len (q : OQ ps) (hp : ps.length ≤ 9223372036854775807) : q.qs.length ≤ 9223372036854775807 := by rw [q.len]; exact hp
theorem q_cs (q : OQ ps) (hcs : ∀ i, i < ps.length → (pat ps i).cs.length ≤ 9223372036854775807) : ∀ i, i < q.qs.length → (pat q.qs i).cs.length ≤ 9223372036854775807 := fun i hi => by
  have h1 := hcs i (by rw [← q.len]; exact hi)
  have h2 := (same_at q.pl i).2
  show (q.qs.getD i pt0).cs.length ≤ _
  rw [h2]
  exact h1
theorem rCheck_o (m : Int) {q : OQ ps} (hp : ps.length ≤ 9223372036854775807) (hcs : ∀ i, i < ps.length → (pat ps i).cs.length ≤ 9223372036854775807) (S : Sat w0 M h w) (hm : ∀ o ∈ oqH q, o ∈ h) : Calls Try.prog 28 #[oqV m q] w (RetP (Val (.int .i64 (chkE m ps)) w)) := by
  have := rCheckT_c m q.A q.c q.qs (q_len q hp) (q_cs q hcs) w (oq_rd S hm).1 (oq_rd S hm).2
  rw [chkE_same q.pl] at this
  exact this
theorem rValue_o (m : Int) {q : OQ ps} (hp : ps.length ≤ 9223372036854775807) (hcs : ∀ i, i < ps.length → (pat ps i).cs.length ≤ 9223372036854775807) (S : Sat w0 M h w) (hm : ∀ o ∈ oqH q, o ∈ h) (L : Option Addr) (cL : Nat) (l : List Int) (hl : l.length ≤ 9223372036854775807) (R3 : Rd w L 1 l.length (fun i => pkC (l.getD i 0))) : Calls Try.prog 25 #[oqV m q, .slice L l.length cL] w (RetP (Val (.tuple (valV m ps l).toArray) w)) := by
  have := rValueT_c m q.A q.c q.qs (q_len q hp) (q_cs q hcs) L cL l hl w (oq_rd S hm).1 (oq_rd S hm).2 R3
  rw [valV_same q.pl] at this
  exact this
theorem rBound_o (m : Int) {q : OQ ps} (hp : ps.length ≤ 9223372036854775807) (hcs : ∀ i, i < ps.length → (pat ps i).cs.length ≤ 9223372036854775807) (S : Sat w0 M h w) (hm : ∀ o ∈ oqH q, o ∈ h) (L : Option Addr) (cL : Nat) (l : List Int) (hl : l.length ≤ 9223372036854775807) (R3 : Rd w L 1 l.length (fun i => pkC (l.getD i 0))) : Calls Try.prog 26 #[oqV m q, .slice L l.length cL] w (RetP (Val (.tuple #[.int .i64 (bndV m ps l).1, .int .i64 (bndV m ps l).2]) w)) := by
  have := rBoundT_c m q.A q.c q.qs (q_len q hp) (q_cs q hcs) L cL l hl w (oq_rd S hm).1 (oq_rd S hm).2 R3
  rw [bndV_same q.pl] at this
  exact this
end
end Go.Proofs.Ytecmgjhnfgeldaa.Al
