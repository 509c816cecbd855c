/- Records of calibrations: the statement on all instruments, whole. No statement of the seat is proved here. -/
import Derived.Test.YtgfhdddcaiipfaaKs
namespace Go.Proofs.Ytgfhdddcaiipfaa
open Go Go.RowKit
theorem coll_nil : ∀ (xs : List (Nat × Int)) (out : List Nat), ¬ (coll out xs).2 = 0 → (coll out xs).1 = []
  | [], out, h => absurd rfl h
  | (i, e) :: r, out, h => by
    rw [coll] at h ⊢
    by_cases he : e = 0
    · rw [if_pos he] at h ⊢; exact coll_nil r _ h
    · rw [if_neg he]
theorem partsAll {l : List Rc} {day : Int} (hck : ckE l = 0) (hd : dayE day = 0) : PartsAll l day (dueC l day) (brUp l l.length) := by
  have hr := ckE0 hck
  intro k hk
  have hg : givE l day = 0 := by rw [givE, if_neg (fun e => e hck)]; exact hd
  have hg2 : givE l (rat l k).fr = 0 := by rw [givE, if_neg (fun e => e hck)]; exact (recE0 (hr.2 k hk).1).2.2.2.2.1
  have h1 := (VaR_p (name := (rat l k).nm) hg).2
  have h2 := chL_p (name := (rat l k).nm) hg2
  have hm := due_mem (day := day) hk
  have hb := brUp_mem (l := l) l.length k
  refine ⟨memB (l.getD k rc0).nm (dueC l day), memB k (brUp l l.length), (VaR l (rat l k).nm day).1, (VaR l (rat l k).nm day).2, (foll l (rat l k).nm (rat l k).fr).1, (foll l (rat l k).nm (rat l k).fr).2, rfl, h2, rfl, rfl, ?_, ?_, ?_, fun h0 => foll_head hr hk h0, fun j hj => ?_⟩
  · rw [h1]
    have e : ((place l (rat l k).nm day).2 != 0) = memB (l.getD k rc0).nm (dueC l day) := by
      rw [Bool.eq_iff_iff, memB_iff, bne_iff_ne, ne_eq]; exact hm.symm
    rw [e]; simp
  · have e : ((foll l (rat l k).nm (rat l k).fr).2 != 0) = memB k (brUp l l.length) := by
      rw [Bool.eq_iff_iff, memB_iff, bne_iff_ne, ne_eq, hb]; exact ⟨fun h => ⟨hk, h⟩, fun h => h.2⟩
    rw [e]; simp
  · rw [← h2]; exact chL_len
  · by_cases h0 : (foll l (rat l k).nm (rat l k).fr).2 = 0
    · have := chain_whole hr h0 _ (getD_mem 0 hj)
      cases hmb : memB ((foll l (rat l k).nm (rat l k).fr).1.getD j 0) (brUp l l.length) with
      | false => rfl
      | true => exact absurd this.2 ((brUp_mem _ _).1 (memB_iff.1 hmb)).2
    · have : (foll l (rat l k).nm (rat l k).fr).1 = [] := coll_nil _ _ h0
      rw [this] at hj
      simp at hj
theorem lawParts_a (A : Option Addr) (c : Nat) (l : List Rc) (hl : l.length ≤ 9223372036854775807) (ho : ∀ i, i < l.length → (rat l i).ok) (hz : l.length * 64 ≤ reachBytes) (day : Int) (w : World) (R : Rd w A 6 l.length (fun i => rcC (l.getD i rc0))) : Calls Try.prog 9 #[.slice A l.length c, .int .i64 day] w (RetP (Val (.bool true) w)) := by
  cases hw : (fewB l && decide (nul.size ≤ 60)) with
  | false => exact lawPartsN_c A c l hl ho hz day hw w R
  | true =>
  by_cases h : ckE l = 0 ∧ dayE day = 0
  · obtain ⟨hck, hd⟩ := h
    have hds : dueL l day = (dueC l day, 0) := by rw [dueL, if_neg (fun e => e hck), if_neg (fun e => e hd)]
    have hbs : broL l = (brUp l l.length, 0) := by rw [broL, if_neg (fun e => e hck)]
    have h1 := dueL_len (l := l) (day := day)
    have h2 := broL_len (l := l)
    rw [hds] at h1
    rw [hbs] at h2
    exact lawPartsC_c A c l hl ho hz day hw hck hd _ hds _ hbs h1 h2 (due_sorted (ckE0 hck)) (partsAll hck hd) w R
  · refine lawPartsM_c A c l hl ho hz day hw (ckE l) rfl ?_ w R
    rcases Classical.em (ckE l = 0) with h1 | h1
    · exact .inr fun h2 => h ⟨h1, h2⟩
    · exact .inl h1
end Go.Proofs.Ytgfhdddcaiipfaa
