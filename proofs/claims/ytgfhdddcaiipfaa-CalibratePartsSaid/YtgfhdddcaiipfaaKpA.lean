/- Records of calibrations: the chapter's example, computed. No statement of the seat is proved here. -/
import Derived.Test.YtgfhdddcaiipfaaKo
namespace Go.Proofs.Ytgfhdddcaiipfaa
open Go Go.RowKit
abbrev nBlk : ByteArray := ⟨#[98, 108, 111, 99, 107]⟩
abbrev nCal : ByteArray := ⟨#[99, 97, 108, 105, 112, 101, 114]⟩
abbrev nGau : ByteArray := ⟨#[103, 97, 117, 103, 101]⟩
abbrev thr (u : Int) : List Rc := [⟨nBlk, nul, 1, 1, 0, u⟩, ⟨nCal, nBlk, 3, 2, 10, 20⟩, ⟨nGau, nCal, -5, 4, 15, 40⟩]
theorem ne1 : ¬ nBlk = nCal := by decide
theorem ne2 : ¬ nBlk = nGau := by decide
theorem ne3 : ¬ nCal = nGau := by decide
theorem ne1' : ¬ nCal = nBlk := by decide
theorem ne2' : ¬ nGau = nBlk := by decide
theorem ne3' : ¬ nGau = nCal := by decide
theorem nz1 : ¬ nBlk = nul := by decide
theorem nz2 : ¬ nCal = nul := by decide
theorem nz3 : ¬ nGau = nul := by decide
theorem nm1 : nameE nBlk = 0 := by decide +kernel
theorem nm2 : nameE nCal = 0 := by decide +kernel
theorem nm3 : nameE nGau = 0 := by decide +kernel
theorem lt1 : sl nBlk nCal = true := by decide +kernel
theorem lt2 : sl nCal nGau = true := by decide +kernel
theorem thr_ok {u : Int} (hu : 0 ≤ u ∧ u ≤ 1048576) : ckE (thr u) = 0 := by
  unfold ckE
  rw [if_neg (by simp)]
  refine fstE_of _ _ fun i h1 h2 => ?_
  have h3 : i = 0 ∨ i = 1 ∨ i = 2 := by simp at h2; omega
  rcases h3 with rfl | rfl | rfl
  · have h : recE (rat (thr u) 0) = 0 := by
      show recE ⟨nBlk, nul, 1, 1, 0, u⟩ = 0
      unfold recE
      simp [nm1, nz1, dayE, hu, show ¬ nul = nBlk from fun e => nz1 e.symm]
    exact chk_ok h (fun hb => absurd hb.1 (by omega))
  · have h : recE (rat (thr u) 1) = 0 := by
      show recE ⟨nCal, nBlk, 3, 2, 10, 20⟩ = 0
      unfold recE
      simp [nm1, nm2, nz1, ne1, dayE]
    refine chk_ok h ?_
    rintro ⟨_, hb | ⟨hb, _⟩⟩
    · have : sl nCal nBlk = true := hb
      rw [sl_asym lt1] at this; cases this
    · exact ne1' hb
  · have h : recE (rat (thr u) 2) = 0 := by
      show recE ⟨nGau, nCal, -5, 4, 15, 40⟩ = 0
      unfold recE
      simp [nm2, nm3, nz2, ne3, dayE]
    refine chk_ok h ?_
    rintro ⟨_, hb | ⟨hb, _⟩⟩
    · have : sl nGau nCal = true := hb
      rw [sl_asym lt2] at this; cases this
    · exact ne3' hb
abbrev rB (u : Int) : Rc := ⟨nBlk, nul, 1, 1, 0, u⟩
abbrev rCa : Rc := ⟨nCal, nBlk, 3, 2, 10, 20⟩
abbrev rGa : Rc := ⟨nGau, nCal, -5, 4, 15, 40⟩
theorem pl_b {u d : Int} (h : 0 ≤ d ∧ d ≤ u) : place (thr u) nBlk d = (0, 0) := plG_yes (x := rB u) rfl h
theorem pl_b' {u d : Int} (h : ¬ (0 ≤ d ∧ d ≤ u)) : place (thr u) nBlk d = (0, 14) := (plG_out (x := rB u) rfl h).trans ((plG_no (x := rCa) ne1').trans ((plG_no (x := rGa) ne2').trans rfl))
theorem pl_c {u d : Int} (h : 10 ≤ d ∧ d ≤ 20) : place (thr u) nCal d = (1, 0) := (plG_no (x := rB u) ne1).trans (plG_yes (x := rCa) rfl h)
theorem pl_c' {u d : Int} (h : ¬ (10 ≤ d ∧ d ≤ 20)) : place (thr u) nCal d = (0, 14) := (plG_no (x := rB u) ne1).trans ((plG_out (x := rCa) rfl h).trans ((plG_no (x := rGa) ne3').trans rfl))
theorem pl_g {u d : Int} (h : 15 ≤ d ∧ d ≤ 40) : place (thr u) nGau d = (2, 0) := (plG_no (x := rB u) ne2).trans ((plG_no (x := rCa) ne3).trans (plG_yes (x := rGa) rfl h))
theorem pl_g' {u d : Int} (h : ¬ (15 ≤ d ∧ d ≤ 40)) : place (thr u) nGau d = (0, 14) := (plG_no (x := rB u) ne2).trans ((plG_no (x := rCa) ne3).trans ((plG_out (x := rGa) rfl h).trans rfl))
theorem va1 : VaR (thr 12) nGau 30 = (2, 0) := by
  rw [VaR, if_neg (fun e => e (thr_ok (by omega))), if_neg (by decide), pl_g (by omega)]
theorem va2 : VaR (thr 12) nGau 50 = (0, 14) := by
  rw [VaR, if_neg (fun e => e (thr_ok (by omega))), if_neg (by decide), pl_g' (by omega)]
theorem chy_s {l : List Rc} {m : Nat} {out : List Nat} {name : ByteArray} {day : Int} {i : Nat} (h : place l name day = (i, 0)) (h2 : ¬ i ∈ out) (h3 : ¬ (rat l i).bn = nul) : chy l (m + 1) out name day = (i, 0) :: chy l m (out ++ [i]) (rat l i).bn (rat l i).fr := by
  rw [chy_more (by rw [h]) (by rw [h]; exact h2) (by rw [h]; exact h3), h]
theorem chy_z {l : List Rc} {m : Nat} {out : List Nat} {name : ByteArray} {day : Int} {i : Nat} (h : place l name day = (i, 0)) (h2 : ¬ i ∈ out) (h3 : (rat l i).bn = nul) : chy l (m + 1) out name day = [(i, 0)] := by
  rw [chy_end (by rw [h]) (by rw [h]; exact h2) (by rw [h]; exact h3), h]
theorem chy_x {l : List Rc} {m : Nat} {out : List Nat} {name : ByteArray} {day : Int} {i : Nat} {e : Int} (h : place l name day = (i, e)) (h2 : ¬ e = 0) : chy l (m + 1) out name day = [(0, e)] := by
  rw [chy_err (by rw [h]; exact h2), h]
theorem fo1 : foll (thr 12) nGau 30 = ([2, 1, 0], 0) := by
  have e : chy (thr 12) 4 [] nGau 30 = [(2, 0), (1, 0), (0, 0)] := by
    rw [chy_s (pl_g (by omega)) (by decide) nz2]
    show (2, 0) :: chy (thr 12) 3 [2] nCal 15 = _
    rw [chy_s (pl_c (by omega)) (by decide) nz1]
    show (2, 0) :: (1, 0) :: chy (thr 12) 2 [2, 1] nBlk 10 = _
    rw [chy_z (pl_b (by omega)) (by decide) rfl]
  show coll [] (chy (thr 12) 4 [] nGau 30) = _
  rw [e]
  rfl
theorem ch1 : chL (thr 12) nGau 30 = ([2, 1, 0], 0) := by rw [chL_yes (by rw [va1]), fo1]
theorem er1 : errL (thr 12) nGau 30 = ((-8, 6), 0) := by
  rw [errL_yes (by rw [ch1]), ch1]
  rfl
theorem vl1 : valL (thr 12) nGau 30 100 = ((94, 108), 0) := by
  rw [valL, er1]
  rfl
theorem ju1 : judL (thr 12) nGau 30 100 90 110 = (2, 0) := by rw [judL, vl1]; rfl
theorem ju2 : judL (thr 12) nGau 30 100 100 110 = (1, 0) := by rw [judL, vl1]; rfl
theorem ju3 : judL (thr 12) nGau 30 100 0 93 = (0, 0) := by rw [judL, vl1]; rfl
theorem du1 : dueL (thr 12) 50 = ([nBlk, nCal, nGau], 0) := by
  rw [dueL, if_neg (fun e => e (thr_ok (by omega))), if_neg (by decide)]
  have e : dueUp (thr 12) 50 3 = [nBlk, nCal, nGau] := by
    rw [dueUp_yes (show ¬ (place (thr 12) nGau 50).2 = 0 by rw [pl_g' (by omega)]; decide), dueUp_yes (show ¬ (place (thr 12) nCal 50).2 = 0 by rw [pl_c' (by omega)]; decide), dueUp_yes (show ¬ (place (thr 12) nBlk 50).2 = 0 by rw [pl_b' (by omega)]; decide)]
    rfl
  show (cmpTo (dueUp (thr 12) 50 3) (dueUp (thr 12) 50 3).length, (0 : Int)) = _
  rw [e]
  show (cmpTo [nBlk, nCal, nGau] 3, (0 : Int)) = _
  rw [cmpTo_no (l := [nBlk, nCal, nGau]) (j := 1) ne3', cmpTo_no (l := [nBlk, nCal, nGau]) (j := 0) ne1', cmpTo_one]
  rfl
theorem br1 : broL (thr 9) = ([1, 2], 0) := by
  rw [broL, if_neg (fun e => e (thr_ok (by omega)))]
  have h0 : (foll (thr 9) nBlk 0).2 = 0 := by
    have e : chy (thr 9) 4 [] nBlk 0 = [(0, 0)] := chy_z (pl_b (by omega)) (by decide) rfl
    show (coll [] (chy (thr 9) 4 [] nBlk 0)).2 = 0
    rw [e]; rfl
  have h1 : ¬ (foll (thr 9) nCal 10).2 = 0 := by
    have e : chy (thr 9) 4 [] nCal 10 = [(1, 0), (0, 14)] := by
      rw [chy_s (pl_c (by omega)) (by decide) nz1]
      show (1, 0) :: chy (thr 9) 3 [1] nBlk 10 = _
      rw [chy_x (pl_b' (by omega)) (by decide)]
    show ¬ (coll [] (chy (thr 9) 4 [] nCal 10)).2 = 0
    rw [e]; decide
  have h2 : ¬ (foll (thr 9) nGau 15).2 = 0 := by
    have e : chy (thr 9) 4 [] nGau 15 = [(2, 0), (1, 0), (0, 14)] := by
      rw [chy_s (pl_g (by omega)) (by decide) nz2]
      show (2, 0) :: chy (thr 9) 3 [2] nCal 15 = _
      rw [chy_s (pl_c (by omega)) (by decide) nz1]
      show (2, 0) :: (1, 0) :: chy (thr 9) 2 [2, 1] nBlk 10 = _
      rw [chy_x (pl_b' (by omega)) (by decide)]
    show ¬ (coll [] (chy (thr 9) 4 [] nGau 15)).2 = 0
    rw [e]; decide
  show (brUp (thr 9) 3, (0 : Int)) = _
  rw [brUp_yes (l := thr 9) (k := 2) h2, brUp_yes (l := thr 9) (k := 1) h1, brUp_no (l := thr 9) (k := 0) h0]
  rfl
end Go.Proofs.Ytgfhdddcaiipfaa
