/- Stacks of dimensions: the reference's bounds. No statement of the seat is proved here. -/
import Derived.Test.YtkkgkghkmkigjaaLm
namespace Go.Proofs.Ytkkgkghkmkigjaa
set_option linter.unusedVariables false
set_option linter.unusedSimpArgs false
open Go Go.RowKit
theorem extS_len (l : List Dm) (c : List Lk) (b : Bool) : (extS l c b).length = l.length := by simp [extS]
theorem extRows_map (l : List Dm) (c : List Lk) (b : Bool) : extRows l c b l.length = (extS l c b).map fun v => [.int .i64 v] := by simp [extRows, extS]
theorem extS_ok {l : List Dm} (hv : okL l) (c : List Lk) (b : Bool) : okS (extS l c b) := by
  intro i
  by_cases hi : i < l.length
  · have h := hv i hi
    have e : (extS l c b).getD i 0 = extV l c b i c.length := by
      rw [List.getD_eq_getElem?_getD, extS, List.getElem?_map, List.getElem?_range hi]; rfl
    rw [e, extV]
    split <;> omega
  · have e : (extS l c b).getD i 0 = 0 := by
      rw [List.getD_eq_getElem?_getD, List.getElem?_eq_none (by rw [extS_len]; omega)]; rfl
    rw [e]; omega
theorem tot_rows {l : List Dm} (hl : l.length ≤ 9223372036854775807) (hv : okL l) (B : Option Addr) (cB : Nat) (c : List Lk) (hc : c.length ≤ 9223372036854775807) (h256 : c.length ≤ 256) (hr : ∀ j, j < c.length → inR l (lat c j)) (b : Bool) {w0 w : World} {M : List Nat} {hs : List HO} {base cC : Nat} {C : Option Addr} {T : TypeId} {xs : List (List Value)} (hx : xs = extRows l c b l.length)
    (R2 : Rd w B 2 c.length (fun i => lkC (c.getD i lk0))) (S : Sat w0 M hs w) (hh : Has hs (.rw base (.slice C xs.length cC) T 1 xs)) :
    Calls Try.prog 56 #[.slice B c.length cB, .slice C xs.length cC] w (RetP (Val (.int .i64 (totE (extS l c b) c)) w)) := by
  rw [extRows_map] at hx
  subst hx
  have R := Rd.map (0 : Int) (by have := S.rd hh; rwa [List.length_map] at this ⊢)
  have := rTotal_c B cB c hc h256 C cC (extS l c b) (by rw [extS_len]; exact hl) (extS_ok hv c b) (fun j hj => by have := hr j hj; rw [extS_len]; exact this) w R2 R
  rwa [List.length_map]
set_option maxRecDepth 100000 in
theorem e_rBounds : Ent Try.prog 43 := fun _ _ => rfl
set_option maxRecDepth 4000 in
set_option maxHeartbeats 2000000 in
theorem rBounds_c (A : Option Addr) (cA : Nat) (l : List Dm) (hl : l.length ≤ 9223372036854775807) (ho : ∀ i, i < l.length → (dat l i).ok) (h6 : l.length ≤ 256) (hv : okL l) (B : Option Addr) (cB : Nat) (c : List Lk) (hc : c.length ≤ 9223372036854775807) (h256 : c.length ≤ 256) (hr : ∀ j, j < c.length → inR l (lat c j)) (lo hi : Int) (w : World) (R : Rd w A 5 l.length (fun i => dmC (l.getD i dm0))) (R2 : Rd w B 2 c.length (fun i => lkC (c.getD i lk0))) : Calls Try.prog 43 #[.agg #[.slice A l.length cA, .slice B c.length cB, .int .i64 lo, .int .i64 hi]] w (RetP (Val (.agg #[.int .i64 (totE (extS l c false) c), .int .i64 (totE (extS l c true) c)]) w)) := by
  refine calls_of_cw (args := [.agg #[.slice A l.length cA, .slice B c.length cB, .int .i64 lo, .int .i64 hi]]) Try.func43 rfl rfl ?_
  have S := Sat.start [] w
  have O := (R).old
  have O2 := (R2).old
  (repeat' (first | apply cw_seq | apply cw_region | apply wl_nil | apply cw_block | apply cw_skip | apply cw_exit | apply cw_ret | (apply x_callrow; assumption; exact rfl; exact rfl; exact rfl; exact e_rExtreme; (exact (by repeat' constructor)); with_reducible exact (rExtreme_c A cA l hl ho B cB c hc lo hi _ h6 _ (Old.now O (by assumption)) (Old.now O2 (by assumption))); intro _ _ _ _) | (apply z1_callrow; exact rfl; exact rfl; exact e_rExtreme; (exact (by repeat' constructor)); with_reducible exact (fun _ _ => rExtreme_c A cA l hl ho B cB c hc lo hi _ h6 _ (Old.now O (by assumption)) (Old.now O2 (by assumption))); intro _ _) | (apply z2_callrow; exact rfl; exact rfl; exact e_rExtreme; (exact (by repeat' constructor)); with_reducible exact (fun _ _ => rExtreme_c A cA l hl ho B cB c hc lo hi _ h6 _ (Old.now O (by assumption)) (Old.now O2 (by assumption))); intro _ _) | (apply x_callv; assumption; exact rfl; exact rfl; exact rfl; exact e_rTotal; (exact (by repeat' constructor)); with_reducible exact (tot_rows hl hv B cB c hc h256 hr _ rfl (Old.now O2 (by assumption)) (by assumption) (by exact (by repeat' constructor))); intro _ _ _) | (apply z1_callv; exact rfl; exact rfl; exact e_rTotal; (exact (by repeat' constructor)); with_reducible exact (fun _ _ => tot_rows hl hv B cB c hc h256 hr _ rfl (Old.now O2 (by assumption)) (by assumption) (by exact (by repeat' constructor)))) | (apply z2_callv; exact rfl; exact rfl; exact e_rTotal; (exact (by repeat' constructor)); with_reducible exact (fun _ _ => tot_rows hl hv B cB c hc h256 hr _ rfl (Old.now O2 (by assumption)) (by assumption) (by exact (by repeat' constructor)))) | (apply cw_draw (id := 1) [(0, 0), (1, 0), (2, 0), (5, 0), (6, 0), (7, 0), (3, 1), (4, 1), (8, 1), (9, 2), (10, 0), (11, 2)]; assumption; exact mixed; kernel_rfl) | (apply x_box; assumption; exact rfl; exact rfl; (exact (by repeat' constructor)); (exact (by repeat' constructor)); intro _ _ _) | (apply x_alloc; assumption; exact rfl; exact rfl; exact rfl; (exact (by repeat' constructor)); intro _ _ _) | (apply y_loadRow; exact rfl; exact rfl; (exact (by repeat' constructor)); (first | omega | exact size_pos (by assumption) | assumption); exact rfl; exact rfl; (exact (by repeat' constructor))) | (apply z2_storeRow; exact rfl; exact rfl; (exact (by repeat' constructor)); exact rfl; exact rfl; (exact (by repeat' constructor)); (first | omega | exact size_pos (by assumption) | assumption); (first | decide | omega)) | (apply y_fieldB; exact rfl; exact rfl; exact rfl; (constructor)) | (apply y_load; exact rfl; exact rfl; (exact (by repeat' constructor)); exact rfl; exact rfl; (exact (by repeat' constructor))) | (apply y_build; exact rfl; exact rfl; (exact (by repeat' constructor))) | (apply y_fieldE; exact rfl; exact rfl; exact rfl; (constructor)) | (apply y_loadB; exact rfl; exact rfl; assumption; exact rfl; exact rfl; (exact (by repeat' constructor))) | (apply y_loadR; exact rfl; exact rfl; assumption; (first | omega | exact size_pos (by assumption) | assumption); exact rfl; exact rfl; (exact (by repeat' constructor))) | (apply z2_store; exact rfl; exact rfl; (exact (by repeat' constructor)); (exact (by repeat' constructor)); exact rfl; exact rfl; exact rfl; (exact (by repeat' constructor))) | (apply PV.up3) | (apply y_nil; intro _ _; with_reducible refine And.intro ?_ ?_) | (apply y_nil; intro _ _)))
  all_goals (first | refine q_retS (by assumption) rfl (by repeat (first | exact .nil | (apply RV.tmp; exact (by repeat' constructor)) | (apply RV.cell; exact rfl; exact (by repeat' constructor); exact rfl; exact rfl; exact (by repeat' constructor)))) ?_ | (simp only [thenQ, blockQ]; refine q_retS (by assumption) rfl (by repeat (first | exact .nil | (apply RV.tmp; exact (by repeat' constructor)) | (apply RV.cell; exact rfl; exact (by repeat' constructor); exact rfl; exact rfl; exact (by repeat' constructor)))) ?_))
  all_goals exact ⟨rfl, Sat.keeps (by assumption)⟩
end Go.Proofs.Ytkkgkghkmkigjaa
