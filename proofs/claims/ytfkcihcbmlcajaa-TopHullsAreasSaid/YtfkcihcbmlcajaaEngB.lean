/- The world as a list of heap facts; the operations that load, store and make memory. No statement of the seat is proved here. -/
import Derived.Test.YtfkcihcbmlcajaaEngA
namespace Go.Proofs.Ytfkcihcbmlcajaa
set_option linter.unusedVariables false
set_option linter.unusedSimpArgs false
open Go Go.RowKit

/-! ### values in their written form -/
/-- the address of cell off of element i -/
def ea (A : Option Addr) (size i off : Nat) : Addr := (A.getD ⟨0, 0, none⟩).add (i * size + off)
theorem block_add (a : Addr) (k : Nat) : (a.add k).block = a.block := by unfold Addr.add; split <;> rfl
theorem add_add' (a : Addr) (i j : Nat) : (a.add i).add j = a.add (i + j) := by
  unfold Addr.add
  by_cases hi : i = 0 <;> by_cases hj : j = 0 <;> simp [hi, hj, Nat.add_assoc]
theorem add_at (b off k : Nat) : (⟨b, off, none⟩ : Addr).add k = ⟨b, off + k, none⟩ := by unfold Addr.add; split <;> simp_all
theorem add_ea (A : Option Addr) (size i off k : Nat) : (ea A size i off).add k = ea A size i (off + k) := by unfold ea; rw [add_add', Nat.add_assoc]
inductive Is0 : Value → Value → Prop
  | int {k : IntKind} {m : Int} : Is0 (.int k m) (.int k m)
  | wrap {m : Int} : (-9223372036854775808 ≤ m ∧ m ≤ 9223372036854775807) → Is0 (.int .i64 (IntKind.i64.wrap m)) (.int .i64 m)
  | bool {b : Bool} : Is0 (.bool b) (.bool b)
  | str {s : ByteArray} : Is0 (.string s) (.string s)
  | ptr {a : Addr} : Is0 (.pointer (some a)) (.pointer (some a))
  | ptrb {b off k : Nat} : Is0 (.pointer (some ((⟨b, off, none⟩ : Addr).add k))) (.pointer (some ⟨b, off + k, none⟩))
  | ptre {A : Option Addr} {size i off k : Nat} : Is0 (.pointer (some ((ea A size i off).add k))) (.pointer (some (ea A size i (off + k))))
  | slice {a : Option Addr} {m c : Nat} : Is0 (.slice a m c) (.slice a m c)
  | func {fn : Fn} {a b : Array Value} : Is0 (.func fn a b) (.func fn a b)
  | nilFunc : Is0 .nilFunc .nilFunc
  | map {r : Option Nat} : Is0 (.map r) (.map r)
  | any {v : Value} : Is0 v v
theorem str_beq (a b : ByteArray) : (a.toList == b.toList) = decide (a = b) := by
  rw [ByteArray.toList_eq, ByteArray.toList_eq]
  by_cases h : a = b
  · subst h; simp
  · have : ¬ a.data.toList = b.data.toList := fun e => h (WideShapes.bytes_inj e)
    simp only [decide_eq_false h, beq_eq_false_iff_ne, ne_eq]
    exact this
theorem Is0.eq {v v' : Value} (h : Is0 v v') : v = v' := by
  cases h with
  | wrap h => rw [IntWalk.i64_in _ h]
  | ptrb => rw [add_at]
  | ptre => rw [add_ea]
  | _ => rfl
/-- a number in its written form -/
inductive IsN : Nat → Nat → Prop
  | n0 : IsN 0 0
  | n1 : IsN 1 1
  | n2 : IsN 2 2
  | n3 : IsN 3 3
  | n4 : IsN 4 4
  | n5 : IsN 5 5
  | n6 : IsN 6 6
  | n7 : IsN 7 7
  | n8 : IsN 8 8
  | n9 : IsN 9 9
  | n10 : IsN 10 10
  | n11 : IsN 11 11
  | n12 : IsN 12 12
  | n13 : IsN 13 13
  | n14 : IsN 14 14
  | n15 : IsN 15 15
  | n16 : IsN 16 16
  | n17 : IsN 17 17
  | n18 : IsN 18 18
  | n19 : IsN 19 19
  | n20 : IsN 20 20
  | n21 : IsN 21 21
  | n22 : IsN 22 22
  | n23 : IsN 23 23
  | n24 : IsN 24 24
theorem IsN.eq {a b : Nat} (h : IsN a b) : a = b := by cases h <;> rfl
inductive NL : List Value → List Value → Prop
  | nil : NL [] []
  | cons {v v' : Value} {l l' : List Value} : Is0 v v' → NL l l' → NL (v :: l) (v' :: l')
theorem NL.eq {l l' : List Value} (h : NL l l') : l = l' := by
  induction h with
  | nil => rfl
  | cons h _ ih => rw [h.eq, ih]
theorem NL.rfl_ : ∀ l : List Value, NL l l
  | [] => .nil
  | _ :: l => .cons .any (NL.rfl_ l)
inductive Is : Value → Value → Prop
  | agg {l l' : List Value} : NL l l' → Is (.agg l.toArray) (.agg l'.toArray)
  | tup {l l' : List Value} : NL l l' → Is (.tuple l.toArray) (.tuple l'.toArray)
  | z {v v' : Value} : Is0 v v' → Is v v'
theorem Is.eq {v v' : Value} (h : Is v v') : v = v' := by
  cases h with
  | z h => exact h.eq
  | agg h => rw [h.eq]
  | tup h => rw [h.eq]
/-- lists of arguments, aggregates among them -/
inductive NA : List Value → List Value → Prop
  | nil : NA [] []
  | cons {v v' : Value} {l l' : List Value} : Is v v' → NA l l' → NA (v :: l) (v' :: l')
theorem NA.eq {l l' : List Value} (h : NA l l') : l = l' := by
  induction h with
  | nil => rfl
  | cons h _ ih => rw [h.eq, ih]
def cl1 : Value → List Value
  | .agg c => c.toList
  | v => [v]
theorem cl1_eq (v : Value) : (cl1 v).toArray = v.cells := by cases v <;> rfl
/-- the cells from off on turned to ns -/
def spl : List Value → Nat → List Value → List Value
  | l, 0, [] => l
  | [], _, _ => []
  | _ :: l, 0, v :: ns => v :: spl l 0 ns
  | c :: l, off + 1, ns => c :: spl l off ns
theorem spl_eq : ∀ (l : List Value) (off : Nat) (ns : List Value), off + ns.length ≤ l.length → spl l off ns = l.take off ++ ns ++ l.drop (off + ns.length)
  | l, 0, [], _ => by simp [spl]
  | [], 0, _ :: _, h => by simp at h
  | _ :: l, 0, v :: ns, h => by
    have := spl_eq l 0 ns (by simp at h ⊢; omega)
    simp [spl, this]
  | [], _ + 1, _, h => by simp at h
  | c :: l, off + 1, ns, h => by
    have := spl_eq l off ns (by simp at h ⊢; omega)
    simp [spl, this, Nat.add_right_comm]
theorem spl_length : ∀ (l : List Value) (off : Nat) (ns : List Value), (spl l off ns).length = l.length
  | l, 0, [] => by simp [spl]
  | [], 0, _ :: _ => by simp [spl]
  | _ :: l, 0, v :: ns => by simp [spl, spl_length l 0 ns]
  | [], _ + 1, _ => by simp [spl]
  | c :: l, off + 1, ns => by simp [spl, spl_length l off ns]
def one (v : Value) : Bool := match v with | .agg _ => false | .tuple _ => false | _ => true
theorem one_eq (v : Value) : one v = v.oneCell' := by cases v <;> rfl
def ones : List Value → Bool
  | [] => true
  | v :: l => one v && ones l
theorem ones_mem {l : List Value} (h : ones l = true) : ∀ u ∈ l, u.oneCell' = true := by
  induction l with
  | nil => intro u hu; cases hu
  | cons v l ih =>
    simp only [ones, Bool.and_eq_true] at h
    intro u hu
    rcases List.mem_cons.1 hu with rfl | hu
    · rw [← one_eq]; exact h.1
    · exact ih h.2 u hu

/-! ### the frame between two worlds -/
structure Keeps (M : List Nat) (w w' : World) : Prop where
  os : w'.os = w.os
  tape : w'.tape = w.tape
  output : w'.output = w.output
  size : w.heap.size ≤ w'.heap.size
  block : ∀ k, k < w.heap.size → k ∉ M → w'.heap[k]? = w.heap[k]?
theorem Keeps.refl (M : List Nat) (w : World) : Keeps M w w := ⟨rfl, rfl, rfl, Nat.le_refl _, fun _ _ _ => rfl⟩
theorem Keeps.trans {M : List Nat} {a b c : World} (h : Keeps M a b) (k : Keeps M b c) : Keeps M a c :=
  ⟨k.os.trans h.os, k.tape.trans h.tape, k.output.trans h.output, Nat.le_trans h.size k.size, fun i hi hn => (k.block i (Nat.lt_of_lt_of_le hi h.size) hn).trans (h.block i hi hn)⟩
theorem Keeps.mono {M M' : List Nat} {w w' : World} (h : Keeps M w w') (hM : ∀ x ∈ M, x < w.heap.size → x ∈ M') : Keeps M' w w' :=
  ⟨h.os, h.tape, h.output, h.size, fun i hi hn => h.block i hi (fun hm => hn (hM i hm hi))⟩
theorem Keeps.below {w w' : World} (h : Keeps [] w w') : Below w.heap.size w w' := ⟨h.os, h.tape, h.output, h.size, fun k hk => h.block k hk (by simp)⟩
theorem Keeps.of_below {w w' : World} (h : Below w.heap.size w w') : Keeps [] w w' := ⟨h.os, h.tape, h.output, h.size, fun k hk _ => h.block k hk⟩
theorem Keeps.grown {w w' : World} (h : Keeps [] w w') : w.grownBy w' none := ⟨h.os, h.tape, h.output, h.size, fun k hk _ => h.block k hk (by simp)⟩
theorem Keeps.cell {M : List Nat} {w w' : World} (h : Keeps M w w') {p : Addr} {v : Value} (hc : w.cell? p = some v) (hn : p.block ∉ M) : w'.cell? p = some v :=
  (World.cell?_of_block (h.block _ (World.block_lt_of_cell? w p hc) hn)).trans hc

/-! ### what is known of the heap -/
inductive HO where
  /-- a block of cells -/
  | cl (b : Nat) (T : TypeId) (cs : List Value)
  /-- a slice of the call's own: its elements' cells -/
  | rw (base : Nat) (v : Value) (E size : Nat) (xs : List (List Value))
  /-- a block of which something is known -/
  | pr (b : Nat) (φ : Option Obj → Prop)
def HO.own : HO → Option Nat
  | .cl b _ _ => some b
  | .rw _ v _ _ _ => v.ownBlock
  | .pr b _ => some b
def Mine (w0 : World) (M : List Nat) (b : Nat) : Prop := w0.heap.size ≤ b ∨ b ∈ M
def HO.ok (w0 : World) (M : List Nat) (w : World) : HO → Prop
  | .cl b T cs => w.heap[b]? = some (.cells cs.toArray T (0, 0)) ∧ Mine w0 M b
  | .rw base v E size xs => (∀ b, v.ownBlock = some b → Mine w0 M b) ∧ (∀ c ∈ xs, c.length = size) ∧ w.ownsRow base E size v xs.length xs.flatten
  | .pr b φ => b < w.heap.size ∧ φ (w.heap[b]?) ∧ Mine w0 M b
theorem HO.ok.lt {w0 w : World} {M : List Nat} {o : HO} (h : o.ok w0 M w) {b : Nat} (hb : o.own = some b) : b < w.heap.size := by
  cases o with
  | cl b' T cs => injection hb with hb; subst hb; exact (Array.getElem?_eq_some_iff.1 h.1).1
  | rw base v E size xs => exact (h.2.2.lt b hb).2
  | pr b' φ => injection hb with hb; subst hb; exact h.1
theorem HO.ok.mine {w0 w : World} {M : List Nat} {o : HO} (h : o.ok w0 M w) {b : Nat} (hb : o.own = some b) : Mine w0 M b := by
  cases o with
  | cl b' T cs => injection hb with hb; subst hb; exact h.2
  | rw base v E size xs => exact h.1 b hb
  | pr b' φ => injection hb with hb; subst hb; exact h.2.2
theorem HO.ok.kept {w0 w w' : World} {M : List Nat} {o : HO} (h : o.ok w0 M w) {row : Option Nat} (hg : w.grownBy w' row) (hne : ∀ b, o.own = some b → row ≠ some b) : o.ok w0 M w' := by
  cases o with
  | cl b T cs => exact ⟨(hg.block b (Array.getElem?_eq_some_iff.1 h.1).1 (fun e => hne b rfl e.symm)).trans h.1, h.2⟩
  | rw base v E size xs =>
    refine ⟨h.1, h.2.1, h.2.2.kept hg ?_⟩
    cases hv : v.ownBlock with
    | none => exact .inl rfl
    | some b => exact .inr (fun e => hne b hv e.symm)
  | pr b φ => exact ⟨Nat.lt_of_lt_of_le h.1 hg.size, by rw [hg.block b h.1 (fun e => hne b rfl e.symm)]; exact h.2.1, h.2.2⟩

def Apart (a b : HO) : Prop := ∀ g, a.own = some g → b.own ≠ some g
structure Sat (w0 : World) (M : List Nat) (h : List HO) (w : World) : Prop where
  keeps : Keeps M w0 w
  ok : ∀ o ∈ h, o.ok w0 M w
  apart : h.Pairwise Apart

inductive Has : List HO → HO → Prop
  | head {o : HO} {t : List HO} : Has (o :: t) o
  | tail {o x : HO} {t : List HO} : Has t o → Has (x :: t) o
theorem Has.mem {h : List HO} {o : HO} (hh : Has h o) : o ∈ h := by
  induction hh with
  | head => exact List.mem_cons_self
  | tail _ ih => exact List.mem_cons_of_mem _ ih
inductive Rep : List HO → HO → HO → List HO → Prop
  | head {o o' : HO} {t : List HO} : Rep (o :: t) o o' (o' :: t)
  | tail {o o' x : HO} {t t' : List HO} : Rep t o o' t' → Rep (x :: t) o o' (x :: t')
theorem Rep.mem {h h' : List HO} {o o' : HO} (r : Rep h o o' h') : o ∈ h := by
  induction r with
  | head => exact List.mem_cons_self
  | tail _ ih => exact List.mem_cons_of_mem _ ih
theorem Rep.mem' {h h' : List HO} {o o' : HO} (r : Rep h o o' h') : ∀ x ∈ h', x = o' ∨ x ∈ h := by
  induction r with
  | head => intro x hx; rcases List.mem_cons.1 hx with e | hx; exact .inl e; exact .inr (List.mem_cons_of_mem _ hx)
  | tail _ ih =>
    intro x hx
    rcases List.mem_cons.1 hx with e | hx
    · exact .inr (by rw [e]; exact List.mem_cons_self)
    · exact (ih x hx).imp id (List.mem_cons_of_mem _)

section
variable {w0 w w' : World} {M : List Nat} {h h' : List HO}
theorem Sat.start (M : List Nat) (w : World) : Sat w M [] w := ⟨Keeps.refl _ _, (fun _ hx => by cases hx), List.Pairwise.nil⟩
theorem Sat.le (S : Sat w0 M h w) : w0.heap.size ≤ w.heap.size := S.keeps.size
theorem Keeps.grownBy (hk : Keeps M w0 w) {row : Option Nat} (hg : w.grownBy w' row) (hr : ∀ b, row = some b → Mine w0 M b) : Keeps M w0 w' :=
  ⟨hg.os.trans hk.os, hg.tape.trans hk.tape, hg.output.trans hk.output, Nat.le_trans hk.size hg.size, fun k hlt hn => by
    refine (hg.block k (Nat.lt_of_lt_of_le hlt hk.size) (fun e => ?_)).trans (hk.block k hlt hn)
    rcases hr k e.symm with h1 | h1
    · omega
    · exact hn h1⟩
theorem Rep.sat {o o' : HO} (r : Rep h o o' h') (hg : w.grownBy w' o.own) (hok : o'.ok w0 M w') (hown : ∀ b, o'.own = some b → o.own = some b ∨ w.heap.size ≤ b)
    (hall : ∀ x ∈ h, x.ok w0 M w) (hp : h.Pairwise Apart) : (∀ x ∈ h', x.ok w0 M w') ∧ h'.Pairwise Apart := by
  induction r with
  | head =>
    rename_i t
    obtain ⟨h1, h2⟩ := List.pairwise_cons.1 hp
    refine ⟨fun x hx => ?_, List.pairwise_cons.2 ⟨fun x hx g hgo hxo => ?_, h2⟩⟩
    · rcases List.mem_cons.1 hx with rfl | hx
      · exact hok
      · exact (hall x (List.mem_cons_of_mem _ hx)).kept hg (fun b hb e => h1 x hx b e hb)
    · rcases hown g hgo with e | e
      · exact h1 x hx g e hxo
      · have := (hall x (List.mem_cons_of_mem _ hx)).lt hxo
        omega
  | tail r ih =>
    rename_i y t t'
    obtain ⟨h1, h2⟩ := List.pairwise_cons.1 hp
    obtain ⟨i1, i2⟩ := ih hg hok hown (fun x hx => hall x (List.mem_cons_of_mem _ hx)) h2
    refine ⟨fun x hx => ?_, List.pairwise_cons.2 ⟨fun x hx g hgo hxo => ?_, i2⟩⟩
    · rcases List.mem_cons.1 hx with rfl | hx
      · exact (hall x List.mem_cons_self).kept hg (fun b hb e => h1 _ r.mem b hb e)
      · exact i1 x hx
    · rcases r.mem' x hx with rfl | hx
      · rcases hown g hxo with e | e
        · exact h1 _ r.mem g hgo e
        · have := (hall y List.mem_cons_self).lt hgo
          omega
      · exact h1 x hx g hgo hxo
theorem Sat.rep (S : Sat w0 M h w) {o o' : HO} (r : Rep h o o' h') (hg : w.grownBy w' o.own) (hok : o'.ok w0 M w') (hown : ∀ b, o'.own = some b → o.own = some b ∨ w.heap.size ≤ b) :
    Sat w0 M h' w' := by
  obtain ⟨h1, h2⟩ := r.sat hg hok hown S.ok S.apart
  exact ⟨S.keeps.grownBy hg (fun b hb => (S.ok o r.mem).mine hb), h1, h2⟩
theorem Sat.same (S : Sat w0 M h w) (hg : w.grownBy w' none) : Sat w0 M h w' :=
  ⟨S.keeps.grownBy hg (fun b hb => by cases hb), fun o ho => (S.ok o ho).kept hg (fun b _ e => by cases e), S.apart⟩
theorem Sat.call (S : Sat w0 M h w) (hk : Keeps [] w w') : Sat w0 M h w' := S.same hk.grown
theorem Sat.add (S : Sat w0 M h w) {o : HO} (hg : w.grownBy w' none) (hok : o.ok w0 M w') (hown : ∀ b, o.own = some b → w.heap.size ≤ b) : Sat w0 M (o :: h) w' := by
  have S' := S.same hg
  refine ⟨S'.keeps, fun x hx => ?_, List.pairwise_cons.2 ⟨fun x hx g hgo hxo => ?_, S.apart⟩⟩
  · rcases List.mem_cons.1 hx with rfl | hx
    · exact hok
    · exact S'.ok x hx
  · have := (S.ok x hx).lt hxo
    have := hown g hgo
    omega
theorem Sat.drop (S : Sat w0 M h w) (h' : List HO) (hs : h'.Sublist h) : Sat w0 M h' w :=
  ⟨S.keeps, fun x hx => S.ok x (hs.subset hx), S.apart.sublist hs⟩
theorem Sat.drew (S : Sat w0 M h w) : Sat w0 M h w.drew := S.same ⟨rfl, rfl, rfl, Nat.le_refl _, fun _ _ _ => rfl⟩
theorem Sat.alloc (S : Sat w0 M h w) (T : TypeId) (cs : List Value) : Sat w0 M (.cl w.heap.size T cs :: h) (w.alloc (.cells cs.toArray T)) :=
  S.add (World.grownBy_alloc w _ none) ⟨heap_alloc_new w _, .inl S.le⟩ (fun b hb => by injection hb with hb; omega)
theorem Sat.cl (S : Sat w0 M h w) {b : Nat} {T : TypeId} {cs : List Value} (hh : Has h (.cl b T cs)) : w.heap[b]? = some (.cells cs.toArray T (0, 0)) := (S.ok _ hh.mem).1
theorem Sat.setRow (S : Sat w0 M h w) {b : Nat} {T : TypeId} {cs cs' : List Value} (r : Rep h (.cl b T cs) (.cl b T cs') h') : Sat w0 M h' (w.setRow b cs'.toArray) :=
  S.rep r ⟨rfl, rfl, rfl, by simp, fun k _ hk => setRow_other w b k _ (fun e => hk (by rw [e]; rfl))⟩
    ⟨setRow_heap w b _ _ T _ (S.ok _ r.mem).1, (S.ok _ r.mem).2⟩ (fun b' hb => .inl hb)
end

/-! ### memory that was there -/
/-- the slice A of n elements reads as 'cell' -/
structure Rd (w : World) (A : Option Addr) (size n : Nat) (cell : Nat → List Value) : Prop where
  some_ : 0 < n → A.isSome = true
  at_ : ∀ i j u, i < n → (cell i)[j]? = some u → w.cell? (ea A size i j) = some u
theorem Rd.keeps {w w' : World} {A : Option Addr} {size n : Nat} {cell : Nat → List Value} (h : Rd w A size n cell) {M : List Nat} (hk : Keeps M w w') (hM : 0 < n → ∀ a, A = some a → a.block ∉ M) : Rd w' A size n cell :=
  ⟨h.some_, fun i j u hi hu => hk.cell (h.at_ i j u hi hu) (by
    have hs := h.some_ (by omega)
    obtain ⟨a, ha⟩ := Option.isSome_iff_exists.1 hs
    subst ha
    unfold ea
    rw [block_add]
    exact hM (by omega) a rfl)⟩
theorem Rd.call {w w' : World} {A : Option Addr} {size n : Nat} {cell : Nat → List Value} (h : Rd w A size n cell) (hk : Keeps [] w w') : Rd w' A size n cell := h.keeps hk (by simp)
theorem Rd.nil (w : World) (A : Option Addr) (size : Nat) (cell : Nat → List Value) : Rd w A size 0 cell := ⟨fun h => by omega, fun _ _ _ h => by omega⟩
/-- what was there, out of M -/
structure Old (w0 : World) (M : List Nat) (A : Option Addr) (size n : Nat) (cell : Nat → List Value) : Prop where
  rd : Rd w0 A size n cell
  out : 0 < n → ∀ a, A = some a → a.block ∉ M
theorem Old.now {w0 w : World} {M : List Nat} {A : Option Addr} {size n : Nat} {cell : Nat → List Value} {h : List HO} (O : Old w0 M A size n cell) (S : Sat w0 M h w) : Rd w A size n cell := O.rd.keeps S.keeps O.out
theorem Rd.old {w0 : World} {A : Option Addr} {size n : Nat} {cell : Nat → List Value} (R : Rd w0 A size n cell) : Old w0 [] A size n cell := ⟨R, by simp⟩
/-- a row of the call's own, read -/
theorem Sat.rd {w0 w : World} {M : List Nat} {h : List HO} (S : Sat w0 M h w) {base : Nat} {A : Option Addr} {n c : Nat} {E size : Nat} {xs : List (List Value)} (hh : Has h (.rw base (.slice A n c) E size xs)) :
    Rd w A size n (fun i => xs.getD i []) := by
  obtain ⟨hb, hlen, hown⟩ := S.ok _ hh.mem
  have key : 0 < n → ∃ g, A = some ⟨g, 0, none⟩ ∧ n = xs.length := by
    intro hn
    rcases hown.2 with ⟨hv, _⟩ | ⟨g, cap, cur, hv, _⟩
    · injection hv with h1 h2 h3; omega
    · injection hv with h1 h2 h3; exact ⟨g, h1, h2⟩
  refine ⟨fun hn => by obtain ⟨g, rfl, _⟩ := key hn; rfl, fun i j u hi hu => ?_⟩
  obtain ⟨g, rfl, rfl⟩ := key (by omega)
  have hc := hown.cells (g := g) rfl (i * size + j) u
  have hx : xs.flatten[i * size + j]? = some u := by
    have hget : xs.getD i [] = xs[i] := by simp [List.getD_eq_getElem?_getD, hi]
    rw [hget] at hu
    have hsz : (xs[i]).length = size := hlen _ (List.getElem_mem hi)
    have hj : j < size := by
      have := (List.getElem?_eq_some_iff.1 hu).1
      omega
    clear hget
    have hilt : i < xs.length := hi
    clear hc hown S hh key hb
    induction xs generalizing i with
    | nil => simp at hi
    | cons x xs ih =>
      have hx0 : x.length = size := hlen x List.mem_cons_self
      cases i with
      | zero =>
        simp only [List.flatten_cons, Nat.zero_mul, Nat.zero_add]
        rw [List.getElem?_append_left (by omega)]
        simpa using hu
      | succ i =>
        simp only [List.flatten_cons]
        rw [List.getElem?_append_right (by rw [hx0, Nat.succ_mul]; omega)]
        have e : (i + 1) * size + j - x.length = i * size + j := by rw [hx0, Nat.succ_mul]; omega
        rw [e]
        refine ih (fun c hc => hlen c (List.mem_cons_of_mem _ hc)) i ?_ ?_ ?_ ?_
        all_goals first | (simpa using hu) | (simpa using hsz) | (simpa using hilt)
  exact hc hx
end Go.Proofs.Ytfkcihcbmlcajaa
