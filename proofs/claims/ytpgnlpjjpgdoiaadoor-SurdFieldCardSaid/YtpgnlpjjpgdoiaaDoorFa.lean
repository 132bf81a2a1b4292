/- Merged by program: Dig, Base, NatA, Bits, NatB, NatC, DivM, Div64, Word, Shift. -/
import Derived.Test.YtpgnlpjjpgdoiaaDoorProg
import Derived.Lib.Hide
import Derived.WalkKit
import Derived.Outline
import Derived.Deep.QuietTactic
import Derived.BigQuiet
import Derived.Laws.NewBlocks
import Derived.WalkSpells
import Derived.WalkLawsBesides
import Derived.Laws.MakeOwn
import Derived.Sort.Grow
import Derived.Test.YtpgnlpjjpgdoiaaDoorShelf
import Derived.Shelf.Spec.BitsCarry
import Derived.Laws.Bits64b
import Derived.Laws.ShiftsVarLaws
import Derived.Laws.BitsAllLaws
/- Plain numbers: the digits of a natural number to a base, the number of a list of digits. No program, no memory. -/
namespace Go.Proofs.YtpgnlpjjpgdoiaaDoor
set_option linter.unusedVariables false
set_option linter.unusedSimpArgs false
/-- The number of a list of digits, the lowest one first. -/
def vb (B : Nat) : List Nat → Nat
  | [] => 0
  | x :: xs => x + B * vb B xs
/-- The digits of n, the lowest one first, no zero at the end. -/
def dg (B n : Nat) : List Nat := if h : n = 0 ∨ B < 2 then [] else (n % B) :: dg B (n / B)
termination_by n
decreasing_by exact Nat.div_lt_self (by omega) (by omega)
def WB (B : Nat) (xs : List Nat) : Prop := ∀ x ∈ xs, x < B
section
variable {B : Nat}
theorem vb_nil : vb B [] = 0 := rfl
theorem vb_cons (x : Nat) (xs : List Nat) : vb B (x :: xs) = x + B * vb B xs := rfl
theorem vb_append (xs ys : List Nat) : vb B (xs ++ ys) = vb B xs + B ^ xs.length * vb B ys := by
  induction xs with
  | nil => simp [vb]
  | cons x xs ih => simp only [List.cons_append, vb, ih, List.length_cons, Nat.pow_succ, Nat.mul_add]; rw [Nat.add_assoc, Nat.mul_comm (B ^ xs.length) B, Nat.mul_assoc]
theorem vb_zeros (n : Nat) : vb B (List.replicate n 0) = 0 := by
  induction n with
  | zero => rfl
  | succ n ih => simp [List.replicate_succ, vb, ih]
theorem vb_snoc (xs : List Nat) (x : Nat) : vb B (xs ++ [x]) = vb B xs + B ^ xs.length * x := by rw [vb_append]; simp [vb]
theorem WB.cons {x : Nat} {xs : List Nat} : WB B (x :: xs) ↔ x < B ∧ WB B xs := by simp [WB]
theorem WB.append {xs ys : List Nat} : WB B (xs ++ ys) ↔ WB B xs ∧ WB B ys := by
  simp only [WB, List.mem_append]
  exact ⟨fun h => ⟨fun x hx => h x (.inl hx), fun x hx => h x (.inr hx)⟩, fun h x hx => hx.elim (h.1 x) (h.2 x)⟩
theorem WB.nil : WB B [] := by simp [WB]
theorem WB.zeros (hB : 0 < B) (n : Nat) : WB B (List.replicate n 0) := by
  intro x hx; rw [List.mem_replicate] at hx; omega
theorem WB.take {xs : List Nat} (h : WB B xs) (k : Nat) : WB B (xs.take k) := fun x hx => h x (List.mem_of_mem_take hx)
theorem WB.drop {xs : List Nat} (h : WB B xs) (k : Nat) : WB B (xs.drop k) := fun x hx => h x (List.mem_of_mem_drop hx)
theorem WB.getD {xs : List Nat} (h : WB B xs) (hB : 0 < B) (i : Nat) : xs.getD i 0 < B := by
  rw [List.getD_eq_getElem?_getD]
  cases hx : xs[i]? with
  | none => simpa using hB
  | some v => exact h v (List.mem_of_getElem? hx)
theorem WB.set {xs : List Nat} (h : WB B xs) (i : Nat) {x : Nat} (hx : x < B) : WB B (xs.set i x) := by
  intro y hy
  rcases List.mem_or_eq_of_mem_set hy with hy | rfl
  · exact h y hy
  · exact hx
theorem vb_lt {xs : List Nat} (h : WB B xs) : vb B xs < B ^ xs.length := by
  induction xs with
  | nil => simp [vb]
  | cons x xs ih =>
    rw [WB.cons] at h
    have ih := ih h.2
    simp only [vb, List.length_cons, Nat.pow_succ]
    have h1 : B * vb B xs + B ≤ B ^ xs.length * B := by
      rw [Nat.mul_comm (B ^ xs.length) B, ← Nat.mul_succ]; exact Nat.mul_le_mul_left _ ih
    have := h.1
    omega
theorem take_succ_getD (xs : List Nat) (i : Nat) (h : i < xs.length) : xs.take (i + 1) = xs.take i ++ [xs.getD i 0] := by
  rw [List.take_succ_eq_append_getElem h]; simp [List.getD_eq_getElem?_getD, List.getElem?_eq_getElem h]
theorem vb_take_succ (xs : List Nat) (i : Nat) (h : i < xs.length) : vb B (xs.take (i + 1)) = vb B (xs.take i) + B ^ i * xs.getD i 0 := by
  rw [take_succ_getD xs i h, vb_snoc, List.length_take, Nat.min_eq_left (by omega)]
theorem vb_take_drop (xs : List Nat) (i : Nat) (h : i ≤ xs.length) : vb B xs = vb B (xs.take i) + B ^ i * vb B (xs.drop i) := by
  conv => lhs; rw [← List.take_append_drop i xs]
  rw [vb_append, List.length_take, Nat.min_eq_left h]
theorem drop_getD (xs : List Nat) (i : Nat) (h : i < xs.length) : xs.drop i = xs.getD i 0 :: xs.drop (i + 1) := by
  rw [List.drop_eq_getElem_cons h]; simp [List.getD_eq_getElem?_getD, List.getElem?_eq_getElem h]
theorem getD_set_eq (xs : List Nat) (i x : Nat) (h : i < xs.length) : (xs.set i x).getD i 0 = x := by
  simp [List.getD_eq_getElem?_getD, List.getElem?_set, h]
theorem getD_set_ne (xs : List Nat) (i j x : Nat) (h : i ≠ j) : (xs.set i x).getD j 0 = xs.getD j 0 := by
  simp [List.getD_eq_getElem?_getD, List.getElem?_set, h]
theorem take_set_succ (xs : List Nat) (i x : Nat) (h : i < xs.length) : (xs.set i x).take (i + 1) = xs.take i ++ [x] := by
  rw [take_succ_getD _ i (by simpa using h), getD_set_eq _ _ _ h, List.take_set_of_le (Nat.le_refl _)]
theorem drop_set_succ (xs : List Nat) (i x : Nat) : (xs.set i x).drop (i + 1) = xs.drop (i + 1) := by
  rw [List.drop_set]; simp
theorem vb_set (xs : List Nat) (i x : Nat) (h : i < xs.length) : vb B (xs.set i x) + B ^ i * xs.getD i 0 = vb B xs + B ^ i * x := by
  rw [vb_take_drop (xs.set i x) i (by simp; omega), vb_take_drop xs i (by omega), List.take_set_of_le (Nat.le_refl _), drop_getD xs i h, drop_getD (xs.set i x) i (by simpa using h), getD_set_eq _ _ _ h, drop_set_succ]
  simp only [vb, Nat.mul_add]
  omega
theorem dg_zero : dg B 0 = [] := by unfold dg; simp
theorem dg_pos (hB : 2 ≤ B) {n : Nat} (h : n ≠ 0) : dg B n = (n % B) :: dg B (n / B) := by
  rw [dg]; rw [dif_neg (by omega)]
theorem vb_dg (hB : 2 ≤ B) (n : Nat) : vb B (dg B n) = n := by
  induction n using Nat.strongRecOn with
  | ind n ih =>
    by_cases h : n = 0
    · subst h; simp [dg_zero, vb]
    · rw [dg_pos hB h, vb, ih (n / B) (Nat.div_lt_self (by omega) (by omega))]; exact Nat.mod_add_div n B
theorem WB_dg (hB : 2 ≤ B) (n : Nat) : WB B (dg B n) := by
  induction n using Nat.strongRecOn with
  | ind n ih =>
    by_cases h : n = 0
    · subst h; simp [dg_zero, WB]
    · rw [dg_pos hB h, WB.cons]; exact ⟨Nat.mod_lt _ (by omega), ih _ (Nat.div_lt_self (by omega) (by omega))⟩
theorem dg_eq_nil (hB : 2 ≤ B) {n : Nat} : dg B n = [] ↔ n = 0 := by
  constructor
  · intro h; have := vb_dg hB n; rw [h] at this; simpa [vb] using this.symm
  · rintro rfl; exact dg_zero
/-- A list of digits without a zero at the end is that of its number. -/
theorem dg_vb (hB : 2 ≤ B) {xs : List Nat} (h : WB B xs) (hl : xs = [] ∨ xs.getLast? ≠ some 0) : dg B (vb B xs) = xs := by
  induction xs with
  | nil => simp [vb, dg_zero]
  | cons x xs ih =>
    rw [WB.cons] at h
    have hl' : xs = [] ∨ xs.getLast? ≠ some 0 := by
      cases xs with
      | nil => exact .inl rfl
      | cons y ys => right; rcases hl with hl | hl
                     · cases hl
                     · simpa [List.getLast?_cons_cons] using hl
    have ih := ih h.2 hl'
    have hn : x + B * vb B xs ≠ 0 := by
      rcases hl' with rfl | hl'
      · rcases hl with hl | hl
        · cases hl
        · simp at hl; simp [vb]; omega
      · intro h0
        have h1 : B * vb B xs = 0 := by omega
        have h2 : vb B xs = 0 := by rcases Nat.mul_eq_zero.mp h1 with h | h <;> omega
        rw [h2, dg_zero] at ih
        subst ih
        simp at hl'
        rcases hl with hl | hl
        · cases hl
        · simp at hl; simp [vb] at h0; omega
    rw [vb, dg_pos hB hn]
    have h1 : (x + B * vb B xs) % B = x := by rw [Nat.add_mul_mod_self_left]; exact Nat.mod_eq_of_lt h.1
    have h2 : (x + B * vb B xs) / B = vb B xs := by rw [Nat.add_mul_div_left _ _ (by omega), Nat.div_eq_of_lt h.1]; omega
    rw [h1, h2, ih]
theorem dg_last (hB : 2 ≤ B) (n : Nat) : dg B n = [] ∨ (dg B n).getLast? ≠ some 0 := by
  induction n using Nat.strongRecOn with
  | ind n ih =>
    by_cases h : n = 0
    · left; rw [h]; exact dg_zero
    · right
      rw [dg_pos hB h]
      rcases ih (n / B) (Nat.div_lt_self (by omega) (by omega)) with h1 | h1
      · rw [h1]; rw [dg_eq_nil hB] at h1
        have h2 : n < B := by
          rcases Nat.div_eq_zero_iff.mp h1 with h | h
          · omega
          · exact h
        simp [Nat.mod_eq_of_lt h2]; omega
      · cases h3 : dg B (n / B) with
        | nil => rw [h3] at h1
                 rw [dg_eq_nil hB] at h3
                 have h2 : n < B := by
                   rcases Nat.div_eq_zero_iff.mp h3 with h | h
                   · omega
                   · exact h
                 simp [Nat.mod_eq_of_lt h2]; omega
        | cons y ys => rw [h3] at h1; simpa [List.getLast?_cons_cons] using h1
theorem dg_length_le (hB : 2 ≤ B) {n k : Nat} (h : n < B ^ k) : (dg B n).length ≤ k := by
  induction k generalizing n with
  | zero => simp at h; subst h; simp [dg_zero]
  | succ k ih =>
    by_cases h0 : n = 0
    · subst h0; simp [dg_zero]
    · rw [dg_pos hB h0]
      have : n / B < B ^ k := by rw [Nat.div_lt_iff_lt_mul (by omega)]; rw [Nat.pow_succ] at h; exact h
      have := ih this
      simp; omega
theorem lt_pow_dg (hB : 2 ≤ B) (n : Nat) : n < B ^ (dg B n).length := by
  have := vb_lt (WB_dg hB n); rwa [vb_dg hB] at this
/-- The number of digits tells the size. -/
theorem pow_le_dg (hB : 2 ≤ B) {n : Nat} (h : n ≠ 0) : B ^ ((dg B n).length - 1) ≤ n := by
  rcases Nat.lt_or_ge n (B ^ ((dg B n).length - 1)) with h1 | h1
  · have h2 := dg_length_le hB h1
    have h3 : (dg B n).length ≠ 0 := fun h3 => h ((dg_eq_nil hB).mp (List.length_eq_zero_iff.mp h3))
    omega
  · exact h1
theorem dg_length_mono (hB : 2 ≤ B) {m n : Nat} (h : m ≤ n) : (dg B m).length ≤ (dg B n).length :=
  dg_length_le hB (Nat.lt_of_le_of_lt h (lt_pow_dg hB n))
theorem dg_small (hB : 2 ≤ B) {n : Nat} (h0 : n ≠ 0) (h : n < B) : dg B n = [n] := by
  rw [dg_pos hB h0, Nat.mod_eq_of_lt h, Nat.div_eq_of_lt h, dg_zero]
theorem dg_length_one (hB : 2 ≤ B) {n : Nat} (h : (dg B n).length = 1) : n ≠ 0 ∧ n < B ∧ dg B n = [n] := by
  have h0 : n ≠ 0 := by rintro rfl; simp [dg_zero] at h
  have h1 := lt_pow_dg hB n
  rw [h, Nat.pow_one] at h1
  exact ⟨h0, h1, dg_small hB h0 h1⟩
theorem dg_length_lt (hB : 2 ≤ B) {m n : Nat} (h : (dg B m).length < (dg B n).length) : m < n := by
  rcases Nat.lt_or_ge m n with h1 | h1
  · exact h1
  · have := dg_length_mono hB h1; omega
/-- Two numbers whose highest digits are alike from place k on: the place k - 1 decides. -/
theorem vb_cmp {xs ys : List Nat} (hx : WB B xs) (hy : WB B ys) (hl : xs.length = ys.length) (i : Nat) (hi : i < xs.length) (he : xs.drop (i + 1) = ys.drop (i + 1)) (hlt : xs.getD i 0 < ys.getD i 0) : vb B xs < vb B ys := by
  rw [vb_take_drop xs i (by omega), vb_take_drop ys i (by omega), drop_getD xs i hi, drop_getD ys i (by omega), he]
  simp only [vb]
  have h1 := vb_lt (hx.take i)
  rw [List.length_take, Nat.min_eq_left (by omega)] at h1
  have h2 : B ^ i * xs.getD i 0 + B ^ i ≤ B ^ i * ys.getD i 0 := by rw [← Nat.mul_succ]; exact Nat.mul_le_mul_left _ hlt
  rw [Nat.mul_add, Nat.mul_add]
  omega
end
end Go.Proofs.YtpgnlpjjpgdoiaaDoor
/- How Go's numbers lie in memory: slices of words, rows of the call's own, and what a call leaves as it was. -/
namespace Go.Proofs.YtpgnlpjjpgdoiaaDoor
open Go Go.RowKit
set_option linter.unusedVariables false
set_option linter.unusedSimpArgs false
/-- The base of the words: 2 to the power of 64. -/
def W64 : Nat := 18446744073709551616
theorem W64_two : 2 ≤ W64 := by decide
theorem W64_pos : 0 < W64 := by decide
/-- What was there is as it was. -/
def Ext (w w' : World) : Prop := Below w.heap.size w w'
namespace Ext
theorem refl (w : World) : Ext w w := Below.refl _ _
theorem trans {a b c : World} (h : Ext a b) (k : Ext b c) : Ext a c := Below.trans h (Below.mono k h.size)
theorem alloc {a w : World} (h : Ext a w) (o : Obj) : Ext a (w.alloc o) := Below.alloc h h.size o
theorem drew {a w : World} (h : Ext a w) : Ext a w.drew := Below.drew h
theorem drewN {a w : World} (h : Ext a w) (n : Nat) : Ext a (w.drewN n) := ⟨h.os, h.tape, h.output, h.size, h.block⟩
theorem setCell {a w : World} (h : Ext a w) {p : Addr} (hp : a.heap.size ≤ p.block) (u : Value) : Ext a (w.setCell p u) := Below.setCell h hp u
theorem of_eq {a b : World} (h : a = b) : Ext a b := by subst h; exact refl _
theorem below {a b : World} (h : Below a.heap.size a b) : Ext a b := h
theorem le {a b : World} (h : Ext a b) : a.heap.size ≤ b.heap.size := Below.size h
theorem blk {a b : World} (h : Ext a b) {g : Nat} {o : Obj} (hg : a.heap[g]? = some o) : b.heap[g]? = some o := by
  have hlt : g < a.heap.size := by
    rcases Nat.lt_or_ge g a.heap.size with h | h
    · exact h
    · simp [Array.getElem?_eq_none h] at hg
  rw [Below.block h g hlt]; exact hg
theorem grow {a w : World} (h : Ext a w) (k : Nat) (os : Array Obj) : Ext a (Go.Sort.grow (w.drewN k) os) := by
  refine h.trans ?_
  refine ⟨rfl, rfl, rfl, by simp [Go.Sort.grow], fun i hi => ?_⟩
  show (w.heap ++ os)[i]? = w.heap[i]?
  rw [Array.getElem?_append_left hi]
end Ext
theorem lt_of_cell {w : World} {b o : Nat} {v : Value} (h : w.cell? ⟨b, o, none⟩ = some v) : b < w.heap.size := by
  rcases Nat.lt_or_ge b w.heap.size with h1 | h1
  · exact h1
  · simp [World.cell?, Array.getElem?_eq_none h1] at h
theorem Ext.cell {w w' : World} (h : Ext w w') {b o : Nat} {v : Value} (hc : w.cell? ⟨b, o, none⟩ = some v) : w'.cell? ⟨b, o, none⟩ = some v :=
  (Below.cell (p := ⟨b, o, none⟩) h (lt_of_cell hc)).trans hc

/-- A slice's cells: the words xs. -/
def Rd (w : World) (A : Option Addr) (xs : List Nat) : Prop := ∀ i, i < xs.length → ∃ b o, A = some ⟨b, o, none⟩ ∧ w.cell? ⟨b, o + i, none⟩ = some (.int .u64 ((xs.getD i 0 : Nat) : Int))
theorem Rd.ext {w w' : World} {A : Option Addr} {xs : List Nat} (h : Rd w A xs) (he : Ext w w') : Rd w' A xs := fun i hi => by
  obtain ⟨b, o, hA, hc⟩ := h i hi
  exact ⟨b, o, hA, he.cell hc⟩
theorem Rd.nil (w : World) (A : Option Addr) : Rd w A [] := fun i hi => by simp at hi
/-- A slice of words. -/
def SlAt (w : World) (v : Value) (xs : List Nat) : Prop := ∃ A c, v = .slice A xs.length c ∧ xs.length ≤ c ∧ Rd w A xs
theorem SlAt.ext {w w' : World} {v : Value} {xs : List Nat} (h : SlAt w v xs) (he : Ext w w') : SlAt w' v xs := by
  obtain ⟨A, c, hv, hc, hr⟩ := h; exact ⟨A, c, hv, hc, hr.ext he⟩
theorem SlAt.nil (w : World) : SlAt w (.slice none 0 0) [] := ⟨none, 0, rfl, Nat.le_refl _, Rd.nil _ _⟩
/-- A natural number of the program. -/
def NatAt (w : World) (v : Value) (n : Nat) : Prop := SlAt w v (dg W64 n)
theorem NatAt.ext {w w' : World} {v : Value} {n : Nat} (h : NatAt w v n) (he : Ext w w') : NatAt w' v n := SlAt.ext h he
theorem NatAt.zero (w : World) : NatAt w (.slice none 0 0) 0 := by unfold NatAt; rw [dg_zero]; exact SlAt.nil w
/-- The cells of a row of words. -/
def rowW (xs : List Nat) : Array Value := (xs.map fun (x : Nat) => Value.int .u64 (x : Int)).toArray
/-- A row of the call's own: block g holds the words xs. -/
def Blk (w : World) (g : Nat) (xs : List Nat) : Prop := w.heap[g]? = some (.cells (rowW xs) 76 (0, 0))
theorem Blk.lt {w : World} {g : Nat} {xs : List Nat} (h : Blk w g xs) : g < w.heap.size := by
  rcases Nat.lt_or_ge g w.heap.size with h1 | h1
  · exact h1
  · unfold Blk at h; simp [Array.getElem?_eq_none h1] at h
theorem Blk.cell {w : World} {g : Nat} {xs : List Nat} (h : Blk w g xs) {i : Nat} (hi : i < xs.length) : w.cell? ⟨g, i, none⟩ = some (.int .u64 ((xs.getD i 0 : Nat) : Int)) := by
  unfold Blk rowW at h
  simp [World.cell?, h, hi, List.getD_eq_getElem?_getD]
theorem Blk.frozen {w : World} {g : Nat} {xs : List Nat} (h : Blk w g xs) (i : Nat) : w.frozen? ⟨g, i, none⟩ = false := by
  unfold Blk at h
  simp [World.frozen?, h]
theorem Blk.set {w : World} {g : Nat} {xs : List Nat} (h : Blk w g xs) (i x : Nat) : Blk (w.setCell ⟨g, i, none⟩ (.int .u64 (x : Int))) g (xs.set i x) := by
  unfold Blk rowW at *
  simp only [World.setCell, Array.getElem?_modify, h]
  simp [List.map_set]
theorem Blk.ext {w w' : World} {g : Nat} {xs : List Nat} (h : Blk w g xs) (he : Ext w w') : Blk w' g xs := he.blk h
theorem Blk.rd {w : World} {g : Nat} {xs : List Nat} (h : Blk w g xs) (o : Nat) (ys : List Nat) (hy : ∀ i, i < ys.length → o + i < xs.length ∧ ys.getD i 0 = xs.getD (o + i) 0) : Rd w (some ⟨g, o, none⟩) ys := fun i hi => by
  obtain ⟨h1, h2⟩ := hy i hi
  exact ⟨g, o, rfl, by rw [h2]; exact h.cell h1⟩
theorem Blk.new (w : World) (xs : List Nat) : Blk (w.alloc (.cells (rowW xs) 76)) w.heap.size xs := by
  unfold Blk
  show (w.heap.push _)[w.heap.size]? = _
  simp
theorem Blk.slAt {w : World} {g : Nat} {xs : List Nat} (h : Blk w g xs) {n c : Nat} (hn : n = xs.length) (hc : xs.length ≤ c) : SlAt w (.slice (some ⟨g, 0, none⟩) n c) xs :=
  ⟨some ⟨g, 0, none⟩, c, by rw [hn], hc, h.rd 0 xs (fun i hi => ⟨by omega, by simp⟩)⟩
/-- Cells that were made: zeros. -/
theorem made_zeros (n : Nat) : madeCells (Value.int .u64 0).cells n = rowW (List.replicate n 0) := by
  unfold rowW
  apply Array.ext
  · simp [size_madeCells]
  · intro i h1 h2
    simp [madeCells, Value.cells, Nat.mod_one]
theorem infoW : (Tryd.prog.info? 76).map (fun i => (i.zero, i.size, i.bytes)) = some (some (.int .u64 0), 1, 8) := by kernel_rfl
/-- make(natural, n, c). -/
theorem makeW (n c : Nat) (hn : n ≤ c) (hc : c ≤ 35184372088832) (w : World) :
    (Instr.makeSlice 72 (.int .i64 (n : Int)) (.int .i64 (c : Int))).run Tryd.prog w = .ok (.slice (some ⟨w.heap.size, 0, none⟩) n c) (w.alloc (.cells (rowW (List.replicate c 0)) 76)) := by
  obtain ⟨i0, hi, hz0, hz1, hz2⟩ := info_parts infoW
  rw [run_make w _ _ i0 _ Tryd.underlying72 hi hz0 .i64 .i64 n c (by omega) (by omega) (by rw [hz2]; omega) (by omega), hz1]
  simp only [Int.toNat_natCast, Nat.mul_one, made_zeros]
end Go.Proofs.YtpgnlpjjpgdoiaaDoor
/- The contracts of trim, word and compare: numbers of any size in words. -/
namespace Go.Proofs.YtpgnlpjjpgdoiaaDoor
open Go Go.RowKit
set_option linter.unusedVariables false
set_option linter.unusedSimpArgs false

theorem vb_take_zero {B : Nat} (xs : List Nat) (k : Nat) (h : xs.getD k 0 = 0) (hk : k < xs.length) : vb B (xs.take k) = vb B (xs.take (k + 1)) := by
  rw [vb_take_succ xs k hk, h]; simp

def lenOf : Value → Nat | .slice _ n _ => n | _ => 0
theorem getD_last {xs : List Nat} {k : Nat} (h : k + 1 ≤ xs.length) (h0 : xs.getD k 0 ≠ 0) : (xs.take (k + 1)).getLast? ≠ some 0 := by
  rw [take_succ_getD xs k (by omega)]; simpa using h0
theorem Rd.take {w : World} {A : Option Addr} {xs : List Nat} (h : Rd w A xs) (k : Nat) (hk : k ≤ xs.length) : Rd w A (xs.take k) := fun i hi => by
  rw [List.length_take] at hi
  obtain ⟨b, o, hA, hc⟩ := h i (by omega)
  refine ⟨b, o, hA, ?_⟩
  rw [hc]
  simp [List.getD_eq_getElem?_getD, List.getElem?_take]
  rw [if_pos (by omega)]
theorem NatAt.of_take {w : World} {A : Option Addr} {xs : List Nat} {c k : Nat} (hr : Rd w A xs) (hw : WB W64 xs) (hc : xs.length ≤ c) (hk : k ≤ xs.length) (he : vb W64 (xs.take k) = vb W64 xs) (hl : k = 0 ∨ ∃ m, k = m + 1 ∧ xs.getD m 0 ≠ 0) :
    NatAt w (.slice A k c) (vb W64 xs) := by
  have h1 : dg W64 (vb W64 xs) = xs.take k := by
    rw [← he]
    refine dg_vb W64_two (hw.take k) ?_
    rcases hl with rfl | ⟨m, rfl, hl⟩
    · left; simp
    · right
      exact getD_last hk hl
  unfold NatAt
  rw [h1]
  exact ⟨A, c, by rw [List.length_take, Nat.min_eq_left hk], by rw [List.length_take]; omega, hr.take k hk⟩

set_option maxHeartbeats 1000000 in
theorem trim_calls (v : Value) (xs : List Nat) (w : World) (hv : SlAt w v xs) (hw : WB W64 xs) (hlen : xs.length ≤ 9223372036854775807) :
    Calls Tryd.prog 66 #[v] w fun e w' => ∃ r, e = .returned r ∧ NatAt w' r (vb W64 xs) ∧ Ext w w' := by
  obtain ⟨A, c, rfl, hc, hr⟩ := hv
  have HR := Lib.hid hr; clear hr
  have HW := Lib.hid hw; clear hw
  go_enter Tryd.func66, Tryd.ntmps66
  go_wp2
  go_loop [0] (fun s => ∃ k : Nat, k ≤ xs.length ∧ s = .slice A k c ∧ Hid (vb W64 (xs.take k) = vb W64 xs)) (fun s => lenOf s)
  case atStart => exact ⟨xs.length, Nat.le_refl _, rfl, by unfold Hid; rw [List.take_length]⟩
  case round =>
    obtain ⟨k, hk, rfl, HE⟩ := hrel
    by_cases h0 : k = 0
    · subst h0
      go_wp2
      go_ret
      exact ⟨_, rfl, NatAt.of_take HR.out HW.out hc hk HE.out (.inl rfl), Ext.refl _⟩
    · obtain ⟨m, rfl⟩ : ∃ m, k = m + 1 := ⟨k - 1, by omega⟩
      clear h0
      obtain ⟨b, o, rfl, hcell⟩ := HR.out m (by omega)
      by_cases hz : xs.getD m 0 = 0
      · have HZ := Lib.hid hz
        rw [hz] at hcell
        clear hz
        go_wp2
        go_round
        case rel => exact ⟨m, by omega, rfl, by unfold Hid; rw [vb_take_zero xs m HZ.out (by omega)]; exact HE.out⟩
        case measure => simp [lenOf]
      · obtain ⟨z, hzz⟩ : ∃ z : Nat, z = xs.getD m 0 := ⟨_, rfl⟩
        rw [← hzz] at hcell
        have HZ := Lib.hid hz
        have hz1 : ((z : Int) == 0) = false := by
          rw [beq_eq_false_iff_ne]; rw [hzz]; omega
        have HZZ := Lib.hid hzz
        clear hz hzz
        go_wp2
        go_ret
        exact ⟨_, rfl, NatAt.of_take HR.out HW.out hc hk HE.out (.inr ⟨m, rfl, HZ.out⟩), Ext.refl _⟩

theorem SlAt.one {w : World} {b : Nat} {x : Nat} (h : w.cell? ⟨b, 0, none⟩ = some (.int .u64 (x : Int))) : SlAt w (.slice (some ⟨b, 0, none⟩) 1 1) [x] :=
  ⟨some ⟨b, 0, none⟩, 1, rfl, Nat.le_refl _, fun i hi => by
    have : i = 0 := by simpa using hi
    subst this
    exact ⟨b, 0, rfl, by simpa using h⟩⟩
theorem NatAt.one {w : World} {b : Nat} {x : Nat} (h : w.cell? ⟨b, 0, none⟩ = some (.int .u64 (x : Int))) (h0 : x ≠ 0) (h1 : x < W64) : NatAt w (.slice (some ⟨b, 0, none⟩) 1 1) x := by
  unfold NatAt; rw [dg_small W64_two h0 h1]; exact SlAt.one h
set_option maxHeartbeats 1000000 in
theorem word_calls (x : Nat) (w : World) (hx : x < W64) :
    Calls Tryd.prog 53 #[.int .u64 (x : Int)] w fun e w' => ∃ r, e = .returned r ∧ NatAt w' r x ∧ Ext w w' := by
  have HX := Lib.hid hx
  clear hx
  by_cases h0 : x = 0
  · subst h0
    go_enter Tryd.func53, Tryd.ntmps53
    go_wp2
    go_ret
    exact ⟨_, rfl, NatAt.zero _, Ext.refl _⟩
  · have h1 : ((x : Int) == 0) = false := by rw [beq_eq_false_iff_ne]; omega
    have H0 := Lib.hid h0
    clear h0
    go_enter Tryd.func53, Tryd.ntmps53
    go_wp2
    go_ret
    exact ⟨_, rfl, NatAt.one (by simp) H0.out HX.out, (Ext.refl _).alloc _⟩

def cmpN (a b : Nat) : Int := if a < b then -1 else if a = b then 0 else 1
theorem cmpN_lt {a b : Nat} (h : a < b) : cmpN a b = -1 := by simp [cmpN, h]
theorem cmpN_eq {a b : Nat} (h : a = b) : cmpN a b = 0 := by simp [cmpN, h]
theorem cmpN_gt {a b : Nat} (h : b < a) : cmpN a b = 1 := by unfold cmpN; rw [if_neg (by omega), if_neg (by omega)]
theorem drop_ext {xs ys : List Nat} {k : Nat} (hk : k < xs.length) (hl : xs.length = ys.length) (he : xs.drop (k + 1) = ys.drop (k + 1)) (h : xs.getD k 0 = ys.getD k 0) : xs.drop k = ys.drop k := by
  rw [drop_getD xs k hk, drop_getD ys k (by omega), he, h]
theorem cmp_at {a b k : Nat} (hk : k < (dg W64 a).length) (hl : (dg W64 a).length = (dg W64 b).length) (he : (dg W64 a).drop (k + 1) = (dg W64 b).drop (k + 1)) (h : (dg W64 a).getD k 0 < (dg W64 b).getD k 0) : a < b := by
  have := vb_cmp (WB_dg W64_two a) (WB_dg W64_two b) hl k hk he h
  rwa [vb_dg W64_two, vb_dg W64_two] at this
theorem ret_i64 {a b : Int} (h : a = b) : Ending.returned (.int .i64 a) = .returned (.int .i64 b) := by rw [h]
set_option maxHeartbeats 2000000 in
theorem compare_calls (va vb' : Value) (a b : Nat) (w : World) (ha : NatAt w va a) (hb : NatAt w vb' b) (hla : (dg W64 a).length ≤ 9223372036854775807) :
    Calls Tryd.prog 42 #[va, vb'] w fun e w' => e = .returned (.int .i64 (cmpN a b)) ∧ ∃ n, w' = w.drewN n := by
  obtain ⟨A, c, rfl, hc, hra⟩ := ha
  obtain ⟨A', c', rfl, hc', hrb⟩ := hb
  have HA := Lib.hid hra; clear hra
  have HB := Lib.hid hrb; clear hrb
  obtain ⟨xs, hxs⟩ : ∃ xs, xs = dg W64 a := ⟨_, rfl⟩
  obtain ⟨ys, hys⟩ : ∃ ys, ys = dg W64 b := ⟨_, rfl⟩
  rw [← hxs] at hla HA hc ⊢
  rw [← hys] at HB hc' ⊢
  have HX := Lib.hid hxs; clear hxs
  have HY := Lib.hid hys; clear hys
  by_cases hl : xs.length = ys.length
  · have h1 : ((xs.length : Int) != ys.length) = false := by rw [bne_eq_false_iff_eq]; omega
    have HL := Lib.hid hl
    have hl1 : xs.length ≤ ys.length := by omega
    have hl2 : ys.length ≤ xs.length := by omega
    clear hl
    go_enter Tryd.func42, Tryd.ntmps42
    go_wp2
    go_loopw [5] (fun s wr => ∃ k : Nat, k ≤ xs.length ∧ s = .int .i64 ((k : Int) - 1) ∧ Hid (xs.drop k = ys.drop k) ∧ ∃ n, wr = w.drewN n) (fun s _ => (intOf s + 1).toNat)
    case atStart => exact ⟨xs.length, Nat.le_refl _, rfl, by unfold Hid; rw [List.drop_length, HL.out, List.drop_length], 0, rfl⟩
    case round =>
      obtain ⟨k, hk, rfl, HE, n, rfl⟩ := hrel
      by_cases h0 : k = 0
      · subst h0
        go_wp2
        go_ret
        refine ⟨ret_i64 (cmpN_eq ?_).symm, n, rfl⟩
        have := HE.out
        simp only [List.drop_zero] at this
        rw [← vb_dg W64_two a, ← vb_dg W64_two b, ← HX.out, ← HY.out, this]
      · obtain ⟨m, rfl⟩ : ∃ m, k = m + 1 := ⟨k - 1, by omega⟩
        clear h0
        obtain ⟨b1, o1, rfl, hc1⟩ := HA.out m (by omega)
        obtain ⟨b2, o2, rfl, hc2⟩ := HB.out m (by omega)
        obtain ⟨x, hx⟩ : ∃ x : Nat, x = xs.getD m 0 := ⟨_, rfl⟩
        obtain ⟨y, hy⟩ : ∃ y : Nat, y = ys.getD m 0 := ⟨_, rfl⟩
        rw [← hx] at hc1
        rw [← hy] at hc2
        have HXX := Lib.hid hx; clear hx
        have HYY := Lib.hid hy; clear hy
        have em : (((m + 1 : Nat) : Int) - 1) = (m : Int) := by omega
        rw [em]
        clear em
        have i0 : (0 : Int) ≤ (m : Int) := by omega
        have i1 : (m : Int) < (xs.length : Int) := by omega
        have i2 : (m : Int) < (ys.length : Int) := by omega
        by_cases hxy : x = y
        · have t1 : ((x : Int) != (y : Int)) = false := by rw [bne_eq_false_iff_eq]; omega
          have HXY := Lib.hid hxy
          clear hxy
          go_wp2
          go_quiet (fail)
          go_wp2
          go_roundw
          case rel =>
            refine ⟨m, by omega, by go_num, ?_, _, rfl⟩
            exact drop_ext (by omega) HL.out HE.out (by rw [← HXX.out, ← HYY.out, HXY.out])
          case measure => simp [intOf]
        · have t1 : ((x : Int) != (y : Int)) = true := by rw [bne_iff_ne]; omega
          have HXY := Lib.hid hxy
          clear hxy
          by_cases hlt : x < y
          · have t2 : (x : Int) < (y : Int) := by omega
            go_wp2
            go_quiet (fail)
            go_wp2
            go_quiet (fail)
            go_wp2
            go_ret
            refine ⟨ret_i64 (cmpN_lt ?_).symm, _, by rw [World.drewN_drewN, World.drewN_drewN]⟩
            refine cmp_at (k := m) ?_ ?_ ?_ ?_
            · rw [← HX.out]; omega
            · rw [← HX.out, ← HY.out]; exact HL.out
            · rw [← HX.out, ← HY.out]; exact HE.out
            · rw [← HX.out, ← HY.out, ← HXX.out, ← HYY.out]; exact hlt
          · have t2 : ¬ (x : Int) < (y : Int) := by omega
            have t3 : y < x := by have := HXY.out; omega
            go_wp2
            go_quiet (fail)
            go_wp2
            go_quiet (fail)
            go_wp2
            go_ret
            refine ⟨ret_i64 (cmpN_gt ?_).symm, _, by rw [World.drewN_drewN, World.drewN_drewN]⟩
            refine cmp_at (k := m) ?_ ?_ ?_ ?_
            · rw [← HY.out]; omega
            · rw [← HX.out, ← HY.out]; exact HL.out.symm
            · rw [← HX.out, ← HY.out]; exact HE.out.symm
            · rw [← HX.out, ← HY.out, ← HXX.out, ← HYY.out]; exact t3
  · have h1 : ((xs.length : Int) != ys.length) = true := by rw [bne_iff_ne]; omega
    have HL := Lib.hid hl
    by_cases hlt : xs.length < ys.length
    · have h2 : decide (xs.length < ys.length) = true := by simpa using hlt
      clear hl
      go_enter Tryd.func42, Tryd.ntmps42
      go_wp2
      go_ret
      exact ⟨ret_i64 (cmpN_lt (dg_length_lt W64_two (by rw [← HX.out, ← HY.out]; exact hlt))).symm, 0, rfl⟩
    · have h2 : decide (xs.length < ys.length) = false := by simpa using hlt
      have h3 : ys.length < xs.length := by omega
      clear hl hlt
      go_enter Tryd.func42, Tryd.ntmps42
      go_wp2
      go_ret
      exact ⟨ret_i64 (cmpN_gt (dg_length_lt W64_two (by rw [← HX.out, ← HY.out]; exact h3))).symm, 0, rfl⟩
end Go.Proofs.YtpgnlpjjpgdoiaaDoor
/- math/bits at this program: Add64, Sub64, Mul64 in words without great numerals. -/
namespace Go.Proofs.YtpgnlpjjpgdoiaaDoor
open Go Go.RowKit
set_option linter.unusedVariables false
set_option linter.unusedSimpArgs false
def addS (x y c : Nat) : Nat := (x + y + c) % W64
def addC (x y c : Nat) : Nat := (x + y + c) / W64
def subD (x y b : Nat) : Nat := (x + W64 - y - b) % W64
def subB (x y b : Nat) : Nat := if x < y + b then 1 else 0
def mulH (x y : Nat) : Nat := x * y / W64
def mulL (x y : Nat) : Nat := x * y % W64
theorem add_eq (x y c : Nat) : addS x y c + W64 * addC x y c = x + y + c := Nat.mod_add_div _ _
theorem addS_lt (x y c : Nat) : addS x y c < W64 := Nat.mod_lt _ W64_pos
theorem addC_le {x y c : Nat} (hx : x < W64) (hy : y < W64) (hc : c ≤ 1) : addC x y c ≤ 1 := by
  unfold addC; rw [Nat.div_le_iff_le_mul W64_pos]; omega
theorem subD_lt (x y b : Nat) : subD x y b < W64 := Nat.mod_lt _ W64_pos
theorem subB_le (x y b : Nat) : subB x y b ≤ 1 := by unfold subB; split <;> omega
theorem sub_eq {x y b : Nat} (hx : x < W64) (hy : y < W64) (hb : b ≤ 1) : subD x y b + y + b = x + W64 * subB x y b := by
  unfold subD subB
  unfold W64 at *
  split <;> omega
theorem mul_eq (x y : Nat) : mulL x y + W64 * mulH x y = x * y := Nat.mod_add_div _ _
theorem mulL_lt (x y : Nat) : mulL x y < W64 := Nat.mod_lt _ W64_pos
theorem mulH_lt {x y : Nat} (hx : x < W64) (hy : y < W64) : mulH x y < W64 := by
  unfold mulH; rw [Nat.div_lt_iff_lt_mul W64_pos]; exact Nat.mul_lt_mul'' hx hy
theorem add64_run (x y c : Nat) (hc : c ≤ 1) (w : World) :
    (callFunc 65 #[.int .u64 (x : Int), .int .u64 (y : Int), .int .u64 (c : Int)]).run Tryd.prog w = .ok (.value (.tuple #[.int .u64 ((addS x y c : Nat) : Int), .int .u64 ((addC x y c : Nat) : Int)])) w := by
  rw [run_callFunc_extern Tryd.func65 (by kernel_rfl) (by kernel_rfl) (by kernel_rfl) (e := add64Entry) (by kernel_rfl), run_add64 x y c (by omega) (by omega) (by omega) (by omega)]
  simp only [Result.andThen, addS, addC, W64]
  congr 5 <;> omega
theorem sub64_run (x y b : Nat) (hb : b ≤ 1) (w : World) :
    (callFunc 68 #[.int .u64 (x : Int), .int .u64 (y : Int), .int .u64 (b : Int)]).run Tryd.prog w = .ok (.value (.tuple #[.int .u64 ((subD x y b : Nat) : Int), .int .u64 ((subB x y b : Nat) : Int)])) w := by
  rw [run_callFunc_extern Tryd.func68 (by kernel_rfl) (by kernel_rfl) (by kernel_rfl) (e := sub64Entry) (by kernel_rfl), run_sub64 x y b hb]
  rfl
theorem mul64_calls (x y : Nat) (hx : x < W64) (hy : y < W64) (w : World) :
    Calls Tryd.prog 64 #[.int .u64 (x : Int), .int .u64 (y : Int)] w fun e w' => e = .returned (.tuple #[.int .u64 ((mulH x y : Nat) : Int), .int .u64 ((mulL x y : Nat) : Int)]) ∧ w = w' :=
  (Tryd.bits_Mul64 x y hx hy w).mono fun e w' h => ⟨h.1, h.2.symm⟩
end Go.Proofs.YtpgnlpjjpgdoiaaDoor
/- The contracts of less, product and sum. -/
namespace Go.Proofs.YtpgnlpjjpgdoiaaDoor
open Go Go.RowKit
set_option linter.unusedVariables false
set_option linter.unusedSimpArgs false

/-- One place of a subtraction. -/
theorem less_step {L xs ys : List Nat} {k bw y : Nat} (hk : k < xs.length) (hL : L.length = xs.length) (hx : WB W64 xs) (hy : y < W64) (hb : bw ≤ 1)
    (hyv : vb W64 (ys.take (k + 1)) = vb W64 (ys.take k) + W64 ^ k * y)
    (h : vb W64 (L.take k) + vb W64 (ys.take k) = vb W64 (xs.take k) + bw * W64 ^ k) :
    vb W64 ((L.set k (subD (xs.getD k 0) y bw)).take (k + 1)) + vb W64 (ys.take (k + 1)) = vb W64 (xs.take (k + 1)) + subB (xs.getD k 0) y bw * W64 ^ (k + 1) := by
  have h1 := sub_eq (hx.getD W64_pos k) hy hb
  rw [take_set_succ _ _ _ (by omega), vb_snoc, List.length_take, Nat.min_eq_left (by omega), hyv, vb_take_succ xs k hk, Nat.pow_succ]
  generalize vb W64 (L.take k) = p at *
  generalize vb W64 (ys.take k) = q at *
  generalize vb W64 (xs.take k) = r at *
  generalize xs.getD k 0 = x at *
  generalize subD x y bw = d at *
  generalize subB x y bw = e at *
  generalize W64 ^ k = P at *
  have h2 : P * (d + y + bw) = P * (x + W64 * e) := by rw [h1]
  rw [Nat.mul_add, Nat.mul_add, Nat.mul_add] at h2
  rw [show e * (P * W64) = P * (W64 * e) from by rw [Nat.mul_comm e, Nat.mul_assoc], Nat.mul_comm bw P] at *
  omega
theorem take_over {ys : List Nat} {k : Nat} (h : ys.length ≤ k) : vb W64 (ys.take (k + 1)) = vb W64 (ys.take k) + W64 ^ k * 0 := by
  rw [List.take_of_length_le (by omega), List.take_of_length_le h]; simp
theorem less_end {L : List Nat} {a b bw : Nat} (hL : WB W64 L) (h : vb W64 L + b = a + bw * W64 ^ L.length) (hb : bw ≤ 1) (hab : b ≤ a) : vb W64 L = a - b := by
  have h1 := vb_lt hL
  have : bw = 0 ∨ bw = 1 := by omega
  rcases this with rfl | rfl <;> omega

set_option maxHeartbeats 2000000 in
theorem less_calls (va vb' : Value) (a b : Nat) (w : World) (ha : NatAt w va a) (hb : NatAt w vb' b) (hab : b ≤ a) (hla : (dg W64 a).length ≤ 35184372088832) :
    Calls Tryd.prog 56 #[va, vb'] w fun e w' => ∃ r, e = .returned r ∧ NatAt w' r (a - b) ∧ Ext w w' := by
  obtain ⟨A, c, rfl, hc, hra⟩ := ha
  obtain ⟨A', c', rfl, hc', hrb⟩ := hb
  have HA := Lib.hid hra; clear hra
  have HB := Lib.hid hrb; clear hrb
  have hlb : (dg W64 b).length ≤ (dg W64 a).length := dg_length_mono W64_two hab
  have HWX := Lib.hid (WB_dg W64_two a)
  have HWY := Lib.hid (WB_dg W64_two b)
  have HVX := Lib.hid (vb_dg W64_two a)
  have HVY := Lib.hid (vb_dg W64_two b)
  have HAB := Lib.hid hab; clear hab
  generalize dg W64 a = xs at *
  generalize dg W64 b = ys at *
  have hmk := makeW xs.length xs.length (Nat.le_refl _) hla
  go_enter Tryd.func56, Tryd.ntmps56
  go_wp2
  obtain ⟨w1, hw1⟩ : ∃ w1, w1 = w.alloc (.cells (rowW (List.replicate xs.length 0)) 76) := ⟨_, rfl⟩
  obtain ⟨g, hg⟩ : ∃ g, g = w.heap.size := ⟨_, rfl⟩
  have HN : Hid (Blk w1 g (List.replicate xs.length 0)) := Lib.hid (by rw [hw1, hg]; exact Blk.new _ _)
  have HE : Hid (Ext w w1) := Lib.hid (by rw [hw1]; exact (Ext.refl _).alloc _)
  have HG : Hid (g = w.heap.size) := Lib.hid hg
  rw [← hw1, ← hg]
  clear hw1 hg hmk
  go_loopw [6, 14] (fun s i wr => ∃ (k : Nat) (bw : Nat) (L : List Nat), k ≤ xs.length ∧ bw ≤ 1 ∧ i = .int .i64 (k : Int) ∧ s = .int .u64 (bw : Int) ∧ Hid (Blk wr g L) ∧ L.length = xs.length ∧ Hid (WB W64 L) ∧ Hid (Ext w wr) ∧ Hid (vb W64 (L.take k) + vb W64 (ys.take k) = vb W64 (xs.take k) + bw * W64 ^ k)) (fun _ i _ => xs.length - (intOf i).toNat)
  case atStart => exact ⟨0, 0, _, by omega, by omega, rfl, rfl, HN, by simp, Lib.hid (WB.zeros W64_pos _), HE, Lib.hid (by simp [vb])⟩
  case round =>
    clear HN HE
    obtain ⟨k, bw, L, hk, hbw, rfl, rfl, HL, hLl, HW, HE, HV⟩ := hrel
    by_cases hlt : k < xs.length
    · obtain ⟨b1, o1, rfl, hc1⟩ := HA.out k hlt
      have hcx := HE.out.cell hc1
      clear hc1
      have hx : xs.getD k 0 < W64 := HWX.out.getD W64_pos k
      obtain ⟨x, hxx⟩ : ∃ x : Nat, x = xs.getD k 0 := ⟨_, rfl⟩
      rw [← hxx] at hcx
      have HXX := Lib.hid hxx; clear hxx
      clear hx
      have hL0 := HL.out.cell (i := k) (by omega)
      have hLf := HL.out.frozen k
      generalize L.getD k 0 = l0 at hL0
      by_cases hy : k < ys.length
      · obtain ⟨b2, o2, rfl, hc2⟩ := HB.out k hy
        have hcy := HE.out.cell hc2
        clear hc2
        obtain ⟨y, hyy⟩ : ∃ y : Nat, y = ys.getD k 0 := ⟨_, rfl⟩
        rw [← hyy] at hcy
        have HYY := Lib.hid hyy; clear hyy
        have hs := sub64_run x y bw hbw
        go_wp2
        clear hs hL0 hLf hcx hcy
        go_roundw
        case rel =>
          refine ⟨k + 1, subB x y bw, L.set k (subD x y bw), by omega, subB_le _ _ _, by go_num, rfl, HL.out.set _ _, by simpa using hLl, HW.out.set _ (subD_lt _ _ _), HE.out.setCell (by rw [HG.out]; exact Nat.le_refl _) _, ?_⟩
          have hv := vb_take_succ (B := W64) ys k hy
          rw [← HYY.out] at hv
          have := less_step hlt hLl HWX.out (by rw [HYY.out]; exact HWY.out.getD W64_pos k) hbw hv HV.out
          rw [← HXX.out] at this
          exact this
        case measure => simp [intOf]; omega
      · have hs := sub64_run x 0 bw hbw
        simp only [Int.natCast_zero] at hs
        go_wp2
        clear hs hL0 hLf hcx
        go_roundw
        case rel =>
          refine ⟨k + 1, subB x 0 bw, L.set k (subD x 0 bw), by omega, subB_le _ _ _, by go_num, rfl, HL.out.set _ _, by simpa using hLl, HW.out.set _ (subD_lt _ _ _), HE.out.setCell (by rw [HG.out]; exact Nat.le_refl _) _, ?_⟩
          have := less_step hlt hLl HWX.out W64_pos hbw (take_over (ys := ys) (by omega)) HV.out
          rw [← HXX.out] at this
          exact this
        case measure => simp [intOf]; omega
    · have hk2 : k = xs.length := by omega
      have HK := Lib.hid hk2
      clear hk2
      go_wp2_with (go_at_call 66; refine (trim_calls _ L _ (HL.out.slAt hLl.symm (by omega)) HW.out (by omega)).mono ?_; rintro e w2 ⟨r, rfl, hr, he⟩)
      have HR := Lib.hid hr; clear hr
      have HE2 := Lib.hid he; clear he
      go_wp2
      go_ret
      refine ⟨r, rfl, ?_, HE.out.trans HE2.out⟩
      have h1 := HV.out
      rw [HK.out, ← hLl, List.take_length, hLl, List.take_length, List.take_of_length_le hlb, HVX.out, HVY.out] at h1
      have h2 := HR.out
      rw [less_end HW.out (by rw [hLl]; exact h1) hbw HAB.out] at h2
      exact h2

/-- One place of a product. -/
theorem prod_step {l x y c : Nat} (hl : l < W64) (hx : x < W64) (hy : y < W64) (hc : c < W64) :
    IntKind.u64.wrap (IntKind.u64.wrap (((mulH x y : Nat) : Int) + ((addC (mulL x y) l 0 : Nat) : Int)) + ((addC (addS (mulL x y) l 0) c 0 : Nat) : Int)) = ((mulH x y + addC (mulL x y) l 0 + addC (addS (mulL x y) l 0) c 0 : Nat) : Int) ∧
    mulH x y + addC (mulL x y) l 0 + addC (addS (mulL x y) l 0) c 0 < W64 ∧
    addS (addS (mulL x y) l 0) c 0 + W64 * (mulH x y + addC (mulL x y) l 0 + addC (addS (mulL x y) l 0) c 0) = x * y + l + c := by
  have e1 := mul_eq x y
  have e2 := add_eq (mulL x y) l 0
  have e3 := add_eq (addS (mulL x y) l 0) c 0
  have e4 : x * y + l + c < W64 * W64 := by
    have h1 : x * y ≤ (W64 - 1) * (W64 - 1) := Nat.mul_le_mul (by omega) (by omega)
    unfold W64 at *
    omega
  have e5 : addS (addS (mulL x y) l 0) c 0 + W64 * (mulH x y + addC (mulL x y) l 0 + addC (addS (mulL x y) l 0) c 0) = x * y + l + c := by
    rw [Nat.mul_add, Nat.mul_add]; omega
  have e6 : mulH x y + addC (mulL x y) l 0 + addC (addS (mulL x y) l 0) c 0 < W64 := by
    rcases Nat.lt_or_ge (mulH x y + addC (mulL x y) l 0 + addC (addS (mulL x y) l 0) c 0) W64 with h | h
    · exact h
    · have := Nat.mul_le_mul_left W64 h; omega
  have wr : ∀ n : Nat, n < W64 → IntKind.u64.wrap (n : Int) = (n : Int) := by
    intro n hn
    unfold W64 at hn
    simp only [IntKind.wrap_u64]
    omega
  refine ⟨?_, e6, e5⟩
  rw [← Int.natCast_add, wr _ (by omega), ← Int.natCast_add]; exact wr _ e6
theorem prod_inv {L : List Nat} {j p c n c' P Q : Nat} (hj : j < L.length) (h : vb W64 L + c * W64 ^ j = P + Q) (hn : n + W64 * c' = p + L.getD j 0 + c) : vb W64 (L.set j n) + c' * W64 ^ (j + 1) = P + (Q + p * W64 ^ j) := by
  have h1 := vb_set (B := W64) L j n hj
  rw [Nat.pow_succ]
  generalize W64 ^ j = X at *
  generalize L.getD j 0 = l at *
  have h2 : X * (n + W64 * c') = X * (p + l + c) := by rw [hn]
  rw [Nat.mul_add, Nat.mul_add, Nat.mul_add] at h2
  rw [show c' * (X * W64) = X * (W64 * c') from by rw [Nat.mul_comm c', Nat.mul_assoc], Nat.mul_comm p X]
  rw [Nat.mul_comm c X] at h
  omega
theorem mul_len {xs ys : List Nat} (hx : xs ≠ []) : 0 < xs.length := List.length_pos_iff.mpr hx

set_option maxHeartbeats 4000000 in
theorem product_calls (va vb' : Value) (a b : Nat) (w : World) (ha : NatAt w va a) (hb : NatAt w vb' b) (hl : (dg W64 a).length + (dg W64 b).length ≤ 35184372088832) :
    Calls Tryd.prog 46 #[va, vb'] w fun e w' => ∃ r, e = .returned r ∧ NatAt w' r (a * b) ∧ Ext w w' := by
  obtain ⟨A, c, rfl, hc, hra⟩ := ha
  obtain ⟨A', c', rfl, hc', hrb⟩ := hb
  have HA := Lib.hid hra; clear hra
  have HB := Lib.hid hrb; clear hrb
  have HWX := Lib.hid (WB_dg W64_two a)
  have HWY := Lib.hid (WB_dg W64_two b)
  have HVX := Lib.hid (vb_dg W64_two a)
  have HVY := Lib.hid (vb_dg W64_two b)
  generalize dg W64 a = xs at *
  generalize dg W64 b = ys at *
  by_cases h0 : xs.length = 0
  · have hz : xs = [] := List.length_eq_zero_iff.mp h0
    have HZ : Hid (a * b = 0) := Lib.hid (by rw [← HVX.out, hz]; simp [vb])
    have t0 : ((xs.length : Int) == 0) = true := by rw [beq_iff_eq]; omega
    clear hz h0
    go_enter Tryd.func46, Tryd.ntmps46
    go_wp2
    go_ret
    exact ⟨_, rfl, by rw [HZ.out]; exact NatAt.zero _, Ext.refl _⟩
  have t0 : ((xs.length : Int) == 0) = false := by rw [beq_eq_false_iff_ne]; omega
  by_cases h1 : ys.length = 0
  · have hz : ys = [] := List.length_eq_zero_iff.mp h1
    have HZ : Hid (a * b = 0) := Lib.hid (by rw [← HVY.out, hz]; simp [vb])
    have t1 : ((ys.length : Int) == 0) = true := by rw [beq_iff_eq]; omega
    clear hz h1 h0
    go_enter Tryd.func46, Tryd.ntmps46
    go_wp2
    go_ret
    exact ⟨_, rfl, by rw [HZ.out]; exact NatAt.zero _, Ext.refl _⟩
  have t1 : ((ys.length : Int) == 0) = false := by rw [beq_eq_false_iff_ne]; omega
  have hmk := makeW (xs.length + ys.length) (xs.length + ys.length) (Nat.le_refl _) hl
  simp only [Int.natCast_add] at hmk
  go_enter Tryd.func46, Tryd.ntmps46
  go_wp2
  obtain ⟨w1, hw1⟩ : ∃ w1, w1 = w.alloc (.cells (rowW (List.replicate (xs.length + ys.length) 0)) 76) := ⟨_, rfl⟩
  obtain ⟨g, hg⟩ : ∃ g, g = w.heap.size := ⟨_, rfl⟩
  have HN : Hid (Blk w1 g (List.replicate (xs.length + ys.length) 0)) := Lib.hid (by rw [hw1, hg]; exact Blk.new _ _)
  have HE : Hid (Ext w w1) := Lib.hid (by rw [hw1]; exact (Ext.refl _).alloc _)
  have HG : Hid (g = w.heap.size) := Lib.hid hg
  rw [← hw1, ← hg]
  clear hw1 hg hmk h0 h1 t0 t1
  go_loopw [30] (fun i wr => ∃ (k : Nat) (L : List Nat), k ≤ xs.length ∧ i = .int .i64 (k : Int) ∧ Hid (Blk wr g L) ∧ L.length = xs.length + ys.length ∧ Hid (WB W64 L) ∧ Hid (Ext w wr) ∧ Hid (vb W64 L = vb W64 (xs.take k) * vb W64 ys) ∧ Hid (∀ j, k + ys.length ≤ j → L.getD j 0 = 0)) (fun i _ => xs.length - (intOf i).toNat)
  case atStart => exact ⟨0, _, by omega, rfl, HN, by simp, Lib.hid (WB.zeros W64_pos _), HE, Lib.hid (by simp [vb, vb_zeros]), Lib.hid (fun j _ => by simp [List.getD_eq_getElem?_getD, List.getElem?_replicate]; split <;> rfl)⟩
  case round =>
    clear HN HE
    obtain ⟨k, L, hk, rfl, HL, hLl, HW, HE, HV, HZ⟩ := hrel
    by_cases hlt : k < xs.length
    · obtain ⟨b1, o1, rfl, hc1⟩ := HA.out k hlt
      have hcx := HE.out.cell hc1
      clear hc1
      have hx : xs.getD k 0 < W64 := HWX.out.getD W64_pos k
      obtain ⟨x, hxx⟩ : ∃ x : Nat, x = xs.getD k 0 := ⟨_, rfl⟩
      rw [← hxx] at hcx hx
      have HXX := Lib.hid hxx; clear hxx
      have HX := Lib.hid hx; clear hx
      go_wp2
      clear hcx
      obtain ⟨wo, rfl⟩ : ∃ wo : World, wo = wr := ⟨_, rfl⟩
      go_loopw [8, 37] (fun s i wr => ∃ (j c : Nat) (L : List Nat), j ≤ ys.length ∧ i = .int .i64 (j : Int) ∧ s = .int .u64 (c : Int) ∧ Hid (c < W64) ∧ Hid (Blk wr g L) ∧ L.length = xs.length + ys.length ∧ Hid (WB W64 L) ∧ Hid (Ext w wr) ∧ Hid (vb W64 L + c * W64 ^ (k + j) = vb W64 (xs.take k) * vb W64 ys + x * vb W64 (ys.take j) * W64 ^ k) ∧ Hid (∀ j, k + ys.length ≤ j → L.getD j 0 = 0)) (fun _ i _ => ys.length - (intOf i).toNat)
      case atStart => exact ⟨0, 0, L, by omega, rfl, rfl, Lib.hid W64_pos, HL, hLl, HW, HE, Lib.hid (by rw [HV.out]; simp [vb]), HZ⟩
      case round =>
        clear HL HW HE HV HZ hLl
        obtain ⟨j, c, L, hj, rfl, rfl, HC, HL, hLl, HW, HE, HV, HZ⟩ := hrel
        by_cases hjt : j < ys.length
        · obtain ⟨b2, o2, rfl, hc2⟩ := HB.out j hjt
          have hcy := HE.out.cell hc2
          clear hc2
          have hy : ys.getD j 0 < W64 := HWY.out.getD W64_pos j
          obtain ⟨y, hyy⟩ : ∃ y : Nat, y = ys.getD j 0 := ⟨_, rfl⟩
          rw [← hyy] at hcy hy
          have HYY := Lib.hid hyy; clear hyy
          have HY := Lib.hid hy; clear hy
          have hL0 := HL.out.cell (i := k + j) (by omega)
          have hLf := HL.out.frozen (k + j)
          have hl0 := HW.out.getD W64_pos (k + j)
          obtain ⟨l, hll⟩ : ∃ l : Nat, l = L.getD (k + j) 0 := ⟨_, rfl⟩
          rw [← hll] at hL0 hl0
          have HLL := Lib.hid hll; clear hll
          have P := prod_step hl0 HX.out HY.out HC.out
          have hs1 := add64_run (mulL x y) l 0 (by omega)
          have hs2 := add64_run (addS (mulL x y) l 0) c 0 (by omega)
          simp only [Int.natCast_zero] at hs1 hs2
          have HP := Lib.hid P
          clear P hl0
          have kj : ((k : Int) + (j : Int)).toNat = k + j := by omega
          go_wp2_with (go_at_call 64; refine (mul64_calls x y HX.out HY.out _).mono ?_; rintro e w2 ⟨rfl, rfl⟩)
          clear hs1 hs2 hL0 hLf hcy
          rw [HP.out.1]
          go_roundw
          case rel =>
            refine ⟨j + 1, _, L.set (k + j) (addS (addS (mulL x y) l 0) c 0), by omega, by go_num, rfl, Lib.hid HP.out.2.1, HL.out.set _ _, by simpa using hLl, HW.out.set _ (addS_lt _ _ _), HE.out.setCell (by rw [HG.out]; exact Nat.le_refl _) _, ?_, ?_⟩
            · have h1 := HP.out.2.2
              rw [HLL.out] at h1
              have h2 := prod_inv (L := L) (j := k + j) (by omega) HV.out (h1.trans rfl)
              rw [← HLL.out] at h2
              refine Lib.hid (Eq.trans h2 ?_)
              rw [vb_take_succ ys j hjt, ← HYY.out, Nat.mul_add, Nat.add_mul, Nat.pow_add, Nat.add_right_inj, Nat.add_right_inj]
              simp only [Nat.mul_assoc, Nat.mul_comm, Nat.mul_left_comm]
            · refine Lib.hid (fun i hi => ?_)
              rw [getD_set_ne _ _ _ _ (by omega)]
              exact HZ.out i hi
          case measure => simp [intOf]; omega
        · have hj2 : j = ys.length := by omega
          have HJ := Lib.hid hj2
          clear hj2
          have hL0 := HL.out.cell (i := k + ys.length) (by omega)
          have hLf := HL.out.frozen (k + ys.length)
          have hl0 := HZ.out (k + ys.length) (by omega)
          have HL0 := Lib.hid hl0
          rw [hl0] at hL0
          clear hl0
          have kj : ((k : Int) + (ys.length : Int)).toNat = k + ys.length := by omega
          go_wp2
          clear hL0 hLf kj
          go_roundw
          case rel =>
            refine ⟨k + 1, L.set (k + ys.length) c, by omega, by go_num, HL.out.set _ _, by simpa using hLl, HW.out.set _ HC.out, HE.out.setCell (by rw [HG.out]; exact Nat.le_refl _) _, ?_, ?_⟩
            · have h1 := vb_set (B := W64) L (k + ys.length) c (by omega)
              rw [HL0.out, Nat.mul_zero, Nat.add_zero] at h1
              refine Lib.hid ?_
              have h2 := HV.out
              rw [HJ.out, List.take_length] at h2
              rw [h1, Nat.mul_comm, h2, vb_take_succ xs k hlt, ← HXX.out, Nat.add_mul, Nat.add_right_inj]
              simp only [Nat.mul_assoc, Nat.mul_comm, Nat.mul_left_comm]
            · refine Lib.hid (fun i hi => ?_)
              rw [getD_set_ne _ _ _ _ (by omega)]
              exact HZ.out i (by omega)
          case measure => simp [intOf]; omega
    · have hk2 : k = xs.length := by omega
      have HK := Lib.hid hk2
      clear hk2
      go_wp2_with (go_at_call 66; refine (trim_calls _ L _ (HL.out.slAt hLl.symm (by omega)) HW.out (by omega)).mono ?_; rintro e w2 ⟨r, rfl, hr, he⟩)
      have HR := Lib.hid hr; clear hr
      have HE2 := Lib.hid he; clear he
      go_wp2
      go_ret
      refine ⟨r, rfl, ?_, HE.out.trans HE2.out⟩
      have h1 := HV.out
      rw [HK.out, List.take_length, HVX.out, HVY.out] at h1
      have h2 := HR.out
      rw [h1] at h2
      exact h2
end Go.Proofs.YtpgnlpjjpgdoiaaDoor
/- The contract of sum. -/
namespace Go.Proofs.YtpgnlpjjpgdoiaaDoor
open Go Go.RowKit
set_option linter.unusedVariables false
set_option linter.unusedSimpArgs false
/-- One place of a sum. -/
theorem sum_step {L xs ys : List Nat} {k bw y : Nat} (hk : k < xs.length) (hL : k < L.length)
    (hyv : vb W64 (ys.take (k + 1)) = vb W64 (ys.take k) + W64 ^ k * y)
    (h : vb W64 (L.take k) + bw * W64 ^ k = vb W64 (xs.take k) + vb W64 (ys.take k)) :
    vb W64 ((L.set k (addS (xs.getD k 0) y bw)).take (k + 1)) + addC (xs.getD k 0) y bw * W64 ^ (k + 1) = vb W64 (xs.take (k + 1)) + vb W64 (ys.take (k + 1)) := by
  have h1 := add_eq (xs.getD k 0) y bw
  rw [take_set_succ _ _ _ (by omega), vb_snoc, List.length_take, Nat.min_eq_left (by omega), hyv, vb_take_succ xs k hk, Nat.pow_succ]
  generalize vb W64 (L.take k) = p at *
  generalize vb W64 (ys.take k) = q at *
  generalize vb W64 (xs.take k) = r at *
  generalize xs.getD k 0 = x at *
  generalize addS x y bw = d at *
  generalize addC x y bw = e at *
  generalize W64 ^ k = P at *
  have h2 : P * (d + W64 * e) = P * (x + y + bw) := by rw [h1]
  rw [Nat.mul_add, Nat.mul_add, Nat.mul_add] at h2
  rw [show e * (P * W64) = P * (W64 * e) from by rw [Nat.mul_comm e, Nat.mul_assoc]]
  rw [Nat.mul_comm bw P] at h
  omega
/-- What the loop leaves: the words without the last, and the carry. -/
theorem sum_end {L X Y : List Nat} {p q k bw : Nat} (hL : L.length = X.length + 1) (hX : vb W64 X = p) (hY : vb W64 Y = q) (hab : Y.length ≤ X.length) (hk : k = X.length) (h : vb W64 (L.take k) + bw * W64 ^ k = vb W64 (X.take k) + vb W64 (Y.take k)) :
    vb W64 (L.take X.length) + bw * W64 ^ X.length = p + q := by
  subst hk
  rwa [List.take_length, List.take_of_length_le hab, hX, hY] at h

theorem dg_of_length {xs : List Nat} (h : WB W64 xs) (hl : xs.length ≤ (dg W64 (vb W64 xs)).length) : dg W64 (vb W64 xs) = xs := by
  refine dg_vb W64_two h ?_
  rcases List.eq_nil_or_concat xs with rfl | ⟨ys, y, rfl⟩
  · exact .inl rfl
  · right
    rw [List.concat_eq_append] at *
    rw [show (ys ++ [y]).getLast? = some y by simp]
    rintro h0
    injection h0 with h0
    subst h0
    rw [vb_snoc, Nat.mul_zero, Nat.add_zero] at hl
    have h1 := dg_length_le W64_two (vb_lt (WB.append.mp h).1)
    simp at hl
    omega
theorem NatAt.of_len {w : World} {v : Value} {xs : List Nat} {n : Nat} (h : SlAt w v xs) (hw : WB W64 xs) (hn : vb W64 xs = n) (hl : xs.length ≤ (dg W64 n).length) : NatAt w v n := by
  subst hn; unfold NatAt; rw [dg_of_length hw hl]; exact h
theorem take_getD (xs : List Nat) (n i : Nat) (h : i < n) : (xs.take n).getD i 0 = xs.getD i 0 := by
  simp [List.getD_eq_getElem?_getD, List.getElem?_take, h]
theorem sum_fin0 {w : World} {g n s : Nat} {L : List Nat} (h : Blk w g L) (hl : L.length = n + 1) (hw : WB W64 L) (hs : vb W64 (L.take n) = s) (hn : n ≤ (dg W64 s).length) : NatAt w (.slice (some ⟨g, 0, none⟩) n (n + 1)) s := by
  refine NatAt.of_len (xs := L.take n) ⟨some ⟨g, 0, none⟩, n + 1, by rw [List.length_take, Nat.min_eq_left (by omega)], by rw [List.length_take]; omega, ?_⟩ (hw.take n) hs (by rw [List.length_take]; omega)
  refine h.rd 0 _ (fun i hi => ?_)
  rw [List.length_take] at hi
  exact ⟨by omega, by rw [take_getD _ _ _ (by omega), Nat.zero_add]⟩
/-- The row, as the laws on append know it. -/
theorem Blk.owns {w : World} {g : Nat} {L : List Nat} (h : Blk w g L) (n : Nat) (hl : L.length = n + 1) (hm : n + 1 ≤ maxLen) : w.ownsRow g 76 1 (.slice (some ⟨g, 0, none⟩) n (n + 1)) n ((L.map fun (x : Nat) => Value.int .u64 (x : Int)).take n) :=
  ⟨by simp; omega, .inr ⟨g, n + 1, _, rfl, Nat.le_refl _, h, by omega, hm, by simp [rowW, hl], by simp [rowW, List.map_take]⟩⟩
theorem owns_slAt {w : World} {g n c : Nat} {v : Value} {xs : List Nat} (h : w.ownsRow g 76 1 v n (xs.map fun (x : Nat) => Value.int .u64 (x : Int))) : SlAt w v xs := by
  obtain ⟨hl, h⟩ := h
  simp only [List.length_map, Nat.mul_one] at hl
  rcases h with ⟨rfl, h0⟩ | ⟨g', cap, cur, rfl, hg, hh, hn, hc, hs, ht⟩
  · have : xs = [] := List.length_eq_zero_iff.mp (by omega)
    subst this; exact SlAt.nil w
  · refine ⟨some ⟨g', 0, none⟩, cap, by rw [hl], by omega, fun i hi => ⟨g', 0, rfl, ?_⟩⟩
    have h1 : cur.toList[i]? = some (.int .u64 ((xs.getD i 0 : Nat) : Int)) := by
      have h2 := congrArg (fun l => l[i]?) ht
      simp only [List.getElem?_take, Nat.mul_one, List.getElem?_map] at h2
      rw [if_pos (by omega)] at h2
      rw [h2]
      simp [List.getD_eq_getElem?_getD, List.getElem?_eq_getElem hi]
    simp only [World.cell?, hh, Nat.zero_add]
    simpa using h1
theorem sum_fin1 {w : World} {g n s : Nat} {v : Value} {L : List Nat} (h : w.ownsRow g 76 1 v (n + 1) (((L.map fun (x : Nat) => Value.int .u64 (x : Int)).take n) ++ [.int .u64 1])) (hl : L.length = n + 1) (hw : WB W64 L) (hs : vb W64 (L.take n) + W64 ^ n = s) : NatAt w v s := by
  have h1 : SlAt w v (L.take n ++ [1]) := owns_slAt (c := 0) (n := n + 1) (g := g) (by rw [List.map_append, List.map_take]; exact h)
  have h2 : vb W64 (L.take n ++ [1]) = s := by rw [vb_snoc, List.length_take, Nat.min_eq_left (by omega), Nat.mul_one]; exact hs
  subst h2
  unfold NatAt
  rw [dg_vb W64_two (WB.append.mpr ⟨hw.take n, by simp [WB]; decide⟩) (.inr (by simp))]
  exact h1
theorem Ext.grown {a w w' : World} {g : Nat} (h : Ext a w) (hg : w.grownBy w' (some g)) (hle : a.heap.size ≤ g) : Ext a w' :=
  Below.grown h hg h.size (fun k hk => by injection hk with hk; subst hk; exact hle)

set_option maxHeartbeats 4000000 in
theorem sum_ge (va vb' : Value) (a b : Nat) (w : World) (ha : NatAt w va a) (hb : NatAt w vb' b) (hl : (dg W64 b).length ≤ (dg W64 a).length) (hm : (dg W64 a).length < 17592186044416) :
    Calls Tryd.prog 55 #[va, vb'] w fun e w' => ∃ r, e = .returned r ∧ NatAt w' r (a + b) ∧ Ext w w' := by
  obtain ⟨A, c, rfl, hc, hra⟩ := ha
  obtain ⟨A', c', rfl, hc', hrb⟩ := hb
  have HA := Lib.hid hra; clear hra
  have HB := Lib.hid hrb; clear hrb
  have HWX := Lib.hid (WB_dg W64_two a)
  have HWY := Lib.hid (WB_dg W64_two b)
  have HVX := Lib.hid (vb_dg W64_two a)
  have HVY := Lib.hid (vb_dg W64_two b)
  generalize hxs : dg W64 a = xs at *
  generalize hys : dg W64 b = ys at *
  have HDA := Lib.hid hxs; clear hxs
  have HDB := Lib.hid hys; clear hys
  have t0 : decide (xs.length < ys.length) = false := by rw [decide_eq_false_iff_not]; omega

  have hmk := makeW xs.length (xs.length + 1) (by omega) (by omega)
  simp only [Int.natCast_add, Int.natCast_one] at hmk
  go_enter Tryd.func55, Tryd.ntmps55
  go_wp2
  obtain ⟨w1, hw1⟩ : ∃ w1, w1 = w.alloc (.cells (rowW (List.replicate (xs.length + 1) 0)) 76) := ⟨_, rfl⟩
  obtain ⟨g, hg⟩ : ∃ g, g = w.heap.size := ⟨_, rfl⟩
  have HN : Hid (Blk w1 g (List.replicate (xs.length + 1) 0)) := Lib.hid (by rw [hw1, hg]; exact Blk.new _ _)
  have HE : Hid (Ext w w1) := Lib.hid (by rw [hw1]; exact (Ext.refl _).alloc _)
  have HG : Hid (g = w.heap.size) := Lib.hid hg
  rw [← hw1, ← hg]
  clear hw1 hg hmk
  go_loopw [6, 24] (fun s i wr => ∃ (k : Nat) (bw : Nat) (L : List Nat), k ≤ xs.length ∧ bw ≤ 1 ∧ i = .int .i64 (k : Int) ∧ s = .int .u64 (bw : Int) ∧ Hid (Blk wr g L) ∧ L.length = xs.length + 1 ∧ Hid (WB W64 L) ∧ Hid (Ext w wr) ∧ Hid (vb W64 (L.take k) + bw * W64 ^ k = vb W64 (xs.take k) + vb W64 (ys.take k))) (fun _ i _ => xs.length - (intOf i).toNat)
  case atStart => exact ⟨0, 0, _, by omega, by omega, rfl, rfl, HN, by simp, Lib.hid (WB.zeros W64_pos _), HE, Lib.hid (by simp [vb])⟩
  case round =>
    clear HN HE
    obtain ⟨k, bw, L, hk, hbw, rfl, rfl, HL, hLl, HW, HE, HV⟩ := hrel
    by_cases hlt : k < xs.length
    · obtain ⟨b1, o1, rfl, hc1⟩ := HA.out k hlt
      have hcx := HE.out.cell hc1
      clear hc1
      obtain ⟨x, hxx⟩ : ∃ x : Nat, x = xs.getD k 0 := ⟨_, rfl⟩
      rw [← hxx] at hcx
      have HXX := Lib.hid hxx; clear hxx
      have hL0 := HL.out.cell (i := k) (by omega)
      have hLf := HL.out.frozen k
      generalize L.getD k 0 = l0 at hL0
      by_cases hy : k < ys.length
      · obtain ⟨b2, o2, rfl, hc2⟩ := HB.out k hy
        have hcy := HE.out.cell hc2
        clear hc2
        obtain ⟨y, hyy⟩ : ∃ y : Nat, y = ys.getD k 0 := ⟨_, rfl⟩
        rw [← hyy] at hcy
        have HYY := Lib.hid hyy; clear hyy
        have hs := add64_run x y bw hbw
        go_wp2
        clear hs hL0 hLf hcx hcy
        go_roundw
        case rel =>
          refine ⟨k + 1, addC x y bw, L.set k (addS x y bw), by omega, addC_le (by rw [HXX.out]; exact HWX.out.getD W64_pos k) (by rw [HYY.out]; exact HWY.out.getD W64_pos k) hbw, by go_num, rfl, HL.out.set _ _, by simpa using hLl, HW.out.set _ (addS_lt _ _ _), HE.out.setCell (by rw [HG.out]; exact Nat.le_refl _) _, ?_⟩
          have hv := vb_take_succ (B := W64) ys k hy
          rw [← HYY.out] at hv
          have := sum_step hlt (by omega) hv HV.out
          rw [← HXX.out] at this
          exact this
        case measure => simp [intOf]; omega
      · have hs := add64_run x 0 bw hbw
        simp only [Int.natCast_zero] at hs
        go_wp2
        clear hs hL0 hLf hcx
        go_roundw
        case rel =>
          refine ⟨k + 1, addC x 0 bw, L.set k (addS x 0 bw), by omega, addC_le (by rw [HXX.out]; exact HWX.out.getD W64_pos k) W64_pos hbw, by go_num, rfl, HL.out.set _ _, by simpa using hLl, HW.out.set _ (addS_lt _ _ _), HE.out.setCell (by rw [HG.out]; exact Nat.le_refl _) _, ?_⟩
          have := sum_step hlt (by omega) (take_over (ys := ys) (by omega)) HV.out
          rw [← HXX.out] at this
          exact this
        case measure => simp [intOf]; omega
    · have hk2 : k = xs.length := by omega
      have HF := Lib.hid (sum_end hLl HVX.out HVY.out (by omega) hk2 HV.out)
      clear hk2
      by_cases hb0 : bw = 0
      · have HB0 := Lib.hid hb0
        have t1 : (bw : Int) = 0 := by omega
        rw [t1]
        clear hb0 t1
        go_wp2
        go_ret
        refine ⟨_, rfl, ?_, HE.out⟩
        have h1 := HF.out
        rw [HB0.out, Nat.zero_mul, Nat.add_zero] at h1
        refine sum_fin0 HL.out hLl HW.out (h1.trans ?_) ?_
        · first | rfl | exact Nat.add_comm _ _
        · rw [← HDA.out]; exact dg_length_mono W64_two (by omega)
      · have hb1 : bw = 1 := by omega
        have HB0 := Lib.hid hb1
        rw [show ((bw : Int)) = 1 by omega]
        clear hb0 hb1
        have HOW := Lib.hid (HL.out.owns xs.length hLl (by unfold maxLen; omega))
        obtain ⟨i0, hi, hz0, hz1, hz2⟩ := info_parts infoW
        go_wp2_with (at_builtin; refine wpList_append_fits _ rfl (.tmp 51) (.tmp 53) _ rfl g _ i0 1 Tryd.underlying72 hi hz1 g xs.length (xs.length + 1) _ rfl (HOW.out.alloc _) ⟨wr.heap.size, 0, none⟩ 1 1 [.int .u64 1] rfl rfl ?c1 ?c2 (by omega) ?_)
        case c1 =>
          intro j u hj
          match j, hj with
          | 0, hj => simp at hj; subst hj; simp [Addr.add]
        case c2 => intro u hu; simp at hu; subst hu; rfl
        intro w2 hown hgrow
        have HO := Lib.hid hown; clear hown
        have HGR := Lib.hid hgrow; clear hgrow
        go_wp2
        go_ret
        refine ⟨.slice (some ⟨g, 0, none⟩) (xs.length + 1) (xs.length + 1), rfl, ?_, ?_⟩
        · have h1 := HF.out
          rw [HB0.out, Nat.one_mul] at h1
          refine sum_fin1 HO.out hLl HW.out (h1.trans ?_)
          first | rfl | exact Nat.add_comm _ _
        · exact Ext.grown ((HE.out).alloc _) HGR.out (by rw [HG.out]; exact Nat.le_refl _)

set_option maxHeartbeats 4000000 in
theorem sum_lt (va vb' : Value) (a b : Nat) (w : World) (ha : NatAt w va a) (hb : NatAt w vb' b) (hl : (dg W64 a).length < (dg W64 b).length) (hm : (dg W64 b).length < 17592186044416) :
    Calls Tryd.prog 55 #[va, vb'] w fun e w' => ∃ r, e = .returned r ∧ NatAt w' r (a + b) ∧ Ext w w' := by
  obtain ⟨A, c, rfl, hc, hra⟩ := ha
  obtain ⟨A', c', rfl, hc', hrb⟩ := hb
  have HA := Lib.hid hra; clear hra
  have HB := Lib.hid hrb; clear hrb
  have HWX := Lib.hid (WB_dg W64_two a)
  have HWY := Lib.hid (WB_dg W64_two b)
  have HVX := Lib.hid (vb_dg W64_two a)
  have HVY := Lib.hid (vb_dg W64_two b)
  generalize hxs : dg W64 a = xs at *
  generalize hys : dg W64 b = ys at *
  have HDA := Lib.hid hxs; clear hxs
  have HDB := Lib.hid hys; clear hys
  have t0 : decide (xs.length < ys.length) = true := by rw [decide_eq_true_iff]; omega

  have hmk := makeW ys.length (ys.length + 1) (by omega) (by omega)
  simp only [Int.natCast_add, Int.natCast_one] at hmk
  go_enter Tryd.func55, Tryd.ntmps55
  go_wp2
  obtain ⟨w1, hw1⟩ : ∃ w1, w1 = w.alloc (.cells (rowW (List.replicate (ys.length + 1) 0)) 76) := ⟨_, rfl⟩
  obtain ⟨g, hg⟩ : ∃ g, g = w.heap.size := ⟨_, rfl⟩
  have HN : Hid (Blk w1 g (List.replicate (ys.length + 1) 0)) := Lib.hid (by rw [hw1, hg]; exact Blk.new _ _)
  have HE : Hid (Ext w w1) := Lib.hid (by rw [hw1]; exact (Ext.refl _).alloc _)
  have HG : Hid (g = w.heap.size) := Lib.hid hg
  rw [← hw1, ← hg]
  clear hw1 hg hmk
  go_loopw [6, 24] (fun s i wr => ∃ (k : Nat) (bw : Nat) (L : List Nat), k ≤ ys.length ∧ bw ≤ 1 ∧ i = .int .i64 (k : Int) ∧ s = .int .u64 (bw : Int) ∧ Hid (Blk wr g L) ∧ L.length = ys.length + 1 ∧ Hid (WB W64 L) ∧ Hid (Ext w wr) ∧ Hid (vb W64 (L.take k) + bw * W64 ^ k = vb W64 (ys.take k) + vb W64 (xs.take k))) (fun _ i _ => ys.length - (intOf i).toNat)
  case atStart => exact ⟨0, 0, _, by omega, by omega, rfl, rfl, HN, by simp, Lib.hid (WB.zeros W64_pos _), HE, Lib.hid (by simp [vb])⟩
  case round =>
    clear HN HE
    obtain ⟨k, bw, L, hk, hbw, rfl, rfl, HL, hLl, HW, HE, HV⟩ := hrel
    by_cases hlt : k < ys.length
    · obtain ⟨b1, o1, rfl, hc1⟩ := HB.out k hlt
      have hcx := HE.out.cell hc1
      clear hc1
      obtain ⟨x, hxx⟩ : ∃ x : Nat, x = ys.getD k 0 := ⟨_, rfl⟩
      rw [← hxx] at hcx
      have HXX := Lib.hid hxx; clear hxx
      have hL0 := HL.out.cell (i := k) (by omega)
      have hLf := HL.out.frozen k
      generalize L.getD k 0 = l0 at hL0
      by_cases hy : k < xs.length
      · obtain ⟨b2, o2, rfl, hc2⟩ := HA.out k hy
        have hcy := HE.out.cell hc2
        clear hc2
        obtain ⟨y, hyy⟩ : ∃ y : Nat, y = xs.getD k 0 := ⟨_, rfl⟩
        rw [← hyy] at hcy
        have HYY := Lib.hid hyy; clear hyy
        have hs := add64_run x y bw hbw
        go_wp2
        clear hs hL0 hLf hcx hcy
        go_roundw
        case rel =>
          refine ⟨k + 1, addC x y bw, L.set k (addS x y bw), by omega, addC_le (by rw [HXX.out]; exact HWY.out.getD W64_pos k) (by rw [HYY.out]; exact HWX.out.getD W64_pos k) hbw, by go_num, rfl, HL.out.set _ _, by simpa using hLl, HW.out.set _ (addS_lt _ _ _), HE.out.setCell (by rw [HG.out]; exact Nat.le_refl _) _, ?_⟩
          have hv := vb_take_succ (B := W64) xs k hy
          rw [← HYY.out] at hv
          have := sum_step hlt (by omega) hv HV.out
          rw [← HXX.out] at this
          exact this
        case measure => simp [intOf]; omega
      · have hs := add64_run x 0 bw hbw
        simp only [Int.natCast_zero] at hs
        go_wp2
        clear hs hL0 hLf hcx
        go_roundw
        case rel =>
          refine ⟨k + 1, addC x 0 bw, L.set k (addS x 0 bw), by omega, addC_le (by rw [HXX.out]; exact HWY.out.getD W64_pos k) W64_pos hbw, by go_num, rfl, HL.out.set _ _, by simpa using hLl, HW.out.set _ (addS_lt _ _ _), HE.out.setCell (by rw [HG.out]; exact Nat.le_refl _) _, ?_⟩
          have := sum_step hlt (by omega) (take_over (ys := xs) (by omega)) HV.out
          rw [← HXX.out] at this
          exact this
        case measure => simp [intOf]; omega
    · have hk2 : k = ys.length := by omega
      have HF := Lib.hid (sum_end hLl HVY.out HVX.out (by omega) hk2 HV.out)
      clear hk2
      by_cases hb0 : bw = 0
      · have HB0 := Lib.hid hb0
        have t1 : (bw : Int) = 0 := by omega
        rw [t1]
        clear hb0 t1
        go_wp2
        go_ret
        refine ⟨_, rfl, ?_, HE.out⟩
        have h1 := HF.out
        rw [HB0.out, Nat.zero_mul, Nat.add_zero] at h1
        refine sum_fin0 HL.out hLl HW.out (h1.trans ?_) ?_
        · first | rfl | exact Nat.add_comm _ _
        · rw [← HDB.out]; exact dg_length_mono W64_two (by omega)
      · have hb1 : bw = 1 := by omega
        have HB0 := Lib.hid hb1
        rw [show ((bw : Int)) = 1 by omega]
        clear hb0 hb1
        have HOW := Lib.hid (HL.out.owns ys.length hLl (by unfold maxLen; omega))
        obtain ⟨i0, hi, hz0, hz1, hz2⟩ := info_parts infoW
        go_wp2_with (at_builtin; refine wpList_append_fits _ rfl (.tmp 51) (.tmp 53) _ rfl g _ i0 1 Tryd.underlying72 hi hz1 g ys.length (ys.length + 1) _ rfl (HOW.out.alloc _) ⟨wr.heap.size, 0, none⟩ 1 1 [.int .u64 1] rfl rfl ?c1 ?c2 (by omega) ?_)
        case c1 =>
          intro j u hj
          match j, hj with
          | 0, hj => simp at hj; subst hj; simp [Addr.add]
        case c2 => intro u hu; simp at hu; subst hu; rfl
        intro w2 hown hgrow
        have HO := Lib.hid hown; clear hown
        have HGR := Lib.hid hgrow; clear hgrow
        go_wp2
        go_ret
        refine ⟨.slice (some ⟨g, 0, none⟩) (ys.length + 1) (ys.length + 1), rfl, ?_, ?_⟩
        · have h1 := HF.out
          rw [HB0.out, Nat.one_mul] at h1
          refine sum_fin1 HO.out hLl HW.out (h1.trans ?_)
          first | rfl | exact Nat.add_comm _ _
        · exact Ext.grown ((HE.out).alloc _) HGR.out (by rw [HG.out]; exact Nat.le_refl _)

theorem sum_calls (va vb' : Value) (a b : Nat) (w : World) (ha : NatAt w va a) (hb : NatAt w vb' b) (hm : (dg W64 a).length < 17592186044416) (hm' : (dg W64 b).length < 17592186044416) :
    Calls Tryd.prog 55 #[va, vb'] w fun e w' => ∃ r, e = .returned r ∧ NatAt w' r (a + b) ∧ Ext w w' := by
  rcases Nat.lt_or_ge (dg W64 a).length (dg W64 b).length with h | h
  · exact sum_lt va vb' a b w ha hb h hm'
  · exact sum_ge va vb' a b w ha hb h hm
end Go.Proofs.YtpgnlpjjpgdoiaaDoor
/- The division of two words by one word, by two digits of 32 bits: plain numbers. -/
namespace Go.Proofs.YtpgnlpjjpgdoiaaDoor
set_option linter.unusedVariables false
set_option linter.unusedSimpArgs false
/-- The guess's invariant: q * y1 + r = u, and q is at least the true digit. -/
structure G32 (u d y1 y0 q r : Nat) : Prop where
  eq : q * y1 + r = u
  ge : (u * 4294967296 + d) / (y1 * 4294967296 + y0) ≤ q
  le : q ≤ 4294967297
structure Y32 (u d y1 y0 : Nat) : Prop where
  lo : 2147483648 ≤ y1
  hi : y1 < 4294967296
  ly : y0 < 4294967296
  ld : d < 4294967296
  lu : u < y1 * 4294967296 + y0
section
variable {u d y1 y0 q r : Nat}
theorem Y32.pos (h : Y32 u d y1 y0) : 0 < y1 * 4294967296 + y0 := by have := h.lo; omega
theorem Y32.dig_lt (h : Y32 u d y1 y0) : (u * 4294967296 + d) / (y1 * 4294967296 + y0) < 4294967296 := by
  rw [Nat.div_lt_iff_lt_mul h.pos]
  have := h.ld; have := h.lu
  omega
theorem G32.init (h : Y32 u d y1 y0) : G32 u d y1 y0 (u / y1) (u % y1) := by
  have h1 := h.lo
  have hp : 0 < y1 := by omega
  refine ⟨by rw [Nat.mul_comm]; exact Nat.div_add_mod u y1, ?_, ?_⟩
  · have h2 : (u * 4294967296 + d) / (y1 * 4294967296 + y0) ≤ (u * 4294967296 + d) / (y1 * 4294967296) := Nat.div_le_div_left (by omega) (by omega)
    have h3 : (u * 4294967296 + d) / (y1 * 4294967296) = u / y1 := by
      rw [Nat.mul_comm y1, ← Nat.div_div_eq_div_mul]
      congr 1
      have := h.ld
      omega
    omega
  · rw [← Nat.lt_succ_iff, Nat.div_lt_iff_lt_mul hp]
    have := h.lu; have := h.ly
    omega
/-- The test says that the guess is too great. -/
theorem G32.great (h : Y32 u d y1 y0) (g : G32 u d y1 y0 q r) (ht : 4294967296 ≤ q ∨ 4294967296 * r + d < q * y0) : (u * 4294967296 + d) / (y1 * 4294967296 + y0) < q := by
  rcases ht with ht | ht
  · have := h.dig_lt; omega
  · rw [Nat.div_lt_iff_lt_mul h.pos]
    have := g.eq
    subst this
    rw [Nat.mul_add, ← Nat.mul_assoc, Nat.add_mul]
    omega
theorem G32.next (h : Y32 u d y1 y0) (g : G32 u d y1 y0 (q + 1) r) (ht : 4294967296 ≤ q + 1 ∨ 4294967296 * r + d < (q + 1) * y0) : G32 u d y1 y0 q (r + y1) := by
  have h1 := G32.great h g ht
  have h2 := g.eq
  exact ⟨by rw [Nat.add_mul] at h2; omega, by omega, by have := g.le; omega⟩
theorem G32.done (h : Y32 u d y1 y0) (g : G32 u d y1 y0 q r) (hd : q ≤ 4294967296 ∧ 4294967296 ≤ r ∨ q < 4294967296 ∧ q * y0 ≤ 4294967296 * r + d) : q = (u * 4294967296 + d) / (y1 * 4294967296 + y0) := by
  refine Nat.le_antisymm ?_ g.ge
  rw [Nat.le_div_iff_mul_le h.pos]
  have h1 : q * y0 ≤ 4294967296 * r + d := by
    rcases hd with ⟨ha, hb⟩ | ⟨_, hb⟩
    · have h2 : q * y0 ≤ 4294967296 * 4294967296 := Nat.mul_le_mul ha (Nat.le_of_lt h.ly)
      have h3 : 4294967296 * 4294967296 ≤ 4294967296 * r := Nat.mul_le_mul_left _ hb
      omega
    · exact hb
  have h2 := g.eq
  subst h2
  rw [Nat.mul_add, ← Nat.mul_assoc, Nat.add_mul]
  omega
end
/-- Two digits, one behind the other: the whole quotient and the whole rest. -/
theorem two_digits {hi lo y s B : Nat} {u l1 l0 Y : Nat} (hB : 0 < B) (hs : 0 < s) (hy : 0 < y) (hY : Y = y * s) (hu : (u * B + l1) * B + l0 = (hi * (B * B) + lo) * s) (hl0 : l0 < B) (hl1 : l1 < B) :
    (u * B + l1) / Y * B + ((u * B + l1) % Y * B + l0) / Y = (hi * (B * B) + lo) / y ∧ ((u * B + l1) % Y * B + l0) % Y / s = (hi * (B * B) + lo) % y := by
  have hYp : 0 < Y := by rw [hY]; exact Nat.mul_pos hy hs
  have e1 := Nat.div_add_mod (u * B + l1) Y
  have e2 : (u * B + l1) * B + l0 = Y * ((u * B + l1) / Y * B) + ((u * B + l1) % Y * B + l0) := by
    conv => lhs; rw [← e1]
    rw [Nat.add_mul, Nat.mul_assoc]; omega
  have e3 : ((u * B + l1) * B + l0) / Y = (u * B + l1) / Y * B + ((u * B + l1) % Y * B + l0) / Y := by
    rw [e2, Nat.mul_add_div hYp]
  have e4 : ((u * B + l1) * B + l0) % Y = ((u * B + l1) % Y * B + l0) % Y := by
    rw [e2, Nat.mul_add_mod]
  rw [← e3, ← e4, hu, hY]
  exact ⟨Nat.mul_div_mul_right _ _ hs, by rw [Nat.mul_mod_mul_right, Nat.mul_div_cancel _ hs]⟩
end Go.Proofs.YtpgnlpjjpgdoiaaDoor
/- The contract of math/bits.Div64 where it does not panic. -/
namespace Go.Proofs.YtpgnlpjjpgdoiaaDoor
open Go Go.RowKit
set_option linter.unusedVariables false
set_option linter.unusedSimpArgs false

theorem bitLen_spec (x : Nat) (h0 : x ≠ 0) (h : x < W64) : Lib.bitLen x ≤ 64 ∧ 1 ≤ Lib.bitLen x ∧ x < 2 ^ Lib.bitLen x ∧ 2 ^ (Lib.bitLen x - 1) ≤ x := by
  have key : ∀ n x : Nat, x < 2 ^ n → n ≤ 64 → x ≠ 0 → 1 ≤ Lib.bitLen x ∧ x < 2 ^ Lib.bitLen x ∧ 2 ^ (Lib.bitLen x - 1) ≤ x := by
    intro n
    induction n with
    | zero => intro x hx _ h0; simp at hx; exact absurd hx h0
    | succ n ih =>
      intro x hx hn h0
      have hx64 : x < 2 ^ 64 := Nat.lt_of_lt_of_le hx (Nat.pow_le_pow_right (by omega) hn)
      have hb := Lib.bitLen_half x h0 hx64
      by_cases h1 : x / 2 = 0
      · have hx1 : x = 1 := by omega
        subst hx1
        exact by decide
      · obtain ⟨i1, i2, i3⟩ := ih (x / 2) (by rw [Nat.pow_succ] at hx; omega) (by omega) h1
        refine ⟨by omega, ?_, ?_⟩
        · rw [hb, Nat.add_comm, Nat.pow_succ]; omega
        · obtain ⟨m, hm⟩ : ∃ m, Lib.bitLen (x / 2) = m + 1 := ⟨Lib.bitLen (x / 2) - 1, by omega⟩
          rw [hb, hm, show 1 + (m + 1) - 1 = m + 1 by omega, Nat.pow_succ]
          rw [hm, Nat.add_sub_cancel] at i3
          omega
  have h64 : x < 2 ^ 64 := h
  obtain ⟨a, b, c⟩ := key 64 x h64 (Nat.le_refl _) h0
  exact ⟨Lib.bitLen_le x 64 (Nat.le_refl _) h64, a, b, c⟩
/-- The shift that puts the highest bit in front. -/
def nlz (x : Nat) : Nat := 64 - Lib.bitLen x
theorem nlz_spec (x : Nat) (h0 : x ≠ 0) (h : x < W64) : nlz x ≤ 63 ∧ x * 2 ^ nlz x < W64 ∧ 9223372036854775808 ≤ x * 2 ^ nlz x := by
  obtain ⟨h1, h2, h3, h4⟩ := bitLen_spec x h0 h
  unfold nlz
  refine ⟨by omega, ?_, ?_⟩
  · have : x * 2 ^ (64 - Lib.bitLen x) < 2 ^ Lib.bitLen x * 2 ^ (64 - Lib.bitLen x) := Nat.mul_lt_mul_of_pos_right h3 (Nat.pow_pos (by omega))
    rw [← Nat.pow_add, show Lib.bitLen x + (64 - Lib.bitLen x) = 64 by omega] at this
    exact this
  · have : 2 ^ (Lib.bitLen x - 1) * 2 ^ (64 - Lib.bitLen x) ≤ x * 2 ^ (64 - Lib.bitLen x) := Nat.mul_le_mul_right _ h4
    rw [← Nat.pow_add, show Lib.bitLen x - 1 + (64 - Lib.bitLen x) = 63 by omega] at this
    exact this
theorem lz_calls (x : Nat) (h : x < W64) (w : World) :
    Calls Tryd.prog 79 #[.int .u64 (x : Int)] w fun e w' => e = .returned (.int .i64 ((nlz x : Nat) : Int)) ∧ w = w' := by
  have hb : Lib.bitLen x ≤ 64 := Lib.bitLen_le x 64 (Nat.le_refl _) h
  unfold W64 at h
  refine (Tryd.bits_LeadingZeros64 x w (by omega) (by omega)).mono fun e w' ⟨h1, h2⟩ => ⟨?_, h2.symm⟩
  rw [h1, Int.toNat_natCast]
  unfold nlz
  congr 2
  omega
theorem wrap_nat {n : Nat} (h : n < W64) : IntKind.u64.wrap (n : Int) = (n : Int) := by
  unfold W64 at h; simp only [IntKind.wrap_u64]; omega
theorem wrap_mod (n : Nat) : IntKind.u64.wrap (n : Int) = ((n % W64 : Nat) : Int) := by
  unfold W64; simp only [IntKind.wrap_u64]; omega
theorem G32.next' {u d y1 y0 q r : Nat} (h : Y32 u d y1 y0) (g : G32 u d y1 y0 q r) (h1 : 1 ≤ q) (ht : 4294967296 ≤ q ∨ 4294967296 * r + d < q * y0) : G32 u d y1 y0 (q - 1) (r + y1) := by
  obtain ⟨p, rfl⟩ : ∃ p, q = p + 1 := ⟨q - 1, by omega⟩
  exact G32.next h g ht
/-- What the division works with. -/
structure DivS (hi lo y s Y y1 y0 L l1 l0 u : Nat) : Prop where
  hs : s ≤ 63
  hY : Y = y * 2 ^ s
  YW : Y < W64
  y32 : Y32 u l1 y1 y0
  eY : y1 * 4294967296 + y0 = Y
  eL : l1 * 4294967296 + l0 = L
  ll0 : l0 < 4294967296
  all : (u * 4294967296 + l1) * 4294967296 + l0 = (hi * (4294967296 * 4294967296) + lo) * 2 ^ s
  rY : IntKind.u64.wrap ((y : Int) * 2 ^ s) = (Y : Int)
  rY1 : (Y : Int) / 4294967296 = (y1 : Int)
  rY0 : bits .and .u64 (Y : Int) 4294967295 = (y0 : Int)
  rL : IntKind.u64.wrap ((lo : Int) * 2 ^ s) = (L : Int)
  rL1 : (L : Int) / 4294967296 = (l1 : Int)
  rL0 : bits .and .u64 (L : Int) 4294967295 = (l0 : Int)
  rU : bits .or .u64 (IntKind.u64.wrap ((hi : Int) * 2 ^ s)) ((lo : Int) / 2 ^ (64 - s)) = (u : Int)
theorem and_low (n : Nat) (h : n < W64) : bits .and .u64 (n : Int) 4294967295 = ((n % 4294967296 : Nat) : Int) := by
  have := bits_and_u64_nat n 4294967295 h (by omega)
  rw [show ((4294967295 : Nat) : Int) = 4294967295 from rfl] at this
  rw [this, show (4294967295 : Nat) = 2 ^ 32 - 1 from rfl, Nat.and_two_pow_sub_one_eq_mod]
theorem DivS.mk' (hi lo y : Nat) (h : hi < y) (hy : y < W64) (hlo : lo < W64) :
    DivS hi lo y (nlz y) (y * 2 ^ nlz y) (y * 2 ^ nlz y / 4294967296) (y * 2 ^ nlz y % 4294967296) (lo * 2 ^ nlz y % W64) (lo * 2 ^ nlz y % W64 / 4294967296) (lo * 2 ^ nlz y % W64 % 4294967296) (hi * 2 ^ nlz y + lo / 2 ^ (64 - nlz y)) := by
  obtain ⟨h1, h2, h3⟩ := nlz_spec y (by omega) hy
  generalize hs : nlz y = s at *
  have e64 : 2 ^ s * 2 ^ (64 - s) = W64 := by rw [← Nat.pow_add, show s + (64 - s) = 64 by omega]; rfl
  have hp : 0 < 2 ^ s := Nat.pow_pos (by omega)
  have hp' : 0 < 2 ^ (64 - s) := Nat.pow_pos (by omega)
  have hlt : lo / 2 ^ (64 - s) < 2 ^ s := by rw [Nat.div_lt_iff_lt_mul hp', e64]; exact hlo
  have hu : hi * 2 ^ s + lo / 2 ^ (64 - s) < y * 2 ^ s := by
    have : (hi + 1) * 2 ^ s ≤ y * 2 ^ s := Nat.mul_le_mul_right _ h
    rw [Nat.add_mul] at this; omega
  have hall : (hi * 2 ^ s + lo / 2 ^ (64 - s)) * W64 + lo * 2 ^ s % W64 = (hi * W64 + lo) * 2 ^ s := by
    have e1 := Nat.div_add_mod (lo * 2 ^ s) W64
    have e2 : lo * 2 ^ s / W64 = lo / 2 ^ (64 - s) := by
      rw [← e64, Nat.mul_comm lo, Nat.mul_div_mul_left _ _ hp]
    rw [e2] at e1
    rw [Nat.add_mul, Nat.add_mul, Nat.mul_comm (lo / 2 ^ (64 - s)) W64, Nat.mul_assoc, Nat.mul_comm (2 ^ s) W64, ← Nat.mul_assoc]
    omega
  have hL : lo * 2 ^ s % W64 < W64 := Nat.mod_lt _ W64_pos
  have hh1 : hi * 2 ^ s < W64 := Nat.lt_of_le_of_lt (Nat.le_add_right _ _) (Nat.lt_trans hu h2)
  have hh2 : lo / 2 ^ (64 - s) < W64 := Nat.lt_of_le_of_lt (Nat.div_le_self _ _) hlo
  generalize hLd : lo * 2 ^ s % W64 = L at *
  generalize hYd : y * 2 ^ s = Y at *
  generalize hud : hi * 2 ^ s + lo / 2 ^ (64 - s) = u at *
  have c2 : ((2 : Int) ^ s) = ((2 ^ s : Nat) : Int) := by simp
  have c3 : ((2 : Int) ^ (64 - s)) = ((2 ^ (64 - s) : Nat) : Int) := by simp
  refine ⟨h1, hYd.symm, h2, ⟨by omega, by unfold W64 at h2; omega, by omega, by unfold W64 at hL; omega, by omega⟩, by omega, by omega, by omega, ?_, ?_, ?_, and_low _ h2, ?_, ?_, and_low _ hL, ?_⟩
  · rw [show 4294967296 * 4294967296 = W64 from rfl, ← hall]
    unfold W64; omega
  · rw [c2, ← Int.natCast_mul, hYd]; exact wrap_nat h2
  · omega
  · rw [c2, ← Int.natCast_mul, wrap_mod, hLd]
  · omega
  · rw [c2, c3, ← Int.natCast_mul, ← Int.natCast_ediv, wrap_nat hh1, bits_or_u64_nat _ _ hh1 hh2, ← hud]
    congr 1
    rw [Nat.mul_comm hi]
    exact (Nat.two_pow_add_eq_or_of_lt hlt hi).symm

def qOf (v : Value) : Nat := (intOf v).toNat
theorem wrap_rest {u q y r : Nat} (h : q * y + r = u) (hu : u < W64) : IntKind.u64.wrap ((u : Int) - IntKind.u64.wrap ((q : Int) * (y : Int))) = (r : Int) := by
  rw [← Int.natCast_mul, wrap_nat (by omega), ← h, Int.natCast_add, show ((q * y : Nat) : Int) + (r : Int) - ((q * y : Nat) : Int) = (r : Int) by omega]
  exact wrap_nat (by omega)
theorem mul_lt32 {q y : Nat} (hq : q < 4294967296) (hy : y < 4294967296) : q * y < W64 := by
  have : q * y ≤ 4294967296 * y := Nat.mul_le_mul_right _ (Nat.le_of_lt hq)
  unfold W64; omega

/-- A rest, reckoned with wrapping: it is right, for it fits. -/
theorem wrap_left (u l Q Y : Nat) (hY : Y < W64) (hp : 0 < Y) (hQ : Q = (u * 4294967296 + l) / Y) :
    IntKind.u64.wrap (IntKind.u64.wrap (IntKind.u64.wrap ((u : Int) * 4294967296) + (l : Int)) - IntKind.u64.wrap ((Q : Int) * (Y : Int))) = (((u * 4294967296 + l) % Y : Nat) : Int) := by
  have h1 := Nat.div_add_mod (u * 4294967296 + l) Y
  have h2 := Nat.mod_lt (u * 4294967296 + l) hp
  rw [← hQ, Nat.mul_comm] at h1
  generalize (u * 4294967296 + l) % Y = R at *
  have h3 : ((u : Int) * 4294967296 + (l : Int)) = (Q : Int) * (Y : Int) + (R : Int) := by
    rw [← Int.natCast_mul, ← Int.natCast_add, h1]; simp
  unfold W64 at hY
  simp only [IntKind.wrap_u64]
  generalize (Q : Int) * (Y : Int) = P at *
  omega
theorem wrap_whole {Q1 Q2 n : Nat} (h : Q1 * 4294967296 + Q2 = n) (hn : n < W64) : IntKind.u64.wrap (IntKind.u64.wrap ((Q1 : Int) * 4294967296) + (Q2 : Int)) = (n : Int) := by
  unfold W64 at hn
  simp only [IntKind.wrap_u64]
  omega
theorem DivS.two {hi lo y s Y y1 y0 L l1 l0 u : Nat} (D : DivS hi lo y s Y y1 y0 L l1 l0 u) : Y32 ((u * 4294967296 + l1) % Y) l0 y1 y0 :=
  ⟨D.y32.lo, D.y32.hi, D.y32.ly, D.ll0, by rw [D.eY]; exact Nat.mod_lt _ (by rw [← D.eY]; exact D.y32.pos)⟩
theorem DivS.pos {hi lo y s Y y1 y0 L l1 l0 u : Nat} (D : DivS hi lo y s Y y1 y0 L l1 l0 u) : 0 < Y := by rw [← D.eY]; exact D.y32.pos
theorem DivS.end_ {hi lo y s Y y1 y0 L l1 l0 u : Nat} (D : DivS hi lo y s Y y1 y0 L l1 l0 u) (hy : 0 < y) :
    (u * 4294967296 + l1) / Y * 4294967296 + ((u * 4294967296 + l1) % Y * 4294967296 + l0) / Y = (hi * W64 + lo) / y ∧ ((u * 4294967296 + l1) % Y * 4294967296 + l0) % Y / 2 ^ s = (hi * W64 + lo) % y := by
  have := two_digits (B := 4294967296) (by omega) (Nat.pow_pos (n := s) (show 0 < 2 by omega)) hy D.hY D.all D.ll0 D.y32.ld
  exact this
theorem ret_two {a b c d : Int} (h : a = c) (k : b = d) : Ending.returned (.tuple #[.int .u64 a, .int .u64 b]) = .returned (.tuple #[.int .u64 c, .int .u64 d]) := by rw [h, k]

set_option maxRecDepth 100000 in
set_option maxHeartbeats 8000000 in
theorem div64_big (hi lo y : Nat) (w : World) (h : hi < y) (h0 : hi ≠ 0) (hy : y < W64) (hlo : lo < W64) :
    Calls Tryd.prog 73 #[.int .u64 (hi : Int), .int .u64 (lo : Int), .int .u64 (y : Int)] w fun e w' => e = .returned (.tuple #[.int .u64 (((hi * W64 + lo) / y : Nat) : Int), .int .u64 (((hi * W64 + lo) % y : Nat) : Int)]) ∧ ∃ n, w' = w.drewN n := by
  obtain ⟨s, Y, y1, y0, L, l1, l0, u, hsy, D⟩ : ∃ s Y y1 y0 L l1 l0 u, nlz y = s ∧ DivS hi lo y s Y y1 y0 L l1 l0 u := ⟨_, _, _, _, _, _, _, _, rfl, DivS.mk' hi lo y h hy hlo⟩
  have HY := Lib.hid hy
  have HYH := Lib.hid h
  have HLO := Lib.hid hlo
  have hs63 := D.hs
  have rY := D.rY
  have rY1 := D.rY1
  have rY0 := D.rY0
  have rL := D.rL
  have rL1 := D.rL1
  have rL0 := D.rL0
  have rU := D.rU
  have hy1 : (2147483648 : Int) ≤ (y1 : Int) := by have := D.y32.lo; omega
  have hlz : ∀ w, Calls Tryd.prog 79 #[.int .u64 (y : Int)] w fun e w' => e = .returned (.int .i64 ((s : Nat) : Int)) ∧ w = w' := fun w => by rw [← hsy]; exact lz_calls y hy w
  have HLZ := Lib.hid hlz
  obtain ⟨q0, hq0⟩ : ∃ q0, q0 = u / y1 := ⟨_, rfl⟩
  obtain ⟨r0, hr0⟩ : ∃ r0, r0 = u % y1 := ⟨_, rfl⟩
  have G0 : G32 u l1 y1 y0 q0 r0 := by rw [hq0, hr0]; exact G32.init D.y32
  have rQ : IntKind.u64.wrap ((u : Int) / (y1 : Int)) = (q0 : Int) := by
    rw [← Int.natCast_ediv, ← hq0]; exact wrap_nat (by have := G0.le; unfold W64; omega)
  have rR : IntKind.u64.wrap ((u : Int) - IntKind.u64.wrap ((q0 : Int) * (y1 : Int))) = (r0 : Int) := wrap_rest G0.eq (Nat.lt_trans D.y32.lu (by rw [D.eY]; exact D.YW))
  have HG0 := Lib.hid G0
  have hr0l : r0 < 4294967296 := by rw [hr0]; exact Nat.lt_trans (Nat.mod_lt _ (by omega)) D.y32.hi
  have hq0l := G0.le
  have hy0l := D.y32.ly
  have hy1l := D.y32.hi
  have hl1l := D.y32.ld
  have hl0l := D.ll0
  have HS := Lib.hid hsy
  have HD := Lib.hid D
  have t1 : ((y : Int) == 0) = false := by rw [beq_eq_false_iff_ne]; omega
  have t2 : ¬ (y : Int) ≤ (hi : Int) := by omega
  have t3 : ((hi : Int) == 0) = false := by rw [beq_eq_false_iff_ne]; omega
  have t4 : ¬ (y1 : Int) = 0 := by omega
  clear hlz hsy D hy hlo h h0 hq0 hr0 G0
  go_enter Tryd.func73, Tryd.ntmps73
  go_wp2_with (go_at_call 79; refine (HLZ.out _).mono ?_; rintro e w2 ⟨rfl, rfl⟩)
  clear rY rY1 rY0 rL rL1 rL0 rU rQ rR t1 t2 t3
  go_loop [15, 16] (fun a b => ∃ q r : Nat, a = .int .u64 (q : Int) ∧ b = .int .u64 (r : Int) ∧ Hid (G32 u l1 y1 y0 q r) ∧ Hid (r < 4294967296)) (fun a _ => qOf a)
  case atStart => exact ⟨q0, r0, rfl, rfl, HG0, Lib.hid hr0l⟩
  case round =>
    clear HG0 hr0l hq0l
    obtain ⟨q, r, rfl, rfl, HG, HR⟩ := hrel
    have hr := HR.out
    have hq := HG.out.le
    obtain ⟨m, hm⟩ : ∃ m, m = q * y0 := ⟨_, rfl⟩
    have HM := Lib.hid hm
    have hmw : q < 4294967296 → IntKind.u64.wrap ((q : Int) * (y0 : Int)) = (m : Int) := fun h => by
      rw [hm, ← Int.natCast_mul]; exact wrap_nat (mul_lt32 h hy0l)
    clear hm
    have b1 : (r : Int) < 4294967296 := by omega
    have b2 : (y1 : Int) < 4294967296 := by omega
    have b3 : (l1 : Int) < 4294967296 := by omega
    by_cases hN : (4294967296 ≤ q ∨ 4294967296 * r + l1 < m) ∧ r + y1 < 4294967296
    · have hq1 : 1 ≤ q := by
        rcases hN.1 with h | h
        · omega
        · rcases Nat.eq_zero_or_pos q with h0 | h0
          · rw [HM.out, h0, Nat.zero_mul] at h; omega
          · exact h0
      have HN := Lib.hid (G32.next' HD.out.y32 HG.out hq1 (by rw [← HM.out]; exact hN.1))
      have HB := Lib.hid hN.2
      have a2 : (q : Int) ≤ 4294967297 := by omega
      have a3 : decide ((4294967296 : Int) ≤ (r : Int) + (y1 : Int)) = false := by rw [decide_eq_false_iff_not]; omega
      have a4 : (1 : Int) ≤ (q : Int) := by omega
      by_cases hA2 : 4294967296 ≤ q
      · have a1 : decide ((4294967296 : Int) ≤ (q : Int)) = true := by rw [decide_eq_true_iff]; omega
        clear hN hq hr hmw hq1 hA2
        go_wp2
        go_round
        case rel => exact ⟨q - 1, r + y1, by go_num, by go_num, HN, HB⟩
        case measure => simp [qOf, intOf]; omega
      · have a1 : decide ((4294967296 : Int) ≤ (q : Int)) = false := by rw [decide_eq_false_iff_not]; omega
        have a5 : decide ((4294967296 : Int) * (r : Int) + (l1 : Int) < (m : Int)) = true := by rw [decide_eq_true_iff]; have := hN.1; omega
        have a6 := hmw (by omega)
        clear hN hq hr hmw hq1 hA2
        go_wp2
        go_round
        case rel => exact ⟨q - 1, r + y1, by go_num, by go_num, HN, HB⟩
        case measure => simp [qOf, intOf]; omega
    · -- the three ways out
      have hX : (4294967296 ≤ q ∧ 4294967296 ≤ r + y1) ∨ (q < 4294967296 ∧ 4294967296 * r + l1 < m ∧ 4294967296 ≤ r + y1) ∨ (q < 4294967296 ∧ m ≤ 4294967296 * r + l1) := by omega
      obtain ⟨Q1, hQ1⟩ : ∃ Q1, Q1 = (u * 4294967296 + l1) / Y := ⟨_, rfl⟩
      clear hN
      rcases hX with ⟨hA, hB⟩ | ⟨hA, hA2, hB⟩ | ⟨hA, hB⟩
      · have a1 : decide ((4294967296 : Int) ≤ (q : Int)) = true := by rw [decide_eq_true_iff]; omega
        have a2 : (q : Int) ≤ 4294967297 := by omega
        have a4 : (1 : Int) ≤ (q : Int) := by omega
        have a3 : decide ((4294967296 : Int) ≤ (r : Int) + (y1 : Int)) = true := by rw [decide_eq_true_iff]; omega
        have hd := G32.done HD.out.y32 (G32.next' HD.out.y32 HG.out (by omega) (.inl hA)) (.inl ⟨by omega, hB⟩)
        have eQ : (q : Int) - 1 = (Q1 : Int) := by rw [hQ1, ← HD.out.eY]; omega
        have HQ1 := Lib.hid hQ1
        clear hd hA hB hq hr hmw hQ1
        have e2 : IntKind.u64.wrap (IntKind.u64.wrap (IntKind.u64.wrap ((u : Int) * 4294967296) + (l1 : Int)) - IntKind.u64.wrap ((Q1 : Int) * (Y : Int))) = (((u * 4294967296 + l1) % Y : Nat) : Int) := wrap_left u l1 Q1 Y HD.out.YW HD.out.pos HQ1.out
        obtain ⟨R1, hR1⟩ : ∃ R1, R1 = (u * 4294967296 + l1) % Y := ⟨_, rfl⟩
        rw [← hR1] at e2
        have HR1 := Lib.hid hR1
        have D2 := HD.out.two
        rw [← hR1] at D2
        have HD2 := Lib.hid D2
        clear D2 hR1
        obtain ⟨q0, hq0⟩ : ∃ q0, q0 = R1 / y1 := ⟨_, rfl⟩
        obtain ⟨r0, hr0⟩ : ∃ r0, r0 = R1 % y1 := ⟨_, rfl⟩
        have G0 : G32 R1 l0 y1 y0 q0 r0 := by rw [hq0, hr0]; exact G32.init HD2.out
        have rQ : IntKind.u64.wrap ((R1 : Int) / (y1 : Int)) = (q0 : Int) := by
          rw [← Int.natCast_ediv, ← hq0]; exact wrap_nat (by have := G0.le; unfold W64; omega)
        have rR : IntKind.u64.wrap ((R1 : Int) - IntKind.u64.wrap ((q0 : Int) * (y1 : Int))) = (r0 : Int) := wrap_rest G0.eq (Nat.lt_trans HD2.out.lu (by rw [HD.out.eY]; exact HD.out.YW))
        have HG0 := Lib.hid G0
        have HR0 : Hid (r0 < 4294967296) := Lib.hid (by rw [hr0]; exact Nat.lt_trans (Nat.mod_lt _ (by omega)) HD.out.y32.hi)
        clear hq0 hr0 G0 HR HG HM
        go_wp2
        clear a1 a2 a3 a4 eQ e2 rQ rR b1
        go_loop [18, 16] (fun a b => ∃ q r : Nat, a = .int .u64 (q : Int) ∧ b = .int .u64 (r : Int) ∧ Hid (G32 R1 l0 y1 y0 q r) ∧ Hid (r < 4294967296)) (fun a _ => qOf a)
        case atStart => exact ⟨q0, r0, rfl, rfl, HG0, HR0⟩
        case round =>
          clear HG0 HR0
          obtain ⟨q, r, rfl, rfl, HG, HR⟩ := hrel
          have hr := HR.out
          have hq := HG.out.le
          obtain ⟨m, hm⟩ : ∃ m, m = q * y0 := ⟨_, rfl⟩
          have HM := Lib.hid hm
          have hmw : q < 4294967296 → IntKind.u64.wrap ((q : Int) * (y0 : Int)) = (m : Int) := fun h => by
            rw [hm, ← Int.natCast_mul]; exact wrap_nat (mul_lt32 h hy0l)
          clear hm
          have b1 : (r : Int) < 4294967296 := by omega
          have b4 : (l0 : Int) < 4294967296 := by omega
          by_cases hN : (4294967296 ≤ q ∨ 4294967296 * r + l0 < m) ∧ r + y1 < 4294967296
          · have hq1 : 1 ≤ q := by
              rcases hN.1 with h | h
              · omega
              · rcases Nat.eq_zero_or_pos q with h0 | h0
                · rw [HM.out, h0, Nat.zero_mul] at h; omega
                · exact h0
            have HN := Lib.hid (G32.next' HD2.out HG.out hq1 (by rw [← HM.out]; exact hN.1))
            have HB := Lib.hid hN.2
            have a2 : (q : Int) ≤ 4294967297 := by omega
            have a3 : decide ((4294967296 : Int) ≤ (r : Int) + (y1 : Int)) = false := by rw [decide_eq_false_iff_not]; omega
            have a4 : (1 : Int) ≤ (q : Int) := by omega
            by_cases hA2 : 4294967296 ≤ q
            · have a1 : decide ((4294967296 : Int) ≤ (q : Int)) = true := by rw [decide_eq_true_iff]; omega
              clear hN hq hr hmw hq1 hA2
              go_wp2
              go_round
              case rel => exact ⟨q - 1, r + y1, by go_num, by go_num, HN, HB⟩
              case measure => simp [qOf, intOf]; omega
            · have a1 : decide ((4294967296 : Int) ≤ (q : Int)) = false := by rw [decide_eq_false_iff_not]; omega
              have a5 : decide ((4294967296 : Int) * (r : Int) + (l0 : Int) < (m : Int)) = true := by rw [decide_eq_true_iff]; have := hN.1; omega
              have a6 := hmw (by omega)
              clear hN hq hr hmw hq1 hA2
              go_wp2
              go_round
              case rel => exact ⟨q - 1, r + y1, by go_num, by go_num, HN, HB⟩
              case measure => simp [qOf, intOf]; omega
          · have hX : (4294967296 ≤ q ∧ 4294967296 ≤ r + y1) ∨ (q < 4294967296 ∧ 4294967296 * r + l0 < m ∧ 4294967296 ≤ r + y1) ∨ (q < 4294967296 ∧ m ≤ 4294967296 * r + l0) := by omega
            obtain ⟨Q2, hQ2⟩ : ∃ Q2, Q2 = (R1 * 4294967296 + l0) / Y := ⟨_, rfl⟩
            clear hN
            rcases hX with ⟨hA, hB⟩ | ⟨hA, hA2, hB⟩ | ⟨hA, hB⟩
            · have a1 : decide ((4294967296 : Int) ≤ (q : Int)) = true := by rw [decide_eq_true_iff]; omega
              have a2 : (q : Int) ≤ 4294967297 := by omega
              have a4 : (1 : Int) ≤ (q : Int) := by omega
              have a3 : decide ((4294967296 : Int) ≤ (r : Int) + (y1 : Int)) = true := by rw [decide_eq_true_iff]; omega
              have hd := G32.done HD2.out (G32.next' HD2.out HG.out (by omega) (.inl hA)) (.inl ⟨by omega, hB⟩)
              have eQ : (q : Int) - 1 = (Q2 : Int) := by rw [hQ2, ← HD.out.eY]; omega
              have HQ2 := Lib.hid hQ2
              clear hd hA hB hq hr hmw hQ2
              have e3 : IntKind.u64.wrap (IntKind.u64.wrap ((Q1 : Int) * 4294967296) + (Q2 : Int)) = (((hi * W64 + lo) / y : Nat) : Int) := wrap_whole (by rw [HQ1.out, HQ2.out, HR1.out]; exact (HD.out.end_ (by have := HYH.out; omega)).1) (by rw [Nat.div_lt_iff_lt_mul (by have := HYH.out; omega)]; have h1 := HYH.out; have h2 := HLO.out; have h3 : (hi + 1) * W64 ≤ y * W64 := Nat.mul_le_mul_right _ h1; rw [Nat.add_mul] at h3; rw [Nat.mul_comm W64]; omega)
              have e4 : IntKind.u64.wrap (IntKind.u64.wrap (IntKind.u64.wrap ((R1 : Int) * 4294967296) + (l0 : Int)) - IntKind.u64.wrap ((Q2 : Int) * (Y : Int))) = (((R1 * 4294967296 + l0) % Y : Nat) : Int) := wrap_left R1 l0 Q2 Y HD.out.YW HD.out.pos HQ2.out
              obtain ⟨R2, hR2⟩ : ∃ R2, R2 = (R1 * 4294967296 + l0) % Y := ⟨_, rfl⟩
              rw [← hR2] at e4
              have HR2 := Lib.hid hR2
              clear hR2
              go_wp2
              go_ret2
              refine ⟨ret_two rfl ?_, 0, rfl⟩
              have hk := (HD.out.end_ (by have := HYH.out; omega)).2
              rw [← HR1.out, ← HR2.out] at hk
              simpa using congrArg (fun n : Nat => (n : Int)) hk
            · have a1 : decide ((4294967296 : Int) ≤ (q : Int)) = false := by rw [decide_eq_false_iff_not]; omega
              have a5 : decide ((4294967296 : Int) * (r : Int) + (l0 : Int) < (m : Int)) = true := by rw [decide_eq_true_iff]; omega
              have a6 := hmw hA
              have hq1 : 1 ≤ q := by
                rcases Nat.eq_zero_or_pos q with h0 | h0
                · have h := HM.out; rw [h0, Nat.zero_mul] at h; omega
                · exact h0
              have a2 : (q : Int) ≤ 4294967297 := by omega
              have a4 : (1 : Int) ≤ (q : Int) := by omega
              have a3 : decide ((4294967296 : Int) ≤ (r : Int) + (y1 : Int)) = true := by rw [decide_eq_true_iff]; omega
              have hd := G32.done HD2.out (G32.next' HD2.out HG.out hq1 (.inr (by rw [← HM.out]; exact hA2))) (.inl ⟨by omega, hB⟩)
              have eQ : (q : Int) - 1 = (Q2 : Int) := by rw [hQ2, ← HD.out.eY]; omega
              have HQ2 := Lib.hid hQ2
              clear hd hA hA2 hB hq hr hmw hQ2 hq1
              have e3 : IntKind.u64.wrap (IntKind.u64.wrap ((Q1 : Int) * 4294967296) + (Q2 : Int)) = (((hi * W64 + lo) / y : Nat) : Int) := wrap_whole (by rw [HQ1.out, HQ2.out, HR1.out]; exact (HD.out.end_ (by have := HYH.out; omega)).1) (by rw [Nat.div_lt_iff_lt_mul (by have := HYH.out; omega)]; have h1 := HYH.out; have h2 := HLO.out; have h3 : (hi + 1) * W64 ≤ y * W64 := Nat.mul_le_mul_right _ h1; rw [Nat.add_mul] at h3; rw [Nat.mul_comm W64]; omega)
              have e4 : IntKind.u64.wrap (IntKind.u64.wrap (IntKind.u64.wrap ((R1 : Int) * 4294967296) + (l0 : Int)) - IntKind.u64.wrap ((Q2 : Int) * (Y : Int))) = (((R1 * 4294967296 + l0) % Y : Nat) : Int) := wrap_left R1 l0 Q2 Y HD.out.YW HD.out.pos HQ2.out
              obtain ⟨R2, hR2⟩ : ∃ R2, R2 = (R1 * 4294967296 + l0) % Y := ⟨_, rfl⟩
              rw [← hR2] at e4
              have HR2 := Lib.hid hR2
              clear hR2
              go_wp2
              go_ret2
              refine ⟨ret_two rfl ?_, 0, rfl⟩
              have hk := (HD.out.end_ (by have := HYH.out; omega)).2
              rw [← HR1.out, ← HR2.out] at hk
              simpa using congrArg (fun n : Nat => (n : Int)) hk
            · have a1 : decide ((4294967296 : Int) ≤ (q : Int)) = false := by rw [decide_eq_false_iff_not]; omega
              have a5 : decide ((4294967296 : Int) * (r : Int) + (l0 : Int) < (m : Int)) = false := by rw [decide_eq_false_iff_not]; omega
              have a6 := hmw hA
              have hd := G32.done HD2.out HG.out (.inr ⟨hA, by rw [← HM.out]; exact hB⟩)
              have eQ : Q2 = q := by rw [hQ2, ← HD.out.eY, ← hd]
              subst eQ
              have HQ2 := Lib.hid hQ2
              clear hd hA hB hq hr hmw hQ2
              have e3 : IntKind.u64.wrap (IntKind.u64.wrap ((Q1 : Int) * 4294967296) + (Q2 : Int)) = (((hi * W64 + lo) / y : Nat) : Int) := wrap_whole (by rw [HQ1.out, HQ2.out, HR1.out]; exact (HD.out.end_ (by have := HYH.out; omega)).1) (by rw [Nat.div_lt_iff_lt_mul (by have := HYH.out; omega)]; have h1 := HYH.out; have h2 := HLO.out; have h3 : (hi + 1) * W64 ≤ y * W64 := Nat.mul_le_mul_right _ h1; rw [Nat.add_mul] at h3; rw [Nat.mul_comm W64]; omega)
              have e4 : IntKind.u64.wrap (IntKind.u64.wrap (IntKind.u64.wrap ((R1 : Int) * 4294967296) + (l0 : Int)) - IntKind.u64.wrap ((Q2 : Int) * (Y : Int))) = (((R1 * 4294967296 + l0) % Y : Nat) : Int) := wrap_left R1 l0 Q2 Y HD.out.YW HD.out.pos HQ2.out
              obtain ⟨R2, hR2⟩ : ∃ R2, R2 = (R1 * 4294967296 + l0) % Y := ⟨_, rfl⟩
              rw [← hR2] at e4
              have HR2 := Lib.hid hR2
              clear hR2
              go_wp2
              go_ret2
              refine ⟨ret_two rfl ?_, 0, rfl⟩
              have hk := (HD.out.end_ (by have := HYH.out; omega)).2
              rw [← HR1.out, ← HR2.out] at hk
              simpa using congrArg (fun n : Nat => (n : Int)) hk
      · have a1 : decide ((4294967296 : Int) ≤ (q : Int)) = false := by rw [decide_eq_false_iff_not]; omega
        have a5 : decide ((4294967296 : Int) * (r : Int) + (l1 : Int) < (m : Int)) = true := by rw [decide_eq_true_iff]; omega
        have a6 := hmw hA
        have hq1 : 1 ≤ q := by
          rcases Nat.eq_zero_or_pos q with h0 | h0
          · have h := HM.out; rw [h0, Nat.zero_mul] at h; omega
          · exact h0
        have a2 : (q : Int) ≤ 4294967297 := by omega
        have a4 : (1 : Int) ≤ (q : Int) := by omega
        have a3 : decide ((4294967296 : Int) ≤ (r : Int) + (y1 : Int)) = true := by rw [decide_eq_true_iff]; omega
        have hd := G32.done HD.out.y32 (G32.next' HD.out.y32 HG.out hq1 (.inr (by rw [← HM.out]; exact hA2))) (.inl ⟨by omega, hB⟩)
        have eQ : (q : Int) - 1 = (Q1 : Int) := by rw [hQ1, ← HD.out.eY]; omega
        have HQ1 := Lib.hid hQ1
        clear hd hA hA2 hB hq hr hmw hQ1 hq1
        have e2 : IntKind.u64.wrap (IntKind.u64.wrap (IntKind.u64.wrap ((u : Int) * 4294967296) + (l1 : Int)) - IntKind.u64.wrap ((Q1 : Int) * (Y : Int))) = (((u * 4294967296 + l1) % Y : Nat) : Int) := wrap_left u l1 Q1 Y HD.out.YW HD.out.pos HQ1.out
        obtain ⟨R1, hR1⟩ : ∃ R1, R1 = (u * 4294967296 + l1) % Y := ⟨_, rfl⟩
        rw [← hR1] at e2
        have HR1 := Lib.hid hR1
        have D2 := HD.out.two
        rw [← hR1] at D2
        have HD2 := Lib.hid D2
        clear D2 hR1
        obtain ⟨q0, hq0⟩ : ∃ q0, q0 = R1 / y1 := ⟨_, rfl⟩
        obtain ⟨r0, hr0⟩ : ∃ r0, r0 = R1 % y1 := ⟨_, rfl⟩
        have G0 : G32 R1 l0 y1 y0 q0 r0 := by rw [hq0, hr0]; exact G32.init HD2.out
        have rQ : IntKind.u64.wrap ((R1 : Int) / (y1 : Int)) = (q0 : Int) := by
          rw [← Int.natCast_ediv, ← hq0]; exact wrap_nat (by have := G0.le; unfold W64; omega)
        have rR : IntKind.u64.wrap ((R1 : Int) - IntKind.u64.wrap ((q0 : Int) * (y1 : Int))) = (r0 : Int) := wrap_rest G0.eq (Nat.lt_trans HD2.out.lu (by rw [HD.out.eY]; exact HD.out.YW))
        have HG0 := Lib.hid G0
        have HR0 : Hid (r0 < 4294967296) := Lib.hid (by rw [hr0]; exact Nat.lt_trans (Nat.mod_lt _ (by omega)) HD.out.y32.hi)
        clear hq0 hr0 G0 HR HG HM
        go_wp2
        clear a1 a2 a3 a4 a5 a6 eQ e2 rQ rR b1
        go_loop [18, 16] (fun a b => ∃ q r : Nat, a = .int .u64 (q : Int) ∧ b = .int .u64 (r : Int) ∧ Hid (G32 R1 l0 y1 y0 q r) ∧ Hid (r < 4294967296)) (fun a _ => qOf a)
        case atStart => exact ⟨q0, r0, rfl, rfl, HG0, HR0⟩
        case round =>
          clear HG0 HR0
          obtain ⟨q, r, rfl, rfl, HG, HR⟩ := hrel
          have hr := HR.out
          have hq := HG.out.le
          obtain ⟨m, hm⟩ : ∃ m, m = q * y0 := ⟨_, rfl⟩
          have HM := Lib.hid hm
          have hmw : q < 4294967296 → IntKind.u64.wrap ((q : Int) * (y0 : Int)) = (m : Int) := fun h => by
            rw [hm, ← Int.natCast_mul]; exact wrap_nat (mul_lt32 h hy0l)
          clear hm
          have b1 : (r : Int) < 4294967296 := by omega
          have b4 : (l0 : Int) < 4294967296 := by omega
          by_cases hN : (4294967296 ≤ q ∨ 4294967296 * r + l0 < m) ∧ r + y1 < 4294967296
          · have hq1 : 1 ≤ q := by
              rcases hN.1 with h | h
              · omega
              · rcases Nat.eq_zero_or_pos q with h0 | h0
                · rw [HM.out, h0, Nat.zero_mul] at h; omega
                · exact h0
            have HN := Lib.hid (G32.next' HD2.out HG.out hq1 (by rw [← HM.out]; exact hN.1))
            have HB := Lib.hid hN.2
            have a2 : (q : Int) ≤ 4294967297 := by omega
            have a3 : decide ((4294967296 : Int) ≤ (r : Int) + (y1 : Int)) = false := by rw [decide_eq_false_iff_not]; omega
            have a4 : (1 : Int) ≤ (q : Int) := by omega
            by_cases hA2 : 4294967296 ≤ q
            · have a1 : decide ((4294967296 : Int) ≤ (q : Int)) = true := by rw [decide_eq_true_iff]; omega
              clear hN hq hr hmw hq1 hA2
              go_wp2
              go_round
              case rel => exact ⟨q - 1, r + y1, by go_num, by go_num, HN, HB⟩
              case measure => simp [qOf, intOf]; omega
            · have a1 : decide ((4294967296 : Int) ≤ (q : Int)) = false := by rw [decide_eq_false_iff_not]; omega
              have a5 : decide ((4294967296 : Int) * (r : Int) + (l0 : Int) < (m : Int)) = true := by rw [decide_eq_true_iff]; have := hN.1; omega
              have a6 := hmw (by omega)
              clear hN hq hr hmw hq1 hA2
              go_wp2
              go_round
              case rel => exact ⟨q - 1, r + y1, by go_num, by go_num, HN, HB⟩
              case measure => simp [qOf, intOf]; omega
          · have hX : (4294967296 ≤ q ∧ 4294967296 ≤ r + y1) ∨ (q < 4294967296 ∧ 4294967296 * r + l0 < m ∧ 4294967296 ≤ r + y1) ∨ (q < 4294967296 ∧ m ≤ 4294967296 * r + l0) := by omega
            obtain ⟨Q2, hQ2⟩ : ∃ Q2, Q2 = (R1 * 4294967296 + l0) / Y := ⟨_, rfl⟩
            clear hN
            rcases hX with ⟨hA, hB⟩ | ⟨hA, hA2, hB⟩ | ⟨hA, hB⟩
            · have a1 : decide ((4294967296 : Int) ≤ (q : Int)) = true := by rw [decide_eq_true_iff]; omega
              have a2 : (q : Int) ≤ 4294967297 := by omega
              have a4 : (1 : Int) ≤ (q : Int) := by omega
              have a3 : decide ((4294967296 : Int) ≤ (r : Int) + (y1 : Int)) = true := by rw [decide_eq_true_iff]; omega
              have hd := G32.done HD2.out (G32.next' HD2.out HG.out (by omega) (.inl hA)) (.inl ⟨by omega, hB⟩)
              have eQ : (q : Int) - 1 = (Q2 : Int) := by rw [hQ2, ← HD.out.eY]; omega
              have HQ2 := Lib.hid hQ2
              clear hd hA hB hq hr hmw hQ2
              have e3 : IntKind.u64.wrap (IntKind.u64.wrap ((Q1 : Int) * 4294967296) + (Q2 : Int)) = (((hi * W64 + lo) / y : Nat) : Int) := wrap_whole (by rw [HQ1.out, HQ2.out, HR1.out]; exact (HD.out.end_ (by have := HYH.out; omega)).1) (by rw [Nat.div_lt_iff_lt_mul (by have := HYH.out; omega)]; have h1 := HYH.out; have h2 := HLO.out; have h3 : (hi + 1) * W64 ≤ y * W64 := Nat.mul_le_mul_right _ h1; rw [Nat.add_mul] at h3; rw [Nat.mul_comm W64]; omega)
              have e4 : IntKind.u64.wrap (IntKind.u64.wrap (IntKind.u64.wrap ((R1 : Int) * 4294967296) + (l0 : Int)) - IntKind.u64.wrap ((Q2 : Int) * (Y : Int))) = (((R1 * 4294967296 + l0) % Y : Nat) : Int) := wrap_left R1 l0 Q2 Y HD.out.YW HD.out.pos HQ2.out
              obtain ⟨R2, hR2⟩ : ∃ R2, R2 = (R1 * 4294967296 + l0) % Y := ⟨_, rfl⟩
              rw [← hR2] at e4
              have HR2 := Lib.hid hR2
              clear hR2
              go_wp2
              go_ret2
              refine ⟨ret_two rfl ?_, 0, rfl⟩
              have hk := (HD.out.end_ (by have := HYH.out; omega)).2
              rw [← HR1.out, ← HR2.out] at hk
              simpa using congrArg (fun n : Nat => (n : Int)) hk
            · have a1 : decide ((4294967296 : Int) ≤ (q : Int)) = false := by rw [decide_eq_false_iff_not]; omega
              have a5 : decide ((4294967296 : Int) * (r : Int) + (l0 : Int) < (m : Int)) = true := by rw [decide_eq_true_iff]; omega
              have a6 := hmw hA
              have hq1 : 1 ≤ q := by
                rcases Nat.eq_zero_or_pos q with h0 | h0
                · have h := HM.out; rw [h0, Nat.zero_mul] at h; omega
                · exact h0
              have a2 : (q : Int) ≤ 4294967297 := by omega
              have a4 : (1 : Int) ≤ (q : Int) := by omega
              have a3 : decide ((4294967296 : Int) ≤ (r : Int) + (y1 : Int)) = true := by rw [decide_eq_true_iff]; omega
              have hd := G32.done HD2.out (G32.next' HD2.out HG.out hq1 (.inr (by rw [← HM.out]; exact hA2))) (.inl ⟨by omega, hB⟩)
              have eQ : (q : Int) - 1 = (Q2 : Int) := by rw [hQ2, ← HD.out.eY]; omega
              have HQ2 := Lib.hid hQ2
              clear hd hA hA2 hB hq hr hmw hQ2 hq1
              have e3 : IntKind.u64.wrap (IntKind.u64.wrap ((Q1 : Int) * 4294967296) + (Q2 : Int)) = (((hi * W64 + lo) / y : Nat) : Int) := wrap_whole (by rw [HQ1.out, HQ2.out, HR1.out]; exact (HD.out.end_ (by have := HYH.out; omega)).1) (by rw [Nat.div_lt_iff_lt_mul (by have := HYH.out; omega)]; have h1 := HYH.out; have h2 := HLO.out; have h3 : (hi + 1) * W64 ≤ y * W64 := Nat.mul_le_mul_right _ h1; rw [Nat.add_mul] at h3; rw [Nat.mul_comm W64]; omega)
              have e4 : IntKind.u64.wrap (IntKind.u64.wrap (IntKind.u64.wrap ((R1 : Int) * 4294967296) + (l0 : Int)) - IntKind.u64.wrap ((Q2 : Int) * (Y : Int))) = (((R1 * 4294967296 + l0) % Y : Nat) : Int) := wrap_left R1 l0 Q2 Y HD.out.YW HD.out.pos HQ2.out
              obtain ⟨R2, hR2⟩ : ∃ R2, R2 = (R1 * 4294967296 + l0) % Y := ⟨_, rfl⟩
              rw [← hR2] at e4
              have HR2 := Lib.hid hR2
              clear hR2
              go_wp2
              go_ret2
              refine ⟨ret_two rfl ?_, 0, rfl⟩
              have hk := (HD.out.end_ (by have := HYH.out; omega)).2
              rw [← HR1.out, ← HR2.out] at hk
              simpa using congrArg (fun n : Nat => (n : Int)) hk
            · have a1 : decide ((4294967296 : Int) ≤ (q : Int)) = false := by rw [decide_eq_false_iff_not]; omega
              have a5 : decide ((4294967296 : Int) * (r : Int) + (l0 : Int) < (m : Int)) = false := by rw [decide_eq_false_iff_not]; omega
              have a6 := hmw hA
              have hd := G32.done HD2.out HG.out (.inr ⟨hA, by rw [← HM.out]; exact hB⟩)
              have eQ : Q2 = q := by rw [hQ2, ← HD.out.eY, ← hd]
              subst eQ
              have HQ2 := Lib.hid hQ2
              clear hd hA hB hq hr hmw hQ2
              have e3 : IntKind.u64.wrap (IntKind.u64.wrap ((Q1 : Int) * 4294967296) + (Q2 : Int)) = (((hi * W64 + lo) / y : Nat) : Int) := wrap_whole (by rw [HQ1.out, HQ2.out, HR1.out]; exact (HD.out.end_ (by have := HYH.out; omega)).1) (by rw [Nat.div_lt_iff_lt_mul (by have := HYH.out; omega)]; have h1 := HYH.out; have h2 := HLO.out; have h3 : (hi + 1) * W64 ≤ y * W64 := Nat.mul_le_mul_right _ h1; rw [Nat.add_mul] at h3; rw [Nat.mul_comm W64]; omega)
              have e4 : IntKind.u64.wrap (IntKind.u64.wrap (IntKind.u64.wrap ((R1 : Int) * 4294967296) + (l0 : Int)) - IntKind.u64.wrap ((Q2 : Int) * (Y : Int))) = (((R1 * 4294967296 + l0) % Y : Nat) : Int) := wrap_left R1 l0 Q2 Y HD.out.YW HD.out.pos HQ2.out
              obtain ⟨R2, hR2⟩ : ∃ R2, R2 = (R1 * 4294967296 + l0) % Y := ⟨_, rfl⟩
              rw [← hR2] at e4
              have HR2 := Lib.hid hR2
              clear hR2
              go_wp2
              go_ret2
              refine ⟨ret_two rfl ?_, 0, rfl⟩
              have hk := (HD.out.end_ (by have := HYH.out; omega)).2
              rw [← HR1.out, ← HR2.out] at hk
              simpa using congrArg (fun n : Nat => (n : Int)) hk
      · have a1 : decide ((4294967296 : Int) ≤ (q : Int)) = false := by rw [decide_eq_false_iff_not]; omega
        have a5 : decide ((4294967296 : Int) * (r : Int) + (l1 : Int) < (m : Int)) = false := by rw [decide_eq_false_iff_not]; omega
        have a6 := hmw hA
        have hd := G32.done HD.out.y32 HG.out (.inr ⟨hA, by rw [← HM.out]; exact hB⟩)
        have eQ : Q1 = q := by rw [hQ1, ← HD.out.eY, ← hd]
        subst eQ
        have HQ1 := Lib.hid hQ1
        clear hd hA hB hq hr hmw hQ1
        have e2 : IntKind.u64.wrap (IntKind.u64.wrap (IntKind.u64.wrap ((u : Int) * 4294967296) + (l1 : Int)) - IntKind.u64.wrap ((Q1 : Int) * (Y : Int))) = (((u * 4294967296 + l1) % Y : Nat) : Int) := wrap_left u l1 Q1 Y HD.out.YW HD.out.pos HQ1.out
        obtain ⟨R1, hR1⟩ : ∃ R1, R1 = (u * 4294967296 + l1) % Y := ⟨_, rfl⟩
        rw [← hR1] at e2
        have HR1 := Lib.hid hR1
        have D2 := HD.out.two
        rw [← hR1] at D2
        have HD2 := Lib.hid D2
        clear D2 hR1
        obtain ⟨q0, hq0⟩ : ∃ q0, q0 = R1 / y1 := ⟨_, rfl⟩
        obtain ⟨r0, hr0⟩ : ∃ r0, r0 = R1 % y1 := ⟨_, rfl⟩
        have G0 : G32 R1 l0 y1 y0 q0 r0 := by rw [hq0, hr0]; exact G32.init HD2.out
        have rQ : IntKind.u64.wrap ((R1 : Int) / (y1 : Int)) = (q0 : Int) := by
          rw [← Int.natCast_ediv, ← hq0]; exact wrap_nat (by have := G0.le; unfold W64; omega)
        have rR : IntKind.u64.wrap ((R1 : Int) - IntKind.u64.wrap ((q0 : Int) * (y1 : Int))) = (r0 : Int) := wrap_rest G0.eq (Nat.lt_trans HD2.out.lu (by rw [HD.out.eY]; exact HD.out.YW))
        have HG0 := Lib.hid G0
        have HR0 : Hid (r0 < 4294967296) := Lib.hid (by rw [hr0]; exact Nat.lt_trans (Nat.mod_lt _ (by omega)) HD.out.y32.hi)
        clear hq0 hr0 G0 HR HG HM
        go_wp2
        clear a1 a5 a6 e2 rQ rR b1
        go_loop [18, 16] (fun a b => ∃ q r : Nat, a = .int .u64 (q : Int) ∧ b = .int .u64 (r : Int) ∧ Hid (G32 R1 l0 y1 y0 q r) ∧ Hid (r < 4294967296)) (fun a _ => qOf a)
        case atStart => exact ⟨q0, r0, rfl, rfl, HG0, HR0⟩
        case round =>
          clear HG0 HR0
          obtain ⟨q, r, rfl, rfl, HG, HR⟩ := hrel
          have hr := HR.out
          have hq := HG.out.le
          obtain ⟨m, hm⟩ : ∃ m, m = q * y0 := ⟨_, rfl⟩
          have HM := Lib.hid hm
          have hmw : q < 4294967296 → IntKind.u64.wrap ((q : Int) * (y0 : Int)) = (m : Int) := fun h => by
            rw [hm, ← Int.natCast_mul]; exact wrap_nat (mul_lt32 h hy0l)
          clear hm
          have b1 : (r : Int) < 4294967296 := by omega
          have b4 : (l0 : Int) < 4294967296 := by omega
          by_cases hN : (4294967296 ≤ q ∨ 4294967296 * r + l0 < m) ∧ r + y1 < 4294967296
          · have hq1 : 1 ≤ q := by
              rcases hN.1 with h | h
              · omega
              · rcases Nat.eq_zero_or_pos q with h0 | h0
                · rw [HM.out, h0, Nat.zero_mul] at h; omega
                · exact h0
            have HN := Lib.hid (G32.next' HD2.out HG.out hq1 (by rw [← HM.out]; exact hN.1))
            have HB := Lib.hid hN.2
            have a2 : (q : Int) ≤ 4294967297 := by omega
            have a3 : decide ((4294967296 : Int) ≤ (r : Int) + (y1 : Int)) = false := by rw [decide_eq_false_iff_not]; omega
            have a4 : (1 : Int) ≤ (q : Int) := by omega
            by_cases hA2 : 4294967296 ≤ q
            · have a1 : decide ((4294967296 : Int) ≤ (q : Int)) = true := by rw [decide_eq_true_iff]; omega
              clear hN hq hr hmw hq1 hA2
              go_wp2
              go_round
              case rel => exact ⟨q - 1, r + y1, by go_num, by go_num, HN, HB⟩
              case measure => simp [qOf, intOf]; omega
            · have a1 : decide ((4294967296 : Int) ≤ (q : Int)) = false := by rw [decide_eq_false_iff_not]; omega
              have a5 : decide ((4294967296 : Int) * (r : Int) + (l0 : Int) < (m : Int)) = true := by rw [decide_eq_true_iff]; have := hN.1; omega
              have a6 := hmw (by omega)
              clear hN hq hr hmw hq1 hA2
              go_wp2
              go_round
              case rel => exact ⟨q - 1, r + y1, by go_num, by go_num, HN, HB⟩
              case measure => simp [qOf, intOf]; omega
          · have hX : (4294967296 ≤ q ∧ 4294967296 ≤ r + y1) ∨ (q < 4294967296 ∧ 4294967296 * r + l0 < m ∧ 4294967296 ≤ r + y1) ∨ (q < 4294967296 ∧ m ≤ 4294967296 * r + l0) := by omega
            obtain ⟨Q2, hQ2⟩ : ∃ Q2, Q2 = (R1 * 4294967296 + l0) / Y := ⟨_, rfl⟩
            clear hN
            rcases hX with ⟨hA, hB⟩ | ⟨hA, hA2, hB⟩ | ⟨hA, hB⟩
            · have a1 : decide ((4294967296 : Int) ≤ (q : Int)) = true := by rw [decide_eq_true_iff]; omega
              have a2 : (q : Int) ≤ 4294967297 := by omega
              have a4 : (1 : Int) ≤ (q : Int) := by omega
              have a3 : decide ((4294967296 : Int) ≤ (r : Int) + (y1 : Int)) = true := by rw [decide_eq_true_iff]; omega
              have hd := G32.done HD2.out (G32.next' HD2.out HG.out (by omega) (.inl hA)) (.inl ⟨by omega, hB⟩)
              have eQ : (q : Int) - 1 = (Q2 : Int) := by rw [hQ2, ← HD.out.eY]; omega
              have HQ2 := Lib.hid hQ2
              clear hd hA hB hq hr hmw hQ2
              have e3 : IntKind.u64.wrap (IntKind.u64.wrap ((Q1 : Int) * 4294967296) + (Q2 : Int)) = (((hi * W64 + lo) / y : Nat) : Int) := wrap_whole (by rw [HQ1.out, HQ2.out, HR1.out]; exact (HD.out.end_ (by have := HYH.out; omega)).1) (by rw [Nat.div_lt_iff_lt_mul (by have := HYH.out; omega)]; have h1 := HYH.out; have h2 := HLO.out; have h3 : (hi + 1) * W64 ≤ y * W64 := Nat.mul_le_mul_right _ h1; rw [Nat.add_mul] at h3; rw [Nat.mul_comm W64]; omega)
              have e4 : IntKind.u64.wrap (IntKind.u64.wrap (IntKind.u64.wrap ((R1 : Int) * 4294967296) + (l0 : Int)) - IntKind.u64.wrap ((Q2 : Int) * (Y : Int))) = (((R1 * 4294967296 + l0) % Y : Nat) : Int) := wrap_left R1 l0 Q2 Y HD.out.YW HD.out.pos HQ2.out
              obtain ⟨R2, hR2⟩ : ∃ R2, R2 = (R1 * 4294967296 + l0) % Y := ⟨_, rfl⟩
              rw [← hR2] at e4
              have HR2 := Lib.hid hR2
              clear hR2
              go_wp2
              go_ret2
              refine ⟨ret_two rfl ?_, 0, rfl⟩
              have hk := (HD.out.end_ (by have := HYH.out; omega)).2
              rw [← HR1.out, ← HR2.out] at hk
              simpa using congrArg (fun n : Nat => (n : Int)) hk
            · have a1 : decide ((4294967296 : Int) ≤ (q : Int)) = false := by rw [decide_eq_false_iff_not]; omega
              have a5 : decide ((4294967296 : Int) * (r : Int) + (l0 : Int) < (m : Int)) = true := by rw [decide_eq_true_iff]; omega
              have a6 := hmw hA
              have hq1 : 1 ≤ q := by
                rcases Nat.eq_zero_or_pos q with h0 | h0
                · have h := HM.out; rw [h0, Nat.zero_mul] at h; omega
                · exact h0
              have a2 : (q : Int) ≤ 4294967297 := by omega
              have a4 : (1 : Int) ≤ (q : Int) := by omega
              have a3 : decide ((4294967296 : Int) ≤ (r : Int) + (y1 : Int)) = true := by rw [decide_eq_true_iff]; omega
              have hd := G32.done HD2.out (G32.next' HD2.out HG.out hq1 (.inr (by rw [← HM.out]; exact hA2))) (.inl ⟨by omega, hB⟩)
              have eQ : (q : Int) - 1 = (Q2 : Int) := by rw [hQ2, ← HD.out.eY]; omega
              have HQ2 := Lib.hid hQ2
              clear hd hA hA2 hB hq hr hmw hQ2 hq1
              have e3 : IntKind.u64.wrap (IntKind.u64.wrap ((Q1 : Int) * 4294967296) + (Q2 : Int)) = (((hi * W64 + lo) / y : Nat) : Int) := wrap_whole (by rw [HQ1.out, HQ2.out, HR1.out]; exact (HD.out.end_ (by have := HYH.out; omega)).1) (by rw [Nat.div_lt_iff_lt_mul (by have := HYH.out; omega)]; have h1 := HYH.out; have h2 := HLO.out; have h3 : (hi + 1) * W64 ≤ y * W64 := Nat.mul_le_mul_right _ h1; rw [Nat.add_mul] at h3; rw [Nat.mul_comm W64]; omega)
              have e4 : IntKind.u64.wrap (IntKind.u64.wrap (IntKind.u64.wrap ((R1 : Int) * 4294967296) + (l0 : Int)) - IntKind.u64.wrap ((Q2 : Int) * (Y : Int))) = (((R1 * 4294967296 + l0) % Y : Nat) : Int) := wrap_left R1 l0 Q2 Y HD.out.YW HD.out.pos HQ2.out
              obtain ⟨R2, hR2⟩ : ∃ R2, R2 = (R1 * 4294967296 + l0) % Y := ⟨_, rfl⟩
              rw [← hR2] at e4
              have HR2 := Lib.hid hR2
              clear hR2
              go_wp2
              go_ret2
              refine ⟨ret_two rfl ?_, 0, rfl⟩
              have hk := (HD.out.end_ (by have := HYH.out; omega)).2
              rw [← HR1.out, ← HR2.out] at hk
              simpa using congrArg (fun n : Nat => (n : Int)) hk
            · have a1 : decide ((4294967296 : Int) ≤ (q : Int)) = false := by rw [decide_eq_false_iff_not]; omega
              have a5 : decide ((4294967296 : Int) * (r : Int) + (l0 : Int) < (m : Int)) = false := by rw [decide_eq_false_iff_not]; omega
              have a6 := hmw hA
              have hd := G32.done HD2.out HG.out (.inr ⟨hA, by rw [← HM.out]; exact hB⟩)
              have eQ : Q2 = q := by rw [hQ2, ← HD.out.eY, ← hd]
              subst eQ
              have HQ2 := Lib.hid hQ2
              clear hd hA hB hq hr hmw hQ2
              have e3 : IntKind.u64.wrap (IntKind.u64.wrap ((Q1 : Int) * 4294967296) + (Q2 : Int)) = (((hi * W64 + lo) / y : Nat) : Int) := wrap_whole (by rw [HQ1.out, HQ2.out, HR1.out]; exact (HD.out.end_ (by have := HYH.out; omega)).1) (by rw [Nat.div_lt_iff_lt_mul (by have := HYH.out; omega)]; have h1 := HYH.out; have h2 := HLO.out; have h3 : (hi + 1) * W64 ≤ y * W64 := Nat.mul_le_mul_right _ h1; rw [Nat.add_mul] at h3; rw [Nat.mul_comm W64]; omega)
              have e4 : IntKind.u64.wrap (IntKind.u64.wrap (IntKind.u64.wrap ((R1 : Int) * 4294967296) + (l0 : Int)) - IntKind.u64.wrap ((Q2 : Int) * (Y : Int))) = (((R1 * 4294967296 + l0) % Y : Nat) : Int) := wrap_left R1 l0 Q2 Y HD.out.YW HD.out.pos HQ2.out
              obtain ⟨R2, hR2⟩ : ∃ R2, R2 = (R1 * 4294967296 + l0) % Y := ⟨_, rfl⟩
              rw [← hR2] at e4
              have HR2 := Lib.hid hR2
              clear hR2
              go_wp2
              go_ret2
              refine ⟨ret_two rfl ?_, 0, rfl⟩
              have hk := (HD.out.end_ (by have := HYH.out; omega)).2
              rw [← HR1.out, ← HR2.out] at hk
              simpa using congrArg (fun n : Nat => (n : Int)) hk
end Go.Proofs.YtpgnlpjjpgdoiaaDoor
/- The contracts of Div64 whole and of byWord. -/
namespace Go.Proofs.YtpgnlpjjpgdoiaaDoor
open Go Go.RowKit
set_option linter.unusedVariables false
set_option linter.unusedSimpArgs false
set_option maxRecDepth 100000 in
set_option maxHeartbeats 4000000 in
theorem div64_small (lo y : Nat) (w : World) (h : 0 < y) (hlo : lo < W64) :
    Calls Tryd.prog 73 #[.int .u64 0, .int .u64 (lo : Int), .int .u64 (y : Int)] w fun e w' => e = .returned (.tuple #[.int .u64 ((lo / y : Nat) : Int), .int .u64 ((lo % y : Nat) : Int)]) ∧ ∃ n, w' = w.drewN n := by
  have t1 : ((y : Int) == 0) = false := by rw [beq_eq_false_iff_ne]; omega
  have t2 : ¬ (y : Int) ≤ 0 := by omega
  have t4 : ¬ (y : Int) = 0 := by omega
  have t5 : (0 : Int) < (y : Int) := by omega
  obtain ⟨q, hq⟩ : ∃ q, q = lo / y := ⟨_, rfl⟩
  obtain ⟨r, hr⟩ : ∃ r, r = lo % y := ⟨_, rfl⟩
  have e1 : (lo : Int) / (y : Int) = (q : Int) := by rw [hq]; simp
  have e2 : (lo : Int) % (y : Int) = (r : Int) := by rw [hr]; simp
  have hqW : q < W64 := by rw [hq]; exact Nat.lt_of_le_of_lt (Nat.div_le_self _ _) hlo
  have HQW := Lib.hid hqW
  rw [← hq, ← hr]
  clear hq hr h hlo hqW
  go_enter Tryd.func73, Tryd.ntmps73
  go_wp2
  go_quiet (fail)
  go_wp2
  go_ret2
  refine ⟨ret_two ?_ ?_, _, rfl⟩
  · first | exact e1 | rfl | (exact wrap_nat HQW.out)
  · first | exact e2 | rfl
/-- Quotient and rest of two words by a word. -/
def dvQ (hi lo y : Nat) : Nat := (hi * W64 + lo) / y
def dvR (hi lo y : Nat) : Nat := (hi * W64 + lo) % y
theorem dvQ_lt {hi lo y : Nat} (h : hi < y) (hlo : lo < W64) : dvQ hi lo y < W64 := by
  unfold dvQ
  rw [Nat.div_lt_iff_lt_mul (by omega), Nat.mul_comm W64]
  have h3 : (hi + 1) * W64 ≤ y * W64 := Nat.mul_le_mul_right _ h
  rw [Nat.add_mul] at h3; omega
theorem dvR_lt {hi lo y : Nat} (h : hi < y) : dvR hi lo y < y := Nat.mod_lt _ (by omega)
theorem dv_eq (hi lo y : Nat) : dvQ hi lo y * y + dvR hi lo y = hi * W64 + lo := by
  unfold dvQ dvR; rw [Nat.mul_comm]; exact Nat.div_add_mod _ _
theorem div64_calls (hi lo y : Nat) (w : World) (h : hi < y) (hy : y < W64) (hlo : lo < W64) :
    Calls Tryd.prog 73 #[.int .u64 (hi : Int), .int .u64 (lo : Int), .int .u64 (y : Int)] w fun e w' => e = .returned (.tuple #[.int .u64 ((dvQ hi lo y : Nat) : Int), .int .u64 ((dvR hi lo y : Nat) : Int)]) ∧ ∃ n, w' = w.drewN n := by
  unfold dvQ dvR
  by_cases h0 : hi = 0
  · subst h0
    rw [Nat.zero_mul, Nat.zero_add]
    exact div64_small lo y w (by omega) hlo
  · exact div64_big hi lo y w h h0 hy hlo

/-- One place of a division by a word. -/
theorem byWord_step {L xs : List Nat} {k r y : Nat} (hk : k < xs.length) (hL : L.length = xs.length)
    (h : vb W64 (L.drop (k + 1)) * y + r = vb W64 (xs.drop (k + 1))) :
    vb W64 ((L.set k (dvQ r (xs.getD k 0) y)).drop k) * y + dvR r (xs.getD k 0) y = vb W64 (xs.drop k) := by
  rw [drop_getD xs k hk, drop_getD (L.set k _) k (by simp; omega), getD_set_eq _ _ _ (by omega), drop_set_succ]
  simp only [vb]
  have h1 := dv_eq r (xs.getD k 0) y
  rw [← h, Nat.add_mul, Nat.mul_add, Nat.mul_assoc]
  rw [Nat.mul_comm r W64] at *
  omega
theorem byWord_end {a y q r : Nat} (hr : r < y) (h : q * y + r = a) : q = a / y ∧ r = a % y := by
  subst h
  rw [Nat.mul_comm]
  exact ⟨by rw [Nat.mul_add_div (by omega), Nat.div_eq_of_lt hr]; omega, by rw [Nat.mul_add_mod]; exact (Nat.mod_eq_of_lt hr).symm⟩

set_option maxHeartbeats 4000000 in
theorem byWord_calls (va : Value) (a y : Nat) (w : World) (ha : NatAt w va a) (hy : 0 < y) (hyW : y < W64) (hla : (dg W64 a).length ≤ 35184372088832) :
    Calls Tryd.prog 59 #[va, .int .u64 (y : Int)] w fun e w' => ∃ r, e = .returned (.tuple #[r, .int .u64 ((a % y : Nat) : Int)]) ∧ NatAt w' r (a / y) ∧ Ext w w' := by
  obtain ⟨A, c, rfl, hc, hra⟩ := ha
  have HA := Lib.hid hra; clear hra
  have HWX := Lib.hid (WB_dg W64_two a)
  have HVX := Lib.hid (vb_dg W64_two a)
  have HY := Lib.hid hy; clear hy
  have HYW := Lib.hid hyW; clear hyW
  generalize dg W64 a = xs at *
  have hmk := makeW xs.length xs.length (Nat.le_refl _) hla
  go_enter Tryd.func59, Tryd.ntmps59
  go_wp2
  obtain ⟨w1, hw1⟩ : ∃ w1, w1 = w.alloc (.cells (rowW (List.replicate xs.length 0)) 76) := ⟨_, rfl⟩
  obtain ⟨g, hg⟩ : ∃ g, g = w.heap.size := ⟨_, rfl⟩
  have HN : Hid (Blk w1 g (List.replicate xs.length 0)) := Lib.hid (by rw [hw1, hg]; exact Blk.new _ _)
  have HE : Hid (Ext w w1) := Lib.hid (by rw [hw1]; exact (Ext.refl _).alloc _)
  have HG : Hid (g = w.heap.size) := Lib.hid hg
  rw [← hw1, ← hg]
  clear hw1 hg hmk
  go_loopw [7, 8] (fun s i wr => ∃ (k : Nat) (r : Nat) (L : List Nat), k ≤ xs.length ∧ i = .int .i64 ((k : Int) - 1) ∧ s = .int .u64 (r : Int) ∧ Hid (r < y) ∧ Hid (Blk wr g L) ∧ L.length = xs.length ∧ Hid (WB W64 L) ∧ Hid (Ext w wr) ∧ Hid (vb W64 (L.drop k) * y + r = vb W64 (xs.drop k))) (fun _ i _ => (intOf i + 1).toNat)
  case atStart => exact ⟨xs.length, 0, _, by omega, rfl, rfl, HY, HN, by simp, Lib.hid (WB.zeros W64_pos _), HE, Lib.hid (by simp [vb])⟩
  case round =>
    clear HN HE
    obtain ⟨k, r, L, hk, rfl, rfl, HR, HL, hLl, HW, HE, HV⟩ := hrel
    by_cases h0 : k = 0
    · subst h0
      go_wp2_with (go_at_call 66; refine (trim_calls _ L _ (HL.out.slAt hLl.symm (by omega)) HW.out (by omega)).mono ?_; rintro e w2 ⟨v, rfl, hr, he⟩)
      have HT := Lib.hid hr; clear hr
      have HE2 := Lib.hid he; clear he
      go_wp2
      go_ret2
      have h1 := HV.out
      simp only [List.drop_zero] at h1
      rw [HVX.out] at h1
      have h2 := byWord_end HR.out h1
      rw [h2.2]
      refine ⟨v, rfl, ?_, HE.out.trans HE2.out⟩
      rw [← h2.1]; exact HT.out
    · obtain ⟨m, rfl⟩ : ∃ m, k = m + 1 := ⟨k - 1, by omega⟩
      have em : (((m + 1 : Nat) : Int) - 1) = (m : Int) := by omega
      rw [em]
      clear h0 em
      obtain ⟨b1, o1, rfl, hc1⟩ := HA.out m (by omega)
      have hcx := HE.out.cell hc1
      clear hc1
      obtain ⟨x, hxx⟩ : ∃ x : Nat, x = xs.getD m 0 := ⟨_, rfl⟩
      rw [← hxx] at hcx
      have HXX := Lib.hid hxx; clear hxx
      have hL0 := HL.out.cell (i := m) (by omega)
      have hLf := HL.out.frozen m
      generalize L.getD m 0 = l0 at hL0
      have i0 : (0 : Int) ≤ (m : Int) := by omega
      have i1 : (m : Int) < (xs.length : Int) := by omega
      go_wp2_with (go_at_call 73; refine (div64_calls r x y _ HR.out HYW.out (by rw [HXX.out]; exact HWX.out.getD W64_pos m)).mono ?_; rintro e w2 ⟨rfl, n, rfl⟩)
      clear hcx hL0 hLf i0 i1
      go_roundw
      case rel =>
        refine ⟨m, dvR r x y, L.set m (dvQ r x y), by omega, rfl, rfl, Lib.hid (dvR_lt HR.out), ?_, by simpa using hLl, HW.out.set _ (dvQ_lt HR.out (by rw [HXX.out]; exact HWX.out.getD W64_pos m)), ?_, ?_⟩
        · exact Blk.set (w := wr.drewN n) HL.out _ _
        · exact Ext.setCell (HE.out.drewN n) (by rw [HG.out]; exact Nat.le_refl _) _
        · have := byWord_step (by omega) hLl HV.out
          rw [← HXX.out] at this
          exact this
      case measure => simp [intOf]
end Go.Proofs.YtpgnlpjjpgdoiaaDoor
/- The contracts of left and right. -/
namespace Go.Proofs.YtpgnlpjjpgdoiaaDoor
open Go Go.RowKit
set_option linter.unusedVariables false
set_option linter.unusedSimpArgs false
theorem or_disj {l x s : Nat} (hs : s ≤ 63) (hl : l < 2 ^ s) (hlW : l < W64) : bits .or .u64 (l : Int) ((x * 2 ^ s % W64 : Nat) : Int) = ((l + x * 2 ^ s % W64 : Nat) : Int) ∧ l + x * 2 ^ s % W64 < W64 := by
  have e64 : 2 ^ s * 2 ^ (64 - s) = W64 := by rw [← Nat.pow_add, show s + (64 - s) = 64 by omega]; rfl
  have h1 : x * 2 ^ s % W64 = 2 ^ s * (x % 2 ^ (64 - s)) := by
    rw [← e64, Nat.mul_comm x, Nat.mul_mod_mul_left]
  have h2 : x * 2 ^ s % W64 < W64 := Nat.mod_lt _ W64_pos
  have h3 : 2 ^ s * (x % 2 ^ (64 - s)) + 2 ^ s ≤ W64 := by
    rw [← e64, ← Nat.mul_succ]
    exact Nat.mul_le_mul_left _ (Nat.mod_lt _ (Nat.pow_pos (by omega)))
  refine ⟨?_, by omega⟩
  rw [bits_or_u64_nat _ _ hlW h2]
  congr 1
  rw [h1, Nat.or_comm, Nat.add_comm]
  exact (Nat.two_pow_add_eq_or_of_lt hl _).symm
theorem shl_parts (x s : Nat) (hs : s ≤ 63) : x * 2 ^ s % W64 + W64 * (x / 2 ^ (64 - s)) = x * 2 ^ s := by
  have e64 : 2 ^ s * 2 ^ (64 - s) = W64 := by rw [← Nat.pow_add, show s + (64 - s) = 64 by omega]; rfl
  have h1 : x / 2 ^ (64 - s) = x * 2 ^ s / W64 := by
    rw [← e64, Nat.mul_comm x, Nat.mul_div_mul_left _ _ (Nat.pow_pos (by omega))]
  rw [h1]; exact Nat.mod_add_div _ _
theorem shl_hi {x s : Nat} (hs : s ≤ 63) (hx : x < W64) : x / 2 ^ (64 - s) < 2 ^ s := by
  have e64 : 2 ^ s * 2 ^ (64 - s) = W64 := by rw [← Nat.pow_add, show s + (64 - s) = 64 by omega]; rfl
  rw [Nat.div_lt_iff_lt_mul (Nat.pow_pos (by omega)), e64]; exact hx
theorem zeros_getD (n j : Nat) : (List.replicate n 0).getD j 0 = 0 := by
  simp [List.getD_eq_getElem?_getD, List.getElem?_replicate]; split <;> rfl
theorem set_self {xs : List Nat} {i x : Nat} (h : i < xs.length) (hx : xs.getD i 0 = x) : xs.set i x = xs := by
  subst hx
  simp [List.getD_eq_getElem?_getD, List.getElem?_eq_getElem h]
theorem two_lt {s l : Nat} (hs : s ≤ 63) (hl : l < 2 ^ s) : l < W64 := Nat.lt_of_lt_of_le hl (Nat.pow_le_pow_right (show 2 > 0 by omega) (show s ≤ 64 by omega))
theorem left_step {L xs : List Nat} {j k s wd : Nat} (hs : s ≤ 63) (hj : j = k + wd) (hjl : j + 1 < L.length) (hk : k < xs.length)
    (h : vb W64 L = vb W64 (xs.take k) * 2 ^ s * W64 ^ wd) (hz : L.getD (j + 1) 0 = 0) :
    vb W64 ((L.set j (L.getD j 0 + xs.getD k 0 * 2 ^ s % W64)).set (j + 1) (xs.getD k 0 / 2 ^ (64 - s))) = vb W64 (xs.take (k + 1)) * 2 ^ s * W64 ^ wd := by
  have h3 := shl_parts (xs.getD k 0) s hs
  have h4 : W64 ^ j * (xs.getD k 0 * 2 ^ s) = W64 ^ j * (xs.getD k 0 * 2 ^ s % W64) + W64 ^ j * W64 * (xs.getD k 0 / 2 ^ (64 - s)) := by
    conv => lhs; rw [← h3]
    rw [Nat.mul_add, Nat.mul_assoc (W64 ^ j)]
  generalize xs.getD k 0 * 2 ^ s % W64 = lo at *
  generalize xs.getD k 0 / 2 ^ (64 - s) = hi at *
  have h1 := vb_set (B := W64) (L.set j (L.getD j 0 + lo)) (j + 1) hi (by simpa using hjl)
  rw [getD_set_ne _ _ _ _ (by omega), hz, Nat.mul_zero, Nat.add_zero] at h1
  have h2 := vb_set (B := W64) L j (L.getD j 0 + lo) (by omega)
  rw [Nat.mul_add] at h2
  rw [h1, vb_take_succ xs k hk, Nat.add_mul, Nat.add_mul, ← h, Nat.pow_succ]
  rw [show W64 ^ k * xs.getD k 0 * 2 ^ s * W64 ^ wd = W64 ^ j * (xs.getD k 0 * 2 ^ s) from by rw [hj, Nat.pow_add]; simp only [Nat.mul_assoc, Nat.mul_comm, Nat.mul_left_comm], h4]
  omega

set_option maxHeartbeats 4000000 in
theorem left_calls (va : Value) (a n : Nat) (w : World) (ha : NatAt w va a) (hla : (dg W64 a).length ≤ 17592186044416) (hn : n ≤ 562949953421312) :
    Calls Tryd.prog 80 #[va, .int .i64 (n : Int)] w fun e w' => ∃ r, e = .returned r ∧ NatAt w' r (a * 2 ^ n) ∧ Ext w w' := by
  obtain ⟨A, c, rfl, hc, hra⟩ := ha
  have HA := Lib.hid hra; clear hra
  have HWX := Lib.hid (WB_dg W64_two a)
  have HVX := Lib.hid (vb_dg W64_two a)
  obtain ⟨s, hs⟩ : ∃ s, s = n % 64 := ⟨_, rfl⟩
  obtain ⟨wd, hwd⟩ : ∃ wd, wd = n / 64 := ⟨_, rfl⟩
  have e1 : (n : Int) / 64 = (wd : Int) := by omega
  have e2 : (n : Int) % 64 = (s : Int) := by omega
  have hs63 : s ≤ 63 := by omega
  have hwdl : wd ≤ 8796093022208 := by omega
  have HS := Lib.hid (show 64 * wd + s = n by omega)
  have hn2 : (n : Int) ≤ 562949953421312 := by omega
  have hn0 : (0 : Int) ≤ (n : Int) := by omega
  clear hs hwd hn
  generalize dg W64 a = xs at *
  by_cases h0 : xs.length = 0
  · have hz : xs = [] := List.length_eq_zero_iff.mp h0
    have HZ : Hid (a * 2 ^ n = 0) := Lib.hid (by rw [← HVX.out, hz]; simp [vb])
    have t0 : ((xs.length : Int) == 0) = true := by rw [beq_iff_eq]; omega
    clear hz h0
    go_enter Tryd.func80, Tryd.ntmps80
    go_wp2
    go_ret
    exact ⟨_, rfl, by rw [HZ.out]; exact NatAt.zero _, Ext.refl _⟩
  have t0 : ((xs.length : Int) == 0) = false := by rw [beq_eq_false_iff_ne]; omega
  have hmk := makeW (xs.length + wd + 1) (xs.length + wd + 1) (Nat.le_refl _) (by omega)
  simp only [Int.natCast_add, Int.natCast_one] at hmk
  go_enter Tryd.func80, Tryd.ntmps80
  go_wp2
  obtain ⟨w1, hw1⟩ : ∃ w1, w1 = w.alloc (.cells (rowW (List.replicate (xs.length + wd + 1) 0)) 76) := ⟨_, rfl⟩
  obtain ⟨g, hg⟩ : ∃ g, g = w.heap.size := ⟨_, rfl⟩
  have HN : Hid (Blk w1 g (List.replicate (xs.length + wd + 1) 0)) := Lib.hid (by rw [hw1, hg]; exact Blk.new _ _)
  have HE : Hid (Ext w w1) := Lib.hid (by rw [hw1]; exact (Ext.refl _).alloc _)
  have HG : Hid (g = w.heap.size) := Lib.hid hg
  rw [← hw1, ← hg]
  clear hw1 hg hmk h0 t0
  go_loopw [26] (fun i wr => ∃ (k : Nat) (L : List Nat), k ≤ xs.length ∧ i = .int .i64 (k : Int) ∧ Hid (Blk wr g L) ∧ L.length = xs.length + wd + 1 ∧ Hid (WB W64 L) ∧ Hid (Ext w wr) ∧ Hid (vb W64 L = vb W64 (xs.take k) * 2 ^ s * W64 ^ wd) ∧ Hid (∀ j, k + wd < j → L.getD j 0 = 0) ∧ Hid (L.getD (k + wd) 0 < 2 ^ s)) (fun i _ => xs.length - (intOf i).toNat)
  case atStart => exact ⟨0, _, by omega, rfl, HN, by simp, Lib.hid (WB.zeros W64_pos _), HE, Lib.hid (by simp [vb, vb_zeros]), Lib.hid (fun j _ => zeros_getD _ _), Lib.hid (by rw [zeros_getD]; exact Nat.pow_pos (by omega))⟩
  case round =>
    clear HN HE
    obtain ⟨k, L, hk, rfl, HL, hLl, HW, HE, HV, HZ, HC⟩ := hrel
    by_cases hlt : k < xs.length
    · obtain ⟨b1, o1, rfl, hc1⟩ := HA.out k hlt
      have hcx := HE.out.cell hc1
      clear hc1
      obtain ⟨x, hxx⟩ : ∃ x : Nat, x = xs.getD k 0 := ⟨_, rfl⟩
      rw [← hxx] at hcx
      have HXX := Lib.hid hxx; clear hxx
      have HX : Hid (x < W64) := Lib.hid (by rw [HXX.out]; exact HWX.out.getD W64_pos k)
      obtain ⟨l, hll⟩ : ∃ l : Nat, l = L.getD (k + wd) 0 := ⟨_, rfl⟩
      have hl1 := HC.out
      rw [← hll] at hl1
      have hor := or_disj (l := l) (x := x) hs63 hl1 (two_lt hs63 hl1)
      have hL0 := HL.out.cell (i := k + wd) (by omega)
      rw [← hll] at hL0
      have HLL := Lib.hid hll; clear hll
      have hLf := HL.out.frozen (k + wd)
      have HL2 := Lib.hid (HL.out.set (k + wd) (l + x * 2 ^ s % W64))
      have hLf2 := HL2.out.frozen (k + wd + 1)
      have hL02 := HL2.out.cell (i := k + wd + 1) (by simp; omega)
      generalize (L.set (k + wd) (l + x * 2 ^ s % W64)).getD (k + wd + 1) 0 = l2 at hL02
      have r1 : IntKind.u64.wrap ((x : Int) * 2 ^ s) = ((x * 2 ^ s % W64 : Nat) : Int) := by
        rw [show (x : Int) * 2 ^ s = ((x * 2 ^ s : Nat) : Int) by simp]; exact wrap_mod _
      have r2 := hor.1
      have HOR := Lib.hid hor.2
      have HL1 := Lib.hid hl1
      generalize hlo : x * 2 ^ s % W64 = lo at *
      have HLO := Lib.hid hlo
      obtain ⟨sm, hsm⟩ : ∃ sm, sm = l + lo := ⟨_, rfl⟩
      rw [← hsm] at r2 hLf2 hL02 HL2 HOR
      have HSM := Lib.hid hsm
      obtain ⟨hi, hhi⟩ : ∃ hi, hi = x / 2 ^ (64 - s) := ⟨_, rfl⟩
      have r3 : (x : Int) / 2 ^ (64 - s) = (hi : Int) := by rw [hhi]; simp
      have HHI := Lib.hid hhi
      clear hor hl1 hlo hsm hhi
      have kj : ((k : Int) + (wd : Int)).toNat = k + wd := by omega
      have kj2 : ((k : Int) + (wd : Int) + 1).toNat = k + wd + 1 := by omega
      by_cases hs0 : s = 0
      · have t1 : ¬ (0 < s) := by omega
        have HS0 := Lib.hid hs0
        clear hs0
        go_wp2
        clear hcx hL0 hLf hLf2 hL02 r1 r2 r3 kj kj2
        go_roundw
        case rel =>
          refine ⟨k + 1, (L.set (k + wd) sm).set (k + wd + 1) hi, by omega, by go_num, ?_, by simpa using hLl, ?_, HE.out.setCell (by rw [HG.out]; exact Nat.le_refl _) _, ?_, ?_, ?_⟩
          · rw [set_self (by simp; omega) (by rw [getD_set_ne _ _ _ _ (by omega), HZ.out _ (by omega), HHI.out, HS0.out]; exact (Nat.div_eq_of_lt HX.out).symm)]
            exact HL2
          · exact (HW.out.set _ HOR.out).set _ (Nat.lt_of_le_of_lt (by rw [HHI.out]; exact Nat.div_le_self _ _) HX.out)
          · have h1 := left_step (L := L) (xs := xs) (j := k + wd) hs63 rfl (by omega) hlt HV.out (HZ.out _ (by omega))
            rw [← HLL.out, ← HXX.out, HLO.out, ← HSM.out, ← HHI.out] at h1
            exact h1
          · refine Lib.hid (fun i hi' => ?_)
            rw [getD_set_ne _ _ _ _ (by omega), getD_set_ne _ _ _ _ (by omega)]
            exact HZ.out i (by omega)
          · rw [show k + 1 + wd = k + wd + 1 by omega, getD_set_eq _ _ _ (by simp; omega), HHI.out]
            exact Lib.hid (shl_hi hs63 HX.out)
        case measure => simp [intOf]; omega
      · have t1 : 0 < s := by omega
        clear hs0
        go_wp2
        clear hcx hL0 hLf hLf2 hL02 r1 r2 r3 kj kj2
        go_roundw
        case rel =>
          refine ⟨k + 1, (L.set (k + wd) sm).set (k + wd + 1) hi, by omega, by go_num, HL2.out.set _ _, by simpa using hLl, ?_, (HE.out.setCell (by rw [HG.out]; exact Nat.le_refl _) _).setCell (by rw [HG.out]; exact Nat.le_refl _) _, ?_, ?_, ?_⟩
          · exact (HW.out.set _ HOR.out).set _ (Nat.lt_of_le_of_lt (by rw [HHI.out]; exact Nat.div_le_self _ _) HX.out)
          · have h1 := left_step (L := L) (xs := xs) (j := k + wd) hs63 rfl (by omega) hlt HV.out (HZ.out _ (by omega))
            rw [← HLL.out, ← HXX.out, HLO.out, ← HSM.out, ← HHI.out] at h1
            exact h1
          · refine Lib.hid (fun i hi' => ?_)
            rw [getD_set_ne _ _ _ _ (by omega), getD_set_ne _ _ _ _ (by omega)]
            exact HZ.out i (by omega)
          · rw [show k + 1 + wd = k + wd + 1 by omega, getD_set_eq _ _ _ (by simp; omega), HHI.out]
            exact Lib.hid (shl_hi hs63 HX.out)
        case measure => simp [intOf]; omega
    · have hk2 : k = xs.length := by omega
      have HK := Lib.hid hk2
      clear hk2
      go_wp2_with (go_at_call 66; refine (trim_calls _ L _ (HL.out.slAt hLl.symm (by omega)) HW.out (by omega)).mono ?_; rintro e w2 ⟨r, rfl, hr, he⟩)
      have HR := Lib.hid hr; clear hr
      have HE2 := Lib.hid he; clear he
      go_wp2
      go_ret
      refine ⟨r, rfl, ?_, HE.out.trans HE2.out⟩
      have h1 := HV.out
      rw [HK.out, List.take_length, HVX.out] at h1
      have h2 := HR.out
      rw [h1, Nat.mul_assoc, show 2 ^ s * W64 ^ wd = 2 ^ n from by rw [← HS.out, Nat.pow_add, Nat.pow_mul, Nat.mul_comm]; rfl] at h2
      exact h2
end Go.Proofs.YtpgnlpjjpgdoiaaDoor
