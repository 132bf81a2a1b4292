/- Merged by program: Small, Awake, LawP, LawN. -/
import Derived.Test.YtpgnlpjjpgdoiaaDoorMf
/- Short, small. -/
namespace Go.Proofs.YtpgnlpjjpgdoiaaDoor
open Go Go.RowKit SurdM
set_option linter.unusedVariables false
set_option linter.unusedSimpArgs false
/-- A slice of strings. -/
def SlStr (w : World) (A : Option Addr) (xs : List ByteArray) : Prop := ∀ i (h : i < xs.length), ∃ b o, A = some ⟨b, o, none⟩ ∧ w.cell? ⟨b, o + i, none⟩ = some (.string xs[i])
theorem SlStr.ext {w w' : World} {A : Option Addr} {xs : List ByteArray} (h : SlStr w A xs) (he : Ext w w') : SlStr w' A xs := fun i hi => by
  obtain ⟨b, o, h1, h2⟩ := h i hi
  exact ⟨b, o, h1, he.cell h2⟩
def shortB (n : Nat) (xs : List ByteArray) : Bool := xs.all fun s => decide (s.size ≤ n)
theorem shortB_snoc (n : Nat) (xs : List ByteArray) (k : Nat) (h : k < xs.length) : shortB n (xs.take (k + 1)) = (shortB n (xs.take k) && decide (xs[k].size ≤ n)) := by
  unfold shortB; rw [List.take_succ_eq_append_getElem h, List.all_append]; simp
theorem shortB_no (n : Nat) (xs : List ByteArray) (k : Nat) (h : k < xs.length) (hb : ¬ xs[k].size ≤ n) : shortB n xs = false := by
  unfold shortB; rw [List.all_eq_false]; exact ⟨xs[k], List.getElem_mem h, by simpa using hb⟩
set_option maxRecDepth 100000 in
set_option maxHeartbeats 400000 in
theorem short_calls (n : Nat) (A : Option Addr) (c : Nat) (xs : List ByteArray) (w : World) (hx : SlStr w A xs) (hl : xs.length ≤ 1099511627776) :
    Calls Tryd.prog 15 #[.int .i64 (n : Int), .slice A xs.length c] w fun e w' => e = .returned (.bool (shortB n xs)) ∧ w = w' := by
  have HX := Lib.hid hx
  have HL := Lib.hid hl
  clear hx hl
  go_enter Tryd.func15, Tryd.ntmps15
  go_wp2
  go_loop [5] (fun i => ∃ k : Nat, k ≤ xs.length ∧ i = .int .i64 (k : Int) ∧ Hid (shortB n (xs.take k) = true)) (fun i => xs.length - (intOf i).toNat)
  case atStart => exact ⟨0, by omega, rfl, Lib.hid rfl⟩
  case round =>
    obtain ⟨k, hk, rfl, HA⟩ := hrel
    by_cases hlt : k < xs.length
    · obtain ⟨b, o, rfl, hc⟩ := HX.out k hlt
      have HSN := Lib.hid (shortB_snoc n xs k hlt)
      have i0 : (0 : Int) ≤ (k : Int) := by omega
      have i1 : (k : Int) < (xs.length : Int) := by omega
      have u1 : IntKind.i64.wrap (((k : Nat) : Int) + 1) = ((k : Nat) : Int) + 1 := by have := HL.out; simp only [IntKind.wrap_i64]; omega
      by_cases hs : xs[k].size ≤ n
      · have HS : Hid (decide (xs[k].size ≤ n) = true) := Lib.hid (decide_eq_true hs)
        have t1 : ¬ n < xs[k].size := by omega
        generalize xs[k] = s at *
        clear hs
        go_wp2
        go_round
        case rel => exact ⟨k + 1, by omega, by go_num, Lib.hid (by rw [HSN.out, HA.out, HS.out]; rfl)⟩
        case measure => simp [intOf]; omega
      · have HR : Hid (shortB n xs = false) := Lib.hid (shortB_no n xs k hlt hs)
        have t1 : n < xs[k].size := by omega
        clear HSN
        generalize xs[k] = s at *
        clear hs
        go_wp2
        go_ret
        exact ⟨by rw [HR.out]; rfl, rfl⟩
    · have HR : Hid (shortB n xs = true) := Lib.hid (by have h := HA.out; rw [List.take_of_length_le (by omega)] at h; exact h)
      go_wp2
      go_ret
      exact ⟨by rw [HR.out]; rfl, rfl⟩
/-- A surd of package api. -/
structure SU where
  A : ByteArray
  B : ByteArray
  D : Int
/-- A slice of surds. -/
def SlS (w : World) (A : Option Addr) (xs : List SU) : Prop := ∀ i (h : i < xs.length), ∃ b o, A = some ⟨b, o, none⟩ ∧ w.cell? ⟨b, o + i * 3, none⟩ = some (.string xs[i].A) ∧ w.cell? ⟨b, o + i * 3 + 1, none⟩ = some (.string xs[i].B)
theorem SlS.ext {w w' : World} {A : Option Addr} {xs : List SU} (h : SlS w A xs) (he : Ext w w') : SlS w' A xs := fun i hi => by
  obtain ⟨b, o, h1, h2, h3⟩ := h i hi
  exact ⟨b, o, h1, he.cell h2, he.cell h3⟩
def smallB (xs : List SU) : Bool := xs.all fun s => shortB 40 [s.A, s.B]
theorem smallB_snoc (xs : List SU) (k : Nat) (h : k < xs.length) : smallB (xs.take (k + 1)) = (smallB (xs.take k) && shortB 40 [xs[k].A, xs[k].B]) := by
  unfold smallB; rw [List.take_succ_eq_append_getElem h, List.all_append]; simp
theorem smallB_no (xs : List SU) (k : Nat) (h : k < xs.length) (hb : shortB 40 [xs[k].A, xs[k].B] = false) : smallB xs = false := by
  unfold smallB; rw [List.all_eq_false]; exact ⟨xs[k], List.getElem_mem h, by rw [hb]; decide⟩
theorem slStr_two (w : World) (S T : ByteArray) : SlStr (w.alloc (.cells #[.string S, .string T] 9)) (some ⟨w.heap.size, 0, none⟩) [S, T] := fun i h => by
  refine ⟨w.heap.size, 0, rfl, ?_⟩
  rw [cell_of_row _ _ _ _ _ _ (heap_alloc_new w _)]
  match i, h with
  | 0, _ => rfl
  | 1, _ => rfl
set_option maxRecDepth 100000 in
set_option maxHeartbeats 400000 in
theorem small_calls (A : Option Addr) (c : Nat) (xs : List SU) (w : World) (hx : SlS w A xs) (hl : xs.length ≤ 1099511627776) :
    Calls Tryd.prog 5 #[.slice A xs.length c] w fun e w' => e = .returned (.bool (smallB xs)) ∧ Ext w w' := by
  have HX := Lib.hid hx
  have HL := Lib.hid hl
  clear hx hl
  go_enter Tryd.func5, Tryd.ntmps5
  go_wp2
  go_loopw [3] (fun i wr => ∃ k : Nat, k ≤ xs.length ∧ i = .int .i64 (k : Int) ∧ Hid (smallB (xs.take k) = true) ∧ Hid (Ext w wr)) (fun i _ => xs.length - (intOf i).toNat)
  case atStart => exact ⟨0, by omega, rfl, Lib.hid rfl, Lib.hid (Ext.refl _)⟩
  case round =>
    obtain ⟨k, hk, rfl, HA, HE⟩ := hrel
    by_cases hlt : k < xs.length
    · obtain ⟨b, o, rfl, hc1, hc2⟩ := HX.out k hlt
      have HC1 := Lib.hid (fun W (he : Ext wr W) => (HE.out.trans he).cell hc1)
      have HC2 := Lib.hid (fun W (he : Ext wr W) => (HE.out.trans he).cell hc2)
      have HSN := Lib.hid (smallB_snoc xs k hlt)
      have HNO := Lib.hid (smallB_no xs k hlt)
      have i0 : (0 : Int) ≤ (k : Int) := by omega
      have i1 : (k : Int) < (xs.length : Int) := by omega
      have u1 : IntKind.i64.wrap (((k : Nat) : Int) + 1) = ((k : Nat) : Int) + 1 := by have := HL.out; simp only [IntKind.wrap_i64]; omega
      generalize xs[k].A = S at *
      generalize xs[k].B = T at *
      have HSH : Hid (∀ W g, SlStr W (some ⟨g, 0, none⟩) [S, T] → Calls Tryd.prog 15 #[.int .i64 40, .slice (some ⟨g, 0, none⟩) 2 2] W fun e w' => e = .returned (.bool (shortB 40 [S, T])) ∧ W = w') := Lib.hid (fun W g h => short_calls 40 (some ⟨g, 0, none⟩) 2 [S, T] W h (Nat.le_trans (show [S, T].length ≤ 2 from Nat.le_refl 2) (by decide)))
      cases hb : shortB 40 [S, T] with
      | false =>
        rw [hb] at HSH
        have HR : Hid (smallB xs = false) := Lib.hid (HNO.out hb)
        clear hb hc1 hc2 HSN HNO
        go_wp2
        go_region_held3 (fun W => W.cell? ⟨b, o + k * 3, none⟩ = some (.string S) ∧ W.cell? ⟨b, o + k * 3 + 1, none⟩ = some (.string T))
          (first
            | with_reducible exact ⟨HC1.out _ (Ext.refl _), HC2.out _ (Ext.refl _)⟩
            | with_reducible exact ⟨HC1.out _ (Ext.refl _).drew, HC2.out _ (Ext.refl _).drew⟩
            | with_reducible exact ⟨HC1.out _ ((Ext.refl _).alloc _).drew, HC2.out _ ((Ext.refl _).alloc _).drew⟩
            | with_reducible exact ⟨HC1.out _ ((Ext.refl _).drew.alloc _), HC2.out _ ((Ext.refl _).drew.alloc _)⟩)
          (first
            | (go_at_call 15; refine (HSH.out _ _ ((slStr_two wr S T).ext (Ext.refl _).drew)).mono ?_; clear HSH; rintro e2 w2 ⟨rfl, rfl⟩))
        go_wp2
        go_ret
        exact ⟨by rw [HR.out]; rfl, HE.out.trans ((Ext.one _ _).drew)⟩
      | true =>
        rw [hb] at HSH HSN
        clear hb hc1 hc2 HNO
        go_wp2
        go_region_held3 (fun W => W.cell? ⟨b, o + k * 3, none⟩ = some (.string S) ∧ W.cell? ⟨b, o + k * 3 + 1, none⟩ = some (.string T))
          (first
            | with_reducible exact ⟨HC1.out _ (Ext.refl _), HC2.out _ (Ext.refl _)⟩
            | with_reducible exact ⟨HC1.out _ (Ext.refl _).drew, HC2.out _ (Ext.refl _).drew⟩
            | with_reducible exact ⟨HC1.out _ ((Ext.refl _).alloc _).drew, HC2.out _ ((Ext.refl _).alloc _).drew⟩
            | with_reducible exact ⟨HC1.out _ ((Ext.refl _).drew.alloc _), HC2.out _ ((Ext.refl _).drew.alloc _)⟩)
          (first
            | (go_at_call 15; refine (HSH.out _ _ ((slStr_two wr S T).ext (Ext.refl _).drew)).mono ?_; clear HSH; rintro e2 w2 ⟨rfl, rfl⟩))
        go_wp2
        go_roundw
        case rel => exact ⟨k + 1, by omega, by go_num, Lib.hid (by rw [HSN.out, HA.out]; rfl), Lib.hid (HE.out.trans ((Ext.one _ _).drew))⟩
        case measure => simp [intOf]; omega
    · have HR : Hid (smallB xs = true) := Lib.hid (by have h := HA.out; rw [List.take_of_length_le (by omega)] at h; exact h)
      go_wp2
      go_ret
      exact ⟨by rw [HR.out]; rfl, HE.out⟩
end Go.Proofs.YtpgnlpjjpgdoiaaDoor
/- awake: three examples. -/
namespace Go.Proofs.YtpgnlpjjpgdoiaaDoor
open Go Go.RowKit SurdM
set_option linter.unusedVariables false
set_option linter.unusedSimpArgs false
theorem text_one (n : Nat) (h : n < 10) : textR ((n : Int) : Rat) = [dig1 n] := by
  unfold textR; rw [Rat.den_intCast, Rat.num_intCast, if_pos rfl, itoa_nat, dec_small h]
theorem text_neg (n : Nat) (h : n < 10) (h0 : n ≠ 0) : textR ((-(n : Int) : Int) : Rat) = [45, dig1 n] := by
  unfold textR Lib.itoa; rw [Rat.den_intCast, Rat.num_intCast, if_pos rfl, if_pos (by omega), Int.natAbs_neg, Int.natAbs_natCast, dec_small h]
theorem t0 : textR 0 = [48] := text_one 0 (by decide)
theorem t1 : textR 1 = [49] := text_one 1 (by decide)
theorem t2 : textR 2 = [50] := text_one 2 (by decide)
theorem t3 : textR 3 = [51] := text_one 3 (by decide)
theorem tn2 : textR (-2) = [45, 50] := text_neg 2 (by decide) (by decide)
theorem boxS_new (w : World) (S T : ByteArray) (d : Int) : BoxS (w.alloc (.cells #[.string S, .string T, .int .i64 d] 23)) w.heap.size S T d := heap_alloc_new w _
theorem sqF_two : SqF 2 := fun k h1 h2 => by
  have : 2 * 2 ≤ k * k := Int.mul_le_mul h1 h1 (by decide) (by omega)
  omega
theorem sqF_eight : ¬ SqF 8 := fun h => h 2 (by decide) (by decide) (by decide)
/-- Make("1", "1", 8). -/
theorem make_awake (w : World) (ht : TabW w) : Calls Tryd.prog 16 #[.string ⟨#[49]⟩, .string ⟨#[49]⟩, .int .i64 8] w fun e w' => e = .returned (.tuple #[.agg #[.string ⟨#[49]⟩, .string ⟨#[50]⟩, .int .i64 2], .int .i64 0]) ∧ Ext w w' := by
  have h1 : ofB (⟨#[49]⟩ : ByteArray).data.toList = some 1 := by rw [show (⟨#[49]⟩ : ByteArray).data.toList = textR 1 from t1.symm]; exact ofB_text 1
  refine (Make_gen ⟨#[49]⟩ ⟨#[49]⟩ 8 1 w (by decide) (by decide) (by decide) 1 h1 1 h1 (by decide) ht).mono ?_
  rintro e w' ⟨f, e2, hq, hf, he, hs, h⟩
  have hf2 : f = 2 ∧ e2 = 2 := by
    have h4 : f * f ≤ 8 := by
      have : f * f * 1 ≤ f * f * e2 := Int.mul_le_mul_of_nonneg_left he (by have : 0 ≤ f * f := Int.mul_nonneg (by omega) (by omega); exact this)
      omega
    have h5 : f < 3 := by
      rcases Int.lt_or_le f 3 with h | h
      · exact h
      · have : 3 * 3 ≤ f * f := Int.mul_le_mul h h (by decide) (by omega)
        omega
    have h6 : f = 1 ∨ f = 2 := by omega
    rcases h6 with rfl | rfl
    · obtain rfl : e2 = 8 := by omega
      exact absurd hs sqF_eight
    · exact ⟨rfl, by omega⟩
  obtain ⟨rfl, rfl⟩ := hf2
  have hv : makeV 1 1 2 2 = ⟨1, 2, 2⟩ := by
    unfold makeV norml
    rw [if_neg (by decide)]
    simp only []
    rw [if_neg (by decide +kernel), show (1 : Rat) * ((2 : Int) : Rat) = 2 from by decide +kernel]
  rw [hv] at h
  unfold SurOk at h
  simp only [t1, t2] at h
  exact h
/-- Sign of 3 - 2 sqrt 2. -/
theorem sign_awake (w : World) : Calls Tryd.prog 11 #[.agg #[.string ⟨#[51]⟩, .string ⟨#[45, 50]⟩, .int .i64 2]] w fun e w' => e = .returned (.tuple #[.int .i64 1, .int .i64 0]) ∧ Ext w w' := by
  have hv : Val ⟨3, -2, 2⟩ := .inr ⟨by decide, by decide, by decide, sqF_two⟩
  have h1 : readV (⟨#[51]⟩ : ByteArray).data.toList (⟨#[45, 50]⟩ : ByteArray).data.toList 2 = some ⟨3, -2, 2⟩ := by
    rw [show (⟨#[51]⟩ : ByteArray).data.toList = textR 3 from t3.symm, show (⟨#[45, 50]⟩ : ByteArray).data.toList = textR (-2) from tn2.symm]
    have h2 := readV_text hv
    exact h2
  have hs : signV ⟨3, -2, 2⟩ = 1 := by decide +kernel
  have h := Sign_ok ⟨#[51]⟩ ⟨#[45, 50]⟩ 2 2 w (by decide) (by decide) (by decide) ⟨3, -2, 2⟩ h1
  rw [hs] at h
  exact h
/-- The square of sqrt 2. -/
theorem mul_awake (w : World) (ht : TabW w) : Calls Tryd.prog 7 #[.agg #[.string ⟨#[48]⟩, .string ⟨#[49]⟩, .int .i64 2], .agg #[.string ⟨#[48]⟩, .string ⟨#[49]⟩, .int .i64 2]] w fun e w' => e = .returned (.tuple #[.agg #[.string ⟨#[50]⟩, .string ⟨#[48]⟩, .int .i64 1], .int .i64 0]) ∧ Ext w w' := by
  have hv : Val ⟨0, 1, 2⟩ := .inr ⟨by decide, by decide, by decide, sqF_two⟩
  have h1 : readV (⟨#[48]⟩ : ByteArray).data.toList (⟨#[49]⟩ : ByteArray).data.toList 2 = some ⟨0, 1, 2⟩ := by
    rw [show (⟨#[48]⟩ : ByteArray).data.toList = textR 0 from t0.symm, show (⟨#[49]⟩ : ByteArray).data.toList = textR 1 from t1.symm]
    have h2 := readV_text hv
    exact h2
  have hm : mulV ⟨0, 1, 2⟩ ⟨0, 1, 2⟩ = ⟨2, 0, 1⟩ := by
    unfold mulV norml tog
    simp only []
    rw [if_pos (by decide +kernel)]
    congr 1 <;> decide +kernel
  refine (Mul_ok ⟨#[48]⟩ ⟨#[49]⟩ ⟨#[48]⟩ ⟨#[49]⟩ 2 2 1 w (by decide) (by decide) (by decide) (by decide) (by decide) ⟨0, 1, 2⟩ ⟨0, 1, 2⟩ h1 h1 rfl ht).mono ?_
  rintro e w' h
  rw [hm] at h
  unfold SurOk at h
  simp only [t0, t2] at h
  exact h
set_option maxRecDepth 100000 in
set_option maxHeartbeats 400000 in
theorem awake_calls (w : World) (ht : TabW w) : Calls Tryd.prog 6 #[] w fun e w' => e = .returned (.bool true) ∧ Ext w w' := by
  have H1 := Lib.hid (make_awake w ht)
  have H2 := Lib.hid (fun W => sign_awake W)
  have H3 := Lib.hid (fun W (he : Ext w W) => mul_awake W (ht.ext he))
  clear ht
  go_enter Tryd.func6, Tryd.ntmps6
  go_wp2_with (first
    | (go_at_call 16; refine H1.out.mono ?_; clear H1; rintro e2 w2 ⟨rfl, he⟩; have HE2 := Lib.hid he; clear he)
    | (go_at_call 11; refine (H2.out _).mono ?_; clear H2; rintro e3 w3 ⟨rfl, he⟩; have HX3 := Lib.hid he; have HE3 : Hid (Ext w w3) := Lib.hid ((HE2.out.alloc _).trans he); clear he)
    | (go_at_call 7; refine (H3.out _ HE3.out).mono ?_; clear H3; rintro e4 w4 ⟨rfl, he⟩; have HX4 := Lib.hid he; have HE4 : Hid (Ext w w4) := Lib.hid (HE3.out.trans he); clear he; obtain ⟨k0, k1, k2⟩ := (BoxS.ext (boxS_new w2 ⟨#[49]⟩ ⟨#[50]⟩ 2) ((HX3.out.trans HX4.out).alloc (.cells #[.string ⟨#[50]⟩, .string ⟨#[48]⟩, .int .i64 1] 23))).cells))
  go_ret
  exact ⟨rfl, HE4.out.alloc _⟩
end Go.Proofs.YtpgnlpjjpgdoiaaDoor
/- What the laws on surds need: sizes, what is read back, any result of Norm. -/
namespace Go.Proofs.YtpgnlpjjpgdoiaaDoor
open Go Go.RowKit SurdM
set_option linter.unusedVariables false
set_option linter.unusedSimpArgs false
theorem text_size {b : Nat} {x : Rat} (h : RB b x) (hb : 0 < b) : (⟨(textR x).toArray⟩ : ByteArray).size ≤ 2 * b + 2 := by
  have e1 : 2 ^ b ≤ 10 ^ b := Nat.pow_le_pow_left (by decide) b
  have h1 := dec_len b _ (Nat.lt_of_lt_of_le h.num e1) hb
  have h2 := dec_len b _ (Nat.lt_of_lt_of_le h.den e1) hb
  rw [size_mk]
  unfold textR
  have h3 := itoa_len h1
  split
  · omega
  · rw [List.length_append, List.length_append]; simp; omega
/-- A value of at most b bits. -/
def VB (b : Nat) (v : SV) : Prop := RB b v.a ∧ RB b v.b ∧ 0 ≤ v.d ∧ v.d ≤ 1000000
theorem VB.mono {b c : Nat} {v : SV} (h : VB b v) (hb : b ≤ c) : VB c v := ⟨h.1.mono hb, h.2.1.mono hb, h.2.2⟩
theorem readV_VB {la lb : List UInt8} {d : Int} {v : SV} {n : Nat} (h : readV la lb d = some v) (ha : la.length ≤ n) (hb : lb.length ≤ n) : VB (4 * n + 4) v := by
  have hd := readV_d h
  unfold readV at h
  split at h
  · rename_i a b h1 h2
    have r1 := of_RB h1 ha
    have r2 := of_RB h2 hb
    split at h
    · split at h
      · injection h with h; subst h; exact ⟨r1, r2, hd⟩
      · exact absurd h (by simp)
    · split at h
      · exact absurd h (by simp)
      · injection h with h; subst h; exact ⟨r1, r2, hd⟩
  · exact absurd h (by simp)
theorem VB.tog {b c : Nat} {v u : SV} (h : VB b v) (k : VB c u) : 0 ≤ tog v u ∧ tog v u ≤ 1000000 := by
  unfold SurdM.tog; split
  · exact k.2.2
  · exact h.2.2
theorem VB.norml {b : Nat} {v : SV} (h : VB b v) : VB b (norml v) := by
  refine ⟨by rw [norml_a]; exact h.1, by rw [norml_b]; exact h.2.1, ?_⟩
  unfold SurdM.norml; split
  · exact ⟨by show (0 : Int) ≤ 1; decide, by show (1 : Int) ≤ 1000000; decide⟩
  · exact h.2.2
theorem VB.mul {b c : Nat} {v u : SV} (h : VB b v) (k : VB c u) : VB (2 * (b + c) + 32) (mulV v u) := by
  unfold mulV
  refine VB.norml ⟨?_, ?_, h.tog k⟩
  · exact ((h.1.mul k.1).add ((h.2.1.mul k.2.1).mul (RB.int (by have := h.tog k; omega)))).mono (by omega)
  · exact ((h.1.mul k.2.1).add (h.2.1.mul k.1)).mono (by omega)
theorem VB.add {b c : Nat} {v u : SV} (h : VB b v) (k : VB c u) : VB (b + c + 1) (addV v u) := by
  unfold addV
  exact VB.norml ⟨h.1.add k.1, h.2.1.add k.2.1, h.tog k⟩
theorem VB.conj {b : Nat} {v : SV} (h : VB b v) : VB b (conjV v) := ⟨h.1, h.2.1.neg, h.2.2⟩
theorem VB.sizes {b : Nat} {v : SV} (h : VB b v) (hb : 0 < b) : (⟨(textR v.a).toArray⟩ : ByteArray).size ≤ 2 * b + 2 ∧ (⟨(textR v.b).toArray⟩ : ByteArray).size ≤ 2 * b + 2 := ⟨text_size h.1 hb, text_size h.2.1 hb⟩
theorem Val.conj {v : SV} (h : Val v) : Val (conjV v) := by
  rcases h with ⟨h1, h2⟩ | ⟨h1, h2, h3, h4⟩
  · exact .inl ⟨h1, by show -v.b = 0; rw [h2]; rfl⟩
  · exact .inr ⟨h1, h2, by show -v.b ≠ 0; intro e; apply h3; grind, h4⟩
theorem Val.mul {v u : SV} (h : Val v) (k : Val u) (ht : togOk v u = true) : Val (mulV v u) := by
  obtain ⟨D, h1, h2, h3, h4⟩ := together h k ht
  obtain ⟨h5, h6, h7⟩ := mul_inF h2 h3 h4
  exact h5.val h1 (fun e => by rw [h7, (h4 e).1, (h4 e).2]; grind)
theorem Val.add {v u : SV} (h : Val v) (k : Val u) (ht : togOk v u = true) : Val (addV v u) := by
  obtain ⟨D, h1, h2, h3, h4⟩ := together h k ht
  obtain ⟨h5, h6, h7⟩ := add_inF h2 h3 h4
  exact h5.val h1 (fun e => by rw [h7, (h4 e).1, (h4 e).2]; grind)
theorem getR_text (x : Rat) : getR (textR x) = x := by unfold getR; rw [ofB_text]; rfl
/-- Norm returns a text and a number. -/
theorem Norm_any (sa sb : ByteArray) (d : Int) (w : World) (hsa : sa.size ≤ 40) (hsb : sb.size ≤ 40) (ht : TabW w) :
    Calls Tryd.prog 8 #[.agg #[.string sa, .string sb, .int .i64 d]] w fun e w' => ∃ S k, e = .returned (.tuple #[.string S, .int .i64 k]) ∧ Ext w w' := by
  cases h : readV sa.data.toList sb.data.toList d with
  | none => exact (Norm_err sa sb d 40 w hsa hsb (by decide) h).mono fun _ _ h => ⟨_, _, h.1, h.2⟩
  | some v => exact (Norm_ok sa sb d 40 w hsa hsb (by decide) v h ht).mono fun _ _ h => ⟨_, _, h.1, h.2⟩
theorem smallB_two {a b : SU} (h : smallB [a, b] = true) : (a.A.size ≤ 40 ∧ a.B.size ≤ 40) ∧ b.A.size ≤ 40 ∧ b.B.size ≤ 40 := by
  unfold smallB shortB at h; simpa using h
theorem smallB_three {a b c : SU} (h : smallB [a, b, c] = true) : (a.A.size ≤ 40 ∧ a.B.size ≤ 40) ∧ (b.A.size ≤ 40 ∧ b.B.size ≤ 40) ∧ c.A.size ≤ 40 ∧ c.B.size ≤ 40 := by
  unfold smallB shortB at h; simpa using h
theorem slS_two (w : World) (a b : SU) : SlS (w.alloc (.cells #[.string a.A, .string a.B, .int .i64 a.D, .string b.A, .string b.B, .int .i64 b.D] 23)) (some ⟨w.heap.size, 0, none⟩) [a, b] := fun i h => by
  refine ⟨w.heap.size, 0, rfl, ?_⟩
  rw [cell_of_row _ _ _ _ _ _ (heap_alloc_new w _), cell_of_row _ _ _ _ _ _ (heap_alloc_new w _)]
  match i, h with
  | 0, _ => exact ⟨rfl, rfl⟩
  | 1, _ => exact ⟨rfl, rfl⟩
theorem slS_three (w : World) (a b c : SU) : SlS (w.alloc (.cells #[.string a.A, .string a.B, .int .i64 a.D, .string b.A, .string b.B, .int .i64 b.D, .string c.A, .string c.B, .int .i64 c.D] 23)) (some ⟨w.heap.size, 0, none⟩) [a, b, c] := fun i h => by
  refine ⟨w.heap.size, 0, rfl, ?_⟩
  rw [cell_of_row _ _ _ _ _ _ (heap_alloc_new w _), cell_of_row _ _ _ _ _ _ (heap_alloc_new w _)]
  match i, h with
  | 0, _ => exact ⟨rfl, rfl⟩
  | 1, _ => exact ⟨rfl, rfl⟩
  | 2, _ => exact ⟨rfl, rfl⟩
theorem pairE_ok {o1 o2 : Option SV} (h : pairE o1 o2 = 0) : ∃ v u, o1 = some v ∧ o2 = some u ∧ togOk v u = true := by
  unfold pairE at h
  split at h
  · rename_i v u
    cases ht : togOk v u with
    | true => exact ⟨v, u, rfl, rfl, ht⟩
    | false => rw [ht] at h; simp at h
  · simp at h
end Go.Proofs.YtpgnlpjjpgdoiaaDoor
/- SurdNorm: the walk. -/
namespace Go.Proofs.YtpgnlpjjpgdoiaaDoor
open Go Go.RowKit SurdM
set_option linter.unusedVariables false
set_option linter.unusedSimpArgs false
set_option maxRecDepth 100000 in
set_option maxHeartbeats 2000000 in
theorem norm_A (a b : SU) (w : World) (htab : TabW w) (hs : smallB [a, b] = false) :
    Calls Tryd.prog 3 #[.agg #[.string a.A, .string a.B, .int .i64 a.D], .agg #[.string b.A, .string b.B, .int .i64 b.D]] w fun e w' => e = .returned (.bool true) ∧ Ext w w' := by
  obtain ⟨w0, hw0⟩ : ∃ w0, w0 = (((w.alloc (.cells #[.string a.A, .string a.B, .int .i64 a.D] 23)).alloc (.cells #[.string b.A, .string b.B, .int .i64 b.D] 23)).alloc (.cells #[.string a.A, .string a.B, .int .i64 a.D, .string b.A, .string b.B, .int .i64 b.D] 23)) := ⟨_, rfl⟩
  have HE0 : Hid (Ext w w0) := Lib.hid (by rw [hw0]; exact Ext.three _ _ _ _)
  have HB1 : Hid (∀ W, Ext w0 W → BoxS W w.heap.size a.A a.B a.D) := Lib.hid (fun W he => BoxS.ext (by rw [hw0]; exact BoxS.ext (boxS_new w _ _ _) (Ext.two _ _ _)) he)
  have HB2 : Hid (∀ W, Ext w0 W → BoxS W (w.heap.size + 1) b.A b.B b.D) := Lib.hid (fun W he => BoxS.ext (by rw [hw0]; exact BoxS.ext (heap_alloc2_new w _ _) (Ext.one _ _)) he)
  have HSM : Hid (Calls Tryd.prog 5 #[.slice (some ⟨w.heap.size + 1 + 1, 0, none⟩) 2 2] w0 fun e w' => e = .returned (.bool (smallB [a, b])) ∧ Ext w0 w') := Lib.hid (small_calls _ 2 [a, b] w0 (by rw [hw0]; have h := slS_two ((w.alloc (.cells #[.string a.A, .string a.B, .int .i64 a.D] 23)).alloc (.cells #[.string b.A, .string b.B, .int .i64 b.D] 23)) a b; rw [size_alloc, size_alloc] at h; exact h) (Nat.le_trans (show [a, b].length ≤ 2 from Nat.le_refl 2) (by decide)))
  have HW0 := Lib.hid hw0
  have HAW := Lib.hid (fun W (he : Ext w0 W) => awake_calls W (htab.ext (HE0.out.trans he)))
  rw [hs] at HSM
  clear hs hw0 htab
  go_enter Tryd.func3, Tryd.ntmps3
  go_wp2_with fail
  rw [← HW0.out]
  go_wp2_with (first
    | (go_at_call 5; refine HSM.out.mono ?_; clear HSM; rintro e1 w1 ⟨rfl, he⟩; have HX1 := Lib.hid he; clear he)
    | (go_at_call 6; refine (HAW.out _ (HX1.out)).mono ?_; clear HAW; rintro e2 w2 ⟨rfl, he⟩; have HX2 := Lib.hid he; clear he))
  go_ret
  exact ⟨rfl, HE0.out.trans (HX1.out.trans HX2.out)⟩
set_option maxRecDepth 100000 in
set_option maxHeartbeats 2000000 in
theorem norm_B (a b : SU) (w : World) (htab : TabW w) (hs : smallB [a, b] = true) (k : Int) (hk : pairE (readV a.A.data.toList a.B.data.toList a.D) (readV b.A.data.toList b.B.data.toList b.D) = k) (hk0 : k ≠ 0) :
    Calls Tryd.prog 3 #[.agg #[.string a.A, .string a.B, .int .i64 a.D], .agg #[.string b.A, .string b.B, .int .i64 b.D]] w fun e w' => e = .returned (.bool true) ∧ Ext w w' := by
  obtain ⟨⟨s1, s2⟩, s3, s4⟩ := smallB_two hs
  obtain ⟨w0, hw0⟩ : ∃ w0, w0 = (((w.alloc (.cells #[.string a.A, .string a.B, .int .i64 a.D] 23)).alloc (.cells #[.string b.A, .string b.B, .int .i64 b.D] 23)).alloc (.cells #[.string a.A, .string a.B, .int .i64 a.D, .string b.A, .string b.B, .int .i64 b.D] 23)) := ⟨_, rfl⟩
  have HE0 : Hid (Ext w w0) := Lib.hid (by rw [hw0]; exact Ext.three _ _ _ _)
  have HB1 : Hid (∀ W, Ext w0 W → BoxS W w.heap.size a.A a.B a.D) := Lib.hid (fun W he => BoxS.ext (by rw [hw0]; exact BoxS.ext (boxS_new w _ _ _) (Ext.two _ _ _)) he)
  have HB2 : Hid (∀ W, Ext w0 W → BoxS W (w.heap.size + 1) b.A b.B b.D) := Lib.hid (fun W he => BoxS.ext (by rw [hw0]; exact BoxS.ext (heap_alloc2_new w _ _) (Ext.one _ _)) he)
  have HSM : Hid (Calls Tryd.prog 5 #[.slice (some ⟨w.heap.size + 1 + 1, 0, none⟩) 2 2] w0 fun e w' => e = .returned (.bool (smallB [a, b])) ∧ Ext w0 w') := Lib.hid (small_calls _ 2 [a, b] w0 (by rw [hw0]; have h := slS_two ((w.alloc (.cells #[.string a.A, .string a.B, .int .i64 a.D] 23)).alloc (.cells #[.string b.A, .string b.B, .int .i64 b.D] 23)) a b; rw [size_alloc, size_alloc] at h; exact h) (Nat.le_trans (show [a, b].length ≤ 2 from Nat.le_refl 2) (by decide)))
  have HW0 := Lib.hid hw0
  have HAW := Lib.hid (fun W (he : Ext w0 W) => awake_calls W (htab.ext (HE0.out.trans he)))
  rw [hs] at HSM
  have HM := Lib.hid (fun W => Mul_err a.A a.B b.A b.B a.D b.D 40 W s1 s2 s3 s4 (by decide) k hk hk0)
  have HN1 := Lib.hid (fun W (he : Ext w0 W) => Norm_any a.A a.B a.D W s1 s2 (htab.ext (HE0.out.trans he)))
  have HN2 := Lib.hid (fun W (he : Ext w0 W) => Norm_any b.A b.B b.D W s3 s4 (htab.ext (HE0.out.trans he)))
  have c1 : (k == 0) = false := by rw [beq_eq_false_iff_ne]; exact hk0
  have c2 : (k != 0) = true := by rw [bne_iff_ne]; exact hk0
  obtain ⟨i0, i1, i2⟩ := (HB1.out _ (Ext.refl _)).cells
  obtain ⟨j0, j1, j2⟩ := (HB2.out _ (Ext.refl _)).cells
  clear hs hw0 htab s1 s2 s3 s4 hk hk0
  go_enter Tryd.func3, Tryd.ntmps3
  go_wp2_with fail
  rw [← HW0.out]
  go_wp2_with (first
    | (go_at_call 5; refine HSM.out.mono ?_; clear HSM; rintro e1 w1 ⟨rfl, he⟩; have HX1 := Lib.hid he; clear he; clear i0 i1 i2 j0 j1 j2; obtain ⟨i0, i1, i2⟩ := (HB1.out _ (HX1.out)).cells; obtain ⟨j0, j1, j2⟩ := (HB2.out _ (HX1.out)).cells)
    | (go_at_call 7; refine (HM.out _).mono ?_; clear HM i0 i1 i2 j0 j1 j2; rintro e2 w2 ⟨rfl, he⟩; have HX2 := Lib.hid he; clear he; obtain ⟨i0, i1, i2⟩ := (HB1.out _ (((HX1.out).trans HX2.out).alloc (.cells #[.string ⟨#[]⟩, .string ⟨#[]⟩, .int .i64 0] 23))).cells)
    | (go_at_call 8; refine (HN1.out _ (((HX1.out).trans HX2.out).alloc (.cells #[.string ⟨#[]⟩, .string ⟨#[]⟩, .int .i64 0] 23))).mono ?_; clear HN1 i0 i1 i2; rintro e3 w3 ⟨S3, k3, rfl, he⟩; have HX3 := Lib.hid he; clear he; obtain ⟨j0, j1, j2⟩ := (HB2.out _ ((((HX1.out).trans HX2.out).alloc (.cells #[.string ⟨#[]⟩, .string ⟨#[]⟩, .int .i64 0] 23)).trans HX3.out)).cells)
    | (go_at_call 8; refine (HN2.out _ ((((HX1.out).trans HX2.out).alloc (.cells #[.string ⟨#[]⟩, .string ⟨#[]⟩, .int .i64 0] 23)).trans HX3.out)).mono ?_; clear HN2 j0 j1 j2; rintro e4 w4 ⟨S4, k4, rfl, he⟩; have HX4 := Lib.hid he; clear he)
    | (go_at_call 6; refine (HAW.out _ (((((HX1.out).trans HX2.out).alloc (.cells #[.string ⟨#[]⟩, .string ⟨#[]⟩, .int .i64 0] 23)).trans HX3.out).trans HX4.out)).mono ?_; clear HAW; rintro e5 w5 ⟨rfl, he⟩; have HX5 := Lib.hid he; clear he))
  go_ret
  exact ⟨rfl, HE0.out.trans ((((((HX1.out).trans HX2.out).alloc (.cells #[.string ⟨#[]⟩, .string ⟨#[]⟩, .int .i64 0] 23)).trans HX3.out).trans HX4.out).trans HX5.out)⟩
theorem getR_read {la lb : List UInt8} {d : Int} {v : SV} (h : readV la lb d = some v) : getR la = v.a := by
  unfold readV at h
  split at h
  · rename_i a b h1 h2
    unfold getR; rw [h1]
    split at h
    · split at h
      · injection h with h; subst h; rfl
      · exact absurd h (by simp)
    · split at h
      · exact absurd h (by simp)
      · injection h with h; subst h; rfl
  · exact absurd h (by simp)
theorem nrm_RB {v : SV} (h : VB 164 v) : RB 800 (nrm v) := by
  unfold nrm
  exact ((h.1.mul h.1).sub ((h.2.1.mul h.2.1).mul (RB.int (by have := h.2.2; omega)))).mono (by omega)
theorem sign_pos_norm {v : SV} (hd : 0 ≤ v.d) (h : 0 < sg (nrm v)) : signV v = sg v.a := by
  unfold signV
  split
  · rfl
  · rename_i h1
    split
    · rename_i h2
      exfalso
      have h3 := sg_zero.mp h2
      have h4 : nrm v = -(v.b * v.b * (v.d : Rat)) := by unfold nrm; rw [h3]; grind
      rcases sg_cases (nrm v) with ⟨h5, h6⟩ | ⟨h5, h6⟩ | ⟨h5, h6⟩
      · have h7 : (0 : Rat) ≤ (v.d : Rat) := by have := Rat.intCast_le_intCast.mpr hd; simpa using this
        have h8 := Rat.mul_nonneg (sq_nonneg v.b) h7
        grind
      · omega
      · omega
    · rfl
set_option maxRecDepth 100000 in
set_option maxHeartbeats 2000000 in
theorem norm_Cp (a b : SU) (w : World) (htab : TabW w) (hs : smallB [a, b] = true) (v u : SV) (h1 : readV a.A.data.toList a.B.data.toList a.D = some v) (h2 : readV b.A.data.toList b.B.data.toList b.D = some u) (ht : togOk v u = true) (hp : 0 < sg (nrm v)) :
    Calls Tryd.prog 3 #[.agg #[.string a.A, .string a.B, .int .i64 a.D], .agg #[.string b.A, .string b.B, .int .i64 b.D]] w fun e w' => e = .returned (.bool true) ∧ Ext w w' := by
  obtain ⟨⟨s1, s2⟩, s3, s4⟩ := smallB_two hs
  have v1 := readV_val h1
  have v2 := readV_val h2
  have b1 : VB 164 v := readV_VB (n := 40) h1 (by rw [Array.length_toList]; exact s1) (by rw [Array.length_toList]; exact s2)
  have b2 : VB 164 u := readV_VB (n := 40) h2 (by rw [Array.length_toList]; exact s3) (by rw [Array.length_toList]; exact s4)
  have v3 := Val.mul v1 v2 ht
  have b3 : VB 688 (mulV v u) := b1.mul b2
  obtain ⟨z1, z2⟩ := b3.sizes (by decide)
  obtain ⟨z3, z4⟩ := b1.conj.sizes (by decide)
  obtain ⟨z5, z6⟩ := b2.conj.sizes (by decide)
  obtain ⟨F, f1, f2, f3, f4⟩ := together v1 v2 ht
  have r3 := readV_text v3
  have r4 := readV_text (Val.conj v1)
  have r5 := readV_text (Val.conj v2)
  have ht2 : togOk (conjV v) (conjV u) = true := ht
  have hc := conj_mul f2 f3 f4
  have hn := nrm_mul f2 f3 f4
  obtain ⟨w0, hw0⟩ : ∃ w0, w0 = (((w.alloc (.cells #[.string a.A, .string a.B, .int .i64 a.D] 23)).alloc (.cells #[.string b.A, .string b.B, .int .i64 b.D] 23)).alloc (.cells #[.string a.A, .string a.B, .int .i64 a.D, .string b.A, .string b.B, .int .i64 b.D] 23)) := ⟨_, rfl⟩
  have HE0 : Hid (Ext w w0) := Lib.hid (by rw [hw0]; exact Ext.three _ _ _ _)
  have HB1 : Hid (∀ W, Ext w0 W → BoxS W w.heap.size a.A a.B a.D) := Lib.hid (fun W he => BoxS.ext (by rw [hw0]; exact BoxS.ext (boxS_new w _ _ _) (Ext.two _ _ _)) he)
  have HB2 : Hid (∀ W, Ext w0 W → BoxS W (w.heap.size + 1) b.A b.B b.D) := Lib.hid (fun W he => BoxS.ext (by rw [hw0]; exact BoxS.ext (heap_alloc2_new w _ _) (Ext.one _ _)) he)
  have HSM : Hid (Calls Tryd.prog 5 #[.slice (some ⟨w.heap.size + 1 + 1, 0, none⟩) 2 2] w0 fun e w' => e = .returned (.bool (smallB [a, b])) ∧ Ext w0 w') := Lib.hid (small_calls _ 2 [a, b] w0 (by rw [hw0]; have h := slS_two ((w.alloc (.cells #[.string a.A, .string a.B, .int .i64 a.D] 23)).alloc (.cells #[.string b.A, .string b.B, .int .i64 b.D] 23)) a b; rw [size_alloc, size_alloc] at h; exact h) (Nat.le_trans (show [a, b].length ≤ 2 from Nat.le_refl 2) (by decide)))
  have HW0 := Lib.hid hw0
  have HAW := Lib.hid (fun W (he : Ext w0 W) => awake_calls W (htab.ext (HE0.out.trans he)))
  rw [hs] at HSM
  have HM1 := Lib.hid (fun W (he : Ext w0 W) => Mul_ok a.A a.B b.A b.B a.D b.D 40 W s1 s2 s3 s4 (by decide) v u h1 h2 ht (htab.ext (HE0.out.trans he)))
  have HN1 := Lib.hid (fun W (he : Ext w0 W) => Norm_ok a.A a.B a.D 40 W s1 s2 (by decide) v h1 (htab.ext (HE0.out.trans he)))
  have HN2 := Lib.hid (fun W (he : Ext w0 W) => Norm_ok b.A b.B b.D 40 W s3 s4 (by decide) u h2 (htab.ext (HE0.out.trans he)))
  have HN3 := Lib.hid (fun W (he : Ext w0 W) => Norm_ok ⟨(textR (mulV v u).a).toArray⟩ ⟨(textR (mulV v u).b).toArray⟩ (mulV v u).d 1378 W z1 z2 (by decide) (mulV v u) r3 (htab.ext (HE0.out.trans he)))
  have HC1 := Lib.hid (fun W (he : Ext w0 W) => Conjugate_ok a.A a.B a.D 40 W s1 s2 (by decide) v h1 (htab.ext (HE0.out.trans he)))
  have HC2 := Lib.hid (fun W (he : Ext w0 W) => Conjugate_ok b.A b.B b.D 40 W s3 s4 (by decide) u h2 (htab.ext (HE0.out.trans he)))
  have HM2 := Lib.hid (fun W (he : Ext w0 W) => Mul_ok ⟨(textR (conjV v).a).toArray⟩ ⟨(textR (conjV v).b).toArray⟩ ⟨(textR (conjV u).a).toArray⟩ ⟨(textR (conjV u).b).toArray⟩ (conjV v).d (conjV u).d 1378 W (by omega) (by omega) (by omega) (by omega) (by decide) (conjV v) (conjV u) r4 r5 ht2 (htab.ext (HE0.out.trans he)))
  have HC3 := Lib.hid (fun W (he : Ext w0 W) => Conjugate_ok ⟨(textR (mulV v u).a).toArray⟩ ⟨(textR (mulV v u).b).toArray⟩ (mulV v u).d 1378 W z1 z2 (by decide) (mulV v u) r3 (htab.ext (HE0.out.trans he)))
  have z7 : (⟨(textR (nrm v)).toArray⟩ : ByteArray).size ≤ 10000 := Nat.le_trans (text_size (b := 800) (nrm_RB b1) (by decide)) (by decide)
  have z8 : (⟨(textR (nrm u)).toArray⟩ : ByteArray).size ≤ 10000 := Nat.le_trans (text_size (b := 800) (nrm_RB b2) (by decide)) (by decide)
  have HRM := Lib.hid (fun W (he : Ext w0 W) => ratMul_calls ⟨(textR (nrm v)).toArray⟩ ⟨(textR (nrm u)).toArray⟩ 10000 W z7 z8 (by decide) (htab.ext (HE0.out.trans he)))
  have HS1 := Lib.hid (fun W (he : Ext w0 W) => Sign_ok a.A a.B a.D 40 W s1 s2 (by decide) v h1)
  have HRS := Lib.hid (fun W (he : Ext w0 W) => ratSign_calls ⟨(textR (nrm v)).toArray⟩ 10000 W z7 (by decide))
  have HRS2 := Lib.hid (fun W (he : Ext w0 W) => ratSign_calls a.A 40 W s1 (by decide))
  have hga : getR a.A.data.toList = v.a := getR_read h1
  rw [hc] at HM2
  unfold SurOk at HM1 HC1 HC2 HM2 HC3
  simp only [getR_text, ← hn] at HRM HRS
  rw [hga] at HRS2
  have hsv := sign_pos_norm b1.2.2.1 hp
  rw [hsv] at HS1
  clear z1 z2 z3 z4 z5 z6 z7 z8 b1 b2 b3 v1 v2 v3 r3 r4 r5 h1 h2 ht ht2 hc hn f1 f2 f3 f4 s1 s2 s3 s4 hs htab hw0 hga hsv
  generalize (⟨(textR (mulV v u).a).toArray⟩ : ByteArray) = PA at *
  generalize (⟨(textR (mulV v u).b).toArray⟩ : ByteArray) = PB at *
  generalize (⟨(textR (conjV v).a).toArray⟩ : ByteArray) = CA at *
  generalize (⟨(textR (conjV v).b).toArray⟩ : ByteArray) = CB at *
  generalize (⟨(textR (conjV u).a).toArray⟩ : ByteArray) = DA at *
  generalize (⟨(textR (conjV u).b).toArray⟩ : ByteArray) = DB at *
  generalize (⟨(textR (conjV (mulV v u)).a).toArray⟩ : ByteArray) = QA at *
  generalize (⟨(textR (conjV (mulV v u)).b).toArray⟩ : ByteArray) = QB at *
  generalize (⟨(textR (nrm (mulV v u))).toArray⟩ : ByteArray) = Z at *
  generalize (⟨(textR (nrm v)).toArray⟩ : ByteArray) = X at *
  generalize (⟨(textR (nrm u)).toArray⟩ : ByteArray) = Y at *
  generalize (conjV (mulV v u)).d = qd at *
  generalize (mulV v u).d = pd at *
  generalize (conjV v).d = cd at *
  generalize (conjV u).d = dd at *
  generalize signV v = sv at *
  generalize sg v.a = sa at *
  generalize sg (nrm v) = sn at *
  have c1 : decide (sn ≤ 0) = false := decide_eq_false (by omega)
  clear hp
  obtain ⟨i0, i1, i2⟩ := (HB1.out _ (Ext.refl _)).cells
  obtain ⟨j0, j1, j2⟩ := (HB2.out _ (Ext.refl _)).cells
  go_enter Tryd.func3, Tryd.ntmps3
  go_wp2_with fail
  rw [← HW0.out]
  go_wp2_with (first
    | (go_at_call 5; refine HSM.out.mono ?_; clear HSM; rintro e1 w1 ⟨rfl, he⟩; have HX1 := Lib.hid he; clear he; clear i0 i1 i2 j0 j1 j2; obtain ⟨i0, i1, i2⟩ := (HB1.out _ (HX1.out)).cells; obtain ⟨j0, j1, j2⟩ := (HB2.out _ (HX1.out)).cells)
    | (go_at_call 7; refine (HM1.out _ (HX1.out)).mono ?_; clear HM1 i0 i1 i2 j0 j1 j2; rintro e2 w2 ⟨rfl, he⟩; have HX2 := Lib.hid he; clear he; obtain ⟨i0, i1, i2⟩ := (HB1.out _ (((HX1.out).trans HX2.out).alloc (.cells #[.string PA, .string PB, .int .i64 pd] 23))).cells)
    | (go_at_call 8; refine (HN1.out _ (((HX1.out).trans HX2.out).alloc (.cells #[.string PA, .string PB, .int .i64 pd] 23))).mono ?_; clear HN1 i0 i1 i2; rintro e3 w3 ⟨rfl, he⟩; have HX3 := Lib.hid he; clear he; obtain ⟨j0, j1, j2⟩ := (HB2.out _ ((((HX1.out).trans HX2.out).alloc (.cells #[.string PA, .string PB, .int .i64 pd] 23)).trans HX3.out)).cells)
    | (go_at_call 8; refine (HN2.out _ ((((HX1.out).trans HX2.out).alloc (.cells #[.string PA, .string PB, .int .i64 pd] 23)).trans HX3.out)).mono ?_; clear HN2 j0 j1 j2; rintro e4 w4 ⟨rfl, he⟩; have HX4 := Lib.hid he; clear he; obtain ⟨k0, k1, k2⟩ := (BoxS.ext (boxS_new w2 PA PB pd) ((HX3.out).trans HX4.out)).cells)
    | (go_at_call 8; refine (HN3.out _ (((((HX1.out).trans HX2.out).alloc (.cells #[.string PA, .string PB, .int .i64 pd] 23)).trans HX3.out).trans HX4.out)).mono ?_; clear HN3 k0 k1 k2; rintro e5 w5 ⟨rfl, he⟩; have HX5 := Lib.hid he; clear he; obtain ⟨i0, i1, i2⟩ := (HB1.out _ ((((((HX1.out).trans HX2.out).alloc (.cells #[.string PA, .string PB, .int .i64 pd] 23)).trans HX3.out).trans HX4.out).trans HX5.out)).cells)
    | (go_at_call 9; refine (HC1.out _ ((((((HX1.out).trans HX2.out).alloc (.cells #[.string PA, .string PB, .int .i64 pd] 23)).trans HX3.out).trans HX4.out).trans HX5.out)).mono ?_; clear HC1 i0 i1 i2; rintro e6 w6 ⟨rfl, he⟩; have HX6 := Lib.hid he; clear he; obtain ⟨j0, j1, j2⟩ := (HB2.out _ ((((((((HX1.out).trans HX2.out).alloc (.cells #[.string PA, .string PB, .int .i64 pd] 23)).trans HX3.out).trans HX4.out).trans HX5.out).trans HX6.out).alloc (.cells #[.string CA, .string CB, .int .i64 cd] 23))).cells)
    | (go_at_call 9; refine (HC2.out _ ((((((((HX1.out).trans HX2.out).alloc (.cells #[.string PA, .string PB, .int .i64 pd] 23)).trans HX3.out).trans HX4.out).trans HX5.out).trans HX6.out).alloc (.cells #[.string CA, .string CB, .int .i64 cd] 23))).mono ?_; clear HC2 j0 j1 j2; rintro e7 w7 ⟨rfl, he⟩; have HX7 := Lib.hid he; clear he; obtain ⟨k0, k1, k2⟩ := (BoxS.ext (boxS_new w6 CA CB cd) ((HX7.out).alloc (.cells #[.string DA, .string DB, .int .i64 dd] 23))).cells)
    | (go_at_call 7; refine (HM2.out _ ((((((((((HX1.out).trans HX2.out).alloc (.cells #[.string PA, .string PB, .int .i64 pd] 23)).trans HX3.out).trans HX4.out).trans HX5.out).trans HX6.out).alloc (.cells #[.string CA, .string CB, .int .i64 cd] 23)).trans HX7.out).alloc (.cells #[.string DA, .string DB, .int .i64 dd] 23))).mono ?_; clear HM2 k0 k1 k2; rintro e8 w8 ⟨rfl, he⟩; have HX8 := Lib.hid he; clear he; obtain ⟨l0, l1, l2⟩ := (BoxS.ext (boxS_new w2 PA PB pd) (((((((((HX3.out).trans HX4.out).trans HX5.out).trans HX6.out).alloc (.cells #[.string CA, .string CB, .int .i64 cd] 23)).trans HX7.out).alloc (.cells #[.string DA, .string DB, .int .i64 dd] 23)).trans HX8.out).alloc (.cells #[.string QA, .string QB, .int .i64 qd] 23))).cells)
    | (go_at_call 9; refine (HC3.out _ ((((((((((((HX1.out).trans HX2.out).alloc (.cells #[.string PA, .string PB, .int .i64 pd] 23)).trans HX3.out).trans HX4.out).trans HX5.out).trans HX6.out).alloc (.cells #[.string CA, .string CB, .int .i64 cd] 23)).trans HX7.out).alloc (.cells #[.string DA, .string DB, .int .i64 dd] 23)).trans HX8.out).alloc (.cells #[.string QA, .string QB, .int .i64 qd] 23))).mono ?_; clear HC3 l0 l1 l2; rintro e9 w9 ⟨rfl, he⟩; have HX9 := Lib.hid he; clear he)
    | (go_at_call 10; refine (HRM.out _ ((((((((((((((HX1.out).trans HX2.out).alloc (.cells #[.string PA, .string PB, .int .i64 pd] 23)).trans HX3.out).trans HX4.out).trans HX5.out).trans HX6.out).alloc (.cells #[.string CA, .string CB, .int .i64 cd] 23)).trans HX7.out).alloc (.cells #[.string DA, .string DB, .int .i64 dd] 23)).trans HX8.out).alloc (.cells #[.string QA, .string QB, .int .i64 qd] 23)).trans HX9.out).alloc (.cells #[.string QA, .string QB, .int .i64 qd] 23))).mono ?_; clear HRM; rintro e10 w10 ⟨rfl, he⟩; have HX10 := Lib.hid he; clear he; obtain ⟨k0, k1, k2⟩ := (BoxS.ext (boxS_new w8 QA QB qd) (((HX9.out).alloc (.cells #[.string QA, .string QB, .int .i64 qd] 23)).trans HX10.out)).cells; obtain ⟨l0, l1, l2⟩ := (BoxS.ext (boxS_new w9 QA QB qd) (HX10.out)).cells; obtain ⟨i0, i1, i2⟩ := (HB1.out _ (((((((((((((((HX1.out).trans HX2.out).alloc (.cells #[.string PA, .string PB, .int .i64 pd] 23)).trans HX3.out).trans HX4.out).trans HX5.out).trans HX6.out).alloc (.cells #[.string CA, .string CB, .int .i64 cd] 23)).trans HX7.out).alloc (.cells #[.string DA, .string DB, .int .i64 dd] 23)).trans HX8.out).alloc (.cells #[.string QA, .string QB, .int .i64 qd] 23)).trans HX9.out).alloc (.cells #[.string QA, .string QB, .int .i64 qd] 23)).trans HX10.out)).cells)
    | (go_at_call 11; refine (HS1.out _ (((((((((((((((HX1.out).trans HX2.out).alloc (.cells #[.string PA, .string PB, .int .i64 pd] 23)).trans HX3.out).trans HX4.out).trans HX5.out).trans HX6.out).alloc (.cells #[.string CA, .string CB, .int .i64 cd] 23)).trans HX7.out).alloc (.cells #[.string DA, .string DB, .int .i64 dd] 23)).trans HX8.out).alloc (.cells #[.string QA, .string QB, .int .i64 qd] 23)).trans HX9.out).alloc (.cells #[.string QA, .string QB, .int .i64 qd] 23)).trans HX10.out)).mono ?_; clear HS1 i0 i1 i2 k0 k1 k2 l0 l1 l2; rintro e11 w11 ⟨rfl, he⟩; have HX11 := Lib.hid he; clear he)
    | (go_at_call 12; refine (HRS.out _ ((((((((((((((((HX1.out).trans HX2.out).alloc (.cells #[.string PA, .string PB, .int .i64 pd] 23)).trans HX3.out).trans HX4.out).trans HX5.out).trans HX6.out).alloc (.cells #[.string CA, .string CB, .int .i64 cd] 23)).trans HX7.out).alloc (.cells #[.string DA, .string DB, .int .i64 dd] 23)).trans HX8.out).alloc (.cells #[.string QA, .string QB, .int .i64 qd] 23)).trans HX9.out).alloc (.cells #[.string QA, .string QB, .int .i64 qd] 23)).trans HX10.out).trans HX11.out)).mono ?_; clear HRS; rintro e12 w12 ⟨rfl, he⟩; have HX12 := Lib.hid he; clear he; obtain ⟨i0, i1, i2⟩ := (HB1.out _ (((((((((((((((((HX1.out).trans HX2.out).alloc (.cells #[.string PA, .string PB, .int .i64 pd] 23)).trans HX3.out).trans HX4.out).trans HX5.out).trans HX6.out).alloc (.cells #[.string CA, .string CB, .int .i64 cd] 23)).trans HX7.out).alloc (.cells #[.string DA, .string DB, .int .i64 dd] 23)).trans HX8.out).alloc (.cells #[.string QA, .string QB, .int .i64 qd] 23)).trans HX9.out).alloc (.cells #[.string QA, .string QB, .int .i64 qd] 23)).trans HX10.out).trans HX11.out).trans HX12.out)).cells)
    | (go_at_call 12; refine (HRS2.out _ (((((((((((((((((HX1.out).trans HX2.out).alloc (.cells #[.string PA, .string PB, .int .i64 pd] 23)).trans HX3.out).trans HX4.out).trans HX5.out).trans HX6.out).alloc (.cells #[.string CA, .string CB, .int .i64 cd] 23)).trans HX7.out).alloc (.cells #[.string DA, .string DB, .int .i64 dd] 23)).trans HX8.out).alloc (.cells #[.string QA, .string QB, .int .i64 qd] 23)).trans HX9.out).alloc (.cells #[.string QA, .string QB, .int .i64 qd] 23)).trans HX10.out).trans HX11.out).trans HX12.out)).mono ?_; clear HRS2 i0 i1 i2; rintro e13 w13 ⟨rfl, he⟩; have HX13 := Lib.hid he; clear he)
    | (go_at_call 6; refine (HAW.out _ ((((((((((((((((((HX1.out).trans HX2.out).alloc (.cells #[.string PA, .string PB, .int .i64 pd] 23)).trans HX3.out).trans HX4.out).trans HX5.out).trans HX6.out).alloc (.cells #[.string CA, .string CB, .int .i64 cd] 23)).trans HX7.out).alloc (.cells #[.string DA, .string DB, .int .i64 dd] 23)).trans HX8.out).alloc (.cells #[.string QA, .string QB, .int .i64 qd] 23)).trans HX9.out).alloc (.cells #[.string QA, .string QB, .int .i64 qd] 23)).trans HX10.out).trans HX11.out).trans HX12.out).trans HX13.out)).mono ?_; clear HAW; rintro e14 w14 ⟨rfl, he⟩; have HX14 := Lib.hid he; clear he))
  go_ret
  exact ⟨rfl, HE0.out.trans ((((((((((((((((((HX1.out).trans HX2.out).alloc (.cells #[.string PA, .string PB, .int .i64 pd] 23)).trans HX3.out).trans HX4.out).trans HX5.out).trans HX6.out).alloc (.cells #[.string CA, .string CB, .int .i64 cd] 23)).trans HX7.out).alloc (.cells #[.string DA, .string DB, .int .i64 dd] 23)).trans HX8.out).alloc (.cells #[.string QA, .string QB, .int .i64 qd] 23)).trans HX9.out).alloc (.cells #[.string QA, .string QB, .int .i64 qd] 23)).trans HX10.out).trans HX11.out).trans HX12.out).trans HX13.out |>.trans HX14.out)⟩
set_option maxRecDepth 100000 in
set_option maxHeartbeats 2000000 in
theorem norm_Cn (a b : SU) (w : World) (htab : TabW w) (hs : smallB [a, b] = true) (v u : SV) (h1 : readV a.A.data.toList a.B.data.toList a.D = some v) (h2 : readV b.A.data.toList b.B.data.toList b.D = some u) (ht : togOk v u = true) (hp : ¬ 0 < sg (nrm v)) :
    Calls Tryd.prog 3 #[.agg #[.string a.A, .string a.B, .int .i64 a.D], .agg #[.string b.A, .string b.B, .int .i64 b.D]] w fun e w' => e = .returned (.bool true) ∧ Ext w w' := by
  obtain ⟨⟨s1, s2⟩, s3, s4⟩ := smallB_two hs
  have v1 := readV_val h1
  have v2 := readV_val h2
  have b1 : VB 164 v := readV_VB (n := 40) h1 (by rw [Array.length_toList]; exact s1) (by rw [Array.length_toList]; exact s2)
  have b2 : VB 164 u := readV_VB (n := 40) h2 (by rw [Array.length_toList]; exact s3) (by rw [Array.length_toList]; exact s4)
  have v3 := Val.mul v1 v2 ht
  have b3 : VB 688 (mulV v u) := b1.mul b2
  obtain ⟨z1, z2⟩ := b3.sizes (by decide)
  obtain ⟨z3, z4⟩ := b1.conj.sizes (by decide)
  obtain ⟨z5, z6⟩ := b2.conj.sizes (by decide)
  obtain ⟨F, f1, f2, f3, f4⟩ := together v1 v2 ht
  have r3 := readV_text v3
  have r4 := readV_text (Val.conj v1)
  have r5 := readV_text (Val.conj v2)
  have ht2 : togOk (conjV v) (conjV u) = true := ht
  have hc := conj_mul f2 f3 f4
  have hn := nrm_mul f2 f3 f4
  obtain ⟨w0, hw0⟩ : ∃ w0, w0 = (((w.alloc (.cells #[.string a.A, .string a.B, .int .i64 a.D] 23)).alloc (.cells #[.string b.A, .string b.B, .int .i64 b.D] 23)).alloc (.cells #[.string a.A, .string a.B, .int .i64 a.D, .string b.A, .string b.B, .int .i64 b.D] 23)) := ⟨_, rfl⟩
  have HE0 : Hid (Ext w w0) := Lib.hid (by rw [hw0]; exact Ext.three _ _ _ _)
  have HB1 : Hid (∀ W, Ext w0 W → BoxS W w.heap.size a.A a.B a.D) := Lib.hid (fun W he => BoxS.ext (by rw [hw0]; exact BoxS.ext (boxS_new w _ _ _) (Ext.two _ _ _)) he)
  have HB2 : Hid (∀ W, Ext w0 W → BoxS W (w.heap.size + 1) b.A b.B b.D) := Lib.hid (fun W he => BoxS.ext (by rw [hw0]; exact BoxS.ext (heap_alloc2_new w _ _) (Ext.one _ _)) he)
  have HSM : Hid (Calls Tryd.prog 5 #[.slice (some ⟨w.heap.size + 1 + 1, 0, none⟩) 2 2] w0 fun e w' => e = .returned (.bool (smallB [a, b])) ∧ Ext w0 w') := Lib.hid (small_calls _ 2 [a, b] w0 (by rw [hw0]; have h := slS_two ((w.alloc (.cells #[.string a.A, .string a.B, .int .i64 a.D] 23)).alloc (.cells #[.string b.A, .string b.B, .int .i64 b.D] 23)) a b; rw [size_alloc, size_alloc] at h; exact h) (Nat.le_trans (show [a, b].length ≤ 2 from Nat.le_refl 2) (by decide)))
  have HW0 := Lib.hid hw0
  have HAW := Lib.hid (fun W (he : Ext w0 W) => awake_calls W (htab.ext (HE0.out.trans he)))
  rw [hs] at HSM
  have HM1 := Lib.hid (fun W (he : Ext w0 W) => Mul_ok a.A a.B b.A b.B a.D b.D 40 W s1 s2 s3 s4 (by decide) v u h1 h2 ht (htab.ext (HE0.out.trans he)))
  have HN1 := Lib.hid (fun W (he : Ext w0 W) => Norm_ok a.A a.B a.D 40 W s1 s2 (by decide) v h1 (htab.ext (HE0.out.trans he)))
  have HN2 := Lib.hid (fun W (he : Ext w0 W) => Norm_ok b.A b.B b.D 40 W s3 s4 (by decide) u h2 (htab.ext (HE0.out.trans he)))
  have HN3 := Lib.hid (fun W (he : Ext w0 W) => Norm_ok ⟨(textR (mulV v u).a).toArray⟩ ⟨(textR (mulV v u).b).toArray⟩ (mulV v u).d 1378 W z1 z2 (by decide) (mulV v u) r3 (htab.ext (HE0.out.trans he)))
  have HC1 := Lib.hid (fun W (he : Ext w0 W) => Conjugate_ok a.A a.B a.D 40 W s1 s2 (by decide) v h1 (htab.ext (HE0.out.trans he)))
  have HC2 := Lib.hid (fun W (he : Ext w0 W) => Conjugate_ok b.A b.B b.D 40 W s3 s4 (by decide) u h2 (htab.ext (HE0.out.trans he)))
  have HM2 := Lib.hid (fun W (he : Ext w0 W) => Mul_ok ⟨(textR (conjV v).a).toArray⟩ ⟨(textR (conjV v).b).toArray⟩ ⟨(textR (conjV u).a).toArray⟩ ⟨(textR (conjV u).b).toArray⟩ (conjV v).d (conjV u).d 1378 W (by omega) (by omega) (by omega) (by omega) (by decide) (conjV v) (conjV u) r4 r5 ht2 (htab.ext (HE0.out.trans he)))
  have HC3 := Lib.hid (fun W (he : Ext w0 W) => Conjugate_ok ⟨(textR (mulV v u).a).toArray⟩ ⟨(textR (mulV v u).b).toArray⟩ (mulV v u).d 1378 W z1 z2 (by decide) (mulV v u) r3 (htab.ext (HE0.out.trans he)))
  have z7 : (⟨(textR (nrm v)).toArray⟩ : ByteArray).size ≤ 10000 := Nat.le_trans (text_size (b := 800) (nrm_RB b1) (by decide)) (by decide)
  have z8 : (⟨(textR (nrm u)).toArray⟩ : ByteArray).size ≤ 10000 := Nat.le_trans (text_size (b := 800) (nrm_RB b2) (by decide)) (by decide)
  have HRM := Lib.hid (fun W (he : Ext w0 W) => ratMul_calls ⟨(textR (nrm v)).toArray⟩ ⟨(textR (nrm u)).toArray⟩ 10000 W z7 z8 (by decide) (htab.ext (HE0.out.trans he)))
  have HS1 := Lib.hid (fun W (he : Ext w0 W) => Sign_ok a.A a.B a.D 40 W s1 s2 (by decide) v h1)
  have HRS := Lib.hid (fun W (he : Ext w0 W) => ratSign_calls ⟨(textR (nrm v)).toArray⟩ 10000 W z7 (by decide))
  have HRS2 := Lib.hid (fun W (he : Ext w0 W) => ratSign_calls a.A 40 W s1 (by decide))
  have hga : getR a.A.data.toList = v.a := getR_read h1
  rw [hc] at HM2
  unfold SurOk at HM1 HC1 HC2 HM2 HC3
  simp only [getR_text, ← hn] at HRM HRS
  rw [hga] at HRS2
  
  
  clear z1 z2 z3 z4 z5 z6 z7 z8 b1 b2 b3 v1 v2 v3 r3 r4 r5 h1 h2 ht ht2 hc hn f1 f2 f3 f4 s1 s2 s3 s4 hs htab hw0 hga 
  generalize (⟨(textR (mulV v u).a).toArray⟩ : ByteArray) = PA at *
  generalize (⟨(textR (mulV v u).b).toArray⟩ : ByteArray) = PB at *
  generalize (⟨(textR (conjV v).a).toArray⟩ : ByteArray) = CA at *
  generalize (⟨(textR (conjV v).b).toArray⟩ : ByteArray) = CB at *
  generalize (⟨(textR (conjV u).a).toArray⟩ : ByteArray) = DA at *
  generalize (⟨(textR (conjV u).b).toArray⟩ : ByteArray) = DB at *
  generalize (⟨(textR (conjV (mulV v u)).a).toArray⟩ : ByteArray) = QA at *
  generalize (⟨(textR (conjV (mulV v u)).b).toArray⟩ : ByteArray) = QB at *
  generalize (⟨(textR (nrm (mulV v u))).toArray⟩ : ByteArray) = Z at *
  generalize (⟨(textR (nrm v)).toArray⟩ : ByteArray) = X at *
  generalize (⟨(textR (nrm u)).toArray⟩ : ByteArray) = Y at *
  generalize (conjV (mulV v u)).d = qd at *
  generalize (mulV v u).d = pd at *
  generalize (conjV v).d = cd at *
  generalize (conjV u).d = dd at *
  generalize signV v = sv at *
  generalize sg v.a = sa at *
  generalize sg (nrm v) = sn at *
  have c1 : decide (sn ≤ 0) = true := decide_eq_true (by omega)
  clear hp
  obtain ⟨i0, i1, i2⟩ := (HB1.out _ (Ext.refl _)).cells
  obtain ⟨j0, j1, j2⟩ := (HB2.out _ (Ext.refl _)).cells
  go_enter Tryd.func3, Tryd.ntmps3
  go_wp2_with fail
  rw [← HW0.out]
  go_wp2_with (first
    | (go_at_call 5; refine HSM.out.mono ?_; clear HSM; rintro e1 w1 ⟨rfl, he⟩; have HX1 := Lib.hid he; clear he; clear i0 i1 i2 j0 j1 j2; obtain ⟨i0, i1, i2⟩ := (HB1.out _ (HX1.out)).cells; obtain ⟨j0, j1, j2⟩ := (HB2.out _ (HX1.out)).cells)
    | (go_at_call 7; refine (HM1.out _ (HX1.out)).mono ?_; clear HM1 i0 i1 i2 j0 j1 j2; rintro e2 w2 ⟨rfl, he⟩; have HX2 := Lib.hid he; clear he; obtain ⟨i0, i1, i2⟩ := (HB1.out _ (((HX1.out).trans HX2.out).alloc (.cells #[.string PA, .string PB, .int .i64 pd] 23))).cells)
    | (go_at_call 8; refine (HN1.out _ (((HX1.out).trans HX2.out).alloc (.cells #[.string PA, .string PB, .int .i64 pd] 23))).mono ?_; clear HN1 i0 i1 i2; rintro e3 w3 ⟨rfl, he⟩; have HX3 := Lib.hid he; clear he; obtain ⟨j0, j1, j2⟩ := (HB2.out _ ((((HX1.out).trans HX2.out).alloc (.cells #[.string PA, .string PB, .int .i64 pd] 23)).trans HX3.out)).cells)
    | (go_at_call 8; refine (HN2.out _ ((((HX1.out).trans HX2.out).alloc (.cells #[.string PA, .string PB, .int .i64 pd] 23)).trans HX3.out)).mono ?_; clear HN2 j0 j1 j2; rintro e4 w4 ⟨rfl, he⟩; have HX4 := Lib.hid he; clear he; obtain ⟨k0, k1, k2⟩ := (BoxS.ext (boxS_new w2 PA PB pd) ((HX3.out).trans HX4.out)).cells)
    | (go_at_call 8; refine (HN3.out _ (((((HX1.out).trans HX2.out).alloc (.cells #[.string PA, .string PB, .int .i64 pd] 23)).trans HX3.out).trans HX4.out)).mono ?_; clear HN3 k0 k1 k2; rintro e5 w5 ⟨rfl, he⟩; have HX5 := Lib.hid he; clear he; obtain ⟨i0, i1, i2⟩ := (HB1.out _ ((((((HX1.out).trans HX2.out).alloc (.cells #[.string PA, .string PB, .int .i64 pd] 23)).trans HX3.out).trans HX4.out).trans HX5.out)).cells)
    | (go_at_call 9; refine (HC1.out _ ((((((HX1.out).trans HX2.out).alloc (.cells #[.string PA, .string PB, .int .i64 pd] 23)).trans HX3.out).trans HX4.out).trans HX5.out)).mono ?_; clear HC1 i0 i1 i2; rintro e6 w6 ⟨rfl, he⟩; have HX6 := Lib.hid he; clear he; obtain ⟨j0, j1, j2⟩ := (HB2.out _ ((((((((HX1.out).trans HX2.out).alloc (.cells #[.string PA, .string PB, .int .i64 pd] 23)).trans HX3.out).trans HX4.out).trans HX5.out).trans HX6.out).alloc (.cells #[.string CA, .string CB, .int .i64 cd] 23))).cells)
    | (go_at_call 9; refine (HC2.out _ ((((((((HX1.out).trans HX2.out).alloc (.cells #[.string PA, .string PB, .int .i64 pd] 23)).trans HX3.out).trans HX4.out).trans HX5.out).trans HX6.out).alloc (.cells #[.string CA, .string CB, .int .i64 cd] 23))).mono ?_; clear HC2 j0 j1 j2; rintro e7 w7 ⟨rfl, he⟩; have HX7 := Lib.hid he; clear he; obtain ⟨k0, k1, k2⟩ := (BoxS.ext (boxS_new w6 CA CB cd) ((HX7.out).alloc (.cells #[.string DA, .string DB, .int .i64 dd] 23))).cells)
    | (go_at_call 7; refine (HM2.out _ ((((((((((HX1.out).trans HX2.out).alloc (.cells #[.string PA, .string PB, .int .i64 pd] 23)).trans HX3.out).trans HX4.out).trans HX5.out).trans HX6.out).alloc (.cells #[.string CA, .string CB, .int .i64 cd] 23)).trans HX7.out).alloc (.cells #[.string DA, .string DB, .int .i64 dd] 23))).mono ?_; clear HM2 k0 k1 k2; rintro e8 w8 ⟨rfl, he⟩; have HX8 := Lib.hid he; clear he; obtain ⟨l0, l1, l2⟩ := (BoxS.ext (boxS_new w2 PA PB pd) (((((((((HX3.out).trans HX4.out).trans HX5.out).trans HX6.out).alloc (.cells #[.string CA, .string CB, .int .i64 cd] 23)).trans HX7.out).alloc (.cells #[.string DA, .string DB, .int .i64 dd] 23)).trans HX8.out).alloc (.cells #[.string QA, .string QB, .int .i64 qd] 23))).cells)
    | (go_at_call 9; refine (HC3.out _ ((((((((((((HX1.out).trans HX2.out).alloc (.cells #[.string PA, .string PB, .int .i64 pd] 23)).trans HX3.out).trans HX4.out).trans HX5.out).trans HX6.out).alloc (.cells #[.string CA, .string CB, .int .i64 cd] 23)).trans HX7.out).alloc (.cells #[.string DA, .string DB, .int .i64 dd] 23)).trans HX8.out).alloc (.cells #[.string QA, .string QB, .int .i64 qd] 23))).mono ?_; clear HC3 l0 l1 l2; rintro e9 w9 ⟨rfl, he⟩; have HX9 := Lib.hid he; clear he)
    | (go_at_call 10; refine (HRM.out _ ((((((((((((((HX1.out).trans HX2.out).alloc (.cells #[.string PA, .string PB, .int .i64 pd] 23)).trans HX3.out).trans HX4.out).trans HX5.out).trans HX6.out).alloc (.cells #[.string CA, .string CB, .int .i64 cd] 23)).trans HX7.out).alloc (.cells #[.string DA, .string DB, .int .i64 dd] 23)).trans HX8.out).alloc (.cells #[.string QA, .string QB, .int .i64 qd] 23)).trans HX9.out).alloc (.cells #[.string QA, .string QB, .int .i64 qd] 23))).mono ?_; clear HRM; rintro e10 w10 ⟨rfl, he⟩; have HX10 := Lib.hid he; clear he; obtain ⟨k0, k1, k2⟩ := (BoxS.ext (boxS_new w8 QA QB qd) (((HX9.out).alloc (.cells #[.string QA, .string QB, .int .i64 qd] 23)).trans HX10.out)).cells; obtain ⟨l0, l1, l2⟩ := (BoxS.ext (boxS_new w9 QA QB qd) (HX10.out)).cells; obtain ⟨i0, i1, i2⟩ := (HB1.out _ (((((((((((((((HX1.out).trans HX2.out).alloc (.cells #[.string PA, .string PB, .int .i64 pd] 23)).trans HX3.out).trans HX4.out).trans HX5.out).trans HX6.out).alloc (.cells #[.string CA, .string CB, .int .i64 cd] 23)).trans HX7.out).alloc (.cells #[.string DA, .string DB, .int .i64 dd] 23)).trans HX8.out).alloc (.cells #[.string QA, .string QB, .int .i64 qd] 23)).trans HX9.out).alloc (.cells #[.string QA, .string QB, .int .i64 qd] 23)).trans HX10.out)).cells)
    | (go_at_call 11; refine (HS1.out _ (((((((((((((((HX1.out).trans HX2.out).alloc (.cells #[.string PA, .string PB, .int .i64 pd] 23)).trans HX3.out).trans HX4.out).trans HX5.out).trans HX6.out).alloc (.cells #[.string CA, .string CB, .int .i64 cd] 23)).trans HX7.out).alloc (.cells #[.string DA, .string DB, .int .i64 dd] 23)).trans HX8.out).alloc (.cells #[.string QA, .string QB, .int .i64 qd] 23)).trans HX9.out).alloc (.cells #[.string QA, .string QB, .int .i64 qd] 23)).trans HX10.out)).mono ?_; clear HS1 i0 i1 i2 k0 k1 k2 l0 l1 l2; rintro e11 w11 ⟨rfl, he⟩; have HX11 := Lib.hid he; clear he)
    | (go_at_call 12; refine (HRS.out _ ((((((((((((((((HX1.out).trans HX2.out).alloc (.cells #[.string PA, .string PB, .int .i64 pd] 23)).trans HX3.out).trans HX4.out).trans HX5.out).trans HX6.out).alloc (.cells #[.string CA, .string CB, .int .i64 cd] 23)).trans HX7.out).alloc (.cells #[.string DA, .string DB, .int .i64 dd] 23)).trans HX8.out).alloc (.cells #[.string QA, .string QB, .int .i64 qd] 23)).trans HX9.out).alloc (.cells #[.string QA, .string QB, .int .i64 qd] 23)).trans HX10.out).trans HX11.out)).mono ?_; clear HRS; rintro e12 w12 ⟨rfl, he⟩; have HX12 := Lib.hid he; clear he; obtain ⟨i0, i1, i2⟩ := (HB1.out _ (((((((((((((((((HX1.out).trans HX2.out).alloc (.cells #[.string PA, .string PB, .int .i64 pd] 23)).trans HX3.out).trans HX4.out).trans HX5.out).trans HX6.out).alloc (.cells #[.string CA, .string CB, .int .i64 cd] 23)).trans HX7.out).alloc (.cells #[.string DA, .string DB, .int .i64 dd] 23)).trans HX8.out).alloc (.cells #[.string QA, .string QB, .int .i64 qd] 23)).trans HX9.out).alloc (.cells #[.string QA, .string QB, .int .i64 qd] 23)).trans HX10.out).trans HX11.out).trans HX12.out)).cells)
    | (go_at_call 12; refine (HRS2.out _ (((((((((((((((((HX1.out).trans HX2.out).alloc (.cells #[.string PA, .string PB, .int .i64 pd] 23)).trans HX3.out).trans HX4.out).trans HX5.out).trans HX6.out).alloc (.cells #[.string CA, .string CB, .int .i64 cd] 23)).trans HX7.out).alloc (.cells #[.string DA, .string DB, .int .i64 dd] 23)).trans HX8.out).alloc (.cells #[.string QA, .string QB, .int .i64 qd] 23)).trans HX9.out).alloc (.cells #[.string QA, .string QB, .int .i64 qd] 23)).trans HX10.out).trans HX11.out).trans HX12.out)).mono ?_; clear HRS2 i0 i1 i2; rintro e13 w13 ⟨rfl, he⟩; have HX13 := Lib.hid he; clear he)
    | (go_at_call 6; refine (HAW.out _ (((((((((((((((((HX1.out).trans HX2.out).alloc (.cells #[.string PA, .string PB, .int .i64 pd] 23)).trans HX3.out).trans HX4.out).trans HX5.out).trans HX6.out).alloc (.cells #[.string CA, .string CB, .int .i64 cd] 23)).trans HX7.out).alloc (.cells #[.string DA, .string DB, .int .i64 dd] 23)).trans HX8.out).alloc (.cells #[.string QA, .string QB, .int .i64 qd] 23)).trans HX9.out).alloc (.cells #[.string QA, .string QB, .int .i64 qd] 23)).trans HX10.out).trans HX11.out).trans HX12.out)).mono ?_; clear HAW; rintro e14 w14 ⟨rfl, he⟩; have HX14 := Lib.hid he; clear he))
  go_ret
  exact ⟨rfl, HE0.out.trans (((((((((((((((((HX1.out).trans HX2.out).alloc (.cells #[.string PA, .string PB, .int .i64 pd] 23)).trans HX3.out).trans HX4.out).trans HX5.out).trans HX6.out).alloc (.cells #[.string CA, .string CB, .int .i64 cd] 23)).trans HX7.out).alloc (.cells #[.string DA, .string DB, .int .i64 dd] 23)).trans HX8.out).alloc (.cells #[.string QA, .string QB, .int .i64 qd] 23)).trans HX9.out).alloc (.cells #[.string QA, .string QB, .int .i64 qd] 23)).trans HX10.out).trans HX11.out).trans HX12.out |>.trans HX14.out)⟩
/-- SurdNorm returns true. -/
theorem norm_law (a b : SU) (w : World) (htab : TabW w) :
    Calls Tryd.prog 3 #[.agg #[.string a.A, .string a.B, .int .i64 a.D], .agg #[.string b.A, .string b.B, .int .i64 b.D]] w fun e w' => e = .returned (.bool true) ∧ Ext w w' := by
  cases hs : smallB [a, b] with
  | false => exact norm_A a b w htab hs
  | true =>
    by_cases hk : pairE (readV a.A.data.toList a.B.data.toList a.D) (readV b.A.data.toList b.B.data.toList b.D) = 0
    · obtain ⟨v, u, h1, h2, ht⟩ := pairE_ok hk
      by_cases hp : 0 < sg (nrm v)
      · exact norm_Cp a b w htab hs v u h1 h2 ht hp
      · exact norm_Cn a b w htab hs v u h1 h2 ht hp
    · exact norm_B a b w htab hs _ rfl hk
end Go.Proofs.YtpgnlpjjpgdoiaaDoor
