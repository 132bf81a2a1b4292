/- Merged by program: Small, Awake, LawP, LawQ, LawF. -/
import Derived.Test.YtpgnlpjjpgdoiaaDoorFf
/- Short, small. -/
namespace Go.Proofs.YtpgnlpjjpgdoiaaDoor
open Go Go.RowKit SurdM
set_option linter.unusedVariables false
set_option linter.unusedSimpArgs false
/-- A slice of strings. -/
def SlStr (w : World) (A : Option Addr) (xs : List ByteArray) : Prop := ∀ i (h : i < xs.length), ∃ b o, A = some ⟨b, o, none⟩ ∧ w.cell? ⟨b, o + i, none⟩ = some (.string xs[i])
theorem SlStr.ext {w w' : World} {A : Option Addr} {xs : List ByteArray} (h : SlStr w A xs) (he : Ext w w') : SlStr w' A xs := fun i hi => by
  obtain ⟨b, o, h1, h2⟩ := h i hi
  exact ⟨b, o, h1, he.cell h2⟩
def shortB (n : Nat) (xs : List ByteArray) : Bool := xs.all fun s => decide (s.size ≤ n)
theorem shortB_snoc (n : Nat) (xs : List ByteArray) (k : Nat) (h : k < xs.length) : shortB n (xs.take (k + 1)) = (shortB n (xs.take k) && decide (xs[k].size ≤ n)) := by
  unfold shortB; rw [List.take_succ_eq_append_getElem h, List.all_append]; simp
theorem shortB_no (n : Nat) (xs : List ByteArray) (k : Nat) (h : k < xs.length) (hb : ¬ xs[k].size ≤ n) : shortB n xs = false := by
  unfold shortB; rw [List.all_eq_false]; exact ⟨xs[k], List.getElem_mem h, by simpa using hb⟩
set_option maxRecDepth 100000 in
set_option maxHeartbeats 400000 in
theorem short_calls (n : Nat) (A : Option Addr) (c : Nat) (xs : List ByteArray) (w : World) (hx : SlStr w A xs) (hl : xs.length ≤ 1099511627776) :
    Calls Tryd.prog 15 #[.int .i64 (n : Int), .slice A xs.length c] w fun e w' => e = .returned (.bool (shortB n xs)) ∧ w = w' := by
  have HX := Lib.hid hx
  have HL := Lib.hid hl
  clear hx hl
  go_enter Tryd.func15, Tryd.ntmps15
  go_wp2
  go_loop [5] (fun i => ∃ k : Nat, k ≤ xs.length ∧ i = .int .i64 (k : Int) ∧ Hid (shortB n (xs.take k) = true)) (fun i => xs.length - (intOf i).toNat)
  case atStart => exact ⟨0, by omega, rfl, Lib.hid rfl⟩
  case round =>
    obtain ⟨k, hk, rfl, HA⟩ := hrel
    by_cases hlt : k < xs.length
    · obtain ⟨b, o, rfl, hc⟩ := HX.out k hlt
      have HSN := Lib.hid (shortB_snoc n xs k hlt)
      have i0 : (0 : Int) ≤ (k : Int) := by omega
      have i1 : (k : Int) < (xs.length : Int) := by omega
      have u1 : IntKind.i64.wrap (((k : Nat) : Int) + 1) = ((k : Nat) : Int) + 1 := by have := HL.out; simp only [IntKind.wrap_i64]; omega
      by_cases hs : xs[k].size ≤ n
      · have HS : Hid (decide (xs[k].size ≤ n) = true) := Lib.hid (decide_eq_true hs)
        have t1 : ¬ n < xs[k].size := by omega
        generalize xs[k] = s at *
        clear hs
        go_wp2
        go_round
        case rel => exact ⟨k + 1, by omega, by go_num, Lib.hid (by rw [HSN.out, HA.out, HS.out]; rfl)⟩
        case measure => simp [intOf]; omega
      · have HR : Hid (shortB n xs = false) := Lib.hid (shortB_no n xs k hlt hs)
        have t1 : n < xs[k].size := by omega
        clear HSN
        generalize xs[k] = s at *
        clear hs
        go_wp2
        go_ret
        exact ⟨by rw [HR.out]; rfl, rfl⟩
    · have HR : Hid (shortB n xs = true) := Lib.hid (by have h := HA.out; rw [List.take_of_length_le (by omega)] at h; exact h)
      go_wp2
      go_ret
      exact ⟨by rw [HR.out]; rfl, rfl⟩
/-- A surd of package api. -/
structure SU where
  A : ByteArray
  B : ByteArray
  D : Int
/-- A slice of surds. -/
def SlS (w : World) (A : Option Addr) (xs : List SU) : Prop := ∀ i (h : i < xs.length), ∃ b o, A = some ⟨b, o, none⟩ ∧ w.cell? ⟨b, o + i * 3, none⟩ = some (.string xs[i].A) ∧ w.cell? ⟨b, o + i * 3 + 1, none⟩ = some (.string xs[i].B)
theorem SlS.ext {w w' : World} {A : Option Addr} {xs : List SU} (h : SlS w A xs) (he : Ext w w') : SlS w' A xs := fun i hi => by
  obtain ⟨b, o, h1, h2, h3⟩ := h i hi
  exact ⟨b, o, h1, he.cell h2, he.cell h3⟩
def smallB (xs : List SU) : Bool := xs.all fun s => shortB 40 [s.A, s.B]
theorem smallB_snoc (xs : List SU) (k : Nat) (h : k < xs.length) : smallB (xs.take (k + 1)) = (smallB (xs.take k) && shortB 40 [xs[k].A, xs[k].B]) := by
  unfold smallB; rw [List.take_succ_eq_append_getElem h, List.all_append]; simp
theorem smallB_no (xs : List SU) (k : Nat) (h : k < xs.length) (hb : shortB 40 [xs[k].A, xs[k].B] = false) : smallB xs = false := by
  unfold smallB; rw [List.all_eq_false]; exact ⟨xs[k], List.getElem_mem h, by rw [hb]; decide⟩
theorem slStr_two (w : World) (S T : ByteArray) : SlStr (w.alloc (.cells #[.string S, .string T] 9)) (some ⟨w.heap.size, 0, none⟩) [S, T] := fun i h => by
  refine ⟨w.heap.size, 0, rfl, ?_⟩
  rw [cell_of_row _ _ _ _ _ _ (heap_alloc_new w _)]
  match i, h with
  | 0, _ => rfl
  | 1, _ => rfl
set_option maxRecDepth 100000 in
set_option maxHeartbeats 400000 in
theorem small_calls (A : Option Addr) (c : Nat) (xs : List SU) (w : World) (hx : SlS w A xs) (hl : xs.length ≤ 1099511627776) :
    Calls Tryd.prog 5 #[.slice A xs.length c] w fun e w' => e = .returned (.bool (smallB xs)) ∧ Ext w w' := by
  have HX := Lib.hid hx
  have HL := Lib.hid hl
  clear hx hl
  go_enter Tryd.func5, Tryd.ntmps5
  go_wp2
  go_loopw [3] (fun i wr => ∃ k : Nat, k ≤ xs.length ∧ i = .int .i64 (k : Int) ∧ Hid (smallB (xs.take k) = true) ∧ Hid (Ext w wr)) (fun i _ => xs.length - (intOf i).toNat)
  case atStart => exact ⟨0, by omega, rfl, Lib.hid rfl, Lib.hid (Ext.refl _)⟩
  case round =>
    obtain ⟨k, hk, rfl, HA, HE⟩ := hrel
    by_cases hlt : k < xs.length
    · obtain ⟨b, o, rfl, hc1, hc2⟩ := HX.out k hlt
      have HC1 := Lib.hid (fun W (he : Ext wr W) => (HE.out.trans he).cell hc1)
      have HC2 := Lib.hid (fun W (he : Ext wr W) => (HE.out.trans he).cell hc2)
      have HSN := Lib.hid (smallB_snoc xs k hlt)
      have HNO := Lib.hid (smallB_no xs k hlt)
      have i0 : (0 : Int) ≤ (k : Int) := by omega
      have i1 : (k : Int) < (xs.length : Int) := by omega
      have u1 : IntKind.i64.wrap (((k : Nat) : Int) + 1) = ((k : Nat) : Int) + 1 := by have := HL.out; simp only [IntKind.wrap_i64]; omega
      generalize xs[k].A = S at *
      generalize xs[k].B = T at *
      have HSH : Hid (∀ W g, SlStr W (some ⟨g, 0, none⟩) [S, T] → Calls Tryd.prog 15 #[.int .i64 40, .slice (some ⟨g, 0, none⟩) 2 2] W fun e w' => e = .returned (.bool (shortB 40 [S, T])) ∧ W = w') := Lib.hid (fun W g h => short_calls 40 (some ⟨g, 0, none⟩) 2 [S, T] W h (Nat.le_trans (show [S, T].length ≤ 2 from Nat.le_refl 2) (by decide)))
      cases hb : shortB 40 [S, T] with
      | false =>
        rw [hb] at HSH
        have HR : Hid (smallB xs = false) := Lib.hid (HNO.out hb)
        clear hb hc1 hc2 HSN HNO
        go_wp2
        go_region_held3 (fun W => W.cell? ⟨b, o + k * 3, none⟩ = some (.string S) ∧ W.cell? ⟨b, o + k * 3 + 1, none⟩ = some (.string T))
          (first
            | with_reducible exact ⟨HC1.out _ (Ext.refl _), HC2.out _ (Ext.refl _)⟩
            | with_reducible exact ⟨HC1.out _ (Ext.refl _).drew, HC2.out _ (Ext.refl _).drew⟩
            | with_reducible exact ⟨HC1.out _ ((Ext.refl _).alloc _).drew, HC2.out _ ((Ext.refl _).alloc _).drew⟩
            | with_reducible exact ⟨HC1.out _ ((Ext.refl _).drew.alloc _), HC2.out _ ((Ext.refl _).drew.alloc _)⟩)
          (first
            | (go_at_call 15; refine (HSH.out _ _ ((slStr_two wr S T).ext (Ext.refl _).drew)).mono ?_; clear HSH; rintro e2 w2 ⟨rfl, rfl⟩))
        go_wp2
        go_ret
        exact ⟨by rw [HR.out]; rfl, HE.out.trans ((Ext.one _ _).drew)⟩
      | true =>
        rw [hb] at HSH HSN
        clear hb hc1 hc2 HNO
        go_wp2
        go_region_held3 (fun W => W.cell? ⟨b, o + k * 3, none⟩ = some (.string S) ∧ W.cell? ⟨b, o + k * 3 + 1, none⟩ = some (.string T))
          (first
            | with_reducible exact ⟨HC1.out _ (Ext.refl _), HC2.out _ (Ext.refl _)⟩
            | with_reducible exact ⟨HC1.out _ (Ext.refl _).drew, HC2.out _ (Ext.refl _).drew⟩
            | with_reducible exact ⟨HC1.out _ ((Ext.refl _).alloc _).drew, HC2.out _ ((Ext.refl _).alloc _).drew⟩
            | with_reducible exact ⟨HC1.out _ ((Ext.refl _).drew.alloc _), HC2.out _ ((Ext.refl _).drew.alloc _)⟩)
          (first
            | (go_at_call 15; refine (HSH.out _ _ ((slStr_two wr S T).ext (Ext.refl _).drew)).mono ?_; clear HSH; rintro e2 w2 ⟨rfl, rfl⟩))
        go_wp2
        go_roundw
        case rel => exact ⟨k + 1, by omega, by go_num, Lib.hid (by rw [HSN.out, HA.out]; rfl), Lib.hid (HE.out.trans ((Ext.one _ _).drew))⟩
        case measure => simp [intOf]; omega
    · have HR : Hid (smallB xs = true) := Lib.hid (by have h := HA.out; rw [List.take_of_length_le (by omega)] at h; exact h)
      go_wp2
      go_ret
      exact ⟨by rw [HR.out]; rfl, HE.out⟩
end Go.Proofs.YtpgnlpjjpgdoiaaDoor
/- awake: three examples. -/
namespace Go.Proofs.YtpgnlpjjpgdoiaaDoor
open Go Go.RowKit SurdM
set_option linter.unusedVariables false
set_option linter.unusedSimpArgs false
theorem text_one (n : Nat) (h : n < 10) : textR ((n : Int) : Rat) = [dig1 n] := by
  unfold textR; rw [Rat.den_intCast, Rat.num_intCast, if_pos rfl, itoa_nat, dec_small h]
theorem text_neg (n : Nat) (h : n < 10) (h0 : n ≠ 0) : textR ((-(n : Int) : Int) : Rat) = [45, dig1 n] := by
  unfold textR Lib.itoa; rw [Rat.den_intCast, Rat.num_intCast, if_pos rfl, if_pos (by omega), Int.natAbs_neg, Int.natAbs_natCast, dec_small h]
theorem t0 : textR 0 = [48] := text_one 0 (by decide)
theorem t1 : textR 1 = [49] := text_one 1 (by decide)
theorem t2 : textR 2 = [50] := text_one 2 (by decide)
theorem t3 : textR 3 = [51] := text_one 3 (by decide)
theorem tn2 : textR (-2) = [45, 50] := text_neg 2 (by decide) (by decide)
theorem boxS_new (w : World) (S T : ByteArray) (d : Int) : BoxS (w.alloc (.cells #[.string S, .string T, .int .i64 d] 23)) w.heap.size S T d := heap_alloc_new w _
theorem sqF_two : SqF 2 := fun k h1 h2 => by
  have : 2 * 2 ≤ k * k := Int.mul_le_mul h1 h1 (by decide) (by omega)
  omega
theorem sqF_eight : ¬ SqF 8 := fun h => h 2 (by decide) (by decide) (by decide)
/-- Make("1", "1", 8). -/
theorem make_awake (w : World) (ht : TabW w) : Calls Tryd.prog 16 #[.string ⟨#[49]⟩, .string ⟨#[49]⟩, .int .i64 8] w fun e w' => e = .returned (.tuple #[.agg #[.string ⟨#[49]⟩, .string ⟨#[50]⟩, .int .i64 2], .int .i64 0]) ∧ Ext w w' := by
  have h1 : ofB (⟨#[49]⟩ : ByteArray).data.toList = some 1 := by rw [show (⟨#[49]⟩ : ByteArray).data.toList = textR 1 from t1.symm]; exact ofB_text 1
  refine (Make_gen ⟨#[49]⟩ ⟨#[49]⟩ 8 1 w (by decide) (by decide) (by decide) 1 h1 1 h1 (by decide) ht).mono ?_
  rintro e w' ⟨f, e2, hq, hf, he, hs, h⟩
  have hf2 : f = 2 ∧ e2 = 2 := by
    have h4 : f * f ≤ 8 := by
      have : f * f * 1 ≤ f * f * e2 := Int.mul_le_mul_of_nonneg_left he (by have : 0 ≤ f * f := Int.mul_nonneg (by omega) (by omega); exact this)
      omega
    have h5 : f < 3 := by
      rcases Int.lt_or_le f 3 with h | h
      · exact h
      · have : 3 * 3 ≤ f * f := Int.mul_le_mul h h (by decide) (by omega)
        omega
    have h6 : f = 1 ∨ f = 2 := by omega
    rcases h6 with rfl | rfl
    · obtain rfl : e2 = 8 := by omega
      exact absurd hs sqF_eight
    · exact ⟨rfl, by omega⟩
  obtain ⟨rfl, rfl⟩ := hf2
  have hv : makeV 1 1 2 2 = ⟨1, 2, 2⟩ := by
    unfold makeV norml
    rw [if_neg (by decide)]
    simp only []
    rw [if_neg (by decide +kernel), show (1 : Rat) * ((2 : Int) : Rat) = 2 from by decide +kernel]
  rw [hv] at h
  unfold SurOk at h
  simp only [t1, t2] at h
  exact h
/-- Sign of 3 - 2 sqrt 2. -/
theorem sign_awake (w : World) : Calls Tryd.prog 11 #[.agg #[.string ⟨#[51]⟩, .string ⟨#[45, 50]⟩, .int .i64 2]] w fun e w' => e = .returned (.tuple #[.int .i64 1, .int .i64 0]) ∧ Ext w w' := by
  have hv : Val ⟨3, -2, 2⟩ := .inr ⟨by decide, by decide, by decide, sqF_two⟩
  have h1 : readV (⟨#[51]⟩ : ByteArray).data.toList (⟨#[45, 50]⟩ : ByteArray).data.toList 2 = some ⟨3, -2, 2⟩ := by
    rw [show (⟨#[51]⟩ : ByteArray).data.toList = textR 3 from t3.symm, show (⟨#[45, 50]⟩ : ByteArray).data.toList = textR (-2) from tn2.symm]
    have h2 := readV_text hv
    exact h2
  have hs : signV ⟨3, -2, 2⟩ = 1 := by decide +kernel
  have h := Sign_ok ⟨#[51]⟩ ⟨#[45, 50]⟩ 2 2 w (by decide) (by decide) (by decide) ⟨3, -2, 2⟩ h1
  rw [hs] at h
  exact h
/-- The square of sqrt 2. -/
theorem mul_awake (w : World) (ht : TabW w) : Calls Tryd.prog 7 #[.agg #[.string ⟨#[48]⟩, .string ⟨#[49]⟩, .int .i64 2], .agg #[.string ⟨#[48]⟩, .string ⟨#[49]⟩, .int .i64 2]] w fun e w' => e = .returned (.tuple #[.agg #[.string ⟨#[50]⟩, .string ⟨#[48]⟩, .int .i64 1], .int .i64 0]) ∧ Ext w w' := by
  have hv : Val ⟨0, 1, 2⟩ := .inr ⟨by decide, by decide, by decide, sqF_two⟩
  have h1 : readV (⟨#[48]⟩ : ByteArray).data.toList (⟨#[49]⟩ : ByteArray).data.toList 2 = some ⟨0, 1, 2⟩ := by
    rw [show (⟨#[48]⟩ : ByteArray).data.toList = textR 0 from t0.symm, show (⟨#[49]⟩ : ByteArray).data.toList = textR 1 from t1.symm]
    have h2 := readV_text hv
    exact h2
  have hm : mulV ⟨0, 1, 2⟩ ⟨0, 1, 2⟩ = ⟨2, 0, 1⟩ := by
    unfold mulV norml tog
    simp only []
    rw [if_pos (by decide +kernel)]
    congr 1 <;> decide +kernel
  refine (Mul_ok ⟨#[48]⟩ ⟨#[49]⟩ ⟨#[48]⟩ ⟨#[49]⟩ 2 2 1 w (by decide) (by decide) (by decide) (by decide) (by decide) ⟨0, 1, 2⟩ ⟨0, 1, 2⟩ h1 h1 rfl ht).mono ?_
  rintro e w' h
  rw [hm] at h
  unfold SurOk at h
  simp only [t0, t2] at h
  exact h
set_option maxRecDepth 100000 in
set_option maxHeartbeats 400000 in
theorem awake_calls (w : World) (ht : TabW w) : Calls Tryd.prog 6 #[] w fun e w' => e = .returned (.bool true) ∧ Ext w w' := by
  have H1 := Lib.hid (make_awake w ht)
  have H2 := Lib.hid (fun W => sign_awake W)
  have H3 := Lib.hid (fun W (he : Ext w W) => mul_awake W (ht.ext he))
  clear ht
  go_enter Tryd.func6, Tryd.ntmps6
  go_wp2_with (first
    | (go_at_call 16; refine H1.out.mono ?_; clear H1; rintro e2 w2 ⟨rfl, he⟩; have HE2 := Lib.hid he; clear he)
    | (go_at_call 11; refine (H2.out _).mono ?_; clear H2; rintro e3 w3 ⟨rfl, he⟩; have HX3 := Lib.hid he; have HE3 : Hid (Ext w w3) := Lib.hid ((HE2.out.alloc _).trans he); clear he)
    | (go_at_call 7; refine (H3.out _ HE3.out).mono ?_; clear H3; rintro e4 w4 ⟨rfl, he⟩; have HX4 := Lib.hid he; have HE4 : Hid (Ext w w4) := Lib.hid (HE3.out.trans he); clear he; obtain ⟨k0, k1, k2⟩ := (BoxS.ext (boxS_new w2 ⟨#[49]⟩ ⟨#[50]⟩ 2) ((HX3.out.trans HX4.out).alloc (.cells #[.string ⟨#[50]⟩, .string ⟨#[48]⟩, .int .i64 1] 23))).cells))
  go_ret
  exact ⟨rfl, HE4.out.alloc _⟩
end Go.Proofs.YtpgnlpjjpgdoiaaDoor
/- What the laws on surds need: sizes, what is read back, any result of Norm. -/
namespace Go.Proofs.YtpgnlpjjpgdoiaaDoor
open Go Go.RowKit SurdM
set_option linter.unusedVariables false
set_option linter.unusedSimpArgs false
theorem text_size {b : Nat} {x : Rat} (h : RB b x) (hb : 0 < b) : (⟨(textR x).toArray⟩ : ByteArray).size ≤ 2 * b + 2 := by
  have e1 : 2 ^ b ≤ 10 ^ b := Nat.pow_le_pow_left (by decide) b
  have h1 := dec_len b _ (Nat.lt_of_lt_of_le h.num e1) hb
  have h2 := dec_len b _ (Nat.lt_of_lt_of_le h.den e1) hb
  rw [size_mk]
  unfold textR
  have h3 := itoa_len h1
  split
  · omega
  · rw [List.length_append, List.length_append]; simp; omega
/-- A value of at most b bits. -/
def VB (b : Nat) (v : SV) : Prop := RB b v.a ∧ RB b v.b ∧ 0 ≤ v.d ∧ v.d ≤ 1000000
theorem VB.mono {b c : Nat} {v : SV} (h : VB b v) (hb : b ≤ c) : VB c v := ⟨h.1.mono hb, h.2.1.mono hb, h.2.2⟩
theorem readV_VB {la lb : List UInt8} {d : Int} {v : SV} {n : Nat} (h : readV la lb d = some v) (ha : la.length ≤ n) (hb : lb.length ≤ n) : VB (4 * n + 4) v := by
  have hd := readV_d h
  unfold readV at h
  split at h
  · rename_i a b h1 h2
    have r1 := of_RB h1 ha
    have r2 := of_RB h2 hb
    split at h
    · split at h
      · injection h with h; subst h; exact ⟨r1, r2, hd⟩
      · exact absurd h (by simp)
    · split at h
      · exact absurd h (by simp)
      · injection h with h; subst h; exact ⟨r1, r2, hd⟩
  · exact absurd h (by simp)
theorem VB.tog {b c : Nat} {v u : SV} (h : VB b v) (k : VB c u) : 0 ≤ tog v u ∧ tog v u ≤ 1000000 := by
  unfold SurdM.tog; split
  · exact k.2.2
  · exact h.2.2
theorem VB.norml {b : Nat} {v : SV} (h : VB b v) : VB b (norml v) := by
  refine ⟨by rw [norml_a]; exact h.1, by rw [norml_b]; exact h.2.1, ?_⟩
  unfold SurdM.norml; split
  · exact ⟨by show (0 : Int) ≤ 1; decide, by show (1 : Int) ≤ 1000000; decide⟩
  · exact h.2.2
theorem VB.mul {b c : Nat} {v u : SV} (h : VB b v) (k : VB c u) : VB (2 * (b + c) + 32) (mulV v u) := by
  unfold mulV
  refine VB.norml ⟨?_, ?_, h.tog k⟩
  · exact ((h.1.mul k.1).add ((h.2.1.mul k.2.1).mul (RB.int (by have := h.tog k; omega)))).mono (by omega)
  · exact ((h.1.mul k.2.1).add (h.2.1.mul k.1)).mono (by omega)
theorem VB.add {b c : Nat} {v u : SV} (h : VB b v) (k : VB c u) : VB (b + c + 1) (addV v u) := by
  unfold addV
  exact VB.norml ⟨h.1.add k.1, h.2.1.add k.2.1, h.tog k⟩
theorem VB.conj {b : Nat} {v : SV} (h : VB b v) : VB b (conjV v) := ⟨h.1, h.2.1.neg, h.2.2⟩
theorem VB.sizes {b : Nat} {v : SV} (h : VB b v) (hb : 0 < b) : (⟨(textR v.a).toArray⟩ : ByteArray).size ≤ 2 * b + 2 ∧ (⟨(textR v.b).toArray⟩ : ByteArray).size ≤ 2 * b + 2 := ⟨text_size h.1 hb, text_size h.2.1 hb⟩
theorem Val.conj {v : SV} (h : Val v) : Val (conjV v) := by
  rcases h with ⟨h1, h2⟩ | ⟨h1, h2, h3, h4⟩
  · exact .inl ⟨h1, by show -v.b = 0; rw [h2]; rfl⟩
  · exact .inr ⟨h1, h2, by show -v.b ≠ 0; intro e; apply h3; grind, h4⟩
theorem Val.mul {v u : SV} (h : Val v) (k : Val u) (ht : togOk v u = true) : Val (mulV v u) := by
  obtain ⟨D, h1, h2, h3, h4⟩ := together h k ht
  obtain ⟨h5, h6, h7⟩ := mul_inF h2 h3 h4
  exact h5.val h1 (fun e => by rw [h7, (h4 e).1, (h4 e).2]; grind)
theorem Val.add {v u : SV} (h : Val v) (k : Val u) (ht : togOk v u = true) : Val (addV v u) := by
  obtain ⟨D, h1, h2, h3, h4⟩ := together h k ht
  obtain ⟨h5, h6, h7⟩ := add_inF h2 h3 h4
  exact h5.val h1 (fun e => by rw [h7, (h4 e).1, (h4 e).2]; grind)
theorem getR_text (x : Rat) : getR (textR x) = x := by unfold getR; rw [ofB_text]; rfl
/-- Norm returns a text and a number. -/
theorem Norm_any (sa sb : ByteArray) (d : Int) (w : World) (hsa : sa.size ≤ 40) (hsb : sb.size ≤ 40) (ht : TabW w) :
    Calls Tryd.prog 8 #[.agg #[.string sa, .string sb, .int .i64 d]] w fun e w' => ∃ S k, e = .returned (.tuple #[.string S, .int .i64 k]) ∧ Ext w w' := by
  cases h : readV sa.data.toList sb.data.toList d with
  | none => exact (Norm_err sa sb d 40 w hsa hsb (by decide) h).mono fun _ _ h => ⟨_, _, h.1, h.2⟩
  | some v => exact (Norm_ok sa sb d 40 w hsa hsb (by decide) v h ht).mono fun _ _ h => ⟨_, _, h.1, h.2⟩
theorem smallB_two {a b : SU} (h : smallB [a, b] = true) : (a.A.size ≤ 40 ∧ a.B.size ≤ 40) ∧ b.A.size ≤ 40 ∧ b.B.size ≤ 40 := by
  unfold smallB shortB at h; simpa using h
theorem smallB_three {a b c : SU} (h : smallB [a, b, c] = true) : (a.A.size ≤ 40 ∧ a.B.size ≤ 40) ∧ (b.A.size ≤ 40 ∧ b.B.size ≤ 40) ∧ c.A.size ≤ 40 ∧ c.B.size ≤ 40 := by
  unfold smallB shortB at h; simpa using h
theorem slS_two (w : World) (a b : SU) : SlS (w.alloc (.cells #[.string a.A, .string a.B, .int .i64 a.D, .string b.A, .string b.B, .int .i64 b.D] 23)) (some ⟨w.heap.size, 0, none⟩) [a, b] := fun i h => by
  refine ⟨w.heap.size, 0, rfl, ?_⟩
  rw [cell_of_row _ _ _ _ _ _ (heap_alloc_new w _), cell_of_row _ _ _ _ _ _ (heap_alloc_new w _)]
  match i, h with
  | 0, _ => exact ⟨rfl, rfl⟩
  | 1, _ => exact ⟨rfl, rfl⟩
theorem slS_three (w : World) (a b c : SU) : SlS (w.alloc (.cells #[.string a.A, .string a.B, .int .i64 a.D, .string b.A, .string b.B, .int .i64 b.D, .string c.A, .string c.B, .int .i64 c.D] 23)) (some ⟨w.heap.size, 0, none⟩) [a, b, c] := fun i h => by
  refine ⟨w.heap.size, 0, rfl, ?_⟩
  rw [cell_of_row _ _ _ _ _ _ (heap_alloc_new w _), cell_of_row _ _ _ _ _ _ (heap_alloc_new w _)]
  match i, h with
  | 0, _ => exact ⟨rfl, rfl⟩
  | 1, _ => exact ⟨rfl, rfl⟩
  | 2, _ => exact ⟨rfl, rfl⟩
theorem pairE_ok {o1 o2 : Option SV} (h : pairE o1 o2 = 0) : ∃ v u, o1 = some v ∧ o2 = some u ∧ togOk v u = true := by
  unfold pairE at h
  split at h
  · rename_i v u
    cases ht : togOk v u with
    | true => exact ⟨v, u, rfl, rfl, ht⟩
    | false => rw [ht] at h; simp at h
  · simp at h
end Go.Proofs.YtpgnlpjjpgdoiaaDoor
/- Every canonical text is the text of its number; surds of one field (plain facts). -/
namespace Go.Proofs.YtpgnlpjjpgdoiaaDoor
open Go Go.RowKit SurdM
set_option linter.unusedVariables false
set_option linter.unusedSimpArgs false
theorem dig1_of {b : UInt8} (h : isD b = true) : dig1 (b.toNat - 48) = b := by
  have h1 := isD_bnd h
  apply UInt8.toNat_inj.mp
  rw [dig1_nat]; omega
theorem plain_dec (l : List UInt8) : plainB l = true → Lib.decDigits (valD l) = l := by
  suffices h : ∀ n (l : List UInt8), l.length = n → plainB l = true → Lib.decDigits (valD l) = l from h _ l rfl
  intro n
  induction n with
  | zero =>
    intro l hl h
    have : l = [] := List.eq_nil_of_length_eq_zero hl
    subst this
    unfold plainB at h; simp at h
  | succ n ih =>
    intro l hl h
    have hne : l ≠ [] := by intro e; rw [e] at hl; simp at hl
    obtain ⟨m, b, rfl⟩ : ∃ m b, l = m ++ [b] := ⟨l.dropLast, l.getLast hne, (List.dropLast_concat_getLast hne).symm⟩
    have hall := plain_all h
    rw [List.all_append, Bool.and_eq_true] at hall
    have hb : isD b = true := by simpa using hall.2
    have hbb := isD_bnd hb
    rw [valD_snoc]
    by_cases hm : m = []
    · subst hm
      have : valD [] = 0 := rfl
      rw [this, Nat.mul_zero, Nat.zero_add, dec_small (by omega), dig1_of hb]; rfl
    · have hh : (m ++ [b]).head? = m.head? := head_app _ hm
      have hlen : 1 < (m ++ [b]).length := by
        have := List.length_pos_iff.mpr hm
        simp; omega
      have h48 : m.head? ≠ some 48 := by
        intro e
        unfold plainB at h
        rw [hh, e, decide_eq_true hlen] at h
        simp at h
      have hpm : plainB m = true := by
        unfold plainB
        rw [hall.1]
        have h1 : m.isEmpty = false := by rw [List.isEmpty_eq_false_iff]; exact hm
        have h2 : (m.head? == some 48) = false := by rw [beq_eq_false_iff_ne]; exact h48
        rw [h1, h2]; rfl
      have hv := valD_pos hall.1 h48 hm
      have h3 := ih m (by rw [List.length_append] at hl; simpa using hl) hpm
      rw [dec_big (by omega), show (10 * valD m + (b.toNat - 48)) / 10 = valD m from by omega, h3]
      congr 2
      have : dig1 (10 * valD m + (b.toNat - 48)) = dig1 (b.toNat - 48) := by unfold dig1; congr 2; omega
      rw [this, dig1_of hb]
theorem body_split (l : List UInt8) : l = (if l.head? == some 45 then 45 :: bodyB l else bodyB l) := by
  unfold bodyB
  cases l with
  | nil => rfl
  | cons b m =>
    by_cases hb : b = 45
    · subst hb; simp
    · have : ((b :: m).head? == some 45) = false := by rw [beq_eq_false_iff_ne]; intro e; rw [List.head?_cons] at e; injection e with e; exact hb e
      rw [this]; rfl
theorem top_split (t : List UInt8) (h : strokeB t = true) : t = topB t ++ 47 :: lowB t := by
  unfold lowB
  rw [if_pos h]
  unfold strokeB topB at *
  induction t with
  | nil => simp at h
  | cons b m ih =>
    by_cases hb : b = 47
    · subst hb; simp
    · have hb' : (b != 47) = true := by rw [bne_iff_ne]; exact hb
      rw [List.takeWhile_cons, if_pos hb'] at h ⊢
      have h2 : decide ((m.takeWhile fun b => b != 47).length < m.length) = true := by simpa using h
      have h3 := ih h2
      simp only [List.length_cons, List.cons_append, List.drop_succ_cons]
      rw [← h3]
theorem top_all (t : List UInt8) (h : strokeB t = false) : topB t = t := by
  unfold strokeB at h
  have h1 : ¬ (topB t).length < t.length := by simpa using h
  unfold topB at *
  exact List.IsPrefix.eq_of_length (List.takeWhile_prefix _) (by have := (List.takeWhile_prefix (fun b : UInt8 => b != 47) (l := t)).length_le; omega)
/-- A canonical text is the text of its number. -/
theorem text_of {l : List UInt8} {x : Rat} (h : ofB l = some x) : textR x = l := by
  unfold ofB at h
  by_cases hb : badB l = true
  · rw [if_pos hb] at h; exact absurd h (by simp)
  · rw [if_neg hb] at h
    have hb' : badB l = false := by simpa using hb
    have h0 := low_pos hb'
    have hbb := hb'
    unfold badB at hbb
    simp only [Bool.or_eq_false_iff] at hbb
    obtain ⟨⟨⟨g1, g2⟩, g3⟩, g4⟩ := hbb
    have p1 := plain_dec _ (show plainB (topB (bodyB l)) = true by simpa using g1)
    have p2 := plain_dec _ (show plainB (lowB (bodyB l)) = true by simpa using g2)
    split at h
    · exact absurd h (by simp)
    · rename_i hg
      injection h with h
      have hgcd : Nat.gcd (valD (topB (bodyB l))) (valD (lowB (bodyB l))) = 1 := by
        cases hs : strokeB (bodyB l) with
        | true => rw [hs] at hg; simpa using hg
        | false =>
          have : lowB (bodyB l) = [49] := by unfold lowB; rw [hs]; rfl
          rw [this]; exact Nat.gcd_one_right _
      have hr := isR_mk (neg := (l.head? == some 45)) (n := valD (topB (bodyB l))) h0
      rw [hgcd, Nat.div_one, Nat.div_one, h] at hr
      have hn := hr.num
      have hd := hr.den
      have ha : x.num.natAbs = valD (topB (bodyB l)) := hr.abs
      have hsg : x.num < 0 ↔ (l.head? == some 45) = true := by
        rw [hn]; unfold sgn
        constructor
        · intro e; split at e
          · assumption
          · omega
        · intro e
          rw [if_pos e]
          rcases Nat.eq_zero_or_pos (valD (topB (bodyB l))) with hz | hz
          · exfalso
            rw [hz, dec_small (by decide)] at p1
            have : topB (bodyB l) = [48] := p1.symm
            rw [e, this] at g3; simp at g3
          · omega
      have hbody : bodyR x = bodyB l := by
        unfold bodyR
        rw [ha, hd, p1, p2]
        cases hs : strokeB (bodyB l) with
        | true =>
          rw [if_neg ?_, ← top_split _ hs]
          intro e
          rw [e, dec_small (by decide)] at p2
          rw [hs, ← p2] at g4
          exact absurd g4 (by decide)
        | false =>
          have h49 : lowB (bodyB l) = [49] := by unfold lowB; rw [hs]; rfl
          rw [if_pos (by rw [h49]; rfl), top_all _ hs]
      rw [textR_eq, hbody]
      conv => rhs; rw [body_split l]
      by_cases hx : x.num < 0
      · rw [if_pos hx, if_pos (hsg.mp hx)]
      · rw [if_neg hx, if_neg (fun e => hx (hsg.mpr e))]
/-- A surd that is read is what is written of it. -/
theorem read_write {la lb : List UInt8} {d : Int} {v : SV} (h : readV la lb d = some v) : textR v.a = la ∧ textR v.b = lb ∧ v.d = d := by
  unfold readV at h
  split at h
  · rename_i a b h1 h2
    have t1 := text_of h1
    have t2 := text_of h2
    split at h
    · rename_i hd
      split at h
      · injection h with h; subst h; exact ⟨t1, t2, hd.symm⟩
      · exact absurd h (by simp)
    · split at h
      · exact absurd h (by simp)
      · injection h with h; subst h; exact ⟨t1, t2, rfl⟩
  · exact absurd h (by simp)
/-- A common field of three surds. -/
theorem three {v u t : SV} (hv : Val v) (hu : Val u) (ht : Val t) (h1 : togOk v u = true) (h2 : togOk u t = true) (h3 : togOk v t = true) : ∃ D, Fld D ∧ InF D v ∧ InF D u ∧ InF D t ∧ (D = 1 → v.b = 0 ∧ u.b = 0 ∧ t.b = 0) := by
  have h0 : ∀ {v : SV}, Val v → v.d = 1 → v.b = 0 := by
    intro v hv h
    rcases hv with ⟨h1, h2⟩ | ⟨h1, h2, h3, h4⟩
    · exact h2
    · omega
  have key : ∀ {v u : SV}, Val u → togOk v u = true → v.d ≠ 1 → InF v.d u := by
    intro v u hu h hv1
    unfold togOk at h
    by_cases h2 : u.d = 1
    · exact .inl ⟨h0 hu h2, h2⟩
    · have h3 : v.d = u.d := by simpa [hv1, h2] using h
      rw [h3]; exact hu.inF
  by_cases c1 : v.d = 1
  · by_cases c2 : u.d = 1
    · exact ⟨t.d, ht.fld, .inl ⟨h0 hv c1, c1⟩, .inl ⟨h0 hu c2, c2⟩, ht.inF, fun h => ⟨h0 hv c1, h0 hu c2, h0 ht h⟩⟩
    · exact ⟨u.d, hu.fld, .inl ⟨h0 hv c1, c1⟩, hu.inF, key ht h2 c2, fun h => absurd h c2⟩
  · exact ⟨v.d, hv.fld, hv.inF, key hu h1 c1, key ht h3 c1, fun h => absurd h c1⟩
theorem sv_range (v : SV) : signV v = 1 ∨ signV v = -1 ∨ signV v = 0 := by
  unfold signV
  rcases sg_cases v.a with ⟨h1, _⟩ | ⟨h1, _⟩ | ⟨h1, _⟩ <;> rcases sg_cases v.b with ⟨h2, _⟩ | ⟨h2, _⟩ | ⟨h2, _⟩ <;> rw [h1, h2] <;> simp <;> omega
end Go.Proofs.YtpgnlpjjpgdoiaaDoor
/- SurdField: the walk. -/
namespace Go.Proofs.YtpgnlpjjpgdoiaaDoor
open Go Go.RowKit SurdM
set_option linter.unusedVariables false
set_option linter.unusedSimpArgs false
/-- Mul and Add return a surd and a number. -/
theorem Mul_any (sa sb ta tb : ByteArray) (d e : Int) (w : World) (hsa : sa.size ≤ 40) (hsb : sb.size ≤ 40) (hta : ta.size ≤ 40) (htb : tb.size ≤ 40) (ht : TabW w) :
    Calls Tryd.prog 7 #[.agg #[.string sa, .string sb, .int .i64 d], .agg #[.string ta, .string tb, .int .i64 e]] w fun en w' => ∃ S T n k, en = .returned (.tuple #[.agg #[.string S, .string T, .int .i64 n], .int .i64 k]) ∧ Ext w w' := by
  by_cases hk : pairE (readV sa.data.toList sb.data.toList d) (readV ta.data.toList tb.data.toList e) = 0
  · obtain ⟨v, u, h1, h2, h3⟩ := pairE_ok hk
    exact (Mul_ok sa sb ta tb d e 40 w hsa hsb hta htb (by decide) v u h1 h2 h3 ht).mono fun _ _ h => ⟨_, _, _, _, h.1, h.2⟩
  · exact (Mul_err sa sb ta tb d e 40 w hsa hsb hta htb (by decide) _ rfl hk).mono fun _ _ h => ⟨_, _, _, _, h.1, h.2⟩
theorem Add_any (sa sb ta tb : ByteArray) (d e : Int) (w : World) (hsa : sa.size ≤ 40) (hsb : sb.size ≤ 40) (hta : ta.size ≤ 40) (htb : tb.size ≤ 40) (ht : TabW w) :
    Calls Tryd.prog 13 #[.agg #[.string sa, .string sb, .int .i64 d], .agg #[.string ta, .string tb, .int .i64 e]] w fun en w' => ∃ S T n k, en = .returned (.tuple #[.agg #[.string S, .string T, .int .i64 n], .int .i64 k]) ∧ Ext w w' := by
  by_cases hk : pairE (readV sa.data.toList sb.data.toList d) (readV ta.data.toList tb.data.toList e) = 0
  · obtain ⟨v, u, h1, h2, h3⟩ := pairE_ok hk
    exact (Add_ok sa sb ta tb d e 40 w hsa hsb hta htb (by decide) v u h1 h2 h3 ht).mono fun _ _ h => ⟨_, _, _, _, h.1, h.2⟩
  · exact (Add_err sa sb ta tb d e 40 w hsa hsb hta htb (by decide) _ rfl hk).mono fun _ _ h => ⟨_, _, _, _, h.1, h.2⟩
set_option maxRecDepth 100000 in
set_option maxHeartbeats 2000000 in
theorem field_A (a b c : SU) (w : World) (htab : TabW w) (hs : smallB [a, b, c] = false) :
    Calls Tryd.prog 4 #[.agg #[.string a.A, .string a.B, .int .i64 a.D], .agg #[.string b.A, .string b.B, .int .i64 b.D], .agg #[.string c.A, .string c.B, .int .i64 c.D]] w fun e w' => e = .returned (.bool true) ∧ Ext w w' := by
  obtain ⟨w0, hw0⟩ : ∃ w0, w0 = ((((w.alloc (.cells #[.string a.A, .string a.B, .int .i64 a.D] 23)).alloc (.cells #[.string b.A, .string b.B, .int .i64 b.D] 23)).alloc (.cells #[.string c.A, .string c.B, .int .i64 c.D] 23)).alloc (.cells #[.string a.A, .string a.B, .int .i64 a.D, .string b.A, .string b.B, .int .i64 b.D, .string c.A, .string c.B, .int .i64 c.D] 23)) := ⟨_, rfl⟩
  have HE0 : Hid (Ext w w0) := Lib.hid (by rw [hw0]; exact (Ext.three _ _ _ _).alloc _)
  have HB1 : Hid (∀ W, Ext w0 W → BoxS W w.heap.size a.A a.B a.D) := Lib.hid (fun W he => BoxS.ext (by rw [hw0]; exact BoxS.ext (boxS_new w _ _ _) (Ext.three _ _ _ _)) he)
  have HB2 : Hid (∀ W, Ext w0 W → BoxS W (w.heap.size + 1) b.A b.B b.D) := Lib.hid (fun W he => BoxS.ext (by rw [hw0]; exact BoxS.ext (heap_alloc2_new w _ _) (Ext.two _ _ _)) he)
  have HB3 : Hid (∀ W, Ext w0 W → BoxS W (w.heap.size + 1 + 1) c.A c.B c.D) := Lib.hid (fun W he => BoxS.ext (by rw [hw0]; exact BoxS.ext (heap_alloc3_new w _ _ _) (Ext.one _ _)) he)
  have HSM : Hid (Calls Tryd.prog 5 #[.slice (some ⟨w.heap.size + 1 + 1 + 1, 0, none⟩) 3 3] w0 fun e w' => e = .returned (.bool (smallB [a, b, c])) ∧ Ext w0 w') := Lib.hid (small_calls _ 3 [a, b, c] w0 (by rw [hw0]; have h := slS_three (((w.alloc (.cells #[.string a.A, .string a.B, .int .i64 a.D] 23)).alloc (.cells #[.string b.A, .string b.B, .int .i64 b.D] 23)).alloc (.cells #[.string c.A, .string c.B, .int .i64 c.D] 23)) a b c; rw [size_alloc, size_alloc, size_alloc] at h; exact h) (Nat.le_trans (show [a, b, c].length ≤ 3 from Nat.le_refl 3) (by decide)))
  have HW0 := Lib.hid hw0
  have HAW := Lib.hid (fun W (he : Ext w0 W) => awake_calls W (htab.ext (HE0.out.trans he)))
  rw [hs] at HSM
  clear hs hw0 htab
  go_enter Tryd.func4, Tryd.ntmps4
  go_wp2_with fail
  rw [← HW0.out]
  go_wp2_with (first
    | (go_at_call 5; refine HSM.out.mono ?_; clear HSM; rintro e1 w1 ⟨rfl, he⟩; have HX1 := Lib.hid he; clear he)
    | (go_at_call 6; refine (HAW.out _ (HX1.out)).mono ?_; clear HAW; rintro e2 w2 ⟨rfl, he⟩; have HX2 := Lib.hid he; clear he))
  go_ret
  exact ⟨rfl, HE0.out.trans (HX1.out.trans HX2.out)⟩
set_option maxRecDepth 100000 in
set_option maxHeartbeats 2000000 in
theorem field_B0 (a b c : SU) (w : World) (htab : TabW w) (hs : smallB [a, b, c] = true) (k : Int) (hk : pairE (readV a.A.data.toList a.B.data.toList a.D) (readV b.A.data.toList b.B.data.toList b.D) = k) (hk0 : k ≠ 0) :
    Calls Tryd.prog 4 #[.agg #[.string a.A, .string a.B, .int .i64 a.D], .agg #[.string b.A, .string b.B, .int .i64 b.D], .agg #[.string c.A, .string c.B, .int .i64 c.D]] w fun e w' => e = .returned (.bool true) ∧ Ext w w' := by
  obtain ⟨⟨s1, s2⟩, ⟨s3, s4⟩, s5, s6⟩ := smallB_three hs
  obtain ⟨w0, hw0⟩ : ∃ w0, w0 = ((((w.alloc (.cells #[.string a.A, .string a.B, .int .i64 a.D] 23)).alloc (.cells #[.string b.A, .string b.B, .int .i64 b.D] 23)).alloc (.cells #[.string c.A, .string c.B, .int .i64 c.D] 23)).alloc (.cells #[.string a.A, .string a.B, .int .i64 a.D, .string b.A, .string b.B, .int .i64 b.D, .string c.A, .string c.B, .int .i64 c.D] 23)) := ⟨_, rfl⟩
  have HE0 : Hid (Ext w w0) := Lib.hid (by rw [hw0]; exact (Ext.three _ _ _ _).alloc _)
  have HB1 : Hid (∀ W, Ext w0 W → BoxS W w.heap.size a.A a.B a.D) := Lib.hid (fun W he => BoxS.ext (by rw [hw0]; exact BoxS.ext (boxS_new w _ _ _) (Ext.three _ _ _ _)) he)
  have HB2 : Hid (∀ W, Ext w0 W → BoxS W (w.heap.size + 1) b.A b.B b.D) := Lib.hid (fun W he => BoxS.ext (by rw [hw0]; exact BoxS.ext (heap_alloc2_new w _ _) (Ext.two _ _ _)) he)
  have HB3 : Hid (∀ W, Ext w0 W → BoxS W (w.heap.size + 1 + 1) c.A c.B c.D) := Lib.hid (fun W he => BoxS.ext (by rw [hw0]; exact BoxS.ext (heap_alloc3_new w _ _ _) (Ext.one _ _)) he)
  have HSM : Hid (Calls Tryd.prog 5 #[.slice (some ⟨w.heap.size + 1 + 1 + 1, 0, none⟩) 3 3] w0 fun e w' => e = .returned (.bool (smallB [a, b, c])) ∧ Ext w0 w') := Lib.hid (small_calls _ 3 [a, b, c] w0 (by rw [hw0]; have h := slS_three (((w.alloc (.cells #[.string a.A, .string a.B, .int .i64 a.D] 23)).alloc (.cells #[.string b.A, .string b.B, .int .i64 b.D] 23)).alloc (.cells #[.string c.A, .string c.B, .int .i64 c.D] 23)) a b c; rw [size_alloc, size_alloc, size_alloc] at h; exact h) (Nat.le_trans (show [a, b, c].length ≤ 3 from Nat.le_refl 3) (by decide)))
  have HW0 := Lib.hid hw0
  have HAW := Lib.hid (fun W (he : Ext w0 W) => awake_calls W (htab.ext (HE0.out.trans he)))
  rw [hs] at HSM
  have HM0 := Lib.hid (fun W (he : Ext w0 W) => Mul_err a.A a.B b.A b.B a.D b.D 40 W s1 s2 s3 s4 (by decide) k hk hk0)
  have HM1 := Lib.hid (fun W (he : Ext w0 W) => Add_any b.A b.B c.A c.B b.D c.D W s3 s4 s5 s6 (htab.ext (HE0.out.trans he)))
  have HM2 := Lib.hid (fun W (he : Ext w0 W) => Mul_any a.A a.B c.A c.B a.D c.D W s1 s2 s5 s6 (htab.ext (HE0.out.trans he)))
  have c1 : (k == 0) = false := by rw [beq_eq_false_iff_ne]; exact hk0
  have c2 : (k != 0) = true := by rw [bne_iff_ne]; exact hk0
  obtain ⟨i0, i1, i2⟩ := (HB1.out _ (Ext.refl _)).cells
  obtain ⟨j0, j1, j2⟩ := (HB2.out _ (Ext.refl _)).cells
  obtain ⟨k0, k1, k2⟩ := (HB3.out _ (Ext.refl _)).cells
  clear hs hw0 htab s1 s2 s3 s4 s5 s6 hk hk0 
  go_enter Tryd.func4, Tryd.ntmps4
  go_wp2_with fail
  rw [← HW0.out]
  go_wp2_with (first
    | (go_at_call 5; refine HSM.out.mono ?_; clear HSM; rintro e1 w1 ⟨rfl, he⟩; have HX1 := Lib.hid he; clear he; clear i0 i1 i2 j0 j1 j2 k0 k1 k2; obtain ⟨i0, i1, i2⟩ := (HB1.out _ (HX1.out)).cells; obtain ⟨j0, j1, j2⟩ := (HB2.out _ (HX1.out)).cells)
    | (go_at_call 7; refine (HM0.out _ (HX1.out)).mono ?_; clear HM0; clear i0 i1 i2 j0 j1 j2; rintro e2 w2 ⟨rfl, he⟩; have HX2 := Lib.hid he; clear he; obtain ⟨j0, j1, j2⟩ := (HB2.out _ (((HX1.out).trans HX2.out).alloc (.cells #[.string ⟨#[]⟩, .string ⟨#[]⟩, .int .i64 0] 23))).cells; obtain ⟨k0, k1, k2⟩ := (HB3.out _ (((HX1.out).trans HX2.out).alloc (.cells #[.string ⟨#[]⟩, .string ⟨#[]⟩, .int .i64 0] 23))).cells)
    | (go_at_call 13; refine (HM1.out _ (((HX1.out).trans HX2.out).alloc (.cells #[.string ⟨#[]⟩, .string ⟨#[]⟩, .int .i64 0] 23))).mono ?_; clear HM1; clear j0 j1 j2 k0 k1 k2; rintro e3 w3 ⟨S1, T1, n1, k1, rfl, he⟩; have HX3 := Lib.hid he; clear he; obtain ⟨i0, i1, i2⟩ := (HB1.out _ (((((HX1.out).trans HX2.out).alloc (.cells #[.string ⟨#[]⟩, .string ⟨#[]⟩, .int .i64 0] 23)).trans HX3.out).alloc (.cells #[.string S1, .string T1, .int .i64 n1] 23))).cells; obtain ⟨k0, k1, k2⟩ := (HB3.out _ (((((HX1.out).trans HX2.out).alloc (.cells #[.string ⟨#[]⟩, .string ⟨#[]⟩, .int .i64 0] 23)).trans HX3.out).alloc (.cells #[.string S1, .string T1, .int .i64 n1] 23))).cells)
    | (go_at_call 7; refine (HM2.out _ (((((HX1.out).trans HX2.out).alloc (.cells #[.string ⟨#[]⟩, .string ⟨#[]⟩, .int .i64 0] 23)).trans HX3.out).alloc (.cells #[.string S1, .string T1, .int .i64 n1] 23))).mono ?_; clear HM2; clear i0 i1 i2 k0 k1 k2; rintro e4 w4 ⟨S2, T2, n2, k2, rfl, he⟩; have HX4 := Lib.hid he; clear he)
    | (go_at_call 6; refine (HAW.out _ (((((((HX1.out).trans HX2.out).alloc (.cells #[.string ⟨#[]⟩, .string ⟨#[]⟩, .int .i64 0] 23)).trans HX3.out).alloc (.cells #[.string S1, .string T1, .int .i64 n1] 23)).trans HX4.out).alloc (.cells #[.string S2, .string T2, .int .i64 n2] 23))).mono ?_; clear HAW; rintro e5 w5 ⟨rfl, he⟩; have HX5 := Lib.hid he; clear he))
  go_ret
  exact ⟨rfl, HE0.out.trans ((((((((HX1.out).trans HX2.out).alloc (.cells #[.string ⟨#[]⟩, .string ⟨#[]⟩, .int .i64 0] 23)).trans HX3.out).alloc (.cells #[.string S1, .string T1, .int .i64 n1] 23)).trans HX4.out).alloc (.cells #[.string S2, .string T2, .int .i64 n2] 23)).trans HX5.out)⟩
set_option maxRecDepth 100000 in
set_option maxHeartbeats 2000000 in
theorem field_B1 (a b c : SU) (w : World) (htab : TabW w) (hs : smallB [a, b, c] = true) (hkk0 : pairE (readV a.A.data.toList a.B.data.toList a.D) (readV b.A.data.toList b.B.data.toList b.D) = 0) (k : Int) (hk : pairE (readV b.A.data.toList b.B.data.toList b.D) (readV c.A.data.toList c.B.data.toList c.D) = k) (hk0 : k ≠ 0) :
    Calls Tryd.prog 4 #[.agg #[.string a.A, .string a.B, .int .i64 a.D], .agg #[.string b.A, .string b.B, .int .i64 b.D], .agg #[.string c.A, .string c.B, .int .i64 c.D]] w fun e w' => e = .returned (.bool true) ∧ Ext w w' := by
  obtain ⟨⟨s1, s2⟩, ⟨s3, s4⟩, s5, s6⟩ := smallB_three hs
  obtain ⟨w0, hw0⟩ : ∃ w0, w0 = ((((w.alloc (.cells #[.string a.A, .string a.B, .int .i64 a.D] 23)).alloc (.cells #[.string b.A, .string b.B, .int .i64 b.D] 23)).alloc (.cells #[.string c.A, .string c.B, .int .i64 c.D] 23)).alloc (.cells #[.string a.A, .string a.B, .int .i64 a.D, .string b.A, .string b.B, .int .i64 b.D, .string c.A, .string c.B, .int .i64 c.D] 23)) := ⟨_, rfl⟩
  have HE0 : Hid (Ext w w0) := Lib.hid (by rw [hw0]; exact (Ext.three _ _ _ _).alloc _)
  have HB1 : Hid (∀ W, Ext w0 W → BoxS W w.heap.size a.A a.B a.D) := Lib.hid (fun W he => BoxS.ext (by rw [hw0]; exact BoxS.ext (boxS_new w _ _ _) (Ext.three _ _ _ _)) he)
  have HB2 : Hid (∀ W, Ext w0 W → BoxS W (w.heap.size + 1) b.A b.B b.D) := Lib.hid (fun W he => BoxS.ext (by rw [hw0]; exact BoxS.ext (heap_alloc2_new w _ _) (Ext.two _ _ _)) he)
  have HB3 : Hid (∀ W, Ext w0 W → BoxS W (w.heap.size + 1 + 1) c.A c.B c.D) := Lib.hid (fun W he => BoxS.ext (by rw [hw0]; exact BoxS.ext (heap_alloc3_new w _ _ _) (Ext.one _ _)) he)
  have HSM : Hid (Calls Tryd.prog 5 #[.slice (some ⟨w.heap.size + 1 + 1 + 1, 0, none⟩) 3 3] w0 fun e w' => e = .returned (.bool (smallB [a, b, c])) ∧ Ext w0 w') := Lib.hid (small_calls _ 3 [a, b, c] w0 (by rw [hw0]; have h := slS_three (((w.alloc (.cells #[.string a.A, .string a.B, .int .i64 a.D] 23)).alloc (.cells #[.string b.A, .string b.B, .int .i64 b.D] 23)).alloc (.cells #[.string c.A, .string c.B, .int .i64 c.D] 23)) a b c; rw [size_alloc, size_alloc, size_alloc] at h; exact h) (Nat.le_trans (show [a, b, c].length ≤ 3 from Nat.le_refl 3) (by decide)))
  have HW0 := Lib.hid hw0
  have HAW := Lib.hid (fun W (he : Ext w0 W) => awake_calls W (htab.ext (HE0.out.trans he)))
  rw [hs] at HSM
  obtain ⟨v0, u0, q0, r0, t0⟩ := pairE_ok hkk0
  have HM0 := Lib.hid (fun W (he : Ext w0 W) => Mul_ok a.A a.B b.A b.B a.D b.D 40 W s1 s2 s3 s4 (by decide) v0 u0 q0 r0 t0 (htab.ext (HE0.out.trans he)))
  unfold SurOk at HM0
  generalize (⟨(textR (mulV v0 u0).a).toArray⟩ : ByteArray) = PA0 at *
  generalize (⟨(textR (mulV v0 u0).b).toArray⟩ : ByteArray) = PB0 at *
  generalize (mulV v0 u0).d = pd0 at *
  clear q0 r0 t0
  have HM1 := Lib.hid (fun W (he : Ext w0 W) => Add_err b.A b.B c.A c.B b.D c.D 40 W s3 s4 s5 s6 (by decide) k hk hk0)
  have HM2 := Lib.hid (fun W (he : Ext w0 W) => Mul_any a.A a.B c.A c.B a.D c.D W s1 s2 s5 s6 (htab.ext (HE0.out.trans he)))
  have c1 : (k == 0) = false := by rw [beq_eq_false_iff_ne]; exact hk0
  have c2 : (k != 0) = true := by rw [bne_iff_ne]; exact hk0
  obtain ⟨i0, i1, i2⟩ := (HB1.out _ (Ext.refl _)).cells
  obtain ⟨j0, j1, j2⟩ := (HB2.out _ (Ext.refl _)).cells
  obtain ⟨k0, k1, k2⟩ := (HB3.out _ (Ext.refl _)).cells
  clear hs hw0 htab s1 s2 s3 s4 s5 s6 hk hk0 hkk0
  go_enter Tryd.func4, Tryd.ntmps4
  go_wp2_with fail
  rw [← HW0.out]
  go_wp2_with (first
    | (go_at_call 5; refine HSM.out.mono ?_; clear HSM; rintro e1 w1 ⟨rfl, he⟩; have HX1 := Lib.hid he; clear he; clear i0 i1 i2 j0 j1 j2 k0 k1 k2; obtain ⟨i0, i1, i2⟩ := (HB1.out _ (HX1.out)).cells; obtain ⟨j0, j1, j2⟩ := (HB2.out _ (HX1.out)).cells)
    | (go_at_call 7; refine (HM0.out _ (HX1.out)).mono ?_; clear HM0; clear i0 i1 i2 j0 j1 j2; rintro e2 w2 ⟨rfl, he⟩; have HX2 := Lib.hid he; clear he; obtain ⟨j0, j1, j2⟩ := (HB2.out _ (((HX1.out).trans HX2.out).alloc (.cells #[.string PA0, .string PB0, .int .i64 pd0] 23))).cells; obtain ⟨k0, k1, k2⟩ := (HB3.out _ (((HX1.out).trans HX2.out).alloc (.cells #[.string PA0, .string PB0, .int .i64 pd0] 23))).cells)
    | (go_at_call 13; refine (HM1.out _ (((HX1.out).trans HX2.out).alloc (.cells #[.string PA0, .string PB0, .int .i64 pd0] 23))).mono ?_; clear HM1; clear j0 j1 j2 k0 k1 k2; rintro e3 w3 ⟨rfl, he⟩; have HX3 := Lib.hid he; clear he; obtain ⟨i0, i1, i2⟩ := (HB1.out _ (((((HX1.out).trans HX2.out).alloc (.cells #[.string PA0, .string PB0, .int .i64 pd0] 23)).trans HX3.out).alloc (.cells #[.string ⟨#[]⟩, .string ⟨#[]⟩, .int .i64 0] 23))).cells; obtain ⟨k0, k1, k2⟩ := (HB3.out _ (((((HX1.out).trans HX2.out).alloc (.cells #[.string PA0, .string PB0, .int .i64 pd0] 23)).trans HX3.out).alloc (.cells #[.string ⟨#[]⟩, .string ⟨#[]⟩, .int .i64 0] 23))).cells)
    | (go_at_call 7; refine (HM2.out _ (((((HX1.out).trans HX2.out).alloc (.cells #[.string PA0, .string PB0, .int .i64 pd0] 23)).trans HX3.out).alloc (.cells #[.string ⟨#[]⟩, .string ⟨#[]⟩, .int .i64 0] 23))).mono ?_; clear HM2; clear i0 i1 i2 k0 k1 k2; rintro e4 w4 ⟨S2, T2, n2, k2, rfl, he⟩; have HX4 := Lib.hid he; clear he)
    | (go_at_call 6; refine (HAW.out _ (((((((HX1.out).trans HX2.out).alloc (.cells #[.string PA0, .string PB0, .int .i64 pd0] 23)).trans HX3.out).alloc (.cells #[.string ⟨#[]⟩, .string ⟨#[]⟩, .int .i64 0] 23)).trans HX4.out).alloc (.cells #[.string S2, .string T2, .int .i64 n2] 23))).mono ?_; clear HAW; rintro e5 w5 ⟨rfl, he⟩; have HX5 := Lib.hid he; clear he))
  go_ret
  exact ⟨rfl, HE0.out.trans ((((((((HX1.out).trans HX2.out).alloc (.cells #[.string PA0, .string PB0, .int .i64 pd0] 23)).trans HX3.out).alloc (.cells #[.string ⟨#[]⟩, .string ⟨#[]⟩, .int .i64 0] 23)).trans HX4.out).alloc (.cells #[.string S2, .string T2, .int .i64 n2] 23)).trans HX5.out)⟩
set_option maxRecDepth 100000 in
set_option maxHeartbeats 2000000 in
theorem field_B2 (a b c : SU) (w : World) (htab : TabW w) (hs : smallB [a, b, c] = true) (hkk0 : pairE (readV a.A.data.toList a.B.data.toList a.D) (readV b.A.data.toList b.B.data.toList b.D) = 0) (hkk1 : pairE (readV b.A.data.toList b.B.data.toList b.D) (readV c.A.data.toList c.B.data.toList c.D) = 0) (k : Int) (hk : pairE (readV a.A.data.toList a.B.data.toList a.D) (readV c.A.data.toList c.B.data.toList c.D) = k) (hk0 : k ≠ 0) :
    Calls Tryd.prog 4 #[.agg #[.string a.A, .string a.B, .int .i64 a.D], .agg #[.string b.A, .string b.B, .int .i64 b.D], .agg #[.string c.A, .string c.B, .int .i64 c.D]] w fun e w' => e = .returned (.bool true) ∧ Ext w w' := by
  obtain ⟨⟨s1, s2⟩, ⟨s3, s4⟩, s5, s6⟩ := smallB_three hs
  obtain ⟨w0, hw0⟩ : ∃ w0, w0 = ((((w.alloc (.cells #[.string a.A, .string a.B, .int .i64 a.D] 23)).alloc (.cells #[.string b.A, .string b.B, .int .i64 b.D] 23)).alloc (.cells #[.string c.A, .string c.B, .int .i64 c.D] 23)).alloc (.cells #[.string a.A, .string a.B, .int .i64 a.D, .string b.A, .string b.B, .int .i64 b.D, .string c.A, .string c.B, .int .i64 c.D] 23)) := ⟨_, rfl⟩
  have HE0 : Hid (Ext w w0) := Lib.hid (by rw [hw0]; exact (Ext.three _ _ _ _).alloc _)
  have HB1 : Hid (∀ W, Ext w0 W → BoxS W w.heap.size a.A a.B a.D) := Lib.hid (fun W he => BoxS.ext (by rw [hw0]; exact BoxS.ext (boxS_new w _ _ _) (Ext.three _ _ _ _)) he)
  have HB2 : Hid (∀ W, Ext w0 W → BoxS W (w.heap.size + 1) b.A b.B b.D) := Lib.hid (fun W he => BoxS.ext (by rw [hw0]; exact BoxS.ext (heap_alloc2_new w _ _) (Ext.two _ _ _)) he)
  have HB3 : Hid (∀ W, Ext w0 W → BoxS W (w.heap.size + 1 + 1) c.A c.B c.D) := Lib.hid (fun W he => BoxS.ext (by rw [hw0]; exact BoxS.ext (heap_alloc3_new w _ _ _) (Ext.one _ _)) he)
  have HSM : Hid (Calls Tryd.prog 5 #[.slice (some ⟨w.heap.size + 1 + 1 + 1, 0, none⟩) 3 3] w0 fun e w' => e = .returned (.bool (smallB [a, b, c])) ∧ Ext w0 w') := Lib.hid (small_calls _ 3 [a, b, c] w0 (by rw [hw0]; have h := slS_three (((w.alloc (.cells #[.string a.A, .string a.B, .int .i64 a.D] 23)).alloc (.cells #[.string b.A, .string b.B, .int .i64 b.D] 23)).alloc (.cells #[.string c.A, .string c.B, .int .i64 c.D] 23)) a b c; rw [size_alloc, size_alloc, size_alloc] at h; exact h) (Nat.le_trans (show [a, b, c].length ≤ 3 from Nat.le_refl 3) (by decide)))
  have HW0 := Lib.hid hw0
  have HAW := Lib.hid (fun W (he : Ext w0 W) => awake_calls W (htab.ext (HE0.out.trans he)))
  rw [hs] at HSM
  obtain ⟨v0, u0, q0, r0, t0⟩ := pairE_ok hkk0
  have HM0 := Lib.hid (fun W (he : Ext w0 W) => Mul_ok a.A a.B b.A b.B a.D b.D 40 W s1 s2 s3 s4 (by decide) v0 u0 q0 r0 t0 (htab.ext (HE0.out.trans he)))
  unfold SurOk at HM0
  generalize (⟨(textR (mulV v0 u0).a).toArray⟩ : ByteArray) = PA0 at *
  generalize (⟨(textR (mulV v0 u0).b).toArray⟩ : ByteArray) = PB0 at *
  generalize (mulV v0 u0).d = pd0 at *
  clear q0 r0 t0
  obtain ⟨v1, u1, q1, r1, t1⟩ := pairE_ok hkk1
  have HM1 := Lib.hid (fun W (he : Ext w0 W) => Add_ok b.A b.B c.A c.B b.D c.D 40 W s3 s4 s5 s6 (by decide) v1 u1 q1 r1 t1 (htab.ext (HE0.out.trans he)))
  unfold SurOk at HM1
  generalize (⟨(textR (addV v1 u1).a).toArray⟩ : ByteArray) = PA1 at *
  generalize (⟨(textR (addV v1 u1).b).toArray⟩ : ByteArray) = PB1 at *
  generalize (addV v1 u1).d = pd1 at *
  clear q1 r1 t1
  have HM2 := Lib.hid (fun W (he : Ext w0 W) => Mul_err a.A a.B c.A c.B a.D c.D 40 W s1 s2 s5 s6 (by decide) k hk hk0)
  have c1 : (k == 0) = false := by rw [beq_eq_false_iff_ne]; exact hk0
  have c2 : (k != 0) = true := by rw [bne_iff_ne]; exact hk0
  obtain ⟨i0, i1, i2⟩ := (HB1.out _ (Ext.refl _)).cells
  obtain ⟨j0, j1, j2⟩ := (HB2.out _ (Ext.refl _)).cells
  obtain ⟨k0, k1, k2⟩ := (HB3.out _ (Ext.refl _)).cells
  clear hs hw0 htab s1 s2 s3 s4 s5 s6 hk hk0 hkk0 hkk1
  go_enter Tryd.func4, Tryd.ntmps4
  go_wp2_with fail
  rw [← HW0.out]
  go_wp2_with (first
    | (go_at_call 5; refine HSM.out.mono ?_; clear HSM; rintro e1 w1 ⟨rfl, he⟩; have HX1 := Lib.hid he; clear he; clear i0 i1 i2 j0 j1 j2 k0 k1 k2; obtain ⟨i0, i1, i2⟩ := (HB1.out _ (HX1.out)).cells; obtain ⟨j0, j1, j2⟩ := (HB2.out _ (HX1.out)).cells)
    | (go_at_call 7; refine (HM0.out _ (HX1.out)).mono ?_; clear HM0; clear i0 i1 i2 j0 j1 j2; rintro e2 w2 ⟨rfl, he⟩; have HX2 := Lib.hid he; clear he; obtain ⟨j0, j1, j2⟩ := (HB2.out _ (((HX1.out).trans HX2.out).alloc (.cells #[.string PA0, .string PB0, .int .i64 pd0] 23))).cells; obtain ⟨k0, k1, k2⟩ := (HB3.out _ (((HX1.out).trans HX2.out).alloc (.cells #[.string PA0, .string PB0, .int .i64 pd0] 23))).cells)
    | (go_at_call 13; refine (HM1.out _ (((HX1.out).trans HX2.out).alloc (.cells #[.string PA0, .string PB0, .int .i64 pd0] 23))).mono ?_; clear HM1; clear j0 j1 j2 k0 k1 k2; rintro e3 w3 ⟨rfl, he⟩; have HX3 := Lib.hid he; clear he; obtain ⟨i0, i1, i2⟩ := (HB1.out _ (((((HX1.out).trans HX2.out).alloc (.cells #[.string PA0, .string PB0, .int .i64 pd0] 23)).trans HX3.out).alloc (.cells #[.string PA1, .string PB1, .int .i64 pd1] 23))).cells; obtain ⟨k0, k1, k2⟩ := (HB3.out _ (((((HX1.out).trans HX2.out).alloc (.cells #[.string PA0, .string PB0, .int .i64 pd0] 23)).trans HX3.out).alloc (.cells #[.string PA1, .string PB1, .int .i64 pd1] 23))).cells)
    | (go_at_call 7; refine (HM2.out _ (((((HX1.out).trans HX2.out).alloc (.cells #[.string PA0, .string PB0, .int .i64 pd0] 23)).trans HX3.out).alloc (.cells #[.string PA1, .string PB1, .int .i64 pd1] 23))).mono ?_; clear HM2; clear i0 i1 i2 k0 k1 k2; rintro e4 w4 ⟨rfl, he⟩; have HX4 := Lib.hid he; clear he)
    | (go_at_call 6; refine (HAW.out _ (((((((HX1.out).trans HX2.out).alloc (.cells #[.string PA0, .string PB0, .int .i64 pd0] 23)).trans HX3.out).alloc (.cells #[.string PA1, .string PB1, .int .i64 pd1] 23)).trans HX4.out).alloc (.cells #[.string ⟨#[]⟩, .string ⟨#[]⟩, .int .i64 0] 23))).mono ?_; clear HAW; rintro e5 w5 ⟨rfl, he⟩; have HX5 := Lib.hid he; clear he))
  go_ret
  exact ⟨rfl, HE0.out.trans ((((((((HX1.out).trans HX2.out).alloc (.cells #[.string PA0, .string PB0, .int .i64 pd0] 23)).trans HX3.out).alloc (.cells #[.string PA1, .string PB1, .int .i64 pd1] 23)).trans HX4.out).alloc (.cells #[.string ⟨#[]⟩, .string ⟨#[]⟩, .int .i64 0] 23)).trans HX5.out)⟩
set_option maxRecDepth 100000 in
set_option maxHeartbeats 2000000 in
theorem field_Cz (a b c : SU) (w : World) (htab : TabW w) (hs : smallB [a, b, c] = true) (v u t : SV) (h1 : (readV a.A.data.toList a.B.data.toList a.D) = some v) (h2 : (readV b.A.data.toList b.B.data.toList b.D) = some u) (h3 : (readV c.A.data.toList c.B.data.toList c.D) = some t) (t1 : togOk v u = true) (t2 : togOk u t = true) (t3 : togOk v t = true) (hz : zeroV u = true) :
    Calls Tryd.prog 4 #[.agg #[.string a.A, .string a.B, .int .i64 a.D], .agg #[.string b.A, .string b.B, .int .i64 b.D], .agg #[.string c.A, .string c.B, .int .i64 c.D]] w fun e w' => e = .returned (.bool true) ∧ Ext w w' := by
  obtain ⟨⟨s1, s2⟩, ⟨s3, s4⟩, s5, s6⟩ := smallB_three hs
  have v1 := readV_val h1
  have v2 := readV_val h2
  have v3 := readV_val h3
  have b1 : VB 164 v := readV_VB (n := 40) h1 (by rw [Array.length_toList]; exact s1) (by rw [Array.length_toList]; exact s2)
  have b2 : VB 164 u := readV_VB (n := 40) h2 (by rw [Array.length_toList]; exact s3) (by rw [Array.length_toList]; exact s4)
  have b3 : VB 164 t := readV_VB (n := 40) h3 (by rw [Array.length_toList]; exact s5) (by rw [Array.length_toList]; exact s6)
  have m1 : VB 688 (mulV v u) := b1.mul b2
  have m2 : VB 329 (addV u t) := b2.add b3
  have m3 : VB 688 (mulV v t) := b1.mul b3
  obtain ⟨z1, z2⟩ := m1.sizes (by decide)
  obtain ⟨z3, z4⟩ := m2.sizes (by decide)
  obtain ⟨z5, z6⟩ := m3.sizes (by decide)
  obtain ⟨F, f0, f1, f2, f3, f4⟩ := three v1 v2 v3 t1 t2 t3
  have g1 := readV_text (Val.mul v1 v2 t1)
  have g2 := readV_text (Val.add v2 v3 t2)
  have g3 := readV_text (Val.mul v1 v3 t3)
  have i1 := (mul_inF f1 f2 (fun h => ⟨(f4 h).1, (f4 h).2.1⟩)).1
  have i2 := (add_inF f2 f3 (fun h => (f4 h).2)).1
  have i3 := (mul_inF f1 f3 (fun h => ⟨(f4 h).1, (f4 h).2.2⟩)).1
  have t4 : togOk v (addV u t) = true := f1.togOk i2
  have t5 : togOk (mulV v u) (mulV v t) = true := i1.togOk i3
  have t6 : togOk (mulV v u) u = true := i1.togOk f2
  have hd := distrib f1 f2 f3 f4
  have hsm := sign_mul f0 f1 f2 (fun h => ⟨(f4 h).1, (f4 h).2.1⟩)
  have hsz := sign_zero f0 f2 (fun h => (f4 h).2.1)
  
  obtain ⟨w1', w2', w3'⟩ := read_write h1
  obtain ⟨w0, hw0⟩ : ∃ w0, w0 = ((((w.alloc (.cells #[.string a.A, .string a.B, .int .i64 a.D] 23)).alloc (.cells #[.string b.A, .string b.B, .int .i64 b.D] 23)).alloc (.cells #[.string c.A, .string c.B, .int .i64 c.D] 23)).alloc (.cells #[.string a.A, .string a.B, .int .i64 a.D, .string b.A, .string b.B, .int .i64 b.D, .string c.A, .string c.B, .int .i64 c.D] 23)) := ⟨_, rfl⟩
  have HE0 : Hid (Ext w w0) := Lib.hid (by rw [hw0]; exact (Ext.three _ _ _ _).alloc _)
  have HB1 : Hid (∀ W, Ext w0 W → BoxS W w.heap.size a.A a.B a.D) := Lib.hid (fun W he => BoxS.ext (by rw [hw0]; exact BoxS.ext (boxS_new w _ _ _) (Ext.three _ _ _ _)) he)
  have HB2 : Hid (∀ W, Ext w0 W → BoxS W (w.heap.size + 1) b.A b.B b.D) := Lib.hid (fun W he => BoxS.ext (by rw [hw0]; exact BoxS.ext (heap_alloc2_new w _ _) (Ext.two _ _ _)) he)
  have HB3 : Hid (∀ W, Ext w0 W → BoxS W (w.heap.size + 1 + 1) c.A c.B c.D) := Lib.hid (fun W he => BoxS.ext (by rw [hw0]; exact BoxS.ext (heap_alloc3_new w _ _ _) (Ext.one _ _)) he)
  have HSM : Hid (Calls Tryd.prog 5 #[.slice (some ⟨w.heap.size + 1 + 1 + 1, 0, none⟩) 3 3] w0 fun e w' => e = .returned (.bool (smallB [a, b, c])) ∧ Ext w0 w') := Lib.hid (small_calls _ 3 [a, b, c] w0 (by rw [hw0]; have h := slS_three (((w.alloc (.cells #[.string a.A, .string a.B, .int .i64 a.D] 23)).alloc (.cells #[.string b.A, .string b.B, .int .i64 b.D] 23)).alloc (.cells #[.string c.A, .string c.B, .int .i64 c.D] 23)) a b c; rw [size_alloc, size_alloc, size_alloc] at h; exact h) (Nat.le_trans (show [a, b, c].length ≤ 3 from Nat.le_refl 3) (by decide)))
  have HW0 := Lib.hid hw0
  have HAW := Lib.hid (fun W (he : Ext w0 W) => awake_calls W (htab.ext (HE0.out.trans he)))
  rw [hs] at HSM
  have HM0 := Lib.hid (fun W (he : Ext w0 W) => Mul_ok a.A a.B b.A b.B a.D b.D 40 W s1 s2 s3 s4 (by decide) v u h1 h2 t1 (htab.ext (HE0.out.trans he)))
  have HM1 := Lib.hid (fun W (he : Ext w0 W) => Add_ok b.A b.B c.A c.B b.D c.D 40 W s3 s4 s5 s6 (by decide) u t h2 h3 t2 (htab.ext (HE0.out.trans he)))
  have HM2 := Lib.hid (fun W (he : Ext w0 W) => Mul_ok a.A a.B c.A c.B a.D c.D 40 W s1 s2 s5 s6 (by decide) v t h1 h3 t3 (htab.ext (HE0.out.trans he)))
  have HM3 := Lib.hid (fun W (he : Ext w0 W) => Mul_ok a.A a.B ⟨(textR (addV u t).a).toArray⟩ ⟨(textR (addV u t).b).toArray⟩ a.D (addV u t).d 1378 W (by omega) (by omega) (by omega) (by omega) (by decide) v (addV u t) h1 g2 t4 (htab.ext (HE0.out.trans he)))
  have HM4 := Lib.hid (fun W (he : Ext w0 W) => Add_ok ⟨(textR (mulV v u).a).toArray⟩ ⟨(textR (mulV v u).b).toArray⟩ ⟨(textR (mulV v t).a).toArray⟩ ⟨(textR (mulV v t).b).toArray⟩ (mulV v u).d (mulV v t).d 1378 W (by omega) (by omega) (by omega) (by omega) (by decide) (mulV v u) (mulV v t) g1 g3 t5 (htab.ext (HE0.out.trans he)))
  have HS1 := Lib.hid (fun W (he : Ext w0 W) => Sign_ok a.A a.B a.D 40 W s1 s2 (by decide) v h1)
  have HS2 := Lib.hid (fun W (he : Ext w0 W) => Sign_ok b.A b.B b.D 40 W s3 s4 (by decide) u h2)
  have HS3 := Lib.hid (fun W (he : Ext w0 W) => Sign_ok ⟨(textR (mulV v u).a).toArray⟩ ⟨(textR (mulV v u).b).toArray⟩ (mulV v u).d 1378 W (by omega) (by omega) (by decide) (mulV v u) g1)
  have HD := Lib.hid (fun W (he : Ext w0 W) => Div_zero ⟨(textR (mulV v u).a).toArray⟩ ⟨(textR (mulV v u).b).toArray⟩ b.A b.B (mulV v u).d b.D 1378 W (by omega) (by omega) (by omega) (by omega) (by decide) (mulV v u) u g1 h2 t6 (htab.ext (HE0.out.trans he)) hz)
  rw [← hd] at HM4
  unfold SurErr at HD
  unfold SurOk at HM0 HM1 HM2 HM3 HM4
  
  rw [hsm] at HS3
  have hr1 := sv_range v
  have hr2 := sv_range u
  generalize (⟨(textR (mulV v u).a).toArray⟩ : ByteArray) = PA at *
  generalize (⟨(textR (mulV v u).b).toArray⟩ : ByteArray) = PB at *
  generalize (⟨(textR (addV u t).a).toArray⟩ : ByteArray) = SA at *
  generalize (⟨(textR (addV u t).b).toArray⟩ : ByteArray) = SB at *
  generalize (⟨(textR (mulV v t).a).toArray⟩ : ByteArray) = CA at *
  generalize (⟨(textR (mulV v t).b).toArray⟩ : ByteArray) = CB at *
  generalize (⟨(textR (mulV v (addV u t)).a).toArray⟩ : ByteArray) = XA at *
  generalize (⟨(textR (mulV v (addV u t)).b).toArray⟩ : ByteArray) = XB at *
  generalize (mulV v (addV u t)).d = xd at *
  generalize (mulV v u).d = pd at *
  generalize (mulV v t).d = cd at *
  generalize (addV u t).d = sd at *
  have hsu : signV u = 0 := hsz.mpr hz
  rw [hsu] at HS2 HS3
  rw [Int.mul_zero] at HS3
  generalize signV v = m at *
  
  
  clear  hr1 hr2 z1 z2 z3 z4 z5 z6 b1 b2 b3 m1 m2 m3 v1 v2 v3 g1 g2 g3 h1 h2 h3 t1 t2 t3 t4 t5 t6 hd hsm hsz f0 f1 f2 f3 f4 i1 i2 i3 s1 s2 s3 s4 s5 s6 hs htab hw0 hz hsu w1' w2' w3'
  obtain ⟨i0, i1, i2⟩ := (HB1.out _ (Ext.refl _)).cells
  obtain ⟨j0, j1, j2⟩ := (HB2.out _ (Ext.refl _)).cells
  obtain ⟨k0, k1, k2⟩ := (HB3.out _ (Ext.refl _)).cells
  go_enter Tryd.func4, Tryd.ntmps4
  go_wp2_with fail
  rw [← HW0.out]
  go_wp2_with (first
    | (go_at_call 5; refine HSM.out.mono ?_; clear HSM; rintro e1 w1 ⟨rfl, he⟩; have HX1 := Lib.hid he; clear he; clear i0 i1 i2 j0 j1 j2 k0 k1 k2; obtain ⟨i0, i1, i2⟩ := (HB1.out _ (HX1.out)).cells; obtain ⟨j0, j1, j2⟩ := (HB2.out _ (HX1.out)).cells)
    | (go_at_call 7; refine (HM0.out _ (HX1.out)).mono ?_; clear HM0; clear i0 i1 i2 j0 j1 j2; rintro e2 w2 ⟨rfl, he⟩; have HX2 := Lib.hid he; clear he; obtain ⟨j0, j1, j2⟩ := (HB2.out _ (((HX1.out).trans HX2.out).alloc (.cells #[.string PA, .string PB, .int .i64 pd] 23))).cells; obtain ⟨k0, k1, k2⟩ := (HB3.out _ (((HX1.out).trans HX2.out).alloc (.cells #[.string PA, .string PB, .int .i64 pd] 23))).cells)
    | (go_at_call 13; refine (HM1.out _ (((HX1.out).trans HX2.out).alloc (.cells #[.string PA, .string PB, .int .i64 pd] 23))).mono ?_; clear HM1; clear j0 j1 j2 k0 k1 k2; rintro e3 w3 ⟨rfl, he⟩; have HX3 := Lib.hid he; clear he; obtain ⟨i0, i1, i2⟩ := (HB1.out _ (((((HX1.out).trans HX2.out).alloc (.cells #[.string PA, .string PB, .int .i64 pd] 23)).trans HX3.out).alloc (.cells #[.string SA, .string SB, .int .i64 sd] 23))).cells; obtain ⟨k0, k1, k2⟩ := (HB3.out _ (((((HX1.out).trans HX2.out).alloc (.cells #[.string PA, .string PB, .int .i64 pd] 23)).trans HX3.out).alloc (.cells #[.string SA, .string SB, .int .i64 sd] 23))).cells)
    | (go_at_call 7; refine (HM2.out _ (((((HX1.out).trans HX2.out).alloc (.cells #[.string PA, .string PB, .int .i64 pd] 23)).trans HX3.out).alloc (.cells #[.string SA, .string SB, .int .i64 sd] 23))).mono ?_; clear HM2; clear i0 i1 i2 k0 k1 k2; rintro e4 w4 ⟨rfl, he⟩; have HX4 := Lib.hid he; clear he; obtain ⟨i0, i1, i2⟩ := (HB1.out _ (((((((HX1.out).trans HX2.out).alloc (.cells #[.string PA, .string PB, .int .i64 pd] 23)).trans HX3.out).alloc (.cells #[.string SA, .string SB, .int .i64 sd] 23)).trans HX4.out).alloc (.cells #[.string CA, .string CB, .int .i64 cd] 23))).cells; obtain ⟨j0, j1, j2⟩ := (BoxS.ext (boxS_new w3 SA SB sd) ((HX4.out).alloc (.cells #[.string CA, .string CB, .int .i64 cd] 23))).cells)
    | (go_at_call 7; refine (HM3.out _ (((((((HX1.out).trans HX2.out).alloc (.cells #[.string PA, .string PB, .int .i64 pd] 23)).trans HX3.out).alloc (.cells #[.string SA, .string SB, .int .i64 sd] 23)).trans HX4.out).alloc (.cells #[.string CA, .string CB, .int .i64 cd] 23))).mono ?_; clear HM3; clear i0 i1 i2 j0 j1 j2; rintro e5 w5 ⟨rfl, he⟩; have HX5 := Lib.hid he; clear he; obtain ⟨i0, i1, i2⟩ := (BoxS.ext (boxS_new w2 PA PB pd) ((((((HX3.out).alloc (.cells #[.string SA, .string SB, .int .i64 sd] 23)).trans HX4.out).alloc (.cells #[.string CA, .string CB, .int .i64 cd] 23)).trans HX5.out).alloc (.cells #[.string XA, .string XB, .int .i64 xd] 23))).cells; obtain ⟨j0, j1, j2⟩ := (BoxS.ext (boxS_new w4 CA CB cd) ((HX5.out).alloc (.cells #[.string XA, .string XB, .int .i64 xd] 23))).cells)
    | (go_at_call 13; refine (HM4.out _ (((((((((HX1.out).trans HX2.out).alloc (.cells #[.string PA, .string PB, .int .i64 pd] 23)).trans HX3.out).alloc (.cells #[.string SA, .string SB, .int .i64 sd] 23)).trans HX4.out).alloc (.cells #[.string CA, .string CB, .int .i64 cd] 23)).trans HX5.out).alloc (.cells #[.string XA, .string XB, .int .i64 xd] 23))).mono ?_; clear HM4; clear i0 i1 i2 j0 j1 j2; rintro e6 w6 ⟨rfl, he⟩; have HX6 := Lib.hid he; clear he; obtain ⟨i0, i1, i2⟩ := (BoxS.ext (boxS_new w5 XA XB xd) ((HX6.out).alloc (.cells #[.string XA, .string XB, .int .i64 xd] 23))).cells; obtain ⟨j0, j1, j2⟩ := (HB2.out _ (((((((((((HX1.out).trans HX2.out).alloc (.cells #[.string PA, .string PB, .int .i64 pd] 23)).trans HX3.out).alloc (.cells #[.string SA, .string SB, .int .i64 sd] 23)).trans HX4.out).alloc (.cells #[.string CA, .string CB, .int .i64 cd] 23)).trans HX5.out).alloc (.cells #[.string XA, .string XB, .int .i64 xd] 23)).trans HX6.out).alloc (.cells #[.string XA, .string XB, .int .i64 xd] 23))).cells; obtain ⟨l0, l1, l2⟩ := (HB1.out _ (((((((((((HX1.out).trans HX2.out).alloc (.cells #[.string PA, .string PB, .int .i64 pd] 23)).trans HX3.out).alloc (.cells #[.string SA, .string SB, .int .i64 sd] 23)).trans HX4.out).alloc (.cells #[.string CA, .string CB, .int .i64 cd] 23)).trans HX5.out).alloc (.cells #[.string XA, .string XB, .int .i64 xd] 23)).trans HX6.out).alloc (.cells #[.string XA, .string XB, .int .i64 xd] 23))).cells)
    | (go_at_call 11; refine (HS1.out _ (((((((((((HX1.out).trans HX2.out).alloc (.cells #[.string PA, .string PB, .int .i64 pd] 23)).trans HX3.out).alloc (.cells #[.string SA, .string SB, .int .i64 sd] 23)).trans HX4.out).alloc (.cells #[.string CA, .string CB, .int .i64 cd] 23)).trans HX5.out).alloc (.cells #[.string XA, .string XB, .int .i64 xd] 23)).trans HX6.out).alloc (.cells #[.string XA, .string XB, .int .i64 xd] 23))).mono ?_; clear HS1 l0 l1 l2; clear i0 i1 i2 j0 j1 j2; rintro e7 w7 ⟨rfl, he⟩; have HX7 := Lib.hid he; clear he; obtain ⟨j0, j1, j2⟩ := (HB2.out _ ((((((((((((HX1.out).trans HX2.out).alloc (.cells #[.string PA, .string PB, .int .i64 pd] 23)).trans HX3.out).alloc (.cells #[.string SA, .string SB, .int .i64 sd] 23)).trans HX4.out).alloc (.cells #[.string CA, .string CB, .int .i64 cd] 23)).trans HX5.out).alloc (.cells #[.string XA, .string XB, .int .i64 xd] 23)).trans HX6.out).alloc (.cells #[.string XA, .string XB, .int .i64 xd] 23)).trans HX7.out)).cells)
    | (go_at_call 11; refine (HS2.out _ ((((((((((((HX1.out).trans HX2.out).alloc (.cells #[.string PA, .string PB, .int .i64 pd] 23)).trans HX3.out).alloc (.cells #[.string SA, .string SB, .int .i64 sd] 23)).trans HX4.out).alloc (.cells #[.string CA, .string CB, .int .i64 cd] 23)).trans HX5.out).alloc (.cells #[.string XA, .string XB, .int .i64 xd] 23)).trans HX6.out).alloc (.cells #[.string XA, .string XB, .int .i64 xd] 23)).trans HX7.out)).mono ?_; clear HS2; clear j0 j1 j2; rintro e8 w8 ⟨rfl, he⟩; have HX8 := Lib.hid he; clear he; obtain ⟨i0, i1, i2⟩ := (BoxS.ext (boxS_new w2 PA PB pd) ((((((((((HX3.out).alloc (.cells #[.string SA, .string SB, .int .i64 sd] 23)).trans HX4.out).alloc (.cells #[.string CA, .string CB, .int .i64 cd] 23)).trans HX5.out).alloc (.cells #[.string XA, .string XB, .int .i64 xd] 23)).trans HX6.out).alloc (.cells #[.string XA, .string XB, .int .i64 xd] 23)).trans HX7.out).trans HX8.out)).cells)
    | (go_at_call 11; refine (HS3.out _ (((((((((((((HX1.out).trans HX2.out).alloc (.cells #[.string PA, .string PB, .int .i64 pd] 23)).trans HX3.out).alloc (.cells #[.string SA, .string SB, .int .i64 sd] 23)).trans HX4.out).alloc (.cells #[.string CA, .string CB, .int .i64 cd] 23)).trans HX5.out).alloc (.cells #[.string XA, .string XB, .int .i64 xd] 23)).trans HX6.out).alloc (.cells #[.string XA, .string XB, .int .i64 xd] 23)).trans HX7.out).trans HX8.out)).mono ?_; clear HS3; clear i0 i1 i2; rintro e9 w9 ⟨rfl, he⟩; have HX9 := Lib.hid he; clear he; obtain ⟨i0, i1, i2⟩ := (BoxS.ext (boxS_new w2 PA PB pd) (((((((((((HX3.out).alloc (.cells #[.string SA, .string SB, .int .i64 sd] 23)).trans HX4.out).alloc (.cells #[.string CA, .string CB, .int .i64 cd] 23)).trans HX5.out).alloc (.cells #[.string XA, .string XB, .int .i64 xd] 23)).trans HX6.out).alloc (.cells #[.string XA, .string XB, .int .i64 xd] 23)).trans HX7.out).trans HX8.out).trans HX9.out)).cells; obtain ⟨j0, j1, j2⟩ := (HB2.out _ ((((((((((((((HX1.out).trans HX2.out).alloc (.cells #[.string PA, .string PB, .int .i64 pd] 23)).trans HX3.out).alloc (.cells #[.string SA, .string SB, .int .i64 sd] 23)).trans HX4.out).alloc (.cells #[.string CA, .string CB, .int .i64 cd] 23)).trans HX5.out).alloc (.cells #[.string XA, .string XB, .int .i64 xd] 23)).trans HX6.out).alloc (.cells #[.string XA, .string XB, .int .i64 xd] 23)).trans HX7.out).trans HX8.out).trans HX9.out)).cells)
    | (go_at_call 14; refine (HD.out _ ((((((((((((((HX1.out).trans HX2.out).alloc (.cells #[.string PA, .string PB, .int .i64 pd] 23)).trans HX3.out).alloc (.cells #[.string SA, .string SB, .int .i64 sd] 23)).trans HX4.out).alloc (.cells #[.string CA, .string CB, .int .i64 cd] 23)).trans HX5.out).alloc (.cells #[.string XA, .string XB, .int .i64 xd] 23)).trans HX6.out).alloc (.cells #[.string XA, .string XB, .int .i64 xd] 23)).trans HX7.out).trans HX8.out).trans HX9.out)).mono ?_; clear HD; clear i0 i1 i2 j0 j1 j2; rintro e10 w10 ⟨rfl, he⟩; have HX10 := Lib.hid he; clear he)
    | (go_at_call 6; refine (HAW.out _ ((((((((((((((((HX1.out).trans HX2.out).alloc (.cells #[.string PA, .string PB, .int .i64 pd] 23)).trans HX3.out).alloc (.cells #[.string SA, .string SB, .int .i64 sd] 23)).trans HX4.out).alloc (.cells #[.string CA, .string CB, .int .i64 cd] 23)).trans HX5.out).alloc (.cells #[.string XA, .string XB, .int .i64 xd] 23)).trans HX6.out).alloc (.cells #[.string XA, .string XB, .int .i64 xd] 23)).trans HX7.out).trans HX8.out).trans HX9.out).trans HX10.out).alloc (.cells #[.string ⟨#[]⟩, .string ⟨#[]⟩, .int .i64 0] 23))).mono ?_; clear HAW; rintro e11 w11 ⟨rfl, he⟩; have HX11 := Lib.hid he; clear he))
  go_ret
  exact ⟨rfl, HE0.out.trans (((((((((((((((((HX1.out).trans HX2.out).alloc (.cells #[.string PA, .string PB, .int .i64 pd] 23)).trans HX3.out).alloc (.cells #[.string SA, .string SB, .int .i64 sd] 23)).trans HX4.out).alloc (.cells #[.string CA, .string CB, .int .i64 cd] 23)).trans HX5.out).alloc (.cells #[.string XA, .string XB, .int .i64 xd] 23)).trans HX6.out).alloc (.cells #[.string XA, .string XB, .int .i64 xd] 23)).trans HX7.out).trans HX8.out).trans HX9.out).trans HX10.out).alloc (.cells #[.string ⟨#[]⟩, .string ⟨#[]⟩, .int .i64 0] 23)).trans HX11.out)⟩
set_option maxRecDepth 100000 in
set_option maxHeartbeats 2000000 in
theorem field_Cn (a b c : SU) (w : World) (htab : TabW w) (hs : smallB [a, b, c] = true) (v u t : SV) (h1 : (readV a.A.data.toList a.B.data.toList a.D) = some v) (h2 : (readV b.A.data.toList b.B.data.toList b.D) = some u) (h3 : (readV c.A.data.toList c.B.data.toList c.D) = some t) (t1 : togOk v u = true) (t2 : togOk u t = true) (t3 : togOk v t = true) (hz : zeroV u = false) :
    Calls Tryd.prog 4 #[.agg #[.string a.A, .string a.B, .int .i64 a.D], .agg #[.string b.A, .string b.B, .int .i64 b.D], .agg #[.string c.A, .string c.B, .int .i64 c.D]] w fun e w' => e = .returned (.bool true) ∧ Ext w w' := by
  obtain ⟨⟨s1, s2⟩, ⟨s3, s4⟩, s5, s6⟩ := smallB_three hs
  have v1 := readV_val h1
  have v2 := readV_val h2
  have v3 := readV_val h3
  have b1 : VB 164 v := readV_VB (n := 40) h1 (by rw [Array.length_toList]; exact s1) (by rw [Array.length_toList]; exact s2)
  have b2 : VB 164 u := readV_VB (n := 40) h2 (by rw [Array.length_toList]; exact s3) (by rw [Array.length_toList]; exact s4)
  have b3 : VB 164 t := readV_VB (n := 40) h3 (by rw [Array.length_toList]; exact s5) (by rw [Array.length_toList]; exact s6)
  have m1 : VB 688 (mulV v u) := b1.mul b2
  have m2 : VB 329 (addV u t) := b2.add b3
  have m3 : VB 688 (mulV v t) := b1.mul b3
  obtain ⟨z1, z2⟩ := m1.sizes (by decide)
  obtain ⟨z3, z4⟩ := m2.sizes (by decide)
  obtain ⟨z5, z6⟩ := m3.sizes (by decide)
  obtain ⟨F, f0, f1, f2, f3, f4⟩ := three v1 v2 v3 t1 t2 t3
  have g1 := readV_text (Val.mul v1 v2 t1)
  have g2 := readV_text (Val.add v2 v3 t2)
  have g3 := readV_text (Val.mul v1 v3 t3)
  have i1 := (mul_inF f1 f2 (fun h => ⟨(f4 h).1, (f4 h).2.1⟩)).1
  have i2 := (add_inF f2 f3 (fun h => (f4 h).2)).1
  have i3 := (mul_inF f1 f3 (fun h => ⟨(f4 h).1, (f4 h).2.2⟩)).1
  have t4 : togOk v (addV u t) = true := f1.togOk i2
  have t5 : togOk (mulV v u) (mulV v t) = true := i1.togOk i3
  have t6 : togOk (mulV v u) u = true := i1.togOk f2
  have hd := distrib f1 f2 f3 f4
  have hsm := sign_mul f0 f1 f2 (fun h => ⟨(f4 h).1, (f4 h).2.1⟩)
  have hsz := sign_zero f0 f2 (fun h => (f4 h).2.1)
  have hdm := div_mul f0 f1 f2 (fun h => ⟨(f4 h).1, (f4 h).2.1⟩) hz
  obtain ⟨w1', w2', w3'⟩ := read_write h1
  obtain ⟨w0, hw0⟩ : ∃ w0, w0 = ((((w.alloc (.cells #[.string a.A, .string a.B, .int .i64 a.D] 23)).alloc (.cells #[.string b.A, .string b.B, .int .i64 b.D] 23)).alloc (.cells #[.string c.A, .string c.B, .int .i64 c.D] 23)).alloc (.cells #[.string a.A, .string a.B, .int .i64 a.D, .string b.A, .string b.B, .int .i64 b.D, .string c.A, .string c.B, .int .i64 c.D] 23)) := ⟨_, rfl⟩
  have HE0 : Hid (Ext w w0) := Lib.hid (by rw [hw0]; exact (Ext.three _ _ _ _).alloc _)
  have HB1 : Hid (∀ W, Ext w0 W → BoxS W w.heap.size a.A a.B a.D) := Lib.hid (fun W he => BoxS.ext (by rw [hw0]; exact BoxS.ext (boxS_new w _ _ _) (Ext.three _ _ _ _)) he)
  have HB2 : Hid (∀ W, Ext w0 W → BoxS W (w.heap.size + 1) b.A b.B b.D) := Lib.hid (fun W he => BoxS.ext (by rw [hw0]; exact BoxS.ext (heap_alloc2_new w _ _) (Ext.two _ _ _)) he)
  have HB3 : Hid (∀ W, Ext w0 W → BoxS W (w.heap.size + 1 + 1) c.A c.B c.D) := Lib.hid (fun W he => BoxS.ext (by rw [hw0]; exact BoxS.ext (heap_alloc3_new w _ _ _) (Ext.one _ _)) he)
  have HSM : Hid (Calls Tryd.prog 5 #[.slice (some ⟨w.heap.size + 1 + 1 + 1, 0, none⟩) 3 3] w0 fun e w' => e = .returned (.bool (smallB [a, b, c])) ∧ Ext w0 w') := Lib.hid (small_calls _ 3 [a, b, c] w0 (by rw [hw0]; have h := slS_three (((w.alloc (.cells #[.string a.A, .string a.B, .int .i64 a.D] 23)).alloc (.cells #[.string b.A, .string b.B, .int .i64 b.D] 23)).alloc (.cells #[.string c.A, .string c.B, .int .i64 c.D] 23)) a b c; rw [size_alloc, size_alloc, size_alloc] at h; exact h) (Nat.le_trans (show [a, b, c].length ≤ 3 from Nat.le_refl 3) (by decide)))
  have HW0 := Lib.hid hw0
  have HAW := Lib.hid (fun W (he : Ext w0 W) => awake_calls W (htab.ext (HE0.out.trans he)))
  rw [hs] at HSM
  have HM0 := Lib.hid (fun W (he : Ext w0 W) => Mul_ok a.A a.B b.A b.B a.D b.D 40 W s1 s2 s3 s4 (by decide) v u h1 h2 t1 (htab.ext (HE0.out.trans he)))
  have HM1 := Lib.hid (fun W (he : Ext w0 W) => Add_ok b.A b.B c.A c.B b.D c.D 40 W s3 s4 s5 s6 (by decide) u t h2 h3 t2 (htab.ext (HE0.out.trans he)))
  have HM2 := Lib.hid (fun W (he : Ext w0 W) => Mul_ok a.A a.B c.A c.B a.D c.D 40 W s1 s2 s5 s6 (by decide) v t h1 h3 t3 (htab.ext (HE0.out.trans he)))
  have HM3 := Lib.hid (fun W (he : Ext w0 W) => Mul_ok a.A a.B ⟨(textR (addV u t).a).toArray⟩ ⟨(textR (addV u t).b).toArray⟩ a.D (addV u t).d 1378 W (by omega) (by omega) (by omega) (by omega) (by decide) v (addV u t) h1 g2 t4 (htab.ext (HE0.out.trans he)))
  have HM4 := Lib.hid (fun W (he : Ext w0 W) => Add_ok ⟨(textR (mulV v u).a).toArray⟩ ⟨(textR (mulV v u).b).toArray⟩ ⟨(textR (mulV v t).a).toArray⟩ ⟨(textR (mulV v t).b).toArray⟩ (mulV v u).d (mulV v t).d 1378 W (by omega) (by omega) (by omega) (by omega) (by decide) (mulV v u) (mulV v t) g1 g3 t5 (htab.ext (HE0.out.trans he)))
  have HS1 := Lib.hid (fun W (he : Ext w0 W) => Sign_ok a.A a.B a.D 40 W s1 s2 (by decide) v h1)
  have HS2 := Lib.hid (fun W (he : Ext w0 W) => Sign_ok b.A b.B b.D 40 W s3 s4 (by decide) u h2)
  have HS3 := Lib.hid (fun W (he : Ext w0 W) => Sign_ok ⟨(textR (mulV v u).a).toArray⟩ ⟨(textR (mulV v u).b).toArray⟩ (mulV v u).d 1378 W (by omega) (by omega) (by decide) (mulV v u) g1)
  have HD := Lib.hid (fun W (he : Ext w0 W) => Div_ok ⟨(textR (mulV v u).a).toArray⟩ ⟨(textR (mulV v u).b).toArray⟩ b.A b.B (mulV v u).d b.D 1378 W (by omega) (by omega) (by omega) (by omega) (by decide) (mulV v u) u g1 h2 t6 (htab.ext (HE0.out.trans he)) hz)
  rw [← hd] at HM4
  rw [hdm] at HD
  unfold SurOk at HM0 HM1 HM2 HM3 HM4 HD
  simp only [w1', w2', w3'] at HD
  rw [hsm] at HS3
  have hr1 := sv_range v
  have hr2 := sv_range u
  generalize (⟨(textR (mulV v u).a).toArray⟩ : ByteArray) = PA at *
  generalize (⟨(textR (mulV v u).b).toArray⟩ : ByteArray) = PB at *
  generalize (⟨(textR (addV u t).a).toArray⟩ : ByteArray) = SA at *
  generalize (⟨(textR (addV u t).b).toArray⟩ : ByteArray) = SB at *
  generalize (⟨(textR (mulV v t).a).toArray⟩ : ByteArray) = CA at *
  generalize (⟨(textR (mulV v t).b).toArray⟩ : ByteArray) = CB at *
  generalize (⟨(textR (mulV v (addV u t)).a).toArray⟩ : ByteArray) = XA at *
  generalize (⟨(textR (mulV v (addV u t)).b).toArray⟩ : ByteArray) = XB at *
  generalize (mulV v (addV u t)).d = xd at *
  generalize (mulV v u).d = pd at *
  generalize (mulV v t).d = cd at *
  generalize (addV u t).d = sd at *
  have hsu : signV u ≠ 0 := fun h => by rw [hsz.mp h] at hz; exact absurd hz (by decide)
  
  
  generalize signV v = m at *
  generalize signV u = n at *
  obtain ⟨mn, hmn⟩ : ∃ mn, mn = m * n := ⟨_, rfl⟩
  rw [← hmn] at HS3
  have q1 : IntKind.i64.wrap (m * n) = mn := by rw [hmn]; rcases hr1 with h | h | h <;> rcases hr2 with h' | h' | h' <;> rw [h, h'] <;> rfl
  have q2 : (n == 0) = false := by rw [beq_eq_false_iff_ne]; exact hsu
  clear hmn hr1 hr2 z1 z2 z3 z4 z5 z6 b1 b2 b3 m1 m2 m3 v1 v2 v3 g1 g2 g3 h1 h2 h3 t1 t2 t3 t4 t5 t6 hd hsm hsz f0 f1 f2 f3 f4 i1 i2 i3 s1 s2 s3 s4 s5 s6 hs htab hw0 hz hdm hsu w1' w2' w3'
  obtain ⟨i0, i1, i2⟩ := (HB1.out _ (Ext.refl _)).cells
  obtain ⟨j0, j1, j2⟩ := (HB2.out _ (Ext.refl _)).cells
  obtain ⟨k0, k1, k2⟩ := (HB3.out _ (Ext.refl _)).cells
  go_enter Tryd.func4, Tryd.ntmps4
  go_wp2_with fail
  rw [← HW0.out]
  go_wp2_with (first
    | (go_at_call 5; refine HSM.out.mono ?_; clear HSM; rintro e1 w1 ⟨rfl, he⟩; have HX1 := Lib.hid he; clear he; clear i0 i1 i2 j0 j1 j2 k0 k1 k2; obtain ⟨i0, i1, i2⟩ := (HB1.out _ (HX1.out)).cells; obtain ⟨j0, j1, j2⟩ := (HB2.out _ (HX1.out)).cells)
    | (go_at_call 7; refine (HM0.out _ (HX1.out)).mono ?_; clear HM0; clear i0 i1 i2 j0 j1 j2; rintro e2 w2 ⟨rfl, he⟩; have HX2 := Lib.hid he; clear he; obtain ⟨j0, j1, j2⟩ := (HB2.out _ (((HX1.out).trans HX2.out).alloc (.cells #[.string PA, .string PB, .int .i64 pd] 23))).cells; obtain ⟨k0, k1, k2⟩ := (HB3.out _ (((HX1.out).trans HX2.out).alloc (.cells #[.string PA, .string PB, .int .i64 pd] 23))).cells)
    | (go_at_call 13; refine (HM1.out _ (((HX1.out).trans HX2.out).alloc (.cells #[.string PA, .string PB, .int .i64 pd] 23))).mono ?_; clear HM1; clear j0 j1 j2 k0 k1 k2; rintro e3 w3 ⟨rfl, he⟩; have HX3 := Lib.hid he; clear he; obtain ⟨i0, i1, i2⟩ := (HB1.out _ (((((HX1.out).trans HX2.out).alloc (.cells #[.string PA, .string PB, .int .i64 pd] 23)).trans HX3.out).alloc (.cells #[.string SA, .string SB, .int .i64 sd] 23))).cells; obtain ⟨k0, k1, k2⟩ := (HB3.out _ (((((HX1.out).trans HX2.out).alloc (.cells #[.string PA, .string PB, .int .i64 pd] 23)).trans HX3.out).alloc (.cells #[.string SA, .string SB, .int .i64 sd] 23))).cells)
    | (go_at_call 7; refine (HM2.out _ (((((HX1.out).trans HX2.out).alloc (.cells #[.string PA, .string PB, .int .i64 pd] 23)).trans HX3.out).alloc (.cells #[.string SA, .string SB, .int .i64 sd] 23))).mono ?_; clear HM2; clear i0 i1 i2 k0 k1 k2; rintro e4 w4 ⟨rfl, he⟩; have HX4 := Lib.hid he; clear he; obtain ⟨i0, i1, i2⟩ := (HB1.out _ (((((((HX1.out).trans HX2.out).alloc (.cells #[.string PA, .string PB, .int .i64 pd] 23)).trans HX3.out).alloc (.cells #[.string SA, .string SB, .int .i64 sd] 23)).trans HX4.out).alloc (.cells #[.string CA, .string CB, .int .i64 cd] 23))).cells; obtain ⟨j0, j1, j2⟩ := (BoxS.ext (boxS_new w3 SA SB sd) ((HX4.out).alloc (.cells #[.string CA, .string CB, .int .i64 cd] 23))).cells)
    | (go_at_call 7; refine (HM3.out _ (((((((HX1.out).trans HX2.out).alloc (.cells #[.string PA, .string PB, .int .i64 pd] 23)).trans HX3.out).alloc (.cells #[.string SA, .string SB, .int .i64 sd] 23)).trans HX4.out).alloc (.cells #[.string CA, .string CB, .int .i64 cd] 23))).mono ?_; clear HM3; clear i0 i1 i2 j0 j1 j2; rintro e5 w5 ⟨rfl, he⟩; have HX5 := Lib.hid he; clear he; obtain ⟨i0, i1, i2⟩ := (BoxS.ext (boxS_new w2 PA PB pd) ((((((HX3.out).alloc (.cells #[.string SA, .string SB, .int .i64 sd] 23)).trans HX4.out).alloc (.cells #[.string CA, .string CB, .int .i64 cd] 23)).trans HX5.out).alloc (.cells #[.string XA, .string XB, .int .i64 xd] 23))).cells; obtain ⟨j0, j1, j2⟩ := (BoxS.ext (boxS_new w4 CA CB cd) ((HX5.out).alloc (.cells #[.string XA, .string XB, .int .i64 xd] 23))).cells)
    | (go_at_call 13; refine (HM4.out _ (((((((((HX1.out).trans HX2.out).alloc (.cells #[.string PA, .string PB, .int .i64 pd] 23)).trans HX3.out).alloc (.cells #[.string SA, .string SB, .int .i64 sd] 23)).trans HX4.out).alloc (.cells #[.string CA, .string CB, .int .i64 cd] 23)).trans HX5.out).alloc (.cells #[.string XA, .string XB, .int .i64 xd] 23))).mono ?_; clear HM4; clear i0 i1 i2 j0 j1 j2; rintro e6 w6 ⟨rfl, he⟩; have HX6 := Lib.hid he; clear he; obtain ⟨i0, i1, i2⟩ := (BoxS.ext (boxS_new w5 XA XB xd) ((HX6.out).alloc (.cells #[.string XA, .string XB, .int .i64 xd] 23))).cells; obtain ⟨j0, j1, j2⟩ := (HB2.out _ (((((((((((HX1.out).trans HX2.out).alloc (.cells #[.string PA, .string PB, .int .i64 pd] 23)).trans HX3.out).alloc (.cells #[.string SA, .string SB, .int .i64 sd] 23)).trans HX4.out).alloc (.cells #[.string CA, .string CB, .int .i64 cd] 23)).trans HX5.out).alloc (.cells #[.string XA, .string XB, .int .i64 xd] 23)).trans HX6.out).alloc (.cells #[.string XA, .string XB, .int .i64 xd] 23))).cells; obtain ⟨l0, l1, l2⟩ := (HB1.out _ (((((((((((HX1.out).trans HX2.out).alloc (.cells #[.string PA, .string PB, .int .i64 pd] 23)).trans HX3.out).alloc (.cells #[.string SA, .string SB, .int .i64 sd] 23)).trans HX4.out).alloc (.cells #[.string CA, .string CB, .int .i64 cd] 23)).trans HX5.out).alloc (.cells #[.string XA, .string XB, .int .i64 xd] 23)).trans HX6.out).alloc (.cells #[.string XA, .string XB, .int .i64 xd] 23))).cells)
    | (go_at_call 11; refine (HS1.out _ (((((((((((HX1.out).trans HX2.out).alloc (.cells #[.string PA, .string PB, .int .i64 pd] 23)).trans HX3.out).alloc (.cells #[.string SA, .string SB, .int .i64 sd] 23)).trans HX4.out).alloc (.cells #[.string CA, .string CB, .int .i64 cd] 23)).trans HX5.out).alloc (.cells #[.string XA, .string XB, .int .i64 xd] 23)).trans HX6.out).alloc (.cells #[.string XA, .string XB, .int .i64 xd] 23))).mono ?_; clear HS1 l0 l1 l2; clear i0 i1 i2 j0 j1 j2; rintro e7 w7 ⟨rfl, he⟩; have HX7 := Lib.hid he; clear he; obtain ⟨j0, j1, j2⟩ := (HB2.out _ ((((((((((((HX1.out).trans HX2.out).alloc (.cells #[.string PA, .string PB, .int .i64 pd] 23)).trans HX3.out).alloc (.cells #[.string SA, .string SB, .int .i64 sd] 23)).trans HX4.out).alloc (.cells #[.string CA, .string CB, .int .i64 cd] 23)).trans HX5.out).alloc (.cells #[.string XA, .string XB, .int .i64 xd] 23)).trans HX6.out).alloc (.cells #[.string XA, .string XB, .int .i64 xd] 23)).trans HX7.out)).cells)
    | (go_at_call 11; refine (HS2.out _ ((((((((((((HX1.out).trans HX2.out).alloc (.cells #[.string PA, .string PB, .int .i64 pd] 23)).trans HX3.out).alloc (.cells #[.string SA, .string SB, .int .i64 sd] 23)).trans HX4.out).alloc (.cells #[.string CA, .string CB, .int .i64 cd] 23)).trans HX5.out).alloc (.cells #[.string XA, .string XB, .int .i64 xd] 23)).trans HX6.out).alloc (.cells #[.string XA, .string XB, .int .i64 xd] 23)).trans HX7.out)).mono ?_; clear HS2; clear j0 j1 j2; rintro e8 w8 ⟨rfl, he⟩; have HX8 := Lib.hid he; clear he; obtain ⟨i0, i1, i2⟩ := (BoxS.ext (boxS_new w2 PA PB pd) ((((((((((HX3.out).alloc (.cells #[.string SA, .string SB, .int .i64 sd] 23)).trans HX4.out).alloc (.cells #[.string CA, .string CB, .int .i64 cd] 23)).trans HX5.out).alloc (.cells #[.string XA, .string XB, .int .i64 xd] 23)).trans HX6.out).alloc (.cells #[.string XA, .string XB, .int .i64 xd] 23)).trans HX7.out).trans HX8.out)).cells)
    | (go_at_call 11; refine (HS3.out _ (((((((((((((HX1.out).trans HX2.out).alloc (.cells #[.string PA, .string PB, .int .i64 pd] 23)).trans HX3.out).alloc (.cells #[.string SA, .string SB, .int .i64 sd] 23)).trans HX4.out).alloc (.cells #[.string CA, .string CB, .int .i64 cd] 23)).trans HX5.out).alloc (.cells #[.string XA, .string XB, .int .i64 xd] 23)).trans HX6.out).alloc (.cells #[.string XA, .string XB, .int .i64 xd] 23)).trans HX7.out).trans HX8.out)).mono ?_; clear HS3; clear i0 i1 i2; rintro e9 w9 ⟨rfl, he⟩; have HX9 := Lib.hid he; clear he; obtain ⟨i0, i1, i2⟩ := (BoxS.ext (boxS_new w2 PA PB pd) (((((((((((HX3.out).alloc (.cells #[.string SA, .string SB, .int .i64 sd] 23)).trans HX4.out).alloc (.cells #[.string CA, .string CB, .int .i64 cd] 23)).trans HX5.out).alloc (.cells #[.string XA, .string XB, .int .i64 xd] 23)).trans HX6.out).alloc (.cells #[.string XA, .string XB, .int .i64 xd] 23)).trans HX7.out).trans HX8.out).trans HX9.out)).cells; obtain ⟨j0, j1, j2⟩ := (HB2.out _ ((((((((((((((HX1.out).trans HX2.out).alloc (.cells #[.string PA, .string PB, .int .i64 pd] 23)).trans HX3.out).alloc (.cells #[.string SA, .string SB, .int .i64 sd] 23)).trans HX4.out).alloc (.cells #[.string CA, .string CB, .int .i64 cd] 23)).trans HX5.out).alloc (.cells #[.string XA, .string XB, .int .i64 xd] 23)).trans HX6.out).alloc (.cells #[.string XA, .string XB, .int .i64 xd] 23)).trans HX7.out).trans HX8.out).trans HX9.out)).cells)
    | (go_at_call 14; refine (HD.out _ ((((((((((((((HX1.out).trans HX2.out).alloc (.cells #[.string PA, .string PB, .int .i64 pd] 23)).trans HX3.out).alloc (.cells #[.string SA, .string SB, .int .i64 sd] 23)).trans HX4.out).alloc (.cells #[.string CA, .string CB, .int .i64 cd] 23)).trans HX5.out).alloc (.cells #[.string XA, .string XB, .int .i64 xd] 23)).trans HX6.out).alloc (.cells #[.string XA, .string XB, .int .i64 xd] 23)).trans HX7.out).trans HX8.out).trans HX9.out)).mono ?_; clear HD; clear i0 i1 i2 j0 j1 j2; rintro e10 w10 ⟨rfl, he⟩; have HX10 := Lib.hid he; clear he; obtain ⟨i0, i1, i2⟩ := (HB1.out _ ((((((((((((((((HX1.out).trans HX2.out).alloc (.cells #[.string PA, .string PB, .int .i64 pd] 23)).trans HX3.out).alloc (.cells #[.string SA, .string SB, .int .i64 sd] 23)).trans HX4.out).alloc (.cells #[.string CA, .string CB, .int .i64 cd] 23)).trans HX5.out).alloc (.cells #[.string XA, .string XB, .int .i64 xd] 23)).trans HX6.out).alloc (.cells #[.string XA, .string XB, .int .i64 xd] 23)).trans HX7.out).trans HX8.out).trans HX9.out).trans HX10.out).alloc (.cells #[.string a.A, .string a.B, .int .i64 a.D] 23))).cells)
    | (go_at_call 6; refine (HAW.out _ ((((((((((((((((HX1.out).trans HX2.out).alloc (.cells #[.string PA, .string PB, .int .i64 pd] 23)).trans HX3.out).alloc (.cells #[.string SA, .string SB, .int .i64 sd] 23)).trans HX4.out).alloc (.cells #[.string CA, .string CB, .int .i64 cd] 23)).trans HX5.out).alloc (.cells #[.string XA, .string XB, .int .i64 xd] 23)).trans HX6.out).alloc (.cells #[.string XA, .string XB, .int .i64 xd] 23)).trans HX7.out).trans HX8.out).trans HX9.out).trans HX10.out).alloc (.cells #[.string a.A, .string a.B, .int .i64 a.D] 23))).mono ?_; clear HAW; rintro e11 w11 ⟨rfl, he⟩; have HX11 := Lib.hid he; clear he))
  go_ret
  exact ⟨rfl, HE0.out.trans (((((((((((((((((HX1.out).trans HX2.out).alloc (.cells #[.string PA, .string PB, .int .i64 pd] 23)).trans HX3.out).alloc (.cells #[.string SA, .string SB, .int .i64 sd] 23)).trans HX4.out).alloc (.cells #[.string CA, .string CB, .int .i64 cd] 23)).trans HX5.out).alloc (.cells #[.string XA, .string XB, .int .i64 xd] 23)).trans HX6.out).alloc (.cells #[.string XA, .string XB, .int .i64 xd] 23)).trans HX7.out).trans HX8.out).trans HX9.out).trans HX10.out).alloc (.cells #[.string a.A, .string a.B, .int .i64 a.D] 23)).trans HX11.out)⟩
/-- SurdField returns true. -/
theorem field_law (a b c : SU) (w : World) (htab : TabW w) :
    Calls Tryd.prog 4 #[.agg #[.string a.A, .string a.B, .int .i64 a.D], .agg #[.string b.A, .string b.B, .int .i64 b.D], .agg #[.string c.A, .string c.B, .int .i64 c.D]] w fun e w' => e = .returned (.bool true) ∧ Ext w w' := by
  cases hs : smallB [a, b, c] with
  | false => exact field_A a b c w htab hs
  | true =>
    by_cases k0 : pairE (readV a.A.data.toList a.B.data.toList a.D) (readV b.A.data.toList b.B.data.toList b.D) = 0
    · by_cases k1 : pairE (readV b.A.data.toList b.B.data.toList b.D) (readV c.A.data.toList c.B.data.toList c.D) = 0
      · by_cases k2 : pairE (readV a.A.data.toList a.B.data.toList a.D) (readV c.A.data.toList c.B.data.toList c.D) = 0
        · obtain ⟨v, u, h1, h2, t1⟩ := pairE_ok k0
          obtain ⟨u', t, h2', h3, t2⟩ := pairE_ok k1
          obtain ⟨v', t', h1', h3', t3⟩ := pairE_ok k2
          rw [h2] at h2'; injection h2' with h2'; subst h2'
          rw [h1] at h1'; injection h1' with h1'; subst h1'
          rw [h3] at h3'; injection h3' with h3'; subst h3'
          cases hz : zeroV u with
          | true => exact field_Cz a b c w htab hs v u t h1 h2 h3 t1 t2 t3 hz
          | false => exact field_Cn a b c w htab hs v u t h1 h2 h3 t1 t2 t3 hz
        · exact field_B2 a b c w htab hs k0 k1 _ rfl k2
      · exact field_B1 a b c w htab hs k0 _ rfl k1
    · exact field_B0 a b c w htab hs _ rfl k0
end Go.Proofs.YtpgnlpjjpgdoiaaDoor
