/- Merged by program: SurK, SurG, SurI, SurL, SurN, Round, Api. -/
import Derived.Test.YtpgnlpjjpgdoiaaDoorFe
/- surd: Mul, Add. -/
namespace Go.Proofs.YtpgnlpjjpgdoiaaDoor
open Go Go.RowKit SurdM
set_option linter.unusedVariables false
set_option linter.unusedSimpArgs false
/-- The error that two gives. -/
def pairE (o1 o2 : Option SV) : Int := match o1, o2 with
  | some v, some u => if togOk v u = true then 0 else 9
  | _, _ => 1
theorem two_err (sa sb ta tb : ByteArray) (d e : Int) (n : Nat) (w : World) (hsa : sa.size ≤ n) (hsb : sb.size ≤ n) (hta : ta.size ≤ n) (htb : tb.size ≤ n) (hn : n ≤ 1000000000) (k : Int) (hk : pairE (readV sa.data.toList sb.data.toList d) (readV ta.data.toList tb.data.toList e) = k) (hk0 : k ≠ 0) :
    Calls Tryd.prog 17 #[.agg #[.string sa, .string sb, .int .i64 d], .agg #[.string ta, .string tb, .int .i64 e]] w (TwoErr w k) := by
  cases h1 : readV sa.data.toList sb.data.toList d with
  | none =>
    rw [h1] at hk
    obtain rfl : k = 1 := by rw [← hk]; rfl
    exact two_n1 sa sb ta tb d e n w hsa hsb hta htb hn h1
  | some v =>
    cases h2 : readV ta.data.toList tb.data.toList e with
    | none =>
      rw [h1, h2] at hk
      obtain rfl : k = 1 := by rw [← hk]; rfl
      exact two_n2 sa sb ta tb d e n w hsa hsb hta htb hn v h1 h2
    | some u =>
      rw [h1, h2] at hk
      cases ht : togOk v u with
      | true => unfold pairE at hk; simp only [ht, if_true] at hk; exact absurd hk.symm hk0
      | false =>
        unfold pairE at hk
        simp only [ht] at hk
        obtain rfl : k = 9 := by rw [← hk]; rfl
        exact two_fld sa sb ta tb d e n w hsa hsb hta htb hn v h1 u h2 ht
/-- What a function returns that gives a surd and no error. -/
def SurOk (w : World) (v : SV) (e : Ending) (w' : World) : Prop :=
  e = .returned (.tuple #[.agg #[.string ⟨(textR v.a).toArray⟩, .string ⟨(textR v.b).toArray⟩, .int .i64 v.d], .int .i64 0]) ∧ Ext w w'
def SurErr (w : World) (k : Int) (e : Ending) (w' : World) : Prop := e = .returned (.tuple #[.agg #[.string ⟨#[]⟩, .string ⟨#[]⟩, .int .i64 0], .int .i64 k]) ∧ Ext w w'
theorem readV_d {la lb : List UInt8} {d : Int} {v : SV} (h : readV la lb d = some v) : 0 ≤ v.d ∧ v.d ≤ 1000000 := by
  rcases readV_val h with ⟨h1, h2⟩ | ⟨h1, h2, h3, h4⟩ <;> omega
set_option maxRecDepth 100000 in
set_option maxHeartbeats 400000 in
theorem Mul_err (sa sb ta tb : ByteArray) (d e : Int) (n : Nat) (w : World) (hsa : sa.size ≤ n) (hsb : sb.size ≤ n) (hta : ta.size ≤ n) (htb : tb.size ≤ n) (hn : n ≤ 100000000) (k : Int) (hk : pairE (readV sa.data.toList sb.data.toList d) (readV ta.data.toList tb.data.toList e) = k) (hk0 : k ≠ 0) :
    Calls Tryd.prog 7 #[.agg #[.string sa, .string sb, .int .i64 d], .agg #[.string ta, .string tb, .int .i64 e]] w (SurErr w k) := by
  have HT := Lib.hid (fun W => two_err sa sb ta tb d e n W hsa hsb hta htb (by omega) k hk hk0)
  obtain ⟨w2, hw2⟩ : ∃ w2, w2 = (((w.alloc (.cells #[.string sa, .string sb, .int .i64 d] 23)).alloc (.cells #[.string ta, .string tb, .int .i64 e] 23)).alloc (.cells #[.string ⟨#[]⟩, .string ⟨#[]⟩, .int .i64 0] 23)) := ⟨_, rfl⟩
  have HE0 : Hid (Ext w w2) := Lib.hid (by rw [hw2]; exact Ext.three _ _ _ _)
  have HC1 : Hid (∀ W, Ext w2 W → BoxS W w.heap.size sa sb d) := Lib.hid (fun W he => BoxS.ext (by rw [hw2]; exact BoxS.ext (heap_alloc_new w _) (Ext.two _ _ _)) he)
  have HC2 : Hid (∀ W, Ext w2 W → BoxS W (w.heap.size + 1) ta tb e) := Lib.hid (fun W he => BoxS.ext (by rw [hw2]; exact BoxS.ext (heap_alloc2_new w _ _) (Ext.one _ _)) he)
  have HV : Hid (∀ W, Ext w2 W → BoxS W (w.heap.size + 1 + 1) ⟨#[]⟩ ⟨#[]⟩ 0) := Lib.hid (fun W he => BoxS.ext (by rw [hw2]; exact heap_alloc3_new w _ _ _) he)
  have HW2 := Lib.hid hw2
  obtain ⟨k0, k1, k2⟩ := (HC1.out _ (Ext.refl _)).cells
  obtain ⟨l0, l1, l2⟩ := (HC2.out _ (Ext.refl _)).cells
  have t1 : (k == 0) = false := by rw [beq_eq_false_iff_ne]; exact hk0
  have t2 : (k != 0) = true := by rw [bne_iff_ne]; exact hk0
  clear hsa hsb hta htb hn hk hw2 hk0
  go_enter Tryd.func7, Tryd.ntmps7
  go_wp2_with fail
  rw [← HW2.out]
  go_wp2_with (first
    | (go_at_call 17; refine (HT.out _).mono ?_; clear HT k0 k1 k2 l0 l1 l2; rintro e3 w3 ⟨rfl, he⟩; have HE3 := Lib.hid he; clear he; obtain ⟨j0, j1, j2⟩ := (HV.out _ ((HE3.out.alloc (.cells #[.int .i64 0, .int .i64 0, .pointer none, .int .i64 0, .int .i64 0, .pointer none, .int .i64 0] 45)).alloc (.cells #[.int .i64 0, .int .i64 0, .pointer none, .int .i64 0, .int .i64 0, .pointer none, .int .i64 0] 45))).cells; obtain ⟨f0, f1, f2⟩ := (HV.out _ ((HE3.out.alloc (.cells #[.int .i64 0, .int .i64 0, .pointer none, .int .i64 0, .int .i64 0, .pointer none, .int .i64 0] 45)).alloc (.cells #[.int .i64 0, .int .i64 0, .pointer none, .int .i64 0, .int .i64 0, .pointer none, .int .i64 0] 45))).frozen))
  refine ret_sur2 rfl (w.heap.size + 1 + 1) _ _ _ _ rfl rfl (putS_row (HV.out _ ((HE3.out.alloc _).alloc _)) ⟨#[]⟩ ⟨#[]⟩ 0) rfl ?_
  exact ⟨rfl, (putS_only _ _ _ _ _).ext (HE0.out.trans ((HE3.out.alloc _).alloc _)) (by omega)⟩
set_option maxRecDepth 100000 in
set_option maxHeartbeats 400000 in
theorem Mul_ok (sa sb ta tb : ByteArray) (d e : Int) (n : Nat) (w : World) (hsa : sa.size ≤ n) (hsb : sb.size ≤ n) (hta : ta.size ≤ n) (htb : tb.size ≤ n) (hn : n ≤ 100000000) (v u : SV) (h1 : readV sa.data.toList sb.data.toList d = some v) (h2 : readV ta.data.toList tb.data.toList e = some u) (ht : togOk v u = true) (htab : TabW w)  :
    Calls Tryd.prog 7 #[.agg #[.string sa, .string sb, .int .i64 d], .agg #[.string ta, .string tb, .int .i64 e]] w (SurOk w (mulV v u)) := by
  have HT := Lib.hid (fun W => two_ok sa sb ta tb d e n W hsa hsb hta htb (by omega) v h1 u h2 ht)
  have HD1 := Lib.hid (readV_d h1)
  have HD2 := Lib.hid (readV_d h2)
  have HN := Lib.hid hn
  obtain ⟨w2, hw2⟩ : ∃ w2, w2 = (((w.alloc (.cells #[.string sa, .string sb, .int .i64 d] 23)).alloc (.cells #[.string ta, .string tb, .int .i64 e] 23)).alloc (.cells #[.string ⟨#[]⟩, .string ⟨#[]⟩, .int .i64 0] 23)) := ⟨_, rfl⟩
  have HE0 : Hid (Ext w w2) := Lib.hid (by rw [hw2]; exact Ext.three _ _ _ _)
  have HC1 : Hid (∀ W, Ext w2 W → BoxS W w.heap.size sa sb d) := Lib.hid (fun W he => BoxS.ext (by rw [hw2]; exact BoxS.ext (heap_alloc_new w _) (Ext.two _ _ _)) he)
  have HC2 : Hid (∀ W, Ext w2 W → BoxS W (w.heap.size + 1) ta tb e) := Lib.hid (fun W he => BoxS.ext (by rw [hw2]; exact BoxS.ext (heap_alloc2_new w _ _) (Ext.one _ _)) he)
  have HV : Hid (∀ W, Ext w2 W → BoxS W (w.heap.size + 1 + 1) ⟨#[]⟩ ⟨#[]⟩ 0) := Lib.hid (fun W he => BoxS.ext (by rw [hw2]; exact heap_alloc3_new w _ _ _) he)
  have HW2 := Lib.hid hw2
  obtain ⟨k0, k1, k2⟩ := (HC1.out _ (Ext.refl _)).cells
  obtain ⟨l0, l1, l2⟩ := (HC2.out _ (Ext.refl _)).cells
  have HTB := Lib.hid htab
  obtain ⟨x1, y1, dv1⟩ := v
  obtain ⟨x2, y2, dv2⟩ := u
  
  unfold SurOk
  clear hsa hsb hta htb hn h1 h2 ht hw2 htab
  go_enter Tryd.func7, Tryd.ntmps7
  go_wp2_with fail
  rw [← HW2.out]
  go_wp2_with (first
    | (go_at_call 17; refine (HT.out _).mono ?_; clear HT k0 k1 k2 l0 l1 l2; rintro e3 w3 ⟨p3, q3, A3, r3, s3, B3, p4, q4, A4, r4, s4, B4, rfl, hr, hs, hr', hs', he⟩; have HR3 := Lib.hid hr; have HS3 := Lib.hid hs; have HR4 := Lib.hid hr'; have HS4 := Lib.hid hs'; have HE3 := Lib.hid he; clear hr hs hr' hs' he)
    | (go_at_call 18; refine (mul_callsV (HR3.out.ext (Ext.two _ _ _)) (HS3.out.ext (Ext.two _ _ _)) (HR4.out.ext (Ext.two _ _ _)) (HS4.out.ext (Ext.two _ _ _)) (by have := HN.out; omega) (by have := HN.out; omega) HD1.out HD2.out).mono ?_; rintro e w6 ⟨p6, q6, A6, r6, s6, B6, rfl, hr, hs, he⟩; have HR6 := Lib.hid hr; have HS6 := Lib.hid hs; have HE6 : Hid (Ext w2 w6) := Lib.hid (((HE3.out.alloc (.cells #[.int .i64 p3, .int .i64 q3, .pointer A3, .int .i64 r3, .int .i64 s3, .pointer B3, .int .i64 dv1] 45)).alloc (.cells #[.int .i64 p4, .int .i64 q4, .pointer A4, .int .i64 r4, .int .i64 s4, .pointer B4, .int .i64 dv2] 45)).trans he); have HX6 := Lib.hid he; clear hr hs he)
    | (go_at_call 19; refine (write_calls HR6.out HS6.out (HTB.out.ext (HE0.out.trans HE6.out)) (by have := HN.out; omega)).mono ?_; rintro e7 w7 ⟨rfl, he⟩; have HE7 : Hid (Ext w2 w7) := Lib.hid (HE6.out.trans he); clear he; obtain ⟨j0, j1, j2⟩ := (HV.out _ HE7.out).cells; obtain ⟨f0, f1, f2⟩ := (HV.out _ HE7.out).frozen))
  refine ret_sur2 rfl (w.heap.size + 1 + 1) _ _ _ _ rfl rfl (putS_row (HV.out _ HE7.out) _ _ _) rfl ?_
  exact ⟨rfl, (putS_only _ _ _ _ _).ext (HE0.out.trans HE7.out) (by omega)⟩
set_option maxRecDepth 100000 in
set_option maxHeartbeats 400000 in
theorem Add_err (sa sb ta tb : ByteArray) (d e : Int) (n : Nat) (w : World) (hsa : sa.size ≤ n) (hsb : sb.size ≤ n) (hta : ta.size ≤ n) (htb : tb.size ≤ n) (hn : n ≤ 100000000) (k : Int) (hk : pairE (readV sa.data.toList sb.data.toList d) (readV ta.data.toList tb.data.toList e) = k) (hk0 : k ≠ 0) :
    Calls Tryd.prog 13 #[.agg #[.string sa, .string sb, .int .i64 d], .agg #[.string ta, .string tb, .int .i64 e]] w (SurErr w k) := by
  have HT := Lib.hid (fun W => two_err sa sb ta tb d e n W hsa hsb hta htb (by omega) k hk hk0)
  obtain ⟨w2, hw2⟩ : ∃ w2, w2 = (((w.alloc (.cells #[.string sa, .string sb, .int .i64 d] 23)).alloc (.cells #[.string ta, .string tb, .int .i64 e] 23)).alloc (.cells #[.string ⟨#[]⟩, .string ⟨#[]⟩, .int .i64 0] 23)) := ⟨_, rfl⟩
  have HE0 : Hid (Ext w w2) := Lib.hid (by rw [hw2]; exact Ext.three _ _ _ _)
  have HC1 : Hid (∀ W, Ext w2 W → BoxS W w.heap.size sa sb d) := Lib.hid (fun W he => BoxS.ext (by rw [hw2]; exact BoxS.ext (heap_alloc_new w _) (Ext.two _ _ _)) he)
  have HC2 : Hid (∀ W, Ext w2 W → BoxS W (w.heap.size + 1) ta tb e) := Lib.hid (fun W he => BoxS.ext (by rw [hw2]; exact BoxS.ext (heap_alloc2_new w _ _) (Ext.one _ _)) he)
  have HV : Hid (∀ W, Ext w2 W → BoxS W (w.heap.size + 1 + 1) ⟨#[]⟩ ⟨#[]⟩ 0) := Lib.hid (fun W he => BoxS.ext (by rw [hw2]; exact heap_alloc3_new w _ _ _) he)
  have HW2 := Lib.hid hw2
  obtain ⟨k0, k1, k2⟩ := (HC1.out _ (Ext.refl _)).cells
  obtain ⟨l0, l1, l2⟩ := (HC2.out _ (Ext.refl _)).cells
  have t1 : (k == 0) = false := by rw [beq_eq_false_iff_ne]; exact hk0
  have t2 : (k != 0) = true := by rw [bne_iff_ne]; exact hk0
  clear hsa hsb hta htb hn hk hw2 hk0
  go_enter Tryd.func13, Tryd.ntmps13
  go_wp2_with fail
  rw [← HW2.out]
  go_wp2_with (first
    | (go_at_call 17; refine (HT.out _).mono ?_; clear HT k0 k1 k2 l0 l1 l2; rintro e3 w3 ⟨rfl, he⟩; have HE3 := Lib.hid he; clear he; obtain ⟨j0, j1, j2⟩ := (HV.out _ ((HE3.out.alloc (.cells #[.int .i64 0, .int .i64 0, .pointer none, .int .i64 0, .int .i64 0, .pointer none, .int .i64 0] 45)).alloc (.cells #[.int .i64 0, .int .i64 0, .pointer none, .int .i64 0, .int .i64 0, .pointer none, .int .i64 0] 45))).cells; obtain ⟨f0, f1, f2⟩ := (HV.out _ ((HE3.out.alloc (.cells #[.int .i64 0, .int .i64 0, .pointer none, .int .i64 0, .int .i64 0, .pointer none, .int .i64 0] 45)).alloc (.cells #[.int .i64 0, .int .i64 0, .pointer none, .int .i64 0, .int .i64 0, .pointer none, .int .i64 0] 45))).frozen))
  refine ret_sur2 rfl (w.heap.size + 1 + 1) _ _ _ _ rfl rfl (putS_row (HV.out _ ((HE3.out.alloc _).alloc _)) ⟨#[]⟩ ⟨#[]⟩ 0) rfl ?_
  exact ⟨rfl, (putS_only _ _ _ _ _).ext (HE0.out.trans ((HE3.out.alloc _).alloc _)) (by omega)⟩
set_option maxRecDepth 100000 in
set_option maxHeartbeats 400000 in
theorem Add_ok (sa sb ta tb : ByteArray) (d e : Int) (n : Nat) (w : World) (hsa : sa.size ≤ n) (hsb : sb.size ≤ n) (hta : ta.size ≤ n) (htb : tb.size ≤ n) (hn : n ≤ 100000000) (v u : SV) (h1 : readV sa.data.toList sb.data.toList d = some v) (h2 : readV ta.data.toList tb.data.toList e = some u) (ht : togOk v u = true) (htab : TabW w)  :
    Calls Tryd.prog 13 #[.agg #[.string sa, .string sb, .int .i64 d], .agg #[.string ta, .string tb, .int .i64 e]] w (SurOk w (addV v u)) := by
  have HT := Lib.hid (fun W => two_ok sa sb ta tb d e n W hsa hsb hta htb (by omega) v h1 u h2 ht)
  have HD1 := Lib.hid (readV_d h1)
  have HD2 := Lib.hid (readV_d h2)
  have HN := Lib.hid hn
  obtain ⟨w2, hw2⟩ : ∃ w2, w2 = (((w.alloc (.cells #[.string sa, .string sb, .int .i64 d] 23)).alloc (.cells #[.string ta, .string tb, .int .i64 e] 23)).alloc (.cells #[.string ⟨#[]⟩, .string ⟨#[]⟩, .int .i64 0] 23)) := ⟨_, rfl⟩
  have HE0 : Hid (Ext w w2) := Lib.hid (by rw [hw2]; exact Ext.three _ _ _ _)
  have HC1 : Hid (∀ W, Ext w2 W → BoxS W w.heap.size sa sb d) := Lib.hid (fun W he => BoxS.ext (by rw [hw2]; exact BoxS.ext (heap_alloc_new w _) (Ext.two _ _ _)) he)
  have HC2 : Hid (∀ W, Ext w2 W → BoxS W (w.heap.size + 1) ta tb e) := Lib.hid (fun W he => BoxS.ext (by rw [hw2]; exact BoxS.ext (heap_alloc2_new w _ _) (Ext.one _ _)) he)
  have HV : Hid (∀ W, Ext w2 W → BoxS W (w.heap.size + 1 + 1) ⟨#[]⟩ ⟨#[]⟩ 0) := Lib.hid (fun W he => BoxS.ext (by rw [hw2]; exact heap_alloc3_new w _ _ _) he)
  have HW2 := Lib.hid hw2
  obtain ⟨k0, k1, k2⟩ := (HC1.out _ (Ext.refl _)).cells
  obtain ⟨l0, l1, l2⟩ := (HC2.out _ (Ext.refl _)).cells
  have HTB := Lib.hid htab
  obtain ⟨x1, y1, dv1⟩ := v
  obtain ⟨x2, y2, dv2⟩ := u
  
  unfold SurOk
  clear hsa hsb hta htb hn h1 h2 ht hw2 htab
  go_enter Tryd.func13, Tryd.ntmps13
  go_wp2_with fail
  rw [← HW2.out]
  go_wp2_with (first
    | (go_at_call 17; refine (HT.out _).mono ?_; clear HT k0 k1 k2 l0 l1 l2; rintro e3 w3 ⟨p3, q3, A3, r3, s3, B3, p4, q4, A4, r4, s4, B4, rfl, hr, hs, hr', hs', he⟩; have HR3 := Lib.hid hr; have HS3 := Lib.hid hs; have HR4 := Lib.hid hr'; have HS4 := Lib.hid hs'; have HE3 := Lib.hid he; clear hr hs hr' hs' he)
    | (go_at_call 28; refine (add_callsV (HR3.out.ext (Ext.two _ _ _)) (HS3.out.ext (Ext.two _ _ _)) (HR4.out.ext (Ext.two _ _ _)) (HS4.out.ext (Ext.two _ _ _)) (by have := HN.out; omega) (by have := HN.out; omega)).mono ?_; rintro e w6 ⟨p6, q6, A6, r6, s6, B6, rfl, hr, hs, he⟩; have HR6 := Lib.hid hr; have HS6 := Lib.hid hs; have HE6 : Hid (Ext w2 w6) := Lib.hid (((HE3.out.alloc (.cells #[.int .i64 p3, .int .i64 q3, .pointer A3, .int .i64 r3, .int .i64 s3, .pointer B3, .int .i64 dv1] 45)).alloc (.cells #[.int .i64 p4, .int .i64 q4, .pointer A4, .int .i64 r4, .int .i64 s4, .pointer B4, .int .i64 dv2] 45)).trans he); have HX6 := Lib.hid he; clear hr hs he)
    | (go_at_call 19; refine (write_calls HR6.out HS6.out (HTB.out.ext (HE0.out.trans HE6.out)) (by have := HN.out; omega)).mono ?_; rintro e7 w7 ⟨rfl, he⟩; have HE7 : Hid (Ext w2 w7) := Lib.hid (HE6.out.trans he); clear he; obtain ⟨j0, j1, j2⟩ := (HV.out _ HE7.out).cells; obtain ⟨f0, f1, f2⟩ := (HV.out _ HE7.out).frozen))
  refine ret_sur2 rfl (w.heap.size + 1 + 1) _ _ _ _ rfl rfl (putS_row (HV.out _ HE7.out) _ _ _) rfl ?_
  exact ⟨rfl, (putS_only _ _ _ _ _).ext (HE0.out.trans HE7.out) (by omega)⟩
end Go.Proofs.YtpgnlpjjpgdoiaaDoor
/- surd: inverse. -/
namespace Go.Proofs.YtpgnlpjjpgdoiaaDoor
open Go Go.RowKit SurdM
set_option linter.unusedVariables false
set_option linter.unusedSimpArgs false
theorem BoxR.onlyR2 {w w' : World} {g k : Nat} {p q : Int} {A : Option Addr} (h : BoxR w g p q A) (ho : Only k w w') (hn : g ≠ k) : BoxR w' g p q A := ho.obj h hn
set_option maxRecDepth 100000 in
set_option maxHeartbeats 400000 in
theorem inverse_calls {x y : Rat} {d : Int} {b : Nat} {p q : Int} {A : Option Addr} {r s : Int} {B : Option Addr} {w : World} (hx : RA b w x (.agg #[.int .i64 p, .int .i64 q, .pointer A])) (hy : RA b w y (.agg #[.int .i64 r, .int .i64 s, .pointer B])) (hd : 0 ≤ d ∧ d ≤ 1000000) (hb : b ≤ 10000000000) :
    Calls Tryd.prog 30 #[.agg #[.int .i64 p, .int .i64 q, .pointer A, .int .i64 r, .int .i64 s, .pointer B, .int .i64 d]] w (VPost (5 * b + 33) w (invV ⟨x, y, d⟩)) := by
  have HN := Lib.hid (fun W (he : Ext w W) => norm_calls x y d b p q A r s B W (hx.ext he) (hy.ext he) hd hb)
  have HX := Lib.hid hx
  have HNG := Lib.hid (fun W (he : Ext w W) => negK (hy.ext he))
  have HB := Lib.hid hb
  obtain ⟨w2, hw2⟩ : ∃ w2, w2 = ((w.alloc (.cells #[.int .i64 p, .int .i64 q, .pointer A, .int .i64 r, .int .i64 s, .pointer B, .int .i64 d] 45)).alloc (.cells #[.int .i64 0, .int .i64 0, .pointer none, .int .i64 0, .int .i64 0, .pointer none, .int .i64 0] 45)) := ⟨_, rfl⟩
  have HE0 : Hid (Ext w w2) := Lib.hid (by rw [hw2]; exact Ext.two _ _ _)
  have HC : Hid (∀ W, Ext w2 W → BoxV W w.heap.size p q A r s B d) := Lib.hid (fun W he => BoxV.ext (by rw [hw2]; exact ((boxV_new w p q A r s B d).ext (Ext.one _ _))) he)
  have HV : Hid (∀ W, Ext w2 W → BoxV W (w.heap.size + 1) 0 0 none 0 0 none 0) := Lib.hid (fun W he => BoxV.ext (by rw [hw2]; exact heap_alloc2_new w _ _) he)
  have HW2 := Lib.hid hw2
  unfold invV nrm
  simp only []
  generalize x * x - y * y * (d : Rat) = n at *
  obtain ⟨k0, k1, k2, k3, k4, k5, k6⟩ := (HC.out _ (Ext.refl _)).cells
  clear hx hy hd hb hw2
  go_enter Tryd.func30, Tryd.ntmps30
  go_wp2_with fail
  rw [← HW2.out]
  go_wp2_with (first
    | (go_at_call 21; refine (HN.out _ HE0.out).mono ?_; rintro e w3 ⟨p3, q3, A3, rfl, hr, he⟩; have HR3 := Lib.hid hr; have HE3 : Hid (Ext w2 w3) := Lib.hid ((Ext.refl w2).trans he); have HX3 := Lib.hid he; clear hr he; clear HN k0 k1 k2 k3 k4 k5 k6))
  obtain ⟨w4, hw4⟩ : ∃ w4, w4 = w3.alloc (.cells #[.int .i64 p3, .int .i64 q3, .pointer A3] 43) := ⟨_, rfl⟩
  obtain ⟨g4, hg4⟩ : ∃ g4, g4 = w3.heap.size := ⟨_, rfl⟩
  have HD0 : Hid (Ext w w4) := Lib.hid (by rw [hw4]; exact (HE0.out.trans HE3.out).alloc _)
  have HD1 : Hid (∀ W, Ext w4 W → BoxV W w.heap.size p q A r s B d) := Lib.hid (fun W he => HC.out _ ((HE3.out.alloc _).trans (by rw [← hw4]; exact he)))
  have HDV : Hid (∀ W, Ext w4 W → BoxV W (w.heap.size + 1) 0 0 none 0 0 none 0) := Lib.hid (fun W he => HV.out _ ((HE3.out.alloc _).trans (by rw [← hw4]; exact he)))
  have HD3 : Hid (∀ W, Ext w4 W → BoxR W g4 p3 q3 A3) := Lib.hid (fun W he => BoxR.ext (by rw [hw4, hg4]; exact BoxR.new w3 p3 q3 A3) he)
  have HR3' : Hid (RA (4 * b + 32) w4 n (.agg #[.int .i64 p3, .int .i64 q3, .pointer A3])) := Lib.hid (by rw [hw4]; exact HR3.out.ext (Ext.one _ _))
  have HG4 : Hid (w.heap.size + 1 + 1 ≤ g4) := Lib.hid (by
    have h1 := HE3.out.le
    have h2 : w2.heap.size = w.heap.size + 1 + 1 := by rw [HW2.out]; simp
    omega)
  rw [← hw4, ← hg4]
  clear hw4 hg4 HE3 HX3 HR3 HC HV HE0
  go_region_held3 (fun W => (W.cell? ⟨w.heap.size, 0, none⟩ = some (.int .i64 p) ∧ W.cell? ⟨w.heap.size, 1, none⟩ = some (.int .i64 q) ∧ W.cell? ⟨w.heap.size, 2, none⟩ = some (.pointer A) ∧ W.cell? ⟨w.heap.size, 3, none⟩ = some (.int .i64 r) ∧ W.cell? ⟨w.heap.size, 4, none⟩ = some (.int .i64 s) ∧ W.cell? ⟨w.heap.size, 5, none⟩ = some (.pointer B) ∧ W.cell? ⟨w.heap.size, 6, none⟩ = some (.int .i64 d)) ∧ (W.cell? ⟨g4, 0, none⟩ = some (.int .i64 p3) ∧ W.cell? ⟨g4, 1, none⟩ = some (.int .i64 q3) ∧ W.cell? ⟨g4, 2, none⟩ = some (.pointer A3)))
    (first
      | with_reducible exact ⟨(HD1.out _ HE7.out).cells, (HD3.out _ HE7.out).cells⟩
      | with_reducible exact ⟨(HD1.out _ HE6.out).cells, (HD3.out _ HE6.out).cells⟩
      | with_reducible exact ⟨(HD1.out _ HE5.out).cells, (HD3.out _ HE5.out).cells⟩
      | with_reducible exact ⟨(HD1.out _ (Ext.refl _)).cells, (HD3.out _ (Ext.refl _)).cells⟩
      | with_reducible exact ⟨(HD1.out _ (Ext.refl _).drew).cells, (HD3.out _ (Ext.refl _).drew).cells⟩
      | exact ⟨((HD1.out _ HE7.out).only (putV_only w7 (w.heap.size + 1) p5 q5 A5 p7 q7 A7 d) (by omega)).cells, (BoxR.onlyR2 (HD3.out _ HE7.out) (putV_only w7 (w.heap.size + 1) p5 q5 A5 p7 q7 A7 d) (by have := HG4.out; omega)).cells⟩)
    (first
      | (go_at_call 48; refine (quoK (HX.out.ext (HD0.out.trans (Ext.refl _).drew)) (HR3'.out.ext (Ext.refl _).drew) (by have := HB.out; omega) (by have := HB.out; omega)).mono ?_; rintro e w5 ⟨p5, q5, A5, rfl, hr, he⟩; have HR5 := Lib.hid hr; have HE5 : Hid (Ext w4 w5) := Lib.hid (((Ext.refl w4).drew).trans he); have HX5 := Lib.hid he; clear hr he; clear HX)
      | (go_at_call 23; refine (HNG.out _ (HD0.out.trans HE5.out)).mono ?_; rintro e w6 ⟨p6, q6, A6, rfl, hr, he⟩; have HR6 := Lib.hid hr; have HE6 : Hid (Ext w4 w6) := Lib.hid ((HE5.out).trans he); have HX6 := Lib.hid he; clear hr he; clear HNG)
      | (go_at_call 48; refine (quoK HR6.out (HR3'.out.ext HE6.out) (by have := HB.out; omega) (by have := HB.out; omega)).mono ?_; rintro e w7 ⟨p7, q7, A7, rfl, hr, he⟩; have HR7 := Lib.hid hr; have HE7 : Hid (Ext w4 w7) := Lib.hid ((HE6.out).trans he); have HX7 := Lib.hid he; clear hr he; obtain ⟨j0, j1, j2, j3, j4, j5, j6⟩ := (HDV.out _ HE7.out).cells; obtain ⟨f0, f1, f2, f3, f4, f5, f6⟩ := (HDV.out _ HE7.out).frozen))
  go_wp2
  refine ret_val rfl (w.heap.size + 1) _ _ _ _ _ _ _ rfl (putV_row (HDV.out _ HE7.out) p5 q5 A5 p7 q7 A7 d) rfl ?_
  exact ⟨p5, q5, A5, p7, q7, A7, rfl, (((HR5.out.ext (HX6.out.trans HX7.out)).mono (by omega)).onlyN (HDV.out _ HE7.out).noR (putV_only _ _ _ _ _ _ _ _ _)), ((HR7.out.mono (by omega)).onlyN (HDV.out _ HE7.out).noR (putV_only _ _ _ _ _ _ _ _ _)), (putV_only _ _ _ _ _ _ _ _ _).ext (HD0.out.trans HE7.out) (by omega)⟩

end Go.Proofs.YtpgnlpjjpgdoiaaDoor
/- surd: sign. -/
namespace Go.Proofs.YtpgnlpjjpgdoiaaDoor
open Go Go.RowKit SurdM
set_option linter.unusedVariables false
set_option linter.unusedSimpArgs false
set_option maxRecDepth 100000 in
set_option maxHeartbeats 400000 in
theorem sign_pp (x y : Rat) (d : Int) (b : Nat) (p q : Int) (A : Option Addr) (r s : Int) (B : Option Addr) (w : World) (hx : RA b w x (.agg #[.int .i64 p, .int .i64 q, .pointer A])) (hy : RA b w y (.agg #[.int .i64 r, .int .i64 s, .pointer B])) (hd : 0 ≤ d ∧ d ≤ 1000000) (hb : b ≤ 10000000000) (ha : sg x = 1) (hbb : sg y = 1)  :
    Calls Tryd.prog 26 #[.agg #[.int .i64 p, .int .i64 q, .pointer A, .int .i64 r, .int .i64 s, .pointer B, .int .i64 d]] w fun e w' => e = .returned (.int .i64 1) ∧ Ext w w' := by
  have HS1 := Lib.hid (fun W (he : Ext w W) => signK (hx.ext he))
  have HS2 := Lib.hid (fun W (he : Ext w W) => signK (hy.ext he))
  rw [ha] at HS1
  rw [hbb] at HS2
  obtain ⟨w2, hw2⟩ : ∃ w2, w2 = (w.alloc (.cells #[.int .i64 p, .int .i64 q, .pointer A, .int .i64 r, .int .i64 s, .pointer B, .int .i64 d] 45)) := ⟨_, rfl⟩
  have HE0 : Hid (Ext w w2) := Lib.hid (by rw [hw2]; exact Ext.one _ _)
  have HC : Hid (∀ W, Ext w2 W → BoxV W w.heap.size p q A r s B d) := Lib.hid (fun W he => BoxV.ext (by rw [hw2]; exact boxV_new w p q A r s B d) he)
  have HW2 := Lib.hid hw2
  clear hx hy hd hb hw2 ha hbb
  go_enter Tryd.func26, Tryd.ntmps26
  go_wp2
  rw [← HW2.out]
  go_region_held3 (fun W => W.cell? ⟨w.heap.size, 0, none⟩ = some (.int .i64 p) ∧ W.cell? ⟨w.heap.size, 1, none⟩ = some (.int .i64 q) ∧ W.cell? ⟨w.heap.size, 2, none⟩ = some (.pointer A) ∧ W.cell? ⟨w.heap.size, 3, none⟩ = some (.int .i64 r) ∧ W.cell? ⟨w.heap.size, 4, none⟩ = some (.int .i64 s) ∧ W.cell? ⟨w.heap.size, 5, none⟩ = some (.pointer B) ∧ W.cell? ⟨w.heap.size, 6, none⟩ = some (.int .i64 d))
    (first
      | with_reducible exact (HC.out _ HE4.out).cells
      | with_reducible exact (HC.out _ HE3.out).cells
      | with_reducible exact (HC.out _ (Ext.refl _)).cells
      | with_reducible exact (HC.out _ (Ext.refl _).drew).cells)
    (first
      | (go_at_call 27; refine (HS1.out _ (HE0.out.trans (Ext.refl _).drew)).mono ?_; rintro e w3 ⟨rfl, he⟩; have HE3 : Hid (Ext w2 w3) := Lib.hid (((Ext.refl w2).drew).trans he); have HX3 := Lib.hid he; clear he; clear HS1)
      | (go_at_call 27; refine (HS2.out _ (HE0.out.trans HE3.out)).mono ?_; rintro e w4 ⟨rfl, he⟩; have HE4 : Hid (Ext w2 w4) := Lib.hid ((HE3.out).trans he); have HX4 := Lib.hid he; clear he; clear HS2))
  go_wp2
  go_ret
  exact ⟨rfl, HE0.out.trans HE4.out⟩
set_option maxRecDepth 100000 in
set_option maxHeartbeats 400000 in
theorem sign_pnp (x y : Rat) (d : Int) (b : Nat) (p q : Int) (A : Option Addr) (r s : Int) (B : Option Addr) (w : World) (hx : RA b w x (.agg #[.int .i64 p, .int .i64 q, .pointer A])) (hy : RA b w y (.agg #[.int .i64 r, .int .i64 s, .pointer B])) (hd : 0 ≤ d ∧ d ≤ 1000000) (hb : b ≤ 10000000000) (ha : sg x = 1) (hbb : sg y = (-1)) (hn : sg (x * x - y * y * (d : Rat)) = 1) :
    Calls Tryd.prog 26 #[.agg #[.int .i64 p, .int .i64 q, .pointer A, .int .i64 r, .int .i64 s, .pointer B, .int .i64 d]] w fun e w' => e = .returned (.int .i64 1) ∧ Ext w w' := by
  have HS1 := Lib.hid (fun W (he : Ext w W) => signK (hx.ext he))
  have HS2 := Lib.hid (fun W (he : Ext w W) => signK (hy.ext he))
  rw [ha] at HS1
  rw [hbb] at HS2
  obtain ⟨w2, hw2⟩ : ∃ w2, w2 = (w.alloc (.cells #[.int .i64 p, .int .i64 q, .pointer A, .int .i64 r, .int .i64 s, .pointer B, .int .i64 d] 45)) := ⟨_, rfl⟩
  have HE0 : Hid (Ext w w2) := Lib.hid (by rw [hw2]; exact Ext.one _ _)
  have HC : Hid (∀ W, Ext w2 W → BoxV W w.heap.size p q A r s B d) := Lib.hid (fun W he => BoxV.ext (by rw [hw2]; exact boxV_new w p q A r s B d) he)
  have HW2 := Lib.hid hw2
  have HN := Lib.hid (fun W (he : Ext w W) => norm_calls x y d b p q A r s B W (hx.ext he) (hy.ext he) hd hb)
  have HSN : Hid (sg (x * x - y * y * (d : Rat)) = 1) := Lib.hid hn
  generalize x * x - y * y * (d : Rat) = n at *
  clear hn
  clear hx hy hd hb hw2 ha hbb
  go_enter Tryd.func26, Tryd.ntmps26
  go_wp2
  rw [← HW2.out]
  go_region_held3 (fun W => W.cell? ⟨w.heap.size, 0, none⟩ = some (.int .i64 p) ∧ W.cell? ⟨w.heap.size, 1, none⟩ = some (.int .i64 q) ∧ W.cell? ⟨w.heap.size, 2, none⟩ = some (.pointer A) ∧ W.cell? ⟨w.heap.size, 3, none⟩ = some (.int .i64 r) ∧ W.cell? ⟨w.heap.size, 4, none⟩ = some (.int .i64 s) ∧ W.cell? ⟨w.heap.size, 5, none⟩ = some (.pointer B) ∧ W.cell? ⟨w.heap.size, 6, none⟩ = some (.int .i64 d))
    (first
      | with_reducible exact (HC.out _ HE4.out).cells
      | with_reducible exact (HC.out _ HE3.out).cells
      | with_reducible exact (HC.out _ (Ext.refl _)).cells
      | with_reducible exact (HC.out _ (Ext.refl _).drew).cells)
    (first
      | (go_at_call 27; refine (HS1.out _ (HE0.out.trans (Ext.refl _).drew)).mono ?_; rintro e w3 ⟨rfl, he⟩; have HE3 : Hid (Ext w2 w3) := Lib.hid (((Ext.refl w2).drew).trans he); have HX3 := Lib.hid he; clear he; clear HS1)
      | (go_at_call 27; refine (HS2.out _ (HE0.out.trans HE3.out)).mono ?_; rintro e w4 ⟨rfl, he⟩; have HE4 : Hid (Ext w2 w4) := Lib.hid ((HE3.out).trans he); have HX4 := Lib.hid he; clear he; clear HS2))
  obtain ⟨k0, k1, k2, k3, k4, k5, k6⟩ := (HC.out _ HE4.out).cells
  go_wp2_with (first
    | (go_at_call 21; refine (HN.out _ (HE0.out.trans HE4.out)).mono ?_; rintro e w5 ⟨p5, q5, A5, rfl, hr, he⟩; have HR5 := Lib.hid hr; have HE5 : Hid (Ext w2 w5) := Lib.hid ((HE4.out).trans he); have HX5 := Lib.hid he; clear hr he; clear HN)
    | (go_at_call 27; refine (signK HR5.out).mono ?_; rw [HSN.out]; rintro e w6 ⟨rfl, he⟩; have HE6 : Hid (Ext w2 w6) := Lib.hid (HE5.out.trans he); clear he))
  go_ret
  exact ⟨rfl, HE0.out.trans HE6.out⟩
set_option maxRecDepth 100000 in
set_option maxHeartbeats 400000 in
theorem sign_pnn (x y : Rat) (d : Int) (b : Nat) (p q : Int) (A : Option Addr) (r s : Int) (B : Option Addr) (w : World) (hx : RA b w x (.agg #[.int .i64 p, .int .i64 q, .pointer A])) (hy : RA b w y (.agg #[.int .i64 r, .int .i64 s, .pointer B])) (hd : 0 ≤ d ∧ d ≤ 1000000) (hb : b ≤ 10000000000) (ha : sg x = 1) (hbb : sg y = (-1)) (hn : sg (x * x - y * y * (d : Rat)) = (-1)) :
    Calls Tryd.prog 26 #[.agg #[.int .i64 p, .int .i64 q, .pointer A, .int .i64 r, .int .i64 s, .pointer B, .int .i64 d]] w fun e w' => e = .returned (.int .i64 (-1)) ∧ Ext w w' := by
  have HS1 := Lib.hid (fun W (he : Ext w W) => signK (hx.ext he))
  have HS2 := Lib.hid (fun W (he : Ext w W) => signK (hy.ext he))
  rw [ha] at HS1
  rw [hbb] at HS2
  obtain ⟨w2, hw2⟩ : ∃ w2, w2 = (w.alloc (.cells #[.int .i64 p, .int .i64 q, .pointer A, .int .i64 r, .int .i64 s, .pointer B, .int .i64 d] 45)) := ⟨_, rfl⟩
  have HE0 : Hid (Ext w w2) := Lib.hid (by rw [hw2]; exact Ext.one _ _)
  have HC : Hid (∀ W, Ext w2 W → BoxV W w.heap.size p q A r s B d) := Lib.hid (fun W he => BoxV.ext (by rw [hw2]; exact boxV_new w p q A r s B d) he)
  have HW2 := Lib.hid hw2
  have HN := Lib.hid (fun W (he : Ext w W) => norm_calls x y d b p q A r s B W (hx.ext he) (hy.ext he) hd hb)
  have HSN : Hid (sg (x * x - y * y * (d : Rat)) = (-1)) := Lib.hid hn
  generalize x * x - y * y * (d : Rat) = n at *
  clear hn
  clear hx hy hd hb hw2 ha hbb
  go_enter Tryd.func26, Tryd.ntmps26
  go_wp2
  rw [← HW2.out]
  go_region_held3 (fun W => W.cell? ⟨w.heap.size, 0, none⟩ = some (.int .i64 p) ∧ W.cell? ⟨w.heap.size, 1, none⟩ = some (.int .i64 q) ∧ W.cell? ⟨w.heap.size, 2, none⟩ = some (.pointer A) ∧ W.cell? ⟨w.heap.size, 3, none⟩ = some (.int .i64 r) ∧ W.cell? ⟨w.heap.size, 4, none⟩ = some (.int .i64 s) ∧ W.cell? ⟨w.heap.size, 5, none⟩ = some (.pointer B) ∧ W.cell? ⟨w.heap.size, 6, none⟩ = some (.int .i64 d))
    (first
      | with_reducible exact (HC.out _ HE4.out).cells
      | with_reducible exact (HC.out _ HE3.out).cells
      | with_reducible exact (HC.out _ (Ext.refl _)).cells
      | with_reducible exact (HC.out _ (Ext.refl _).drew).cells)
    (first
      | (go_at_call 27; refine (HS1.out _ (HE0.out.trans (Ext.refl _).drew)).mono ?_; rintro e w3 ⟨rfl, he⟩; have HE3 : Hid (Ext w2 w3) := Lib.hid (((Ext.refl w2).drew).trans he); have HX3 := Lib.hid he; clear he; clear HS1)
      | (go_at_call 27; refine (HS2.out _ (HE0.out.trans HE3.out)).mono ?_; rintro e w4 ⟨rfl, he⟩; have HE4 : Hid (Ext w2 w4) := Lib.hid ((HE3.out).trans he); have HX4 := Lib.hid he; clear he; clear HS2))
  obtain ⟨k0, k1, k2, k3, k4, k5, k6⟩ := (HC.out _ HE4.out).cells
  go_wp2_with (first
    | (go_at_call 21; refine (HN.out _ (HE0.out.trans HE4.out)).mono ?_; rintro e w5 ⟨p5, q5, A5, rfl, hr, he⟩; have HR5 := Lib.hid hr; have HE5 : Hid (Ext w2 w5) := Lib.hid ((HE4.out).trans he); have HX5 := Lib.hid he; clear hr he; clear HN)
    | (go_at_call 27; refine (signK HR5.out).mono ?_; rw [HSN.out]; rintro e w6 ⟨rfl, he⟩; have HE6 : Hid (Ext w2 w6) := Lib.hid (HE5.out.trans he); clear he))
  go_ret
  exact ⟨rfl, HE0.out.trans HE6.out⟩
set_option maxRecDepth 100000 in
set_option maxHeartbeats 400000 in
theorem sign_pnz (x y : Rat) (d : Int) (b : Nat) (p q : Int) (A : Option Addr) (r s : Int) (B : Option Addr) (w : World) (hx : RA b w x (.agg #[.int .i64 p, .int .i64 q, .pointer A])) (hy : RA b w y (.agg #[.int .i64 r, .int .i64 s, .pointer B])) (hd : 0 ≤ d ∧ d ≤ 1000000) (hb : b ≤ 10000000000) (ha : sg x = 1) (hbb : sg y = (-1)) (hn : sg (x * x - y * y * (d : Rat)) = 0) :
    Calls Tryd.prog 26 #[.agg #[.int .i64 p, .int .i64 q, .pointer A, .int .i64 r, .int .i64 s, .pointer B, .int .i64 d]] w fun e w' => e = .returned (.int .i64 (-1)) ∧ Ext w w' := by
  have HS1 := Lib.hid (fun W (he : Ext w W) => signK (hx.ext he))
  have HS2 := Lib.hid (fun W (he : Ext w W) => signK (hy.ext he))
  rw [ha] at HS1
  rw [hbb] at HS2
  obtain ⟨w2, hw2⟩ : ∃ w2, w2 = (w.alloc (.cells #[.int .i64 p, .int .i64 q, .pointer A, .int .i64 r, .int .i64 s, .pointer B, .int .i64 d] 45)) := ⟨_, rfl⟩
  have HE0 : Hid (Ext w w2) := Lib.hid (by rw [hw2]; exact Ext.one _ _)
  have HC : Hid (∀ W, Ext w2 W → BoxV W w.heap.size p q A r s B d) := Lib.hid (fun W he => BoxV.ext (by rw [hw2]; exact boxV_new w p q A r s B d) he)
  have HW2 := Lib.hid hw2
  have HN := Lib.hid (fun W (he : Ext w W) => norm_calls x y d b p q A r s B W (hx.ext he) (hy.ext he) hd hb)
  have HSN : Hid (sg (x * x - y * y * (d : Rat)) = 0) := Lib.hid hn
  generalize x * x - y * y * (d : Rat) = n at *
  clear hn
  clear hx hy hd hb hw2 ha hbb
  go_enter Tryd.func26, Tryd.ntmps26
  go_wp2
  rw [← HW2.out]
  go_region_held3 (fun W => W.cell? ⟨w.heap.size, 0, none⟩ = some (.int .i64 p) ∧ W.cell? ⟨w.heap.size, 1, none⟩ = some (.int .i64 q) ∧ W.cell? ⟨w.heap.size, 2, none⟩ = some (.pointer A) ∧ W.cell? ⟨w.heap.size, 3, none⟩ = some (.int .i64 r) ∧ W.cell? ⟨w.heap.size, 4, none⟩ = some (.int .i64 s) ∧ W.cell? ⟨w.heap.size, 5, none⟩ = some (.pointer B) ∧ W.cell? ⟨w.heap.size, 6, none⟩ = some (.int .i64 d))
    (first
      | with_reducible exact (HC.out _ HE4.out).cells
      | with_reducible exact (HC.out _ HE3.out).cells
      | with_reducible exact (HC.out _ (Ext.refl _)).cells
      | with_reducible exact (HC.out _ (Ext.refl _).drew).cells)
    (first
      | (go_at_call 27; refine (HS1.out _ (HE0.out.trans (Ext.refl _).drew)).mono ?_; rintro e w3 ⟨rfl, he⟩; have HE3 : Hid (Ext w2 w3) := Lib.hid (((Ext.refl w2).drew).trans he); have HX3 := Lib.hid he; clear he; clear HS1)
      | (go_at_call 27; refine (HS2.out _ (HE0.out.trans HE3.out)).mono ?_; rintro e w4 ⟨rfl, he⟩; have HE4 : Hid (Ext w2 w4) := Lib.hid ((HE3.out).trans he); have HX4 := Lib.hid he; clear he; clear HS2))
  obtain ⟨k0, k1, k2, k3, k4, k5, k6⟩ := (HC.out _ HE4.out).cells
  go_wp2_with (first
    | (go_at_call 21; refine (HN.out _ (HE0.out.trans HE4.out)).mono ?_; rintro e w5 ⟨p5, q5, A5, rfl, hr, he⟩; have HR5 := Lib.hid hr; have HE5 : Hid (Ext w2 w5) := Lib.hid ((HE4.out).trans he); have HX5 := Lib.hid he; clear hr he; clear HN)
    | (go_at_call 27; refine (signK HR5.out).mono ?_; rw [HSN.out]; rintro e w6 ⟨rfl, he⟩; have HE6 : Hid (Ext w2 w6) := Lib.hid (HE5.out.trans he); clear he))
  go_ret
  exact ⟨rfl, HE0.out.trans HE6.out⟩
set_option maxRecDepth 100000 in
set_option maxHeartbeats 400000 in
theorem sign_pz (x y : Rat) (d : Int) (b : Nat) (p q : Int) (A : Option Addr) (r s : Int) (B : Option Addr) (w : World) (hx : RA b w x (.agg #[.int .i64 p, .int .i64 q, .pointer A])) (hy : RA b w y (.agg #[.int .i64 r, .int .i64 s, .pointer B])) (hd : 0 ≤ d ∧ d ≤ 1000000) (hb : b ≤ 10000000000) (ha : sg x = 1) (hbb : sg y = 0)  :
    Calls Tryd.prog 26 #[.agg #[.int .i64 p, .int .i64 q, .pointer A, .int .i64 r, .int .i64 s, .pointer B, .int .i64 d]] w fun e w' => e = .returned (.int .i64 1) ∧ Ext w w' := by
  have HS1 := Lib.hid (fun W (he : Ext w W) => signK (hx.ext he))
  have HS2 := Lib.hid (fun W (he : Ext w W) => signK (hy.ext he))
  rw [ha] at HS1
  rw [hbb] at HS2
  obtain ⟨w2, hw2⟩ : ∃ w2, w2 = (w.alloc (.cells #[.int .i64 p, .int .i64 q, .pointer A, .int .i64 r, .int .i64 s, .pointer B, .int .i64 d] 45)) := ⟨_, rfl⟩
  have HE0 : Hid (Ext w w2) := Lib.hid (by rw [hw2]; exact Ext.one _ _)
  have HC : Hid (∀ W, Ext w2 W → BoxV W w.heap.size p q A r s B d) := Lib.hid (fun W he => BoxV.ext (by rw [hw2]; exact boxV_new w p q A r s B d) he)
  have HW2 := Lib.hid hw2
  clear hx hy hd hb hw2 ha hbb
  go_enter Tryd.func26, Tryd.ntmps26
  go_wp2
  rw [← HW2.out]
  go_region_held3 (fun W => W.cell? ⟨w.heap.size, 0, none⟩ = some (.int .i64 p) ∧ W.cell? ⟨w.heap.size, 1, none⟩ = some (.int .i64 q) ∧ W.cell? ⟨w.heap.size, 2, none⟩ = some (.pointer A) ∧ W.cell? ⟨w.heap.size, 3, none⟩ = some (.int .i64 r) ∧ W.cell? ⟨w.heap.size, 4, none⟩ = some (.int .i64 s) ∧ W.cell? ⟨w.heap.size, 5, none⟩ = some (.pointer B) ∧ W.cell? ⟨w.heap.size, 6, none⟩ = some (.int .i64 d))
    (first
      | with_reducible exact (HC.out _ HE4.out).cells
      | with_reducible exact (HC.out _ HE3.out).cells
      | with_reducible exact (HC.out _ (Ext.refl _)).cells
      | with_reducible exact (HC.out _ (Ext.refl _).drew).cells)
    (first
      | (go_at_call 27; refine (HS1.out _ (HE0.out.trans (Ext.refl _).drew)).mono ?_; rintro e w3 ⟨rfl, he⟩; have HE3 : Hid (Ext w2 w3) := Lib.hid (((Ext.refl w2).drew).trans he); have HX3 := Lib.hid he; clear he; clear HS1)
      | (go_at_call 27; refine (HS2.out _ (HE0.out.trans HE3.out)).mono ?_; rintro e w4 ⟨rfl, he⟩; have HE4 : Hid (Ext w2 w4) := Lib.hid ((HE3.out).trans he); have HX4 := Lib.hid he; clear he; clear HS2))
  go_wp2
  go_ret
  exact ⟨rfl, HE0.out.trans HE4.out⟩
set_option maxRecDepth 100000 in
set_option maxHeartbeats 400000 in
theorem sign_npp (x y : Rat) (d : Int) (b : Nat) (p q : Int) (A : Option Addr) (r s : Int) (B : Option Addr) (w : World) (hx : RA b w x (.agg #[.int .i64 p, .int .i64 q, .pointer A])) (hy : RA b w y (.agg #[.int .i64 r, .int .i64 s, .pointer B])) (hd : 0 ≤ d ∧ d ≤ 1000000) (hb : b ≤ 10000000000) (ha : sg x = (-1)) (hbb : sg y = 1) (hn : sg (x * x - y * y * (d : Rat)) = 1) :
    Calls Tryd.prog 26 #[.agg #[.int .i64 p, .int .i64 q, .pointer A, .int .i64 r, .int .i64 s, .pointer B, .int .i64 d]] w fun e w' => e = .returned (.int .i64 (-1)) ∧ Ext w w' := by
  have HS1 := Lib.hid (fun W (he : Ext w W) => signK (hx.ext he))
  have HS2 := Lib.hid (fun W (he : Ext w W) => signK (hy.ext he))
  rw [ha] at HS1
  rw [hbb] at HS2
  obtain ⟨w2, hw2⟩ : ∃ w2, w2 = (w.alloc (.cells #[.int .i64 p, .int .i64 q, .pointer A, .int .i64 r, .int .i64 s, .pointer B, .int .i64 d] 45)) := ⟨_, rfl⟩
  have HE0 : Hid (Ext w w2) := Lib.hid (by rw [hw2]; exact Ext.one _ _)
  have HC : Hid (∀ W, Ext w2 W → BoxV W w.heap.size p q A r s B d) := Lib.hid (fun W he => BoxV.ext (by rw [hw2]; exact boxV_new w p q A r s B d) he)
  have HW2 := Lib.hid hw2
  have HN := Lib.hid (fun W (he : Ext w W) => norm_calls x y d b p q A r s B W (hx.ext he) (hy.ext he) hd hb)
  have HSN : Hid (sg (x * x - y * y * (d : Rat)) = 1) := Lib.hid hn
  generalize x * x - y * y * (d : Rat) = n at *
  clear hn
  clear hx hy hd hb hw2 ha hbb
  go_enter Tryd.func26, Tryd.ntmps26
  go_wp2
  rw [← HW2.out]
  go_region_held3 (fun W => W.cell? ⟨w.heap.size, 0, none⟩ = some (.int .i64 p) ∧ W.cell? ⟨w.heap.size, 1, none⟩ = some (.int .i64 q) ∧ W.cell? ⟨w.heap.size, 2, none⟩ = some (.pointer A) ∧ W.cell? ⟨w.heap.size, 3, none⟩ = some (.int .i64 r) ∧ W.cell? ⟨w.heap.size, 4, none⟩ = some (.int .i64 s) ∧ W.cell? ⟨w.heap.size, 5, none⟩ = some (.pointer B) ∧ W.cell? ⟨w.heap.size, 6, none⟩ = some (.int .i64 d))
    (first
      | with_reducible exact (HC.out _ HE4.out).cells
      | with_reducible exact (HC.out _ HE3.out).cells
      | with_reducible exact (HC.out _ (Ext.refl _)).cells
      | with_reducible exact (HC.out _ (Ext.refl _).drew).cells)
    (first
      | (go_at_call 27; refine (HS1.out _ (HE0.out.trans (Ext.refl _).drew)).mono ?_; rintro e w3 ⟨rfl, he⟩; have HE3 : Hid (Ext w2 w3) := Lib.hid (((Ext.refl w2).drew).trans he); have HX3 := Lib.hid he; clear he; clear HS1)
      | (go_at_call 27; refine (HS2.out _ (HE0.out.trans HE3.out)).mono ?_; rintro e w4 ⟨rfl, he⟩; have HE4 : Hid (Ext w2 w4) := Lib.hid ((HE3.out).trans he); have HX4 := Lib.hid he; clear he; clear HS2))
  obtain ⟨k0, k1, k2, k3, k4, k5, k6⟩ := (HC.out _ HE4.out).cells
  go_wp2_with (first
    | (go_at_call 21; refine (HN.out _ (HE0.out.trans HE4.out)).mono ?_; rintro e w5 ⟨p5, q5, A5, rfl, hr, he⟩; have HR5 := Lib.hid hr; have HE5 : Hid (Ext w2 w5) := Lib.hid ((HE4.out).trans he); have HX5 := Lib.hid he; clear hr he; clear HN)
    | (go_at_call 27; refine (signK HR5.out).mono ?_; rw [HSN.out]; rintro e w6 ⟨rfl, he⟩; have HE6 : Hid (Ext w2 w6) := Lib.hid (HE5.out.trans he); clear he))
  go_ret
  exact ⟨rfl, HE0.out.trans HE6.out⟩
set_option maxRecDepth 100000 in
set_option maxHeartbeats 400000 in
theorem sign_npn (x y : Rat) (d : Int) (b : Nat) (p q : Int) (A : Option Addr) (r s : Int) (B : Option Addr) (w : World) (hx : RA b w x (.agg #[.int .i64 p, .int .i64 q, .pointer A])) (hy : RA b w y (.agg #[.int .i64 r, .int .i64 s, .pointer B])) (hd : 0 ≤ d ∧ d ≤ 1000000) (hb : b ≤ 10000000000) (ha : sg x = (-1)) (hbb : sg y = 1) (hn : sg (x * x - y * y * (d : Rat)) = (-1)) :
    Calls Tryd.prog 26 #[.agg #[.int .i64 p, .int .i64 q, .pointer A, .int .i64 r, .int .i64 s, .pointer B, .int .i64 d]] w fun e w' => e = .returned (.int .i64 1) ∧ Ext w w' := by
  have HS1 := Lib.hid (fun W (he : Ext w W) => signK (hx.ext he))
  have HS2 := Lib.hid (fun W (he : Ext w W) => signK (hy.ext he))
  rw [ha] at HS1
  rw [hbb] at HS2
  obtain ⟨w2, hw2⟩ : ∃ w2, w2 = (w.alloc (.cells #[.int .i64 p, .int .i64 q, .pointer A, .int .i64 r, .int .i64 s, .pointer B, .int .i64 d] 45)) := ⟨_, rfl⟩
  have HE0 : Hid (Ext w w2) := Lib.hid (by rw [hw2]; exact Ext.one _ _)
  have HC : Hid (∀ W, Ext w2 W → BoxV W w.heap.size p q A r s B d) := Lib.hid (fun W he => BoxV.ext (by rw [hw2]; exact boxV_new w p q A r s B d) he)
  have HW2 := Lib.hid hw2
  have HN := Lib.hid (fun W (he : Ext w W) => norm_calls x y d b p q A r s B W (hx.ext he) (hy.ext he) hd hb)
  have HSN : Hid (sg (x * x - y * y * (d : Rat)) = (-1)) := Lib.hid hn
  generalize x * x - y * y * (d : Rat) = n at *
  clear hn
  clear hx hy hd hb hw2 ha hbb
  go_enter Tryd.func26, Tryd.ntmps26
  go_wp2
  rw [← HW2.out]
  go_region_held3 (fun W => W.cell? ⟨w.heap.size, 0, none⟩ = some (.int .i64 p) ∧ W.cell? ⟨w.heap.size, 1, none⟩ = some (.int .i64 q) ∧ W.cell? ⟨w.heap.size, 2, none⟩ = some (.pointer A) ∧ W.cell? ⟨w.heap.size, 3, none⟩ = some (.int .i64 r) ∧ W.cell? ⟨w.heap.size, 4, none⟩ = some (.int .i64 s) ∧ W.cell? ⟨w.heap.size, 5, none⟩ = some (.pointer B) ∧ W.cell? ⟨w.heap.size, 6, none⟩ = some (.int .i64 d))
    (first
      | with_reducible exact (HC.out _ HE4.out).cells
      | with_reducible exact (HC.out _ HE3.out).cells
      | with_reducible exact (HC.out _ (Ext.refl _)).cells
      | with_reducible exact (HC.out _ (Ext.refl _).drew).cells)
    (first
      | (go_at_call 27; refine (HS1.out _ (HE0.out.trans (Ext.refl _).drew)).mono ?_; rintro e w3 ⟨rfl, he⟩; have HE3 : Hid (Ext w2 w3) := Lib.hid (((Ext.refl w2).drew).trans he); have HX3 := Lib.hid he; clear he; clear HS1)
      | (go_at_call 27; refine (HS2.out _ (HE0.out.trans HE3.out)).mono ?_; rintro e w4 ⟨rfl, he⟩; have HE4 : Hid (Ext w2 w4) := Lib.hid ((HE3.out).trans he); have HX4 := Lib.hid he; clear he; clear HS2))
  obtain ⟨k0, k1, k2, k3, k4, k5, k6⟩ := (HC.out _ HE4.out).cells
  go_wp2_with (first
    | (go_at_call 21; refine (HN.out _ (HE0.out.trans HE4.out)).mono ?_; rintro e w5 ⟨p5, q5, A5, rfl, hr, he⟩; have HR5 := Lib.hid hr; have HE5 : Hid (Ext w2 w5) := Lib.hid ((HE4.out).trans he); have HX5 := Lib.hid he; clear hr he; clear HN)
    | (go_at_call 27; refine (signK HR5.out).mono ?_; rw [HSN.out]; rintro e w6 ⟨rfl, he⟩; have HE6 : Hid (Ext w2 w6) := Lib.hid (HE5.out.trans he); clear he))
  go_ret
  exact ⟨rfl, HE0.out.trans HE6.out⟩
set_option maxRecDepth 100000 in
set_option maxHeartbeats 400000 in
theorem sign_npz (x y : Rat) (d : Int) (b : Nat) (p q : Int) (A : Option Addr) (r s : Int) (B : Option Addr) (w : World) (hx : RA b w x (.agg #[.int .i64 p, .int .i64 q, .pointer A])) (hy : RA b w y (.agg #[.int .i64 r, .int .i64 s, .pointer B])) (hd : 0 ≤ d ∧ d ≤ 1000000) (hb : b ≤ 10000000000) (ha : sg x = (-1)) (hbb : sg y = 1) (hn : sg (x * x - y * y * (d : Rat)) = 0) :
    Calls Tryd.prog 26 #[.agg #[.int .i64 p, .int .i64 q, .pointer A, .int .i64 r, .int .i64 s, .pointer B, .int .i64 d]] w fun e w' => e = .returned (.int .i64 1) ∧ Ext w w' := by
  have HS1 := Lib.hid (fun W (he : Ext w W) => signK (hx.ext he))
  have HS2 := Lib.hid (fun W (he : Ext w W) => signK (hy.ext he))
  rw [ha] at HS1
  rw [hbb] at HS2
  obtain ⟨w2, hw2⟩ : ∃ w2, w2 = (w.alloc (.cells #[.int .i64 p, .int .i64 q, .pointer A, .int .i64 r, .int .i64 s, .pointer B, .int .i64 d] 45)) := ⟨_, rfl⟩
  have HE0 : Hid (Ext w w2) := Lib.hid (by rw [hw2]; exact Ext.one _ _)
  have HC : Hid (∀ W, Ext w2 W → BoxV W w.heap.size p q A r s B d) := Lib.hid (fun W he => BoxV.ext (by rw [hw2]; exact boxV_new w p q A r s B d) he)
  have HW2 := Lib.hid hw2
  have HN := Lib.hid (fun W (he : Ext w W) => norm_calls x y d b p q A r s B W (hx.ext he) (hy.ext he) hd hb)
  have HSN : Hid (sg (x * x - y * y * (d : Rat)) = 0) := Lib.hid hn
  generalize x * x - y * y * (d : Rat) = n at *
  clear hn
  clear hx hy hd hb hw2 ha hbb
  go_enter Tryd.func26, Tryd.ntmps26
  go_wp2
  rw [← HW2.out]
  go_region_held3 (fun W => W.cell? ⟨w.heap.size, 0, none⟩ = some (.int .i64 p) ∧ W.cell? ⟨w.heap.size, 1, none⟩ = some (.int .i64 q) ∧ W.cell? ⟨w.heap.size, 2, none⟩ = some (.pointer A) ∧ W.cell? ⟨w.heap.size, 3, none⟩ = some (.int .i64 r) ∧ W.cell? ⟨w.heap.size, 4, none⟩ = some (.int .i64 s) ∧ W.cell? ⟨w.heap.size, 5, none⟩ = some (.pointer B) ∧ W.cell? ⟨w.heap.size, 6, none⟩ = some (.int .i64 d))
    (first
      | with_reducible exact (HC.out _ HE4.out).cells
      | with_reducible exact (HC.out _ HE3.out).cells
      | with_reducible exact (HC.out _ (Ext.refl _)).cells
      | with_reducible exact (HC.out _ (Ext.refl _).drew).cells)
    (first
      | (go_at_call 27; refine (HS1.out _ (HE0.out.trans (Ext.refl _).drew)).mono ?_; rintro e w3 ⟨rfl, he⟩; have HE3 : Hid (Ext w2 w3) := Lib.hid (((Ext.refl w2).drew).trans he); have HX3 := Lib.hid he; clear he; clear HS1)
      | (go_at_call 27; refine (HS2.out _ (HE0.out.trans HE3.out)).mono ?_; rintro e w4 ⟨rfl, he⟩; have HE4 : Hid (Ext w2 w4) := Lib.hid ((HE3.out).trans he); have HX4 := Lib.hid he; clear he; clear HS2))
  obtain ⟨k0, k1, k2, k3, k4, k5, k6⟩ := (HC.out _ HE4.out).cells
  go_wp2_with (first
    | (go_at_call 21; refine (HN.out _ (HE0.out.trans HE4.out)).mono ?_; rintro e w5 ⟨p5, q5, A5, rfl, hr, he⟩; have HR5 := Lib.hid hr; have HE5 : Hid (Ext w2 w5) := Lib.hid ((HE4.out).trans he); have HX5 := Lib.hid he; clear hr he; clear HN)
    | (go_at_call 27; refine (signK HR5.out).mono ?_; rw [HSN.out]; rintro e w6 ⟨rfl, he⟩; have HE6 : Hid (Ext w2 w6) := Lib.hid (HE5.out.trans he); clear he))
  go_ret
  exact ⟨rfl, HE0.out.trans HE6.out⟩
set_option maxRecDepth 100000 in
set_option maxHeartbeats 400000 in
theorem sign_nn (x y : Rat) (d : Int) (b : Nat) (p q : Int) (A : Option Addr) (r s : Int) (B : Option Addr) (w : World) (hx : RA b w x (.agg #[.int .i64 p, .int .i64 q, .pointer A])) (hy : RA b w y (.agg #[.int .i64 r, .int .i64 s, .pointer B])) (hd : 0 ≤ d ∧ d ≤ 1000000) (hb : b ≤ 10000000000) (ha : sg x = (-1)) (hbb : sg y = (-1))  :
    Calls Tryd.prog 26 #[.agg #[.int .i64 p, .int .i64 q, .pointer A, .int .i64 r, .int .i64 s, .pointer B, .int .i64 d]] w fun e w' => e = .returned (.int .i64 (-1)) ∧ Ext w w' := by
  have HS1 := Lib.hid (fun W (he : Ext w W) => signK (hx.ext he))
  have HS2 := Lib.hid (fun W (he : Ext w W) => signK (hy.ext he))
  rw [ha] at HS1
  rw [hbb] at HS2
  obtain ⟨w2, hw2⟩ : ∃ w2, w2 = (w.alloc (.cells #[.int .i64 p, .int .i64 q, .pointer A, .int .i64 r, .int .i64 s, .pointer B, .int .i64 d] 45)) := ⟨_, rfl⟩
  have HE0 : Hid (Ext w w2) := Lib.hid (by rw [hw2]; exact Ext.one _ _)
  have HC : Hid (∀ W, Ext w2 W → BoxV W w.heap.size p q A r s B d) := Lib.hid (fun W he => BoxV.ext (by rw [hw2]; exact boxV_new w p q A r s B d) he)
  have HW2 := Lib.hid hw2
  clear hx hy hd hb hw2 ha hbb
  go_enter Tryd.func26, Tryd.ntmps26
  go_wp2
  rw [← HW2.out]
  go_region_held3 (fun W => W.cell? ⟨w.heap.size, 0, none⟩ = some (.int .i64 p) ∧ W.cell? ⟨w.heap.size, 1, none⟩ = some (.int .i64 q) ∧ W.cell? ⟨w.heap.size, 2, none⟩ = some (.pointer A) ∧ W.cell? ⟨w.heap.size, 3, none⟩ = some (.int .i64 r) ∧ W.cell? ⟨w.heap.size, 4, none⟩ = some (.int .i64 s) ∧ W.cell? ⟨w.heap.size, 5, none⟩ = some (.pointer B) ∧ W.cell? ⟨w.heap.size, 6, none⟩ = some (.int .i64 d))
    (first
      | with_reducible exact (HC.out _ HE4.out).cells
      | with_reducible exact (HC.out _ HE3.out).cells
      | with_reducible exact (HC.out _ (Ext.refl _)).cells
      | with_reducible exact (HC.out _ (Ext.refl _).drew).cells)
    (first
      | (go_at_call 27; refine (HS1.out _ (HE0.out.trans (Ext.refl _).drew)).mono ?_; rintro e w3 ⟨rfl, he⟩; have HE3 : Hid (Ext w2 w3) := Lib.hid (((Ext.refl w2).drew).trans he); have HX3 := Lib.hid he; clear he; clear HS1)
      | (go_at_call 27; refine (HS2.out _ (HE0.out.trans HE3.out)).mono ?_; rintro e w4 ⟨rfl, he⟩; have HE4 : Hid (Ext w2 w4) := Lib.hid ((HE3.out).trans he); have HX4 := Lib.hid he; clear he; clear HS2))
  go_wp2
  go_ret
  exact ⟨rfl, HE0.out.trans HE4.out⟩
set_option maxRecDepth 100000 in
set_option maxHeartbeats 400000 in
theorem sign_nz (x y : Rat) (d : Int) (b : Nat) (p q : Int) (A : Option Addr) (r s : Int) (B : Option Addr) (w : World) (hx : RA b w x (.agg #[.int .i64 p, .int .i64 q, .pointer A])) (hy : RA b w y (.agg #[.int .i64 r, .int .i64 s, .pointer B])) (hd : 0 ≤ d ∧ d ≤ 1000000) (hb : b ≤ 10000000000) (ha : sg x = (-1)) (hbb : sg y = 0)  :
    Calls Tryd.prog 26 #[.agg #[.int .i64 p, .int .i64 q, .pointer A, .int .i64 r, .int .i64 s, .pointer B, .int .i64 d]] w fun e w' => e = .returned (.int .i64 (-1)) ∧ Ext w w' := by
  have HS1 := Lib.hid (fun W (he : Ext w W) => signK (hx.ext he))
  have HS2 := Lib.hid (fun W (he : Ext w W) => signK (hy.ext he))
  rw [ha] at HS1
  rw [hbb] at HS2
  obtain ⟨w2, hw2⟩ : ∃ w2, w2 = (w.alloc (.cells #[.int .i64 p, .int .i64 q, .pointer A, .int .i64 r, .int .i64 s, .pointer B, .int .i64 d] 45)) := ⟨_, rfl⟩
  have HE0 : Hid (Ext w w2) := Lib.hid (by rw [hw2]; exact Ext.one _ _)
  have HC : Hid (∀ W, Ext w2 W → BoxV W w.heap.size p q A r s B d) := Lib.hid (fun W he => BoxV.ext (by rw [hw2]; exact boxV_new w p q A r s B d) he)
  have HW2 := Lib.hid hw2
  clear hx hy hd hb hw2 ha hbb
  go_enter Tryd.func26, Tryd.ntmps26
  go_wp2
  rw [← HW2.out]
  go_region_held3 (fun W => W.cell? ⟨w.heap.size, 0, none⟩ = some (.int .i64 p) ∧ W.cell? ⟨w.heap.size, 1, none⟩ = some (.int .i64 q) ∧ W.cell? ⟨w.heap.size, 2, none⟩ = some (.pointer A) ∧ W.cell? ⟨w.heap.size, 3, none⟩ = some (.int .i64 r) ∧ W.cell? ⟨w.heap.size, 4, none⟩ = some (.int .i64 s) ∧ W.cell? ⟨w.heap.size, 5, none⟩ = some (.pointer B) ∧ W.cell? ⟨w.heap.size, 6, none⟩ = some (.int .i64 d))
    (first
      | with_reducible exact (HC.out _ HE4.out).cells
      | with_reducible exact (HC.out _ HE3.out).cells
      | with_reducible exact (HC.out _ (Ext.refl _)).cells
      | with_reducible exact (HC.out _ (Ext.refl _).drew).cells)
    (first
      | (go_at_call 27; refine (HS1.out _ (HE0.out.trans (Ext.refl _).drew)).mono ?_; rintro e w3 ⟨rfl, he⟩; have HE3 : Hid (Ext w2 w3) := Lib.hid (((Ext.refl w2).drew).trans he); have HX3 := Lib.hid he; clear he; clear HS1)
      | (go_at_call 27; refine (HS2.out _ (HE0.out.trans HE3.out)).mono ?_; rintro e w4 ⟨rfl, he⟩; have HE4 : Hid (Ext w2 w4) := Lib.hid ((HE3.out).trans he); have HX4 := Lib.hid he; clear he; clear HS2))
  go_wp2
  go_ret
  exact ⟨rfl, HE0.out.trans HE4.out⟩
set_option maxRecDepth 100000 in
set_option maxHeartbeats 400000 in
theorem sign_zp (x y : Rat) (d : Int) (b : Nat) (p q : Int) (A : Option Addr) (r s : Int) (B : Option Addr) (w : World) (hx : RA b w x (.agg #[.int .i64 p, .int .i64 q, .pointer A])) (hy : RA b w y (.agg #[.int .i64 r, .int .i64 s, .pointer B])) (hd : 0 ≤ d ∧ d ≤ 1000000) (hb : b ≤ 10000000000) (ha : sg x = 0) (hbb : sg y = 1)  :
    Calls Tryd.prog 26 #[.agg #[.int .i64 p, .int .i64 q, .pointer A, .int .i64 r, .int .i64 s, .pointer B, .int .i64 d]] w fun e w' => e = .returned (.int .i64 1) ∧ Ext w w' := by
  have HS1 := Lib.hid (fun W (he : Ext w W) => signK (hx.ext he))
  have HS2 := Lib.hid (fun W (he : Ext w W) => signK (hy.ext he))
  rw [ha] at HS1
  rw [hbb] at HS2
  obtain ⟨w2, hw2⟩ : ∃ w2, w2 = (w.alloc (.cells #[.int .i64 p, .int .i64 q, .pointer A, .int .i64 r, .int .i64 s, .pointer B, .int .i64 d] 45)) := ⟨_, rfl⟩
  have HE0 : Hid (Ext w w2) := Lib.hid (by rw [hw2]; exact Ext.one _ _)
  have HC : Hid (∀ W, Ext w2 W → BoxV W w.heap.size p q A r s B d) := Lib.hid (fun W he => BoxV.ext (by rw [hw2]; exact boxV_new w p q A r s B d) he)
  have HW2 := Lib.hid hw2
  clear hx hy hd hb hw2 ha hbb
  go_enter Tryd.func26, Tryd.ntmps26
  go_wp2
  rw [← HW2.out]
  go_region_held3 (fun W => W.cell? ⟨w.heap.size, 0, none⟩ = some (.int .i64 p) ∧ W.cell? ⟨w.heap.size, 1, none⟩ = some (.int .i64 q) ∧ W.cell? ⟨w.heap.size, 2, none⟩ = some (.pointer A) ∧ W.cell? ⟨w.heap.size, 3, none⟩ = some (.int .i64 r) ∧ W.cell? ⟨w.heap.size, 4, none⟩ = some (.int .i64 s) ∧ W.cell? ⟨w.heap.size, 5, none⟩ = some (.pointer B) ∧ W.cell? ⟨w.heap.size, 6, none⟩ = some (.int .i64 d))
    (first
      | with_reducible exact (HC.out _ HE4.out).cells
      | with_reducible exact (HC.out _ HE3.out).cells
      | with_reducible exact (HC.out _ (Ext.refl _)).cells
      | with_reducible exact (HC.out _ (Ext.refl _).drew).cells)
    (first
      | (go_at_call 27; refine (HS1.out _ (HE0.out.trans (Ext.refl _).drew)).mono ?_; rintro e w3 ⟨rfl, he⟩; have HE3 : Hid (Ext w2 w3) := Lib.hid (((Ext.refl w2).drew).trans he); have HX3 := Lib.hid he; clear he; clear HS1)
      | (go_at_call 27; refine (HS2.out _ (HE0.out.trans HE3.out)).mono ?_; rintro e w4 ⟨rfl, he⟩; have HE4 : Hid (Ext w2 w4) := Lib.hid ((HE3.out).trans he); have HX4 := Lib.hid he; clear he; clear HS2))
  go_wp2
  go_ret
  exact ⟨rfl, HE0.out.trans HE4.out⟩
set_option maxRecDepth 100000 in
set_option maxHeartbeats 400000 in
theorem sign_zn (x y : Rat) (d : Int) (b : Nat) (p q : Int) (A : Option Addr) (r s : Int) (B : Option Addr) (w : World) (hx : RA b w x (.agg #[.int .i64 p, .int .i64 q, .pointer A])) (hy : RA b w y (.agg #[.int .i64 r, .int .i64 s, .pointer B])) (hd : 0 ≤ d ∧ d ≤ 1000000) (hb : b ≤ 10000000000) (ha : sg x = 0) (hbb : sg y = (-1))  :
    Calls Tryd.prog 26 #[.agg #[.int .i64 p, .int .i64 q, .pointer A, .int .i64 r, .int .i64 s, .pointer B, .int .i64 d]] w fun e w' => e = .returned (.int .i64 (-1)) ∧ Ext w w' := by
  have HS1 := Lib.hid (fun W (he : Ext w W) => signK (hx.ext he))
  have HS2 := Lib.hid (fun W (he : Ext w W) => signK (hy.ext he))
  rw [ha] at HS1
  rw [hbb] at HS2
  obtain ⟨w2, hw2⟩ : ∃ w2, w2 = (w.alloc (.cells #[.int .i64 p, .int .i64 q, .pointer A, .int .i64 r, .int .i64 s, .pointer B, .int .i64 d] 45)) := ⟨_, rfl⟩
  have HE0 : Hid (Ext w w2) := Lib.hid (by rw [hw2]; exact Ext.one _ _)
  have HC : Hid (∀ W, Ext w2 W → BoxV W w.heap.size p q A r s B d) := Lib.hid (fun W he => BoxV.ext (by rw [hw2]; exact boxV_new w p q A r s B d) he)
  have HW2 := Lib.hid hw2
  clear hx hy hd hb hw2 ha hbb
  go_enter Tryd.func26, Tryd.ntmps26
  go_wp2
  rw [← HW2.out]
  go_region_held3 (fun W => W.cell? ⟨w.heap.size, 0, none⟩ = some (.int .i64 p) ∧ W.cell? ⟨w.heap.size, 1, none⟩ = some (.int .i64 q) ∧ W.cell? ⟨w.heap.size, 2, none⟩ = some (.pointer A) ∧ W.cell? ⟨w.heap.size, 3, none⟩ = some (.int .i64 r) ∧ W.cell? ⟨w.heap.size, 4, none⟩ = some (.int .i64 s) ∧ W.cell? ⟨w.heap.size, 5, none⟩ = some (.pointer B) ∧ W.cell? ⟨w.heap.size, 6, none⟩ = some (.int .i64 d))
    (first
      | with_reducible exact (HC.out _ HE4.out).cells
      | with_reducible exact (HC.out _ HE3.out).cells
      | with_reducible exact (HC.out _ (Ext.refl _)).cells
      | with_reducible exact (HC.out _ (Ext.refl _).drew).cells)
    (first
      | (go_at_call 27; refine (HS1.out _ (HE0.out.trans (Ext.refl _).drew)).mono ?_; rintro e w3 ⟨rfl, he⟩; have HE3 : Hid (Ext w2 w3) := Lib.hid (((Ext.refl w2).drew).trans he); have HX3 := Lib.hid he; clear he; clear HS1)
      | (go_at_call 27; refine (HS2.out _ (HE0.out.trans HE3.out)).mono ?_; rintro e w4 ⟨rfl, he⟩; have HE4 : Hid (Ext w2 w4) := Lib.hid ((HE3.out).trans he); have HX4 := Lib.hid he; clear he; clear HS2))
  go_wp2
  go_ret
  exact ⟨rfl, HE0.out.trans HE4.out⟩
set_option maxRecDepth 100000 in
set_option maxHeartbeats 400000 in
theorem sign_zz (x y : Rat) (d : Int) (b : Nat) (p q : Int) (A : Option Addr) (r s : Int) (B : Option Addr) (w : World) (hx : RA b w x (.agg #[.int .i64 p, .int .i64 q, .pointer A])) (hy : RA b w y (.agg #[.int .i64 r, .int .i64 s, .pointer B])) (hd : 0 ≤ d ∧ d ≤ 1000000) (hb : b ≤ 10000000000) (ha : sg x = 0) (hbb : sg y = 0)  :
    Calls Tryd.prog 26 #[.agg #[.int .i64 p, .int .i64 q, .pointer A, .int .i64 r, .int .i64 s, .pointer B, .int .i64 d]] w fun e w' => e = .returned (.int .i64 0) ∧ Ext w w' := by
  have HS1 := Lib.hid (fun W (he : Ext w W) => signK (hx.ext he))
  have HS2 := Lib.hid (fun W (he : Ext w W) => signK (hy.ext he))
  rw [ha] at HS1
  rw [hbb] at HS2
  obtain ⟨w2, hw2⟩ : ∃ w2, w2 = (w.alloc (.cells #[.int .i64 p, .int .i64 q, .pointer A, .int .i64 r, .int .i64 s, .pointer B, .int .i64 d] 45)) := ⟨_, rfl⟩
  have HE0 : Hid (Ext w w2) := Lib.hid (by rw [hw2]; exact Ext.one _ _)
  have HC : Hid (∀ W, Ext w2 W → BoxV W w.heap.size p q A r s B d) := Lib.hid (fun W he => BoxV.ext (by rw [hw2]; exact boxV_new w p q A r s B d) he)
  have HW2 := Lib.hid hw2
  clear hx hy hd hb hw2 ha hbb
  go_enter Tryd.func26, Tryd.ntmps26
  go_wp2
  rw [← HW2.out]
  go_region_held3 (fun W => W.cell? ⟨w.heap.size, 0, none⟩ = some (.int .i64 p) ∧ W.cell? ⟨w.heap.size, 1, none⟩ = some (.int .i64 q) ∧ W.cell? ⟨w.heap.size, 2, none⟩ = some (.pointer A) ∧ W.cell? ⟨w.heap.size, 3, none⟩ = some (.int .i64 r) ∧ W.cell? ⟨w.heap.size, 4, none⟩ = some (.int .i64 s) ∧ W.cell? ⟨w.heap.size, 5, none⟩ = some (.pointer B) ∧ W.cell? ⟨w.heap.size, 6, none⟩ = some (.int .i64 d))
    (first
      | with_reducible exact (HC.out _ HE4.out).cells
      | with_reducible exact (HC.out _ HE3.out).cells
      | with_reducible exact (HC.out _ (Ext.refl _)).cells
      | with_reducible exact (HC.out _ (Ext.refl _).drew).cells)
    (first
      | (go_at_call 27; refine (HS1.out _ (HE0.out.trans (Ext.refl _).drew)).mono ?_; rintro e w3 ⟨rfl, he⟩; have HE3 : Hid (Ext w2 w3) := Lib.hid (((Ext.refl w2).drew).trans he); have HX3 := Lib.hid he; clear he; clear HS1)
      | (go_at_call 27; refine (HS2.out _ (HE0.out.trans HE3.out)).mono ?_; rintro e w4 ⟨rfl, he⟩; have HE4 : Hid (Ext w2 w4) := Lib.hid ((HE3.out).trans he); have HX4 := Lib.hid he; clear he; clear HS2))
  go_wp2
  go_ret
  exact ⟨rfl, HE0.out.trans HE4.out⟩
theorem signV_calls {x y : Rat} {d : Int} {b : Nat} {p q : Int} {A : Option Addr} {r s : Int} {B : Option Addr} {w : World} (hx : RA b w x (.agg #[.int .i64 p, .int .i64 q, .pointer A])) (hy : RA b w y (.agg #[.int .i64 r, .int .i64 s, .pointer B])) (hd : 0 ≤ d ∧ d ≤ 1000000) (hb : b ≤ 10000000000) :
    Calls Tryd.prog 26 #[.agg #[.int .i64 p, .int .i64 q, .pointer A, .int .i64 r, .int .i64 s, .pointer B, .int .i64 d]] w fun e w' => e = .returned (.int .i64 (signV ⟨x, y, d⟩)) ∧ Ext w w' := by
  have hq : signV ⟨x, y, d⟩ = if sg x = sg y ∨ sg y = 0 then sg x else if sg x = 0 then sg y else if 0 < sg (x * x - y * y * (d : Rat)) then sg x else sg y := rfl
  rw [hq]
  rcases sg_cases x with ⟨h1, _⟩ | ⟨h1, _⟩ | ⟨h1, _⟩ <;> rcases sg_cases y with ⟨h2, _⟩ | ⟨h2, _⟩ | ⟨h2, _⟩ <;> rcases sg_cases (x * x - y * y * (d : Rat)) with ⟨h3, _⟩ | ⟨h3, _⟩ | ⟨h3, _⟩ <;> rw [h1, h2, h3] <;> first
    | exact sign_pp x y d b p q A r s B w hx hy hd hb h1 h2
    | exact sign_pnp x y d b p q A r s B w hx hy hd hb h1 h2 h3
    | exact sign_pnn x y d b p q A r s B w hx hy hd hb h1 h2 h3
    | exact sign_pnz x y d b p q A r s B w hx hy hd hb h1 h2 h3
    | exact sign_pz x y d b p q A r s B w hx hy hd hb h1 h2
    | exact sign_npp x y d b p q A r s B w hx hy hd hb h1 h2 h3
    | exact sign_npn x y d b p q A r s B w hx hy hd hb h1 h2 h3
    | exact sign_npz x y d b p q A r s B w hx hy hd hb h1 h2 h3
    | exact sign_nn x y d b p q A r s B w hx hy hd hb h1 h2
    | exact sign_nz x y d b p q A r s B w hx hy hd hb h1 h2
    | exact sign_zp x y d b p q A r s B w hx hy hd hb h1 h2
    | exact sign_zn x y d b p q A r s B w hx hy hd hb h1 h2
    | exact sign_zz x y d b p q A r s B w hx hy hd hb h1 h2
end Go.Proofs.YtpgnlpjjpgdoiaaDoor
/- surd: Div, Norm, Conjugate, Sign. -/
namespace Go.Proofs.YtpgnlpjjpgdoiaaDoor
open Go Go.RowKit SurdM
set_option linter.unusedVariables false
set_option linter.unusedSimpArgs false
set_option maxRecDepth 100000 in
set_option maxHeartbeats 400000 in
theorem Div_err (sa sb ta tb : ByteArray) (d e : Int) (n : Nat) (w : World) (hsa : sa.size ≤ n) (hsb : sb.size ≤ n) (hta : ta.size ≤ n) (htb : tb.size ≤ n) (hn : n ≤ 100000000) (k : Int) (hk : pairE (readV sa.data.toList sb.data.toList d) (readV ta.data.toList tb.data.toList e) = k) (hk0 : k ≠ 0) :
    Calls Tryd.prog 14 #[.agg #[.string sa, .string sb, .int .i64 d], .agg #[.string ta, .string tb, .int .i64 e]] w (SurErr w k) := by
  have HT := Lib.hid (fun W => two_err sa sb ta tb d e n W hsa hsb hta htb (by omega) k hk hk0)
  obtain ⟨w2, hw2⟩ : ∃ w2, w2 = (((w.alloc (.cells #[.string sa, .string sb, .int .i64 d] 23)).alloc (.cells #[.string ta, .string tb, .int .i64 e] 23)).alloc (.cells #[.string ⟨#[]⟩, .string ⟨#[]⟩, .int .i64 0] 23)) := ⟨_, rfl⟩
  have HE0 : Hid (Ext w w2) := Lib.hid (by rw [hw2]; exact Ext.three _ _ _ _)
  have HC1 : Hid (∀ W, Ext w2 W → BoxS W w.heap.size sa sb d) := Lib.hid (fun W he => BoxS.ext (by rw [hw2]; exact BoxS.ext (heap_alloc_new w _) (Ext.two _ _ _)) he)
  have HC2 : Hid (∀ W, Ext w2 W → BoxS W (w.heap.size + 1) ta tb e) := Lib.hid (fun W he => BoxS.ext (by rw [hw2]; exact BoxS.ext (heap_alloc2_new w _ _) (Ext.one _ _)) he)
  have HV : Hid (∀ W, Ext w2 W → BoxS W (w.heap.size + 1 + 1) ⟨#[]⟩ ⟨#[]⟩ 0) := Lib.hid (fun W he => BoxS.ext (by rw [hw2]; exact heap_alloc3_new w _ _ _) he)
  have HW2 := Lib.hid hw2
  obtain ⟨k0, k1, k2⟩ := (HC1.out _ (Ext.refl _)).cells
  obtain ⟨l0, l1, l2⟩ := (HC2.out _ (Ext.refl _)).cells
  have t1 : (k == 0) = false := by rw [beq_eq_false_iff_ne]; exact hk0
  have t2 : (k != 0) = true := by rw [bne_iff_ne]; exact hk0
  clear hsa hsb hta htb hn hk hw2 hk0
  go_enter Tryd.func14, Tryd.ntmps14
  go_wp2_with fail
  rw [← HW2.out]
  go_wp2_with (first
    | (go_at_call 17; refine (HT.out _).mono ?_; clear HT k0 k1 k2 l0 l1 l2; rintro e3 w3 ⟨rfl, he⟩; have HE3 := Lib.hid he; clear he; obtain ⟨j0, j1, j2⟩ := (HV.out _ ((HE3.out.alloc (.cells #[.int .i64 0, .int .i64 0, .pointer none, .int .i64 0, .int .i64 0, .pointer none, .int .i64 0] 45)).alloc (.cells #[.int .i64 0, .int .i64 0, .pointer none, .int .i64 0, .int .i64 0, .pointer none, .int .i64 0] 45))).cells; obtain ⟨f0, f1, f2⟩ := (HV.out _ ((HE3.out.alloc (.cells #[.int .i64 0, .int .i64 0, .pointer none, .int .i64 0, .int .i64 0, .pointer none, .int .i64 0] 45)).alloc (.cells #[.int .i64 0, .int .i64 0, .pointer none, .int .i64 0, .int .i64 0, .pointer none, .int .i64 0] 45))).frozen))
  refine ret_sur2 rfl (w.heap.size + 1 + 1) _ _ _ _ rfl rfl (putS_row (HV.out _ ((HE3.out.alloc _).alloc _)) ⟨#[]⟩ ⟨#[]⟩ 0) rfl ?_
  exact ⟨rfl, (putS_only _ _ _ _ _).ext (HE0.out.trans ((HE3.out.alloc _).alloc _)) (by omega)⟩
set_option maxRecDepth 100000 in
set_option maxHeartbeats 400000 in
theorem Div_zero (sa sb ta tb : ByteArray) (d e : Int) (n : Nat) (w : World) (hsa : sa.size ≤ n) (hsb : sb.size ≤ n) (hta : ta.size ≤ n) (htb : tb.size ≤ n) (hn : n ≤ 100000000) (v u : SV) (h1 : readV sa.data.toList sb.data.toList d = some v) (h2 : readV ta.data.toList tb.data.toList e = some u) (ht : togOk v u = true) (htab : TabW w) (hz : zeroV u = true) :
    Calls Tryd.prog 14 #[.agg #[.string sa, .string sb, .int .i64 d], .agg #[.string ta, .string tb, .int .i64 e]] w (SurErr w 5) := by
  have HT := Lib.hid (fun W => two_ok sa sb ta tb d e n W hsa hsb hta htb (by omega) v h1 u h2 ht)
  have HD1 := Lib.hid (readV_d h1)
  have HD2 := Lib.hid (readV_d h2)
  have HN := Lib.hid hn
  obtain ⟨w2, hw2⟩ : ∃ w2, w2 = (((w.alloc (.cells #[.string sa, .string sb, .int .i64 d] 23)).alloc (.cells #[.string ta, .string tb, .int .i64 e] 23)).alloc (.cells #[.string ⟨#[]⟩, .string ⟨#[]⟩, .int .i64 0] 23)) := ⟨_, rfl⟩
  have HE0 : Hid (Ext w w2) := Lib.hid (by rw [hw2]; exact Ext.three _ _ _ _)
  have HC1 : Hid (∀ W, Ext w2 W → BoxS W w.heap.size sa sb d) := Lib.hid (fun W he => BoxS.ext (by rw [hw2]; exact BoxS.ext (heap_alloc_new w _) (Ext.two _ _ _)) he)
  have HC2 : Hid (∀ W, Ext w2 W → BoxS W (w.heap.size + 1) ta tb e) := Lib.hid (fun W he => BoxS.ext (by rw [hw2]; exact BoxS.ext (heap_alloc2_new w _ _) (Ext.one _ _)) he)
  have HV : Hid (∀ W, Ext w2 W → BoxS W (w.heap.size + 1 + 1) ⟨#[]⟩ ⟨#[]⟩ 0) := Lib.hid (fun W he => BoxS.ext (by rw [hw2]; exact heap_alloc3_new w _ _ _) he)
  have HW2 := Lib.hid hw2
  obtain ⟨k0, k1, k2⟩ := (HC1.out _ (Ext.refl _)).cells
  obtain ⟨l0, l1, l2⟩ := (HC2.out _ (Ext.refl _)).cells
  have HTB := Lib.hid htab
  obtain ⟨x1, y1, dv1⟩ := v
  obtain ⟨x2, y2, dv2⟩ := u
  have HZ := Lib.hid hz
  
  clear hsa hsb hta htb hn h1 h2 ht hw2 htab hz
  go_enter Tryd.func14, Tryd.ntmps14
  go_wp2_with fail
  rw [← HW2.out]
  go_wp2_with (first
    | (go_at_call 17; refine (HT.out _).mono ?_; clear HT k0 k1 k2 l0 l1 l2; rintro e3 w3 ⟨p3, q3, A3, r3, s3, B3, p4, q4, A4, r4, s4, B4, rfl, hr, hs, hr', hs', he⟩; have HR3 := Lib.hid hr; have HS3 := Lib.hid hs; have HR4 := Lib.hid hr'; have HS4 := Lib.hid hs'; have HE3 := Lib.hid he; clear hr hs hr' hs' he)
    | (go_at_call 29; refine (zeroV_calls (HR4.out.ext (Ext.two _ _ _)) (HS4.out.ext (Ext.two _ _ _))).mono ?_; rw [HZ.out]; rintro e7 w7 ⟨rfl, he⟩; have HX7 := Lib.hid he; have HE7 : Hid (Ext w2 w7) := Lib.hid (((HE3.out.alloc (.cells #[.int .i64 p3, .int .i64 q3, .pointer A3, .int .i64 r3, .int .i64 s3, .pointer B3, .int .i64 dv1] 45)).alloc (.cells #[.int .i64 p4, .int .i64 q4, .pointer A4, .int .i64 r4, .int .i64 s4, .pointer B4, .int .i64 dv2] 45)).trans he); clear he; obtain ⟨j0, j1, j2⟩ := (HV.out _ HE7.out).cells; obtain ⟨f0, f1, f2⟩ := (HV.out _ HE7.out).frozen))
  refine ret_sur2 rfl (w.heap.size + 1 + 1) _ _ _ _ rfl rfl (putS_row (HV.out _ HE7.out) ⟨#[]⟩ ⟨#[]⟩ 0) rfl ?_
  exact ⟨rfl, (putS_only _ _ _ _ _).ext (HE0.out.trans HE7.out) (by omega)⟩
set_option maxRecDepth 100000 in
set_option maxHeartbeats 400000 in
theorem Div_ok (sa sb ta tb : ByteArray) (d e : Int) (n : Nat) (w : World) (hsa : sa.size ≤ n) (hsb : sb.size ≤ n) (hta : ta.size ≤ n) (htb : tb.size ≤ n) (hn : n ≤ 100000000) (v u : SV) (h1 : readV sa.data.toList sb.data.toList d = some v) (h2 : readV ta.data.toList tb.data.toList e = some u) (ht : togOk v u = true) (htab : TabW w) (hz : zeroV u = false) :
    Calls Tryd.prog 14 #[.agg #[.string sa, .string sb, .int .i64 d], .agg #[.string ta, .string tb, .int .i64 e]] w (SurOk w (mulV v (invV u))) := by
  have HT := Lib.hid (fun W => two_ok sa sb ta tb d e n W hsa hsb hta htb (by omega) v h1 u h2 ht)
  have HD1 := Lib.hid (readV_d h1)
  have HD2 := Lib.hid (readV_d h2)
  have HN := Lib.hid hn
  obtain ⟨w2, hw2⟩ : ∃ w2, w2 = (((w.alloc (.cells #[.string sa, .string sb, .int .i64 d] 23)).alloc (.cells #[.string ta, .string tb, .int .i64 e] 23)).alloc (.cells #[.string ⟨#[]⟩, .string ⟨#[]⟩, .int .i64 0] 23)) := ⟨_, rfl⟩
  have HE0 : Hid (Ext w w2) := Lib.hid (by rw [hw2]; exact Ext.three _ _ _ _)
  have HC1 : Hid (∀ W, Ext w2 W → BoxS W w.heap.size sa sb d) := Lib.hid (fun W he => BoxS.ext (by rw [hw2]; exact BoxS.ext (heap_alloc_new w _) (Ext.two _ _ _)) he)
  have HC2 : Hid (∀ W, Ext w2 W → BoxS W (w.heap.size + 1) ta tb e) := Lib.hid (fun W he => BoxS.ext (by rw [hw2]; exact BoxS.ext (heap_alloc2_new w _ _) (Ext.one _ _)) he)
  have HV : Hid (∀ W, Ext w2 W → BoxS W (w.heap.size + 1 + 1) ⟨#[]⟩ ⟨#[]⟩ 0) := Lib.hid (fun W he => BoxS.ext (by rw [hw2]; exact heap_alloc3_new w _ _ _) he)
  have HW2 := Lib.hid hw2
  obtain ⟨k0, k1, k2⟩ := (HC1.out _ (Ext.refl _)).cells
  obtain ⟨l0, l1, l2⟩ := (HC2.out _ (Ext.refl _)).cells
  have HTB := Lib.hid htab
  obtain ⟨x1, y1, dv1⟩ := v
  obtain ⟨x2, y2, dv2⟩ := u
  have HZ := Lib.hid hz
  unfold SurOk
  clear hsa hsb hta htb hn h1 h2 ht hw2 htab hz
  go_enter Tryd.func14, Tryd.ntmps14
  go_wp2_with fail
  rw [← HW2.out]
  go_wp2_with (first
    | (go_at_call 17; refine (HT.out _).mono ?_; clear HT k0 k1 k2 l0 l1 l2; rintro e3 w3 ⟨p3, q3, A3, r3, s3, B3, p4, q4, A4, r4, s4, B4, rfl, hr, hs, hr', hs', he⟩; have HR3 := Lib.hid hr; have HS3 := Lib.hid hs; have HR4 := Lib.hid hr'; have HS4 := Lib.hid hs'; have HE3 := Lib.hid he; clear hr hs hr' hs' he)
    | (go_at_call 29; refine (zeroV_calls (HR4.out.ext (Ext.two _ _ _)) (HS4.out.ext (Ext.two _ _ _))).mono ?_; rw [HZ.out]; rintro e7 w7 ⟨rfl, he⟩; have HX7 := Lib.hid he; have HE7 : Hid (Ext w2 w7) := Lib.hid (((HE3.out.alloc (.cells #[.int .i64 p3, .int .i64 q3, .pointer A3, .int .i64 r3, .int .i64 s3, .pointer B3, .int .i64 dv1] 45)).alloc (.cells #[.int .i64 p4, .int .i64 q4, .pointer A4, .int .i64 r4, .int .i64 s4, .pointer B4, .int .i64 dv2] 45)).trans he); clear he; skip))
  obtain ⟨g5, hg5⟩ : ∃ g5, g5 = w3.heap.size := ⟨_, rfl⟩
  obtain ⟨g6, hg6⟩ : ∃ g6, g6 = w3.heap.size + 1 := ⟨_, rfl⟩
  have HD3 : Hid (∀ W, Ext w7 W → BoxV W g5 p3 q3 A3 r3 s3 B3 dv1) := Lib.hid (fun W he => by rw [hg5]; exact BoxV.ext (BoxV.ext (heap_alloc_new w3 _) (Ext.one _ (.cells #[.int .i64 p4, .int .i64 q4, .pointer A4, .int .i64 r4, .int .i64 s4, .pointer B4, .int .i64 dv2] 45))) (HX7.out.trans he))
  have HD4 : Hid (∀ W, Ext w7 W → BoxV W g6 p4 q4 A4 r4 s4 B4 dv2) := Lib.hid (fun W he => by rw [hg6]; exact BoxV.ext (heap_alloc2_new w3 (.cells #[.int .i64 p3, .int .i64 q3, .pointer A3, .int .i64 r3, .int .i64 s3, .pointer B3, .int .i64 dv1] 45) (.cells #[.int .i64 p4, .int .i64 q4, .pointer A4, .int .i64 r4, .int .i64 s4, .pointer B4, .int .i64 dv2] 45)) (HX7.out.trans he))
  have HR7 : Hid (RA (4 * n + 4) w7 x1 (.agg #[.int .i64 p3, .int .i64 q3, .pointer A3]) ∧ RA (4 * n + 4) w7 y1 (.agg #[.int .i64 r3, .int .i64 s3, .pointer B3]) ∧ RA (4 * n + 4) w7 x2 (.agg #[.int .i64 p4, .int .i64 q4, .pointer A4]) ∧ RA (4 * n + 4) w7 y2 (.agg #[.int .i64 r4, .int .i64 s4, .pointer B4])) := Lib.hid (by
    have e1 : Ext w3 w7 := (Ext.two w3 (.cells #[.int .i64 p3, .int .i64 q3, .pointer A3, .int .i64 r3, .int .i64 s3, .pointer B3, .int .i64 dv1] 45) (.cells #[.int .i64 p4, .int .i64 q4, .pointer A4, .int .i64 r4, .int .i64 s4, .pointer B4, .int .i64 dv2] 45)).trans HX7.out
    exact ⟨HR3.out.ext e1, HS3.out.ext e1, HR4.out.ext e1, HS4.out.ext e1⟩)
  have HG : Hid (w.heap.size + 1 + 1 + 1 ≤ g5 ∧ w.heap.size + 1 + 1 + 1 ≤ g6) := Lib.hid (by
    have h1 := HE3.out.le
    have h2 : w2.heap.size = w.heap.size + 1 + 1 + 1 := by rw [HW2.out]; simp
    omega)
  have hn1 : g5 ≠ w.heap.size + 1 + 1 := by have := HG.out.1; omega
  have hn2 : g6 ≠ w.heap.size + 1 + 1 := by have := HG.out.2; omega
  rw [← hg6, ← hg5]
  clear hg5 hg6
  go_region_held3 (fun W => (W.cell? ⟨g5, 0, none⟩ = some (.int .i64 p3) ∧ W.cell? ⟨g5, 1, none⟩ = some (.int .i64 q3) ∧ W.cell? ⟨g5, 2, none⟩ = some (.pointer A3) ∧ W.cell? ⟨g5, 3, none⟩ = some (.int .i64 r3) ∧ W.cell? ⟨g5, 4, none⟩ = some (.int .i64 s3) ∧ W.cell? ⟨g5, 5, none⟩ = some (.pointer B3) ∧ W.cell? ⟨g5, 6, none⟩ = some (.int .i64 dv1)) ∧ (W.cell? ⟨g6, 0, none⟩ = some (.int .i64 p4) ∧ W.cell? ⟨g6, 1, none⟩ = some (.int .i64 q4) ∧ W.cell? ⟨g6, 2, none⟩ = some (.pointer A4) ∧ W.cell? ⟨g6, 3, none⟩ = some (.int .i64 r4) ∧ W.cell? ⟨g6, 4, none⟩ = some (.int .i64 s4) ∧ W.cell? ⟨g6, 5, none⟩ = some (.pointer B4) ∧ W.cell? ⟨g6, 6, none⟩ = some (.int .i64 dv2)))
    (first
      | with_reducible exact ⟨(HD3.out _ HY10.out).cells, (HD4.out _ HY10.out).cells⟩
      | with_reducible exact ⟨(HD3.out _ HY9.out).cells, (HD4.out _ HY9.out).cells⟩
      | with_reducible exact ⟨(HD3.out _ HY8.out).cells, (HD4.out _ HY8.out).cells⟩
      | with_reducible exact ⟨(HD3.out _ (Ext.refl _)).cells, (HD4.out _ (Ext.refl _)).cells⟩
      | with_reducible exact ⟨(HD3.out _ (Ext.refl _).drew).cells, (HD4.out _ (Ext.refl _).drew).cells⟩
      | with_reducible exact ⟨((HD3.out _ HY10.out).only (((Only.refl _ _).setCell 0 _).setCell 1 _ |>.setCell 2 _) hn1).cells, ((HD4.out _ HY10.out).only (((Only.refl _ _).setCell 0 _).setCell 1 _ |>.setCell 2 _) hn2).cells⟩)
    (first
      | (go_at_call 30; refine (inverse_calls (HR7.out.2.2.1.ext (Ext.refl _).drew) (HR7.out.2.2.2.ext (Ext.refl _).drew) HD2.out (by have := HN.out; omega)).mono ?_; rintro e w8 ⟨p8, q8, A8, r8, s8, B8, rfl, hr, hs, he⟩; have HR8 := Lib.hid hr; have HS8 := Lib.hid hs; have HE8 : Hid (Ext w7 w8) := Lib.hid (((Ext.refl w7).drew).trans he); have HX8 := Lib.hid he; clear hr hs he; have HY8 := HE8)
      | (go_at_call 18; refine (mul_callsV (HR7.out.1.ext HE8.out) (HR7.out.2.1.ext HE8.out) HR8.out HS8.out (by have := HN.out; omega) (by have := HN.out; omega) HD1.out HD2.out).mono ?_; rintro e w9 ⟨p9, q9, A9, r9, s9, B9, rfl, hr, hs, he⟩; have HR9 := Lib.hid hr; have HS9 := Lib.hid hs; have HE9 : Hid (Ext w7 w9) := Lib.hid ((HE8.out).trans he); have HX9 := Lib.hid he; clear hr hs he; have HY9 := HE9)
      | (go_at_call 19; refine (write_calls HR9.out HS9.out (HTB.out.ext (HE0.out.trans (HE7.out.trans HE9.out))) (by have := HN.out; omega)).mono ?_; rintro e10 w10 ⟨rfl, he⟩; have HE10 : Hid (Ext w7 w10) := Lib.hid (HE9.out.trans he); have HY10 := HE10; have HZ10 : Hid (Ext w2 w10) := Lib.hid (HE7.out.trans HE10.out); clear he; obtain ⟨j0, j1, j2⟩ := (HV.out _ HZ10.out).cells; obtain ⟨f0, f1, f2⟩ := (HV.out _ HZ10.out).frozen))
  go_wp2
  refine ret_sur2 rfl (w.heap.size + 1 + 1) _ _ _ _ rfl rfl (putS_row (HV.out _ HZ10.out) _ _ _) rfl ?_
  exact ⟨rfl, (putS_only _ _ _ _ _).ext (HE0.out.trans HZ10.out) (by omega)⟩
set_option maxRecDepth 100000 in
set_option maxHeartbeats 400000 in
theorem Norm_err (sa sb : ByteArray) (d : Int) (n : Nat) (w : World) (hsa : sa.size ≤ n) (hsb : sb.size ≤ n) (hn : n ≤ 100000000) (h : readV sa.data.toList sb.data.toList d = none) :
    Calls Tryd.prog 8 #[.agg #[.string sa, .string sb, .int .i64 d]] w fun e w' => e = .returned (.tuple #[.string ⟨#[]⟩, .int .i64 1]) ∧ Ext w w' := by
  have HT := Lib.hid (fun W => one_none sa sb d n W hsa hsb (by omega) h)
  obtain ⟨w2, hw2⟩ : ∃ w2, w2 = (w.alloc (.cells #[.string sa, .string sb, .int .i64 d] 23)) := ⟨_, rfl⟩
  have HE0 : Hid (Ext w w2) := Lib.hid (by rw [hw2]; exact Ext.one _ _)
  have HC1 : Hid (∀ W, Ext w2 W → BoxS W w.heap.size sa sb d) := Lib.hid (fun W he => BoxS.ext (by rw [hw2]; exact heap_alloc_new w _) he)
  have HW2 := Lib.hid hw2
  obtain ⟨k0, k1, k2⟩ := (HC1.out _ (Ext.refl _)).cells
  clear hsa hsb hn h hw2
  go_enter Tryd.func8, Tryd.ntmps8
  go_wp2_with fail
  rw [← HW2.out]
  go_wp2_with (first
    | (go_at_call 20; refine (HT.out _).mono ?_; clear HT k0 k1 k2; rintro e3 w3 ⟨rfl, he⟩; have HE3 := Lib.hid he; clear he))
  go_ret2
  exact ⟨rfl, HE0.out.trans (HE3.out.alloc _)⟩
set_option maxRecDepth 100000 in
set_option maxHeartbeats 400000 in
theorem Sign_err (sa sb : ByteArray) (d : Int) (n : Nat) (w : World) (hsa : sa.size ≤ n) (hsb : sb.size ≤ n) (hn : n ≤ 100000000) (h : readV sa.data.toList sb.data.toList d = none) :
    Calls Tryd.prog 11 #[.agg #[.string sa, .string sb, .int .i64 d]] w fun e w' => e = .returned (.tuple #[.int .i64 0, .int .i64 1]) ∧ Ext w w' := by
  have HT := Lib.hid (fun W => one_none sa sb d n W hsa hsb (by omega) h)
  obtain ⟨w2, hw2⟩ : ∃ w2, w2 = (w.alloc (.cells #[.string sa, .string sb, .int .i64 d] 23)) := ⟨_, rfl⟩
  have HE0 : Hid (Ext w w2) := Lib.hid (by rw [hw2]; exact Ext.one _ _)
  have HC1 : Hid (∀ W, Ext w2 W → BoxS W w.heap.size sa sb d) := Lib.hid (fun W he => BoxS.ext (by rw [hw2]; exact heap_alloc_new w _) he)
  have HW2 := Lib.hid hw2
  obtain ⟨k0, k1, k2⟩ := (HC1.out _ (Ext.refl _)).cells
  clear hsa hsb hn h hw2
  go_enter Tryd.func11, Tryd.ntmps11
  go_wp2_with fail
  rw [← HW2.out]
  go_wp2_with (first
    | (go_at_call 20; refine (HT.out _).mono ?_; clear HT k0 k1 k2; rintro e3 w3 ⟨rfl, he⟩; have HE3 := Lib.hid he; clear he))
  go_ret2
  exact ⟨rfl, HE0.out.trans (HE3.out.alloc _)⟩
set_option maxRecDepth 100000 in
set_option maxHeartbeats 400000 in
theorem Norm_ok (sa sb : ByteArray) (d : Int) (n : Nat) (w : World) (hsa : sa.size ≤ n) (hsb : sb.size ≤ n) (hn : n ≤ 100000000) (v : SV) (h : readV sa.data.toList sb.data.toList d = some v) (htab : TabW w) :
    Calls Tryd.prog 8 #[.agg #[.string sa, .string sb, .int .i64 d]] w fun e w' => e = .returned (.tuple #[.string ⟨(textR (nrm v)).toArray⟩, .int .i64 0]) ∧ Ext w w' := by
  have HT := Lib.hid (fun W => one_some sa sb d n W hsa hsb (by omega) v h)
  have HD1 := Lib.hid (readV_d h)
  have HN := Lib.hid hn
  obtain ⟨w2, hw2⟩ : ∃ w2, w2 = (w.alloc (.cells #[.string sa, .string sb, .int .i64 d] 23)) := ⟨_, rfl⟩
  have HE0 : Hid (Ext w w2) := Lib.hid (by rw [hw2]; exact Ext.one _ _)
  have HC1 : Hid (∀ W, Ext w2 W → BoxS W w.heap.size sa sb d) := Lib.hid (fun W he => BoxS.ext (by rw [hw2]; exact heap_alloc_new w _) he)
  have HW2 := Lib.hid hw2
  obtain ⟨k0, k1, k2⟩ := (HC1.out _ (Ext.refl _)).cells
  obtain ⟨x1, y1, dv1⟩ := v
  have HTB := Lib.hid htab
  unfold nrm
  simp only []
  clear hsa hsb hn h hw2 htab
  go_enter Tryd.func8, Tryd.ntmps8
  go_wp2_with fail
  rw [← HW2.out]
  go_wp2_with (first
    | (go_at_call 20; refine (HT.out _).mono ?_; clear HT k0 k1 k2; rintro e3 w3 ⟨p3, q3, A3, r3, s3, B3, rfl, hr, hs, he⟩; have HR3 := Lib.hid hr; have HS3 := Lib.hid hs; have HE3 := Lib.hid he; clear hr hs he)
    | (go_at_call 21; refine (norm_calls x1 y1 dv1 _ _ _ _ _ _ _ _ (HR3.out.ext (Ext.one _ _)) (HS3.out.ext (Ext.one _ _)) HD1.out (by have := HN.out; omega)).mono ?_; rintro e w6 ⟨p6, q6, A6, rfl, hr, he⟩; have HR6 := Lib.hid hr; have HE6 : Hid (Ext w2 w6) := Lib.hid (((HE3.out.alloc (.cells #[.int .i64 p3, .int .i64 q3, .pointer A3, .int .i64 r3, .int .i64 s3, .pointer B3, .int .i64 dv1] 45))).trans he); have HX6 := Lib.hid he; clear hr he)
    | (go_at_call 22; refine (stringK HR6.out (HTB.out.ext (HE0.out.trans HE6.out)) (by have := HN.out; omega)).mono ?_; rintro e7 w7 ⟨rfl, he⟩; have HE7 : Hid (Ext w2 w7) := Lib.hid (HE6.out.trans he); clear he))
  go_ret2
  exact ⟨rfl, HE0.out.trans HE7.out⟩
set_option maxRecDepth 100000 in
set_option maxHeartbeats 400000 in
theorem Sign_ok (sa sb : ByteArray) (d : Int) (n : Nat) (w : World) (hsa : sa.size ≤ n) (hsb : sb.size ≤ n) (hn : n ≤ 100000000) (v : SV) (h : readV sa.data.toList sb.data.toList d = some v) :
    Calls Tryd.prog 11 #[.agg #[.string sa, .string sb, .int .i64 d]] w fun e w' => e = .returned (.tuple #[.int .i64 (signV v), .int .i64 0]) ∧ Ext w w' := by
  have HT := Lib.hid (fun W => one_some sa sb d n W hsa hsb (by omega) v h)
  have HD1 := Lib.hid (readV_d h)
  have HN := Lib.hid hn
  obtain ⟨w2, hw2⟩ : ∃ w2, w2 = (w.alloc (.cells #[.string sa, .string sb, .int .i64 d] 23)) := ⟨_, rfl⟩
  have HE0 : Hid (Ext w w2) := Lib.hid (by rw [hw2]; exact Ext.one _ _)
  have HC1 : Hid (∀ W, Ext w2 W → BoxS W w.heap.size sa sb d) := Lib.hid (fun W he => BoxS.ext (by rw [hw2]; exact heap_alloc_new w _) he)
  have HW2 := Lib.hid hw2
  obtain ⟨k0, k1, k2⟩ := (HC1.out _ (Ext.refl _)).cells
  obtain ⟨x1, y1, dv1⟩ := v
  generalize hsv : signV ⟨x1, y1, dv1⟩ = sv at *
  have HSV := Lib.hid hsv
  clear hsa hsb hn h hw2 hsv
  go_enter Tryd.func11, Tryd.ntmps11
  go_wp2_with fail
  rw [← HW2.out]
  go_wp2_with (first
    | (go_at_call 20; refine (HT.out _).mono ?_; clear HT k0 k1 k2; rintro e3 w3 ⟨p3, q3, A3, r3, s3, B3, rfl, hr, hs, he⟩; have HR3 := Lib.hid hr; have HS3 := Lib.hid hs; have HE3 := Lib.hid he; clear hr hs he)
    | (go_at_call 26; refine (signV_calls (HR3.out.ext (Ext.one _ _)) (HS3.out.ext (Ext.one _ _)) HD1.out (by have := HN.out; omega)).mono ?_; rw [HSV.out]; rintro e7 w7 ⟨rfl, he⟩; have HE7 : Hid (Ext w2 w7) := Lib.hid ((HE3.out.alloc (.cells #[.int .i64 p3, .int .i64 q3, .pointer A3, .int .i64 r3, .int .i64 s3, .pointer B3, .int .i64 dv1] 45)).trans he); clear he))
  go_ret2
  exact ⟨rfl, HE0.out.trans HE7.out⟩
set_option maxRecDepth 100000 in
set_option maxHeartbeats 400000 in
theorem Conjugate_err (sa sb : ByteArray) (d : Int) (n : Nat) (w : World) (hsa : sa.size ≤ n) (hsb : sb.size ≤ n) (hn : n ≤ 100000000) (h : readV sa.data.toList sb.data.toList d = none) :
    Calls Tryd.prog 9 #[.agg #[.string sa, .string sb, .int .i64 d]] w (SurErr w 1) := by
  have HT := Lib.hid (fun W => one_none sa sb d n W hsa hsb (by omega) h)
  obtain ⟨w2, hw2⟩ : ∃ w2, w2 = ((w.alloc (.cells #[.string sa, .string sb, .int .i64 d] 23)).alloc (.cells #[.string ⟨#[]⟩, .string ⟨#[]⟩, .int .i64 0] 23)) := ⟨_, rfl⟩
  have HE0 : Hid (Ext w w2) := Lib.hid (by rw [hw2]; exact Ext.two _ _ _)
  have HC1 : Hid (∀ W, Ext w2 W → BoxS W w.heap.size sa sb d) := Lib.hid (fun W he => BoxS.ext (by rw [hw2]; exact BoxS.ext (heap_alloc_new w _) (Ext.one _ _)) he)
  have HV : Hid (∀ W, Ext w2 W → BoxS W (w.heap.size + 1) ⟨#[]⟩ ⟨#[]⟩ 0) := Lib.hid (fun W he => BoxS.ext (by rw [hw2]; exact heap_alloc2_new w _ _) he)
  have HW2 := Lib.hid hw2
  obtain ⟨k0, k1, k2⟩ := (HC1.out _ (Ext.refl _)).cells
  clear hsa hsb hn h hw2
  go_enter Tryd.func9, Tryd.ntmps9
  go_wp2_with fail
  rw [← HW2.out]
  go_wp2_with (first
    | (go_at_call 20; refine (HT.out _).mono ?_; clear HT k0 k1 k2; rintro e3 w3 ⟨rfl, he⟩; have HE3 := Lib.hid he; clear he; obtain ⟨j0, j1, j2⟩ := (HV.out _ (HE3.out.alloc (.cells #[.int .i64 0, .int .i64 0, .pointer none, .int .i64 0, .int .i64 0, .pointer none, .int .i64 0] 45))).cells; obtain ⟨f0, f1, f2⟩ := (HV.out _ (HE3.out.alloc (.cells #[.int .i64 0, .int .i64 0, .pointer none, .int .i64 0, .int .i64 0, .pointer none, .int .i64 0] 45))).frozen))
  refine ret_sur2 rfl (w.heap.size + 1) _ _ _ _ rfl rfl (putS_row (HV.out _ (HE3.out.alloc _)) ⟨#[]⟩ ⟨#[]⟩ 0) rfl ?_
  exact ⟨rfl, (putS_only _ _ _ _ _).ext (HE0.out.trans (HE3.out.alloc _)) (by omega)⟩
set_option maxRecDepth 100000 in
set_option maxHeartbeats 400000 in
theorem Conjugate_ok (sa sb : ByteArray) (d : Int) (n : Nat) (w : World) (hsa : sa.size ≤ n) (hsb : sb.size ≤ n) (hn : n ≤ 100000000) (v : SV) (h : readV sa.data.toList sb.data.toList d = some v) (htab : TabW w) :
    Calls Tryd.prog 9 #[.agg #[.string sa, .string sb, .int .i64 d]] w (SurOk w (conjV v)) := by
  have HT := Lib.hid (fun W => one_some sa sb d n W hsa hsb (by omega) v h)
  have HD1 := Lib.hid (readV_d h)
  have HN := Lib.hid hn
  obtain ⟨w2, hw2⟩ : ∃ w2, w2 = ((w.alloc (.cells #[.string sa, .string sb, .int .i64 d] 23)).alloc (.cells #[.string ⟨#[]⟩, .string ⟨#[]⟩, .int .i64 0] 23)) := ⟨_, rfl⟩
  have HE0 : Hid (Ext w w2) := Lib.hid (by rw [hw2]; exact Ext.two _ _ _)
  have HC1 : Hid (∀ W, Ext w2 W → BoxS W w.heap.size sa sb d) := Lib.hid (fun W he => BoxS.ext (by rw [hw2]; exact BoxS.ext (heap_alloc_new w _) (Ext.one _ _)) he)
  have HV : Hid (∀ W, Ext w2 W → BoxS W (w.heap.size + 1) ⟨#[]⟩ ⟨#[]⟩ 0) := Lib.hid (fun W he => BoxS.ext (by rw [hw2]; exact heap_alloc2_new w _ _) he)
  have HW2 := Lib.hid hw2
  obtain ⟨k0, k1, k2⟩ := (HC1.out _ (Ext.refl _)).cells
  obtain ⟨x1, y1, dv1⟩ := v
  have HTB := Lib.hid htab
  unfold SurOk conjV
  simp only []
  clear hsa hsb hn h hw2 htab
  go_enter Tryd.func9, Tryd.ntmps9
  go_wp2_with fail
  rw [← HW2.out]
  go_wp2_with (first
    | (go_at_call 20; refine (HT.out _).mono ?_; clear HT k0 k1 k2; rintro e3 w3 ⟨p3, q3, A3, r3, s3, B3, rfl, hr, hs, he⟩; have HR3 := Lib.hid hr; have HS3 := Lib.hid hs; have HE3 := Lib.hid he; clear hr hs he))
  obtain ⟨w4, hw4⟩ : ∃ w4, w4 = w3.alloc (.cells #[.int .i64 p3, .int .i64 q3, .pointer A3, .int .i64 r3, .int .i64 s3, .pointer B3, .int .i64 dv1] 45) := ⟨_, rfl⟩
  obtain ⟨g4, hg4⟩ : ∃ g4, g4 = w3.heap.size := ⟨_, rfl⟩
  have HE4 : Hid (Ext w2 w4) := Lib.hid (by rw [hw4]; exact HE3.out.alloc _)
  have HD3 : Hid (∀ W, Ext w4 W → BoxV W g4 p3 q3 A3 r3 s3 B3 dv1) := Lib.hid (fun W he => BoxV.ext (by rw [hw4, hg4]; exact boxV_new w3 p3 q3 A3 r3 s3 B3 dv1) he)
  have HR4 : Hid (RA (4 * n + 4) w4 x1 (.agg #[.int .i64 p3, .int .i64 q3, .pointer A3]) ∧ RA (4 * n + 4) w4 y1 (.agg #[.int .i64 r3, .int .i64 s3, .pointer B3])) := Lib.hid (by rw [hw4]; exact ⟨HR3.out.ext (Ext.one _ _), HS3.out.ext (Ext.one _ _)⟩)
  have hn1 : g4 ≠ w.heap.size + 1 := by
    have h1 := HE3.out.le
    have h2 : w2.heap.size = w.heap.size + 1 + 1 := by rw [HW2.out]; simp
    omega
  rw [← hw4, ← hg4]
  clear hw4 hg4
  go_region_held3 (fun W => W.cell? ⟨g4, 0, none⟩ = some (.int .i64 p3) ∧ W.cell? ⟨g4, 1, none⟩ = some (.int .i64 q3) ∧ W.cell? ⟨g4, 2, none⟩ = some (.pointer A3) ∧ W.cell? ⟨g4, 3, none⟩ = some (.int .i64 r3) ∧ W.cell? ⟨g4, 4, none⟩ = some (.int .i64 s3) ∧ W.cell? ⟨g4, 5, none⟩ = some (.pointer B3) ∧ W.cell? ⟨g4, 6, none⟩ = some (.int .i64 dv1))
    (first
      | with_reducible exact (HD3.out _ HY6.out).cells
      | with_reducible exact (HD3.out _ HY5.out).cells
      | with_reducible exact (HD3.out _ (Ext.refl _)).cells
      | with_reducible exact (HD3.out _ (Ext.refl _).drew).cells
      | with_reducible exact ((HD3.out _ HY6.out).only (((Only.refl _ _).setCell 0 _).setCell 1 _ |>.setCell 2 _) hn1).cells)
    (first
      | (go_at_call 23; refine (negK (HR4.out.2.ext (Ext.refl _).drew)).mono ?_; rintro e w5 ⟨p5, q5, A5, rfl, hr, he⟩; have HR5 := Lib.hid hr; have HE5 : Hid (Ext w4 w5) := Lib.hid (((Ext.refl w4).drew).trans he); have HX5 := Lib.hid he; clear hr he; have HY5 := HE5)
      | (go_at_call 19; refine (write_calls (HR4.out.1.ext HE5.out) HR5.out (HTB.out.ext (HE0.out.trans (HE4.out.trans HE5.out))) (by have := HN.out; omega)).mono ?_; rintro e6 w6 ⟨rfl, he⟩; have HY6 : Hid (Ext w4 w6) := Lib.hid (HE5.out.trans he); have HZ6 : Hid (Ext w2 w6) := Lib.hid (HE4.out.trans HY6.out); clear he; obtain ⟨j0, j1, j2⟩ := (HV.out _ HZ6.out).cells; obtain ⟨f0, f1, f2⟩ := (HV.out _ HZ6.out).frozen))
  go_wp2
  refine ret_sur2 rfl (w.heap.size + 1) _ _ _ _ rfl rfl (putS_row (HV.out _ HZ6.out) _ _ _) rfl ?_
  exact ⟨rfl, (putS_only _ _ _ _ _).ext (HE0.out.trans HZ6.out) (by omega)⟩
end Go.Proofs.YtpgnlpjjpgdoiaaDoor
/- surd: Make. -/
namespace Go.Proofs.YtpgnlpjjpgdoiaaDoor
open Go Go.RowKit SurdM
set_option linter.unusedVariables false
set_option linter.unusedSimpArgs false
theorem BoxR.frozen {w : World} {g : Nat} {p q : Int} {A : Option Addr} (h : BoxR w g p q A) : w.frozen? ⟨g, 0, none⟩ = false ∧ w.frozen? ⟨g, 1, none⟩ = false ∧ w.frozen? ⟨g, 2, none⟩ = false := by
  refine ⟨?_, ?_, ?_⟩ <;> exact frozen_of_row _ _ _ _ _ h
theorem BoxR.noR {w : World} {g : Nat} {p q : Int} {A : Option Addr} (h : BoxR w g p q A) : NoR w g := noR_of h (by intro v hv; simp at hv; rcases hv with rfl | rfl | rfl <;> simp)
theorem BoxR.onlyR4 {w w' : World} {g k : Nat} {p q : Int} {A : Option Addr} (h : BoxR w g p q A) (ho : Only k w w') (hn : g ≠ k) : BoxR w' g p q A := ho.obj h hn
theorem putR_rowB {w : World} {g : Nat} {p0 q0 : Int} {A0 : Option Addr} (h : BoxR w g p0 q0 A0) (p q : Int) (A : Option Addr) : BoxR (putR w g p q A) g p q A := by
  unfold putR BoxR
  rw [heap_setCell_same _ g 2 _ _ _ (heap_setCell_same _ g 1 _ _ _ (heap_setCell_same _ g 0 _ _ _ h))]
  rfl
set_option maxRecDepth 100000 in
set_option maxHeartbeats 400000 in
theorem Make_n1 (sa sb : ByteArray) (d : Int) (n : Nat) (w : World) (hsa : sa.size ≤ n) (hsb : sb.size ≤ n) (hn : n ≤ 100000000) (h1 : ofB sa.data.toList = none)   :
    Calls Tryd.prog 16 #[.string sa, .string sb, .int .i64 d] w (SurErr w 1) := by
  have HO1 := Lib.hid (fun W => (ofK sa n W hsa (by omega)).mono fun _ _ h => h.none)
  have HO2 := Lib.hid (fun W => (ofK sb n W hsb (by omega)).mono fun _ _ h => h.none)
  rw [h1] at HO1
  generalize (ofB sb.data.toList).isSome = t2 at *
  obtain ⟨w2, hw2⟩ : ∃ w2, w2 = (w.alloc (.cells #[.string ⟨#[]⟩, .string ⟨#[]⟩, .int .i64 0] 23)) := ⟨_, rfl⟩
  have HE0 : Hid (Ext w w2) := Lib.hid (by rw [hw2]; exact Ext.one _ _)
  have HV : Hid (∀ W, Ext w2 W → BoxS W w.heap.size ⟨#[]⟩ ⟨#[]⟩ 0) := Lib.hid (fun W he => BoxS.ext (by rw [hw2]; exact heap_alloc_new w _) he)
  have HW2 := Lib.hid hw2
  have HN := Lib.hid hn
  
  clear hsa hsb hn h1  hw2
  go_enter Tryd.func16, Tryd.ntmps16
  go_wp2_with fail
  rw [← HW2.out]
  go_wp2_with (first
    | (go_at_call 31; refine (HO1.out _).mono ?_; rintro e w3 ⟨p3, q3, A3, rfl, he⟩; have HE3 : Hid (Ext w2 w3) := Lib.hid ((Ext.refl w2).trans he); have HX3 := Lib.hid he; clear he; clear HO1)
    | (go_at_call 31; refine (HO2.out _).mono ?_; rintro e w5 ⟨p5, q5, A5, rfl, he⟩; have HE5 : Hid (Ext w2 w5) := Lib.hid ((HE3.out.alloc (.cells #[.int .i64 p3, .int .i64 q3, .pointer A3] 43)).trans he); have HX5 := Lib.hid he; clear he; clear HO2; obtain ⟨j0, j1, j2⟩ := (HV.out _ (HE5.out.alloc (.cells #[.int .i64 p5, .int .i64 q5, .pointer A5] 43))).cells; obtain ⟨f0, f1, f2⟩ := (HV.out _ (HE5.out.alloc (.cells #[.int .i64 p5, .int .i64 q5, .pointer A5] 43))).frozen; obtain ⟨e0, e1, e2⟩ := (BoxR.ext (BoxR.new w3 p3 q3 A3) (HX5.out.alloc (.cells #[.int .i64 p5, .int .i64 q5, .pointer A5] 43))).cells))
  refine ret_sur2 rfl w.heap.size _ _ _ _ rfl rfl (putS_row (HV.out _ (HE5.out.alloc (.cells #[.int .i64 p5, .int .i64 q5, .pointer A5] 43))) ⟨#[]⟩ ⟨#[]⟩ 0) rfl ?_
  exact ⟨rfl, (putS_only _ _ _ _ _).ext (HE0.out.trans (HE5.out.alloc (.cells #[.int .i64 p5, .int .i64 q5, .pointer A5] 43))) (by omega)⟩
set_option maxRecDepth 100000 in
set_option maxHeartbeats 400000 in
theorem Make_n2 (sa sb : ByteArray) (d : Int) (n : Nat) (w : World) (hsa : sa.size ≤ n) (hsb : sb.size ≤ n) (hn : n ≤ 100000000) (x : Rat) (h1 : ofB sa.data.toList = some x) (h2 : ofB sb.data.toList = none)  :
    Calls Tryd.prog 16 #[.string sa, .string sb, .int .i64 d] w (SurErr w 1) := by
  have HO1 := Lib.hid (fun W => (ofK sa n W hsa (by omega)).mono fun _ _ h => h.some h1)
  have HO2 := Lib.hid (fun W => (ofK sb n W hsb (by omega)).mono fun _ _ h => h.none)
  
  rw [h2] at HO2
  obtain ⟨w2, hw2⟩ : ∃ w2, w2 = (w.alloc (.cells #[.string ⟨#[]⟩, .string ⟨#[]⟩, .int .i64 0] 23)) := ⟨_, rfl⟩
  have HE0 : Hid (Ext w w2) := Lib.hid (by rw [hw2]; exact Ext.one _ _)
  have HV : Hid (∀ W, Ext w2 W → BoxS W w.heap.size ⟨#[]⟩ ⟨#[]⟩ 0) := Lib.hid (fun W he => BoxS.ext (by rw [hw2]; exact heap_alloc_new w _) he)
  have HW2 := Lib.hid hw2
  have HN := Lib.hid hn
  
  clear hsa hsb hn h1 h2 hw2
  go_enter Tryd.func16, Tryd.ntmps16
  go_wp2_with fail
  rw [← HW2.out]
  go_wp2_with (first
    | (go_at_call 31; refine (HO1.out _).mono ?_; rintro e w3 ⟨p3, q3, A3, rfl, hr, he⟩; have HR3 := Lib.hid hr; have HE3 : Hid (Ext w2 w3) := Lib.hid ((Ext.refl w2).trans he); have HX3 := Lib.hid he; clear hr he; clear HO1)
    | (go_at_call 31; refine (HO2.out _).mono ?_; rintro e w5 ⟨p5, q5, A5, rfl, he⟩; have HE5 : Hid (Ext w2 w5) := Lib.hid ((HE3.out.alloc (.cells #[.int .i64 p3, .int .i64 q3, .pointer A3] 43)).trans he); have HX5 := Lib.hid he; clear he; clear HO2; obtain ⟨j0, j1, j2⟩ := (HV.out _ (HE5.out.alloc (.cells #[.int .i64 p5, .int .i64 q5, .pointer A5] 43))).cells; obtain ⟨f0, f1, f2⟩ := (HV.out _ (HE5.out.alloc (.cells #[.int .i64 p5, .int .i64 q5, .pointer A5] 43))).frozen; obtain ⟨e0, e1, e2⟩ := (BoxR.ext (BoxR.new w3 p3 q3 A3) (HX5.out.alloc (.cells #[.int .i64 p5, .int .i64 q5, .pointer A5] 43))).cells))
  refine ret_sur2 rfl w.heap.size _ _ _ _ rfl rfl (putS_row (HV.out _ (HE5.out.alloc (.cells #[.int .i64 p5, .int .i64 q5, .pointer A5] 43))) ⟨#[]⟩ ⟨#[]⟩ 0) rfl ?_
  exact ⟨rfl, (putS_only _ _ _ _ _).ext (HE0.out.trans (HE5.out.alloc (.cells #[.int .i64 p5, .int .i64 q5, .pointer A5] 43))) (by omega)⟩
set_option maxRecDepth 100000 in
set_option maxHeartbeats 400000 in
theorem Make_lo (sa sb : ByteArray) (d : Int) (n : Nat) (w : World) (hsa : sa.size ≤ n) (hsb : sb.size ≤ n) (hn : n ≤ 100000000) (x : Rat) (h1 : ofB sa.data.toList = some x) (y : Rat) (h2 : ofB sb.data.toList = some y) (hd : d < 0) :
    Calls Tryd.prog 16 #[.string sa, .string sb, .int .i64 d] w (SurErr w 3) := by
  have HO1 := Lib.hid (fun W => (ofK sa n W hsa (by omega)).mono fun _ _ h => h.some h1)
  have HO2 := Lib.hid (fun W => (ofK sb n W hsb (by omega)).mono fun _ _ h => h.some h2)
  
  
  obtain ⟨w2, hw2⟩ : ∃ w2, w2 = (w.alloc (.cells #[.string ⟨#[]⟩, .string ⟨#[]⟩, .int .i64 0] 23)) := ⟨_, rfl⟩
  have HE0 : Hid (Ext w w2) := Lib.hid (by rw [hw2]; exact Ext.one _ _)
  have HV : Hid (∀ W, Ext w2 W → BoxS W w.heap.size ⟨#[]⟩ ⟨#[]⟩ 0) := Lib.hid (fun W he => BoxS.ext (by rw [hw2]; exact heap_alloc_new w _) he)
  have HW2 := Lib.hid hw2
  have HN := Lib.hid hn
  
  clear hsa hsb hn h1 h2 hw2
  go_enter Tryd.func16, Tryd.ntmps16
  go_wp2_with fail
  rw [← HW2.out]
  go_wp2_with (first
    | (go_at_call 31; refine (HO1.out _).mono ?_; rintro e w3 ⟨p3, q3, A3, rfl, hr, he⟩; have HR3 := Lib.hid hr; have HE3 : Hid (Ext w2 w3) := Lib.hid ((Ext.refl w2).trans he); have HX3 := Lib.hid he; clear hr he; clear HO1)
    | (go_at_call 31; refine (HO2.out _).mono ?_; rintro e w5 ⟨p5, q5, A5, rfl, hr, he⟩; have HR5 := Lib.hid hr; have HE5 : Hid (Ext w2 w5) := Lib.hid ((HE3.out.alloc (.cells #[.int .i64 p3, .int .i64 q3, .pointer A3] 43)).trans he); have HX5 := Lib.hid he; clear hr he; clear HO2; obtain ⟨j0, j1, j2⟩ := (HV.out _ (HE5.out.alloc (.cells #[.int .i64 p5, .int .i64 q5, .pointer A5] 43))).cells; obtain ⟨f0, f1, f2⟩ := (HV.out _ (HE5.out.alloc (.cells #[.int .i64 p5, .int .i64 q5, .pointer A5] 43))).frozen; obtain ⟨e0, e1, e2⟩ := (BoxR.ext (BoxR.new w3 p3 q3 A3) (HX5.out.alloc (.cells #[.int .i64 p5, .int .i64 q5, .pointer A5] 43))).cells))
  refine ret_sur2 rfl w.heap.size _ _ _ _ rfl rfl (putS_row (HV.out _ (HE5.out.alloc (.cells #[.int .i64 p5, .int .i64 q5, .pointer A5] 43))) ⟨#[]⟩ ⟨#[]⟩ 0) rfl ?_
  exact ⟨rfl, (putS_only _ _ _ _ _).ext (HE0.out.trans (HE5.out.alloc (.cells #[.int .i64 p5, .int .i64 q5, .pointer A5] 43))) (by omega)⟩
set_option maxRecDepth 100000 in
set_option maxHeartbeats 400000 in
theorem Make_hi (sa sb : ByteArray) (d : Int) (n : Nat) (w : World) (hsa : sa.size ≤ n) (hsb : sb.size ≤ n) (hn : n ≤ 100000000) (x : Rat) (h1 : ofB sa.data.toList = some x) (y : Rat) (h2 : ofB sb.data.toList = some y) (hd : 1000000 < d) :
    Calls Tryd.prog 16 #[.string sa, .string sb, .int .i64 d] w (SurErr w 3) := by
  have HO1 := Lib.hid (fun W => (ofK sa n W hsa (by omega)).mono fun _ _ h => h.some h1)
  have HO2 := Lib.hid (fun W => (ofK sb n W hsb (by omega)).mono fun _ _ h => h.some h2)
  
  
  obtain ⟨w2, hw2⟩ : ∃ w2, w2 = (w.alloc (.cells #[.string ⟨#[]⟩, .string ⟨#[]⟩, .int .i64 0] 23)) := ⟨_, rfl⟩
  have HE0 : Hid (Ext w w2) := Lib.hid (by rw [hw2]; exact Ext.one _ _)
  have HV : Hid (∀ W, Ext w2 W → BoxS W w.heap.size ⟨#[]⟩ ⟨#[]⟩ 0) := Lib.hid (fun W he => BoxS.ext (by rw [hw2]; exact heap_alloc_new w _) he)
  have HW2 := Lib.hid hw2
  have HN := Lib.hid hn
  have hd2 : ¬ d < 0 := by omega
  clear hsa hsb hn h1 h2 hw2
  go_enter Tryd.func16, Tryd.ntmps16
  go_wp2_with fail
  rw [← HW2.out]
  go_wp2_with (first
    | (go_at_call 31; refine (HO1.out _).mono ?_; rintro e w3 ⟨p3, q3, A3, rfl, hr, he⟩; have HR3 := Lib.hid hr; have HE3 : Hid (Ext w2 w3) := Lib.hid ((Ext.refl w2).trans he); have HX3 := Lib.hid he; clear hr he; clear HO1)
    | (go_at_call 31; refine (HO2.out _).mono ?_; rintro e w5 ⟨p5, q5, A5, rfl, hr, he⟩; have HR5 := Lib.hid hr; have HE5 : Hid (Ext w2 w5) := Lib.hid ((HE3.out.alloc (.cells #[.int .i64 p3, .int .i64 q3, .pointer A3] 43)).trans he); have HX5 := Lib.hid he; clear hr he; clear HO2; obtain ⟨j0, j1, j2⟩ := (HV.out _ (HE5.out.alloc (.cells #[.int .i64 p5, .int .i64 q5, .pointer A5] 43))).cells; obtain ⟨f0, f1, f2⟩ := (HV.out _ (HE5.out.alloc (.cells #[.int .i64 p5, .int .i64 q5, .pointer A5] 43))).frozen; obtain ⟨e0, e1, e2⟩ := (BoxR.ext (BoxR.new w3 p3 q3 A3) (HX5.out.alloc (.cells #[.int .i64 p5, .int .i64 q5, .pointer A5] 43))).cells))
  refine ret_sur2 rfl w.heap.size _ _ _ _ rfl rfl (putS_row (HV.out _ (HE5.out.alloc (.cells #[.int .i64 p5, .int .i64 q5, .pointer A5] 43))) ⟨#[]⟩ ⟨#[]⟩ 0) rfl ?_
  exact ⟨rfl, (putS_only _ _ _ _ _).ext (HE0.out.trans (HE5.out.alloc (.cells #[.int .i64 p5, .int .i64 q5, .pointer A5] 43))) (by omega)⟩
set_option maxRecDepth 100000 in
set_option maxHeartbeats 400000 in
theorem Make_zero (sa sb : ByteArray) (n : Nat) (w : World) (hsa : sa.size ≤ n) (hsb : sb.size ≤ n) (hn : n ≤ 100000000) (x : Rat) (h1 : ofB sa.data.toList = some x) (y : Rat) (h2 : ofB sb.data.toList = some y) (htab : TabW w) :
    Calls Tryd.prog 16 #[.string sa, .string sb, .int .i64 0] w (SurOk w ⟨x, 0, 1⟩) := by
  have HO1 := Lib.hid (fun W => (ofK sa n W hsa (by omega)).mono fun _ _ h => h.some h1)
  have HO2 := Lib.hid (fun W => (ofK sb n W hsb (by omega)).mono fun _ _ h => h.some h2)
  
  
  obtain ⟨w2, hw2⟩ : ∃ w2, w2 = (w.alloc (.cells #[.string ⟨#[]⟩, .string ⟨#[]⟩, .int .i64 0] 23)) := ⟨_, rfl⟩
  have HE0 : Hid (Ext w w2) := Lib.hid (by rw [hw2]; exact Ext.one _ _)
  have HV : Hid (∀ W, Ext w2 W → BoxS W w.heap.size ⟨#[]⟩ ⟨#[]⟩ 0) := Lib.hid (fun W he => BoxS.ext (by rw [hw2]; exact heap_alloc_new w _) he)
  have HW2 := Lib.hid hw2
  have HN := Lib.hid hn
  have HTB := Lib.hid htab
  clear htab
  unfold SurOk
  simp only []
  clear hsa hsb hn h1 h2 hw2
  go_enter Tryd.func16, Tryd.ntmps16
  go_wp2_with fail
  rw [← HW2.out]
  go_wp2_with (first
    | (go_at_call 31; refine (HO1.out _).mono ?_; rintro e w3 ⟨p3, q3, A3, rfl, hr, he⟩; have HR3 := Lib.hid hr; have HE3 : Hid (Ext w2 w3) := Lib.hid ((Ext.refl w2).trans he); have HX3 := Lib.hid he; clear hr he; clear HO1)
    | (go_at_call 31; refine (HO2.out _).mono ?_; rintro e w5 ⟨p5, q5, A5, rfl, hr, he⟩; have HR5 := Lib.hid hr; have HE5 : Hid (Ext w2 w5) := Lib.hid ((HE3.out.alloc (.cells #[.int .i64 p3, .int .i64 q3, .pointer A3] 43)).trans he); have HX5 := Lib.hid he; clear hr he; clear HO2; obtain ⟨j0, j1, j2⟩ := (HV.out _ (HE5.out.alloc (.cells #[.int .i64 p5, .int .i64 q5, .pointer A5] 43))).cells; obtain ⟨f0, f1, f2⟩ := (HV.out _ (HE5.out.alloc (.cells #[.int .i64 p5, .int .i64 q5, .pointer A5] 43))).frozen; obtain ⟨e0, e1, e2⟩ := (BoxR.ext (BoxR.new w3 p3 q3 A3) (HX5.out.alloc (.cells #[.int .i64 p5, .int .i64 q5, .pointer A5] 43))).cells)
    | (go_at_call 32; refine (rational_calls _ _ _ _ _ _ (HR3.out.ext ((Ext.one _ _).trans (HX5.out.alloc (.cells #[.int .i64 p5, .int .i64 q5, .pointer A5] 43)))) (by omega)).mono ?_; rintro e w7 ⟨p7, q7, A7, r7, s7, B7, rfl, hr, hs, he⟩; have HR7 := Lib.hid hr; have HS7 := Lib.hid hs; have HE7 : Hid (Ext w2 w7) := Lib.hid (((HE5.out.alloc (.cells #[.int .i64 p5, .int .i64 q5, .pointer A5] 43))).trans he); have HX7 := Lib.hid he; clear hr hs he)
    | (go_at_call 19; refine (write_calls HR7.out HS7.out (HTB.out.ext (HE0.out.trans HE7.out)) (by have := HN.out; omega)).mono ?_; rintro e8 w8 ⟨rfl, he⟩; have HE8 : Hid (Ext w2 w8) := Lib.hid (HE7.out.trans he); clear he j0 j1 j2 f0 f1 f2; obtain ⟨j0, j1, j2⟩ := (HV.out _ HE8.out).cells; obtain ⟨f0, f1, f2⟩ := (HV.out _ HE8.out).frozen))
  refine ret_sur2 rfl w.heap.size _ _ _ _ rfl rfl (putS_row (HV.out _ HE8.out) _ _ _) rfl ?_
  exact ⟨rfl, (putS_only _ _ _ _ _).ext (HE0.out.trans HE8.out) (by omega)⟩
/-- What holds in the loops of Make: f * f * e = d; no square of a number below k divides e. -/
structure DecI (d e f : Int) (k : Nat) : Prop where
  eq : f * f * e = d
  f1 : 1 ≤ f
  e1 : 1 ≤ e
  nd : ∀ j : Int, 2 ≤ j → j < k → ¬ (j * j ∣ e)
  kb : k ≤ 1001
theorem DecI.bnd {d e f : Int} {k : Nat} (h : DecI d e f k) (hd : d ≤ 1000000) : f ≤ 1000 ∧ e ≤ 1000000 := by
  have h1 := h.eq; have h2 := h.f1; have h3 := h.e1
  have h4 : 1 * 1 ≤ f * f := Int.mul_le_mul h2 h2 (by decide) (by omega)
  have h5 : f * f * 1 ≤ f * f * e := Int.mul_le_mul_of_nonneg_left h3 (by omega)
  have h6 : 1 * e ≤ f * f * e := Int.mul_le_mul_of_nonneg_right (by omega) (by omega)
  refine ⟨?_, by omega⟩
  rcases Int.lt_or_le 1000 f with h7 | h7
  · have h8 : 1001 * 1001 ≤ f * f := Int.mul_le_mul (by omega) (by omega) (by decide) (by omega)
    omega
  · exact h7
theorem DecI.step {d e f : Int} {k : Nat} (h : DecI d e f k) (hk : 2 ≤ k) (hz : e % ((k : Int) * k) = 0) : DecI d (e / ((k : Int) * k)) (f * k) k ∧ e / ((k : Int) * k) < e ∧ 0 ≤ e / ((k : Int) * k) := by
  have hm : (4 : Int) ≤ (k : Int) * k := Int.mul_le_mul (a := 2) (b := 2) (by omega) (by omega) (by decide) (by omega)
  have hf1 := h.f1
  have he1 := h.e1
  have hd := Int.dvd_of_emod_eq_zero hz
  obtain ⟨q, hq⟩ := hd
  have h1 : e / ((k : Int) * k) = q := by rw [hq]; exact Int.mul_ediv_cancel_left _ (by omega)
  rw [h1]
  have hq1 : 1 ≤ q := by
    rcases Int.lt_or_le 0 q with h2 | h2
    · omega
    · exfalso
      have h3 : (k : Int) * k * q ≤ (k : Int) * k * 0 := Int.mul_le_mul_of_nonneg_left h2 (by omega)
      rw [Int.mul_zero] at h3; omega
  have hlt : q < e := by
    have h2 : 4 * q ≤ (k : Int) * k * q := Int.mul_le_mul_of_nonneg_right hm (by omega)
    omega
  refine ⟨⟨?_, ?_, hq1, fun j h2 h3 h4 => h.nd j h2 h3 ?_, h.kb⟩, hlt, by omega⟩
  · have := h.eq; rw [hq] at this; rw [← this]; grind
  · have h2 : 1 * 1 ≤ f * (k : Int) := Int.mul_le_mul h.f1 (by omega) (by decide) (by omega)
    omega
  · rw [hq]; exact Int.dvd_trans h4 (Int.dvd_mul_left _ _)
theorem DecI.next {d e f : Int} {k : Nat} (h : DecI d e f k) (hk : 2 ≤ k) (hz : e % ((k : Int) * k) ≠ 0) (hb : k + 1 ≤ 1001) : DecI d e f (k + 1) := by
  refine ⟨h.eq, h.f1, h.e1, fun j h1 h2 h3 => ?_, hb⟩
  rcases Int.lt_or_le j k with h4 | h4
  · exact h.nd j h1 h4 h3
  · have h5 : j = (k : Int) := by omega
    rw [h5] at h3; exact hz (Int.emod_eq_zero_of_dvd h3)
theorem DecI.sqF {d e f : Int} {k : Nat} (h : DecI d e f k) (hk : e < (k : Int) * k) : SqF e := by
  intro j h1 h2 h3
  rcases Int.lt_or_le j k with h4 | h4
  · exact h.nd j h1 h4 (Int.dvd_of_emod_eq_zero h3)
  · have h5 : (k : Int) * k ≤ j * j := Int.mul_le_mul h4 h4 (by omega) (by omega)
    omega
/-- The value that Make gives. -/
noncomputable def makeV (x y : Rat) (f e : Int) : SV := if e = 1 then ⟨x + y * (f : Rat), 0, 1⟩ else norml ⟨x, y * (f : Rat), e⟩
/-- What Make returns for a positive radicand. -/
def MkPost (w : World) (x y : Rat) (d : Int) (en : Ending) (w' : World) : Prop := ∃ f e : Int, f * f * e = d ∧ 1 ≤ f ∧ 1 ≤ e ∧ SqF e ∧ SurOk w (makeV x y f e) en w' 
set_option maxRecDepth 100000 in
set_option maxHeartbeats 400000 in
theorem Make_gen (sa sb : ByteArray) (d : Int) (n : Nat) (w : World) (hsa : sa.size ≤ n) (hsb : sb.size ≤ n) (hn : n ≤ 100000000) (x : Rat) (h1 : ofB sa.data.toList = some x) (y : Rat) (h2 : ofB sb.data.toList = some y) (hd : 1 ≤ d ∧ d ≤ 1000000) (htab : TabW w) :
    Calls Tryd.prog 16 #[.string sa, .string sb, .int .i64 d] w (MkPost w x y d) := by
  have HO1 := Lib.hid (fun W => (ofK sa n W hsa (by omega)).mono fun _ _ h => h.some h1)
  have HO2 := Lib.hid (fun W => (ofK sb n W hsb (by omega)).mono fun _ _ h => h.some h2)
  
  
  obtain ⟨w2, hw2⟩ : ∃ w2, w2 = (w.alloc (.cells #[.string ⟨#[]⟩, .string ⟨#[]⟩, .int .i64 0] 23)) := ⟨_, rfl⟩
  have HE0 : Hid (Ext w w2) := Lib.hid (by rw [hw2]; exact Ext.one _ _)
  have HV : Hid (∀ W, Ext w2 W → BoxS W w.heap.size ⟨#[]⟩ ⟨#[]⟩ 0) := Lib.hid (fun W he => BoxS.ext (by rw [hw2]; exact heap_alloc_new w _) he)
  have HW2 := Lib.hid hw2
  have HN := Lib.hid hn
  have HTB := Lib.hid htab
  have HDU := Lib.hid hd
  have HI0 : Hid (DecI d d 1 2) := Lib.hid ⟨by omega, by omega, hd.1, fun j h1 h2 => by omega, by decide⟩
  have c1 : decide (d < 0) = false := decide_eq_false (by omega)
  have c2 : decide ((1000000 : Int) < d) = false := decide_eq_false (by omega)
  have c3 : (d == 0) = false := by rw [beq_eq_false_iff_ne]; omega
  clear htab hd
  clear hsa hsb hn h1 h2 hw2
  go_enter Tryd.func16, Tryd.ntmps16
  go_wp2_with fail
  rw [← HW2.out]
  go_wp2_with (first
    | (go_at_call 31; refine (HO1.out _).mono ?_; rintro e w3 ⟨p3, q3, A3, rfl, hr, he⟩; have HR3 := Lib.hid hr; have HE3 : Hid (Ext w2 w3) := Lib.hid ((Ext.refl w2).trans he); have HX3 := Lib.hid he; clear hr he; clear HO1)
    | (go_at_call 31; refine (HO2.out _).mono ?_; rintro e w5 ⟨p5, q5, A5, rfl, hr, he⟩; have HR5 := Lib.hid hr; have HE5 : Hid (Ext w2 w5) := Lib.hid ((HE3.out.alloc (.cells #[.int .i64 p3, .int .i64 q3, .pointer A3] 43)).trans he); have HX5 := Lib.hid he; clear hr he; clear HO2; obtain ⟨j0, j1, j2⟩ := (HV.out _ (HE5.out.alloc (.cells #[.int .i64 p5, .int .i64 q5, .pointer A5] 43))).cells; obtain ⟨f0, f1, f2⟩ := (HV.out _ (HE5.out.alloc (.cells #[.int .i64 p5, .int .i64 q5, .pointer A5] 43))).frozen; obtain ⟨e0, e1, e2⟩ := (BoxR.ext (BoxR.new w3 p3 q3 A3) (HX5.out.alloc (.cells #[.int .i64 p5, .int .i64 q5, .pointer A5] 43))).cells))
  obtain ⟨w6, hw6⟩ : ∃ w6, w6 = w5.alloc (.cells #[.int .i64 p5, .int .i64 q5, .pointer A5] 43) := ⟨_, rfl⟩
  obtain ⟨g3, hg3⟩ : ∃ g3, g3 = w3.heap.size := ⟨_, rfl⟩
  obtain ⟨g5, hg5⟩ : ∃ g5, g5 = w5.heap.size := ⟨_, rfl⟩
  have HE6 : Hid (Ext w2 w6) := Lib.hid (by rw [hw6]; exact (HE5.out.alloc (.cells #[.int .i64 p5, .int .i64 q5, .pointer A5] 43)))
  have HD1 : Hid (∀ W, Ext w6 W → BoxR W g3 p3 q3 A3) := Lib.hid (fun W he => by rw [hg3]; exact BoxR.ext (BoxR.new w3 p3 q3 A3) ((HX5.out.alloc (.cells #[.int .i64 p5, .int .i64 q5, .pointer A5] 43)).trans (by rw [← hw6]; exact he)))
  have HD2 : Hid (∀ W, Ext w6 W → BoxR W g5 p5 q5 A5) := Lib.hid (fun W he => BoxR.ext (by rw [hw6, hg5]; exact BoxR.new w5 p5 q5 A5) he)
  have HR6 : Hid (RA (4 * n + 4) w6 x (.agg #[.int .i64 p3, .int .i64 q3, .pointer A3]) ∧ RA (4 * n + 4) w6 y (.agg #[.int .i64 p5, .int .i64 q5, .pointer A5])) := Lib.hid (by rw [hw6]; exact ⟨HR3.out.ext ((Ext.one _ _).trans (HX5.out.alloc (.cells #[.int .i64 p5, .int .i64 q5, .pointer A5] 43))), HR5.out.ext (Ext.one _ _)⟩)
  have HG : Hid (w.heap.size + 1 ≤ g3 ∧ w.heap.size + 1 ≤ g5 ∧ g3 < g5) := Lib.hid (by
    have h1 := HE3.out.le
    have h2 : w2.heap.size = w.heap.size + 1 := by rw [HW2.out]; simp
    have h3 := HE5.out.le
    have h4 := HX5.out.le
    simp at h4
    omega)
  rw [← hw6, ← hg3, ← hg5]
  clear hw6 hg3 hg5 e0 e1 e2 j0 j1 j2 f0 f1 f2 HE3 HE5 HX3 HX5 HR3 HR5
  go_loop [2, 12, 13] (fun dd ff kk => ∃ (k : Nat) (e f : Int), 2 ≤ k ∧ dd = .int .i64 e ∧ ff = .int .i64 f ∧ kk = .int .i64 (k : Int) ∧ Hid (DecI d e f k)) (fun _ _ kk => 1002 - (intOf kk).toNat)
  case atStart => exact ⟨2, d, 1, by omega, rfl, rfl, rfl, HI0⟩
  case round =>
    obtain ⟨k, e, f, hk, rfl, rfl, rfl, HD⟩ := hrel
    have HKB := Lib.hid HD.out.kb
    have HK := Lib.hid hk
    obtain ⟨m, hm⟩ : ∃ m : Int, m = (k : Int) * (k : Int) := ⟨_, rfl⟩
    have hm1 : 4 ≤ m ∧ m ≤ 1002001 := by rw [hm]; exact sq_bnd hk HKB.out
    have q1 : IntKind.i64.wrap (((k : Nat) : Int) * ((k : Nat) : Int)) = m := by rw [← hm]; simp only [IntKind.wrap_i64]; omega
    have q2 : IntKind.i64.wrap (((k : Nat) : Int) + 1) = ((k : Nat) : Int) + 1 := by have := HKB.out; simp only [IntKind.wrap_i64]; omega
    have HM := Lib.hid hm
    have HM1 := Lib.hid hm1
    have q4 : ¬ m = 0 := by omega
    by_cases ht : m ≤ e
    · have t1 : decide (m ≤ e) = true := decide_eq_true ht
      have HKC : Hid (k + 1 ≤ 1001) := Lib.hid (by
        have h1 := (HD.out.bnd HDU.out.2).2
        rcases Nat.lt_or_ge 1000 k with h2 | h2
        · have h3 : (1001 : Int) * 1001 ≤ (k : Int) * k := Int.mul_le_mul (by omega) (by omega) (by decide) (by omega)
          omega
        · omega)
      clear hm hm1 ht hk
      go_wp2
      clear t1
      go_loop [2, 12] (fun dd ff => ∃ (e f : Int), dd = .int .i64 e ∧ ff = .int .i64 f ∧ Hid (DecI d e f k)) (fun dd _ => (intOf dd).toNat)
      case atStart => exact ⟨e, f, rfl, rfl, HD⟩
      case round =>
        clear HD
        obtain ⟨e, f, rfl, rfl, HD⟩ := hrel
        obtain ⟨z, hz⟩ : ∃ z, z = e.tmod m := ⟨_, rfl⟩
        have q3 : e.tmod m = z := hz.symm
        have HZ : Hid (z = e % m) := Lib.hid (by rw [hz]; exact Int.tmod_eq_emod_of_nonneg (by have := HD.out.e1; omega))
        have HB := Lib.hid (HD.out.bnd HDU.out.2)
        by_cases hz0 : z = 0
        · have HST := Lib.hid (HD.out.step HK.out (by rw [← HM.out, ← HZ.out]; exact hz0))
          rw [← HM.out] at HST
          obtain ⟨e', he'⟩ : ∃ e', e' = e / m := ⟨_, rfl⟩
          have q5 : e.tdiv m = e' := by rw [he']; exact Int.tdiv_eq_ediv_of_nonneg (by have := HD.out.e1; omega)
          rw [← he'] at HST
          obtain ⟨f', hf'⟩ : ∃ f', f' = f * (k : Int) := ⟨_, rfl⟩
          rw [← hf'] at HST
          have HB2 := Lib.hid (HST.out.1.bnd HDU.out.2)
          have q6 : IntKind.i64.wrap (f * ((k : Nat) : Int)) = f' := by have h1 := HB2.out.1; have h2 := HST.out.1.f1; rw [← hf']; simp only [IntKind.wrap_i64]; omega
          have q7 : IntKind.i64.wrap e' = e' := by have h1 := HB2.out.2; have h2 := HST.out.1.e1; simp only [IntKind.wrap_i64]; omega
          clear hz he' hf'
          subst hz0
          go_wp2
          go_round
          case rel => exact ⟨e', f', rfl, rfl, Lib.hid HST.out.1⟩
          case measure => have h1 := HST.out.2; simp [intOf]; omega
        · have t2 : (z == 0) = false := by rw [beq_eq_false_iff_ne]; exact hz0
          have HNX := Lib.hid (HD.out.next HK.out (by rw [← HM.out, ← HZ.out]; exact hz0) HKC.out)
          clear hz hz0
          go_wp2
          go_round
          case rel => exact ⟨k + 1, e, f, by have := HK.out; omega, rfl, rfl, by go_num, HNX⟩
          case measure => have := HKC.out; simp [intOf]; omega
    · have t1 : decide (m ≤ e) = false := decide_eq_false ht
      have HSQ := Lib.hid (HD.out.sqF (by rw [← HM.out]; omega))
      have HBD := Lib.hid (HD.out.bnd HDU.out.2)
      have HI := Lib.hid (fun W => intK f W (by have := HD.out.f1; omega) (by have := HBD.out.1; omega))
      clear hm hm1 ht hk
      by_cases he1 : e = 1
      · have HQ : Hid (makeV x y f e = ⟨x + y * (f : Rat), 0, 1⟩) := Lib.hid (by unfold makeV; rw [if_pos he1])
        have t5 : (e == 1) = true := by rw [beq_iff_eq]; exact he1
        subst he1
        clear t5
        go_wp2
        obtain ⟨v0, v1, v2⟩ := (HD2.out _ (Ext.refl _).drew).cells
        go_region_with (first
          | (go_at_call 33; refine (HI.out _).mono ?_; clear HI v0 v1 v2; rintro e7 w7 ⟨p7, q7, A7, rfl, hr, he⟩; have HR7 := Lib.hid hr; have HX7 : Hid (Ext w6 w7) := Lib.hid (((Ext.refl w6).drew).trans he); clear hr he; obtain ⟨v0, v1, v2⟩ := (HD2.out _ HX7.out).cells)
          | (go_at_call 25; refine (mulK (HR6.out.2.ext HX7.out) HR7.out (by have := HN.out; omega) (by omega)).mono ?_; clear v0 v1 v2; rintro e8 w8 ⟨p8, q8, A8, rfl, hr, he⟩; have HR8 := Lib.hid hr; have HX8 : Hid (Ext w6 w8) := Lib.hid (HX7.out.trans he); clear hr he; obtain ⟨v0, v1, v2⟩ := (HD2.out _ HX8.out).cells; obtain ⟨f30, f31, f32⟩ := BoxR.frozen (HD2.out _ HX8.out)))
        all_goals
          obtain ⟨w9, hw9⟩ : ∃ w9, w9 = putR w8 g5 p8 q8 A8 := ⟨_, rfl⟩
          have hw9' : ((w8.setCell ⟨g5, 0, none⟩ (.int .i64 p8)).setCell ⟨g5, 1, none⟩ (.int .i64 q8)).setCell ⟨g5, 2, none⟩ (.pointer A8) = w9 := by rw [hw9]; rfl
          rw [hw9']
          have ho : Only g5 w8 w9 := by rw [hw9]; exact putR_only _ _ _ _ _
          have HB5 : Hid (BoxR w9 g5 p8 q8 A8) := Lib.hid (by rw [hw9]; exact putR_rowB (HD2.out _ HX8.out) p8 q8 A8)
          have HB3 : Hid (BoxR w9 g3 p3 q3 A3) := Lib.hid ((HD1.out _ HX8.out).onlyR4 ho (by have := HG.out; omega))
          have HE9 : Hid (Ext w2 w9) := Lib.hid (ho.ext (HE6.out.trans HX8.out) (by have h1 := HG.out.2.1; have h2 : w2.heap.size = w.heap.size + 1 := (by rw [HW2.out]; simp); omega))
          have HX9 : Hid (RA (4 * n + 4) w9 x (.agg #[.int .i64 p3, .int .i64 q3, .pointer A3]) ∧ RA (4 * n + 4 + 31) w9 (y * (f : Rat)) (.agg #[.int .i64 p8, .int .i64 q8, .pointer A8])) := Lib.hid ⟨(HR6.out.1.ext HX8.out).onlyN (HD2.out _ HX8.out).noR ho, HR8.out.onlyN (HD2.out _ HX8.out).noR ho⟩
          clear hw9 hw9' v0 v1 v2 f30 f31 f32 ho
          obtain ⟨a0, a1, a2⟩ := HB3.out.cells
          obtain ⟨b0, b1, b2⟩ := HB5.out.cells
          obtain ⟨j0, j1, j2⟩ := (HV.out _ HE9.out).cells
          obtain ⟨f0, f1, f2⟩ := (HV.out _ HE9.out).frozen
          go_wp2_with (first
                | (go_at_call 34; refine (addK HX9.out.1 HX9.out.2 (by have := HN.out; omega) (by have := HN.out; omega)).mono ?_; rintro e w10 ⟨p10, q10, A10, rfl, hr, he⟩; have HR10 := Lib.hid hr; have HE10 : Hid (Ext w2 w10) := Lib.hid ((HE9.out).trans he); have HX10 := Lib.hid he; clear hr he)
                | (go_at_call 32; refine (rational_calls _ _ _ _ _ _ HR10.out (by omega)).mono ?_; rintro e w11 ⟨p11, q11, A11, r11, s11, B11, rfl, hr, hs, he⟩; have HR11 := Lib.hid hr; have HS11 := Lib.hid hs; have HE11 : Hid (Ext w2 w11) := Lib.hid ((HE10.out).trans he); have HX11 := Lib.hid he; clear hr hs he)
                | (go_at_call 19; refine (write_calls HR11.out HS11.out (HTB.out.ext (HE0.out.trans HE11.out)) (by have := HN.out; omega)).mono ?_; rintro e12 w12 ⟨rfl, he⟩; have HE12 : Hid (Ext w2 w12) := Lib.hid (HE11.out.trans he); clear he j0 j1 j2 f0 f1 f2; obtain ⟨j0, j1, j2⟩ := (HV.out _ HE12.out).cells; obtain ⟨f0, f1, f2⟩ := (HV.out _ HE12.out).frozen))
          refine ret_sur2 rfl w.heap.size _ _ _ _ rfl rfl (putS_row (HV.out _ HE12.out) _ _ _) rfl ?_
          refine ⟨f, 1, HD.out.eq, HD.out.f1, HD.out.e1, HSQ.out, ?_⟩
          rw [HQ.out]
          exact ⟨rfl, (putS_only _ _ _ _ _).ext (HE0.out.trans HE12.out) (by omega)⟩
      · have HQ : Hid (makeV x y f e = norml ⟨x, y * (f : Rat), e⟩) := Lib.hid (by unfold makeV; rw [if_neg he1])
        have t5 : (e == 1) = false := by rw [beq_eq_false_iff_ne]; exact he1

        clear he1
        go_wp2
        obtain ⟨v0, v1, v2⟩ := (HD2.out _ (Ext.refl _).drew).cells
        go_region_with (first
          | (go_at_call 33; refine (HI.out _).mono ?_; clear HI v0 v1 v2; rintro e7 w7 ⟨p7, q7, A7, rfl, hr, he⟩; have HR7 := Lib.hid hr; have HX7 : Hid (Ext w6 w7) := Lib.hid (((Ext.refl w6).drew).trans he); clear hr he; obtain ⟨v0, v1, v2⟩ := (HD2.out _ HX7.out).cells)
          | (go_at_call 25; refine (mulK (HR6.out.2.ext HX7.out) HR7.out (by have := HN.out; omega) (by omega)).mono ?_; clear v0 v1 v2; rintro e8 w8 ⟨p8, q8, A8, rfl, hr, he⟩; have HR8 := Lib.hid hr; have HX8 : Hid (Ext w6 w8) := Lib.hid (HX7.out.trans he); clear hr he; obtain ⟨v0, v1, v2⟩ := (HD2.out _ HX8.out).cells; obtain ⟨f30, f31, f32⟩ := BoxR.frozen (HD2.out _ HX8.out)))
        all_goals
          obtain ⟨w9, hw9⟩ : ∃ w9, w9 = putR w8 g5 p8 q8 A8 := ⟨_, rfl⟩
          have hw9' : ((w8.setCell ⟨g5, 0, none⟩ (.int .i64 p8)).setCell ⟨g5, 1, none⟩ (.int .i64 q8)).setCell ⟨g5, 2, none⟩ (.pointer A8) = w9 := by rw [hw9]; rfl
          rw [hw9']
          have ho : Only g5 w8 w9 := by rw [hw9]; exact putR_only _ _ _ _ _
          have HB5 : Hid (BoxR w9 g5 p8 q8 A8) := Lib.hid (by rw [hw9]; exact putR_rowB (HD2.out _ HX8.out) p8 q8 A8)
          have HB3 : Hid (BoxR w9 g3 p3 q3 A3) := Lib.hid ((HD1.out _ HX8.out).onlyR4 ho (by have := HG.out; omega))
          have HE9 : Hid (Ext w2 w9) := Lib.hid (ho.ext (HE6.out.trans HX8.out) (by have h1 := HG.out.2.1; have h2 : w2.heap.size = w.heap.size + 1 := (by rw [HW2.out]; simp); omega))
          have HX9 : Hid (RA (4 * n + 4) w9 x (.agg #[.int .i64 p3, .int .i64 q3, .pointer A3]) ∧ RA (4 * n + 4 + 31) w9 (y * (f : Rat)) (.agg #[.int .i64 p8, .int .i64 q8, .pointer A8])) := Lib.hid ⟨(HR6.out.1.ext HX8.out).onlyN (HD2.out _ HX8.out).noR ho, HR8.out.onlyN (HD2.out _ HX8.out).noR ho⟩
          clear hw9 hw9' v0 v1 v2 f30 f31 f32 ho
          obtain ⟨a0, a1, a2⟩ := HB3.out.cells
          obtain ⟨b0, b1, b2⟩ := HB5.out.cells
          obtain ⟨j0, j1, j2⟩ := (HV.out _ HE9.out).cells
          obtain ⟨f0, f1, f2⟩ := (HV.out _ HE9.out).frozen
          go_wp2_with (first
                | (go_at_call 35; refine (normal_calls (HX9.out.1.mono (c := 4 * n + 40) (by omega)) (HX9.out.2.mono (by omega))).mono ?_; rintro e w11 ⟨p11, q11, A11, r11, s11, B11, rfl, hr, hs, he⟩; have HR11 := Lib.hid hr; have HS11 := Lib.hid hs; have HE11 : Hid (Ext w2 w11) := Lib.hid ((HE9.out).trans he); have HX11 := Lib.hid he; clear hr hs he)
                | (go_at_call 19; refine (write_calls HR11.out HS11.out (HTB.out.ext (HE0.out.trans HE11.out)) (by have := HN.out; omega)).mono ?_; rintro e12 w12 ⟨rfl, he⟩; have HE12 : Hid (Ext w2 w12) := Lib.hid (HE11.out.trans he); clear he j0 j1 j2 f0 f1 f2; obtain ⟨j0, j1, j2⟩ := (HV.out _ HE12.out).cells; obtain ⟨f0, f1, f2⟩ := (HV.out _ HE12.out).frozen))
          refine ret_sur2 rfl w.heap.size _ _ _ _ rfl rfl (putS_row (HV.out _ HE12.out) _ _ _) rfl ?_
          refine ⟨f, e, HD.out.eq, HD.out.f1, HD.out.e1, HSQ.out, ?_⟩
          rw [HQ.out]
          exact ⟨rfl, (putS_only _ _ _ _ _).ext (HE0.out.trans HE12.out) (by omega)⟩
end Go.Proofs.YtpgnlpjjpgdoiaaDoor
/- A number's text is read as that number (plain facts). -/
namespace Go.Proofs.YtpgnlpjjpgdoiaaDoor
open Go Go.RowKit SurdM
set_option linter.unusedVariables false
set_option linter.unusedSimpArgs false
theorem head_app {l : List UInt8} (m : List UInt8) (h : l ≠ []) : (l ++ m).head? = l.head? := by
  cases l with
  | nil => exact absurd rfl h
  | cons b l => rfl
theorem dig1_isD (x : Nat) : isD (dig1 x) = true := by
  unfold isD; rw [dig1_nat]; simp; omega
theorem dec_all (n : Nat) : (Lib.decDigits n).all isD = true := by
  induction n using Nat.strongRecOn with
  | _ n ih =>
    by_cases h : n < 10
    · rw [dec_small h]; simp [dig1_isD]
    · rw [dec_big (by omega), List.all_append, ih (n / 10) (by omega)]; simp [dig1_isD]
theorem dec_val (n : Nat) : valD (Lib.decDigits n) = n := by
  induction n using Nat.strongRecOn with
  | _ n ih =>
    by_cases h : n < 10
    · rw [dec_small h]; unfold valD; simp [dig1_nat]; omega
    · rw [dec_big (by omega), valD_snoc, ih (n / 10) (by omega), dig1_nat]; omega
theorem dec_head (n : Nat) (h0 : n ≠ 0) : (Lib.decDigits n).head? ≠ some 48 := by
  induction n using Nat.strongRecOn with
  | _ n ih =>
    by_cases h : n < 10
    · rw [dec_small h]
      intro e
      rw [List.head?_cons] at e
      injection e with e
      have := congrArg UInt8.toNat e
      rw [dig1_nat] at this
      simp at this; omega
    · rw [dec_big (by omega)]
      have h1 := dec_ne (n / 10)
      rw [head_app _ h1]
      exact ih (n / 10) (by omega) (by omega)
theorem dec_plain (n : Nat) : plainB (Lib.decDigits n) = true := by
  unfold plainB
  rw [dec_all n]
  have h1 : (Lib.decDigits n).isEmpty = false := by rw [List.isEmpty_eq_false_iff]; exact dec_ne n
  rw [h1]
  by_cases h0 : n = 0
  · subst h0; rw [dec_small (by decide)]; rfl
  · have h2 : ((Lib.decDigits n).head? == some 48) = false := by rw [beq_eq_false_iff_ne]; exact dec_head n h0
    rw [h2]; rfl
theorem isD_ne {b : UInt8} (h : isD b = true) : (b != 47) = true ∧ b ≠ 45 := by
  have h1 := isD_bnd h
  constructor
  · rw [bne_iff_ne]; intro e; rw [e] at h1; simp at h1
  · intro e; rw [e] at h1; simp at h1
theorem dec_take (n : Nat) (m : List UInt8) : topB (Lib.decDigits n ++ 47 :: m) = Lib.decDigits n := by
  unfold topB
  rw [List.takeWhile_append_of_pos]
  · simp
  · intro b hb
    have h := dec_all n
    rw [List.all_eq_true] at h
    exact (isD_ne (h b hb)).1
theorem dec_take0 (n : Nat) : topB (Lib.decDigits n) = Lib.decDigits n := by
  unfold topB
  have h := dec_all n
  rw [List.all_eq_true] at h
  have h2 : ∀ b ∈ Lib.decDigits n, (b != 47) = true := fun b hb => (isD_ne (h b hb)).1
  generalize Lib.decDigits n = l at *
  induction l with
  | nil => rfl
  | cons b l ih =>
    rw [List.takeWhile_cons, if_pos (h2 b (List.mem_cons_self ..))]
    rw [ih (fun c hc => h c (List.mem_cons_of_mem _ hc)) (fun c hc => h2 c (List.mem_cons_of_mem _ hc))]
theorem dec_head45 (n : Nat) (m : List UInt8) : ((Lib.decDigits n ++ m).head? == some 45) = false := by
  rw [beq_eq_false_iff_ne, head_app _ (dec_ne n)]
  intro e
  have h := dec_all n
  cases hl : Lib.decDigits n with
  | nil => exact dec_ne n hl
  | cons b l =>
    rw [hl] at e h
    rw [List.head?_cons] at e
    injection e with e
    rw [List.all_cons, Bool.and_eq_true] at h
    exact (isD_ne h.1).2 e
/-- The body of a number's text. -/
def bodyR (x : Rat) : List UInt8 := if x.den = 1 then Lib.decDigits x.num.natAbs else Lib.decDigits x.num.natAbs ++ 47 :: Lib.decDigits x.den
theorem textR_eq (x : Rat) : textR x = if x.num < 0 then 45 :: bodyR x else bodyR x := by
  unfold textR bodyR Lib.itoa
  by_cases h : x.num < 0
  · rw [if_pos h, if_pos h]; split <;> simp
  · rw [if_neg h, if_neg h, show x.num.toNat = x.num.natAbs from by omega]; split <;> simp
theorem bodyR_head (x : Rat) : ((bodyR x).head? == some 45) = false := by
  unfold bodyR; split
  · have := dec_head45 x.num.natAbs []; rw [List.append_nil] at this; exact this
  · exact dec_head45 _ _
theorem text_head (x : Rat) : ((textR x).head? == some 45) = decide (x.num < 0) := by
  rw [textR_eq]
  by_cases h : x.num < 0
  · rw [if_pos h, decide_eq_true h]; rfl
  · rw [if_neg h, decide_eq_false h]; exact bodyR_head x
theorem text_body (x : Rat) : bodyB (textR x) = bodyR x := by
  unfold bodyB
  rw [text_head]
  rw [textR_eq]
  by_cases h : x.num < 0
  · rw [if_pos h, decide_eq_true h]; rfl
  · rw [if_neg h, decide_eq_false h]; rfl
/-- The text of a number is read as the number. -/
theorem ofB_text (x : Rat) : ofB (textR x) = some x := by
  have hb := text_body x
  have hh := text_head x
  have hs : sgn (decide (x.num < 0)) x.num.natAbs = x.num := sgn_abs x.num
  by_cases hd : x.den = 1
  · have e1 : bodyR x = Lib.decDigits x.num.natAbs := by unfold bodyR; rw [if_pos hd]
    rw [e1] at hb
    have h1 := dec_take0 x.num.natAbs
    have h3 : strokeB (Lib.decDigits x.num.natAbs) = false := by unfold strokeB; rw [h1]; simp
    have h2 : lowB (Lib.decDigits x.num.natAbs) = [49] := by unfold lowB; rw [h3]; rfl
    have hbad : badB (textR x) = false := by
      rw [bad_eq hb h1 h2 h3 hh, dec_plain]
      have h4 : (decide (x.num < 0) && Lib.decDigits x.num.natAbs == [48]) = false := by
        by_cases h : x.num < 0
        · rw [decide_eq_true h, Bool.true_and, beq_eq_false_iff_ne]
          intro e
          have := congrArg valD e
          rw [dec_val] at this
          have h5 : valD [48] = 0 := rfl
          omega
        · rw [decide_eq_false h]; rfl
      rw [h4]; rfl
    have := of_good hb h1 h2 h3 hh hbad (by rfl)
    rw [this, dec_val, hs]
    have h6 : valD [49] = 1 := rfl
    rw [h6, ← hd, Rat.mkRat_self]
  · have e1 : bodyR x = Lib.decDigits x.num.natAbs ++ 47 :: Lib.decDigits x.den := by unfold bodyR; rw [if_neg hd]
    rw [e1] at hb
    have h1 := dec_take x.num.natAbs (Lib.decDigits x.den)
    have h3 : strokeB (Lib.decDigits x.num.natAbs ++ 47 :: Lib.decDigits x.den) = true := by unfold strokeB; rw [h1]; simp
    have h2 : lowB (Lib.decDigits x.num.natAbs ++ 47 :: Lib.decDigits x.den) = Lib.decDigits x.den := by
      unfold lowB; rw [h3, if_pos rfl, h1]
      rw [List.drop_append]
      simp
    have hdp := x.den_pos
    have hbad : badB (textR x) = false := by
      rw [bad_eq hb h1 h2 h3 hh, dec_plain, dec_plain]
      have h4 : (decide (x.num < 0) && Lib.decDigits x.num.natAbs == [48]) = false := by
        by_cases h : x.num < 0
        · rw [decide_eq_true h, Bool.true_and, beq_eq_false_iff_ne]
          intro e
          have := congrArg valD e
          rw [dec_val] at this
          have h5 : valD [48] = 0 := rfl
          omega
        · rw [decide_eq_false h]; rfl
      have h5 : (Lib.decDigits x.den == [48]) = false := by
        rw [beq_eq_false_iff_ne]; intro e
        have := congrArg valD e; rw [dec_val] at this
        have h5 : valD [48] = 0 := rfl
        omega
      have h6 : (Lib.decDigits x.den == [49]) = false := by
        rw [beq_eq_false_iff_ne]; intro e
        have := congrArg valD e; rw [dec_val] at this
        have h5 : valD [49] = 1 := rfl
        omega
      rw [h4, h5, h6]; rfl
    have := of_good hb h1 h2 h3 hh hbad (by rw [dec_val, dec_val]; have := x.reduced; unfold Nat.Coprime at this; rw [this]; rfl)
    rw [this, dec_val, dec_val, hs, Rat.mkRat_self]
theorem textR_inj {x y : Rat} (h : textR x = textR y) : x = y := by
  have h1 := ofB_text x
  rw [h, ofB_text y] at h1
  injection h1 with h1
  exact h1.symm
/-- What write gives is read as the value. -/
theorem readV_text {v : SV} (h : Val v) : readV (textR v.a) (textR v.b) v.d = some v := by
  unfold readV
  rw [ofB_text, ofB_text]
  rcases h with ⟨h1, h2⟩ | ⟨h1, h2, h3, h4⟩
  · simp only [h1, if_true, h2]
    rw [show v = ⟨v.a, v.b, v.d⟩ from rfl, h1, h2]
  · simp only []
    rw [if_neg (by omega), if_neg ?_]
    rintro (h | h | h | h)
    · omega
    · omega
    · exact h3 h
    · rw [sqfB_iff.mpr h4] at h; exact absurd h (by simp)
end Go.Proofs.YtpgnlpjjpgdoiaaDoor
/- Get, rational.Mul, rational.Sign. -/
namespace Go.Proofs.YtpgnlpjjpgdoiaaDoor
open Go Go.RowKit SurdM
set_option linter.unusedVariables false
set_option linter.unusedSimpArgs false
/-- The number that a text stands for; 0 for a text that is none. -/
def getR (l : List UInt8) : Rat := (ofB l).getD 0
set_option maxRecDepth 100000 in
set_option maxHeartbeats 400000 in
theorem get_calls (s : ByteArray) (n : Nat) (w : World) (hs : s.size ≤ n) (hn : n ≤ 100000000) :
    Calls Tryd.prog 24 #[.string s] w (RPost (4 * n + 4) w (getR s.data.toList)) := by
  have HO : Hid (∀ W, Calls Tryd.prog 31 #[.string s] W fun e w' => ∃ p q A, e = .returned (.tuple #[.agg #[.int .i64 p, .int .i64 q, .pointer A], .bool (ofB s.data.toList).isSome]) ∧ RA (4 * n + 4) w' (getR s.data.toList) (.agg #[.int .i64 p, .int .i64 q, .pointer A]) ∧ Ext W w') := Lib.hid (fun W => by
    refine (of_calls s W (by omega)).mono ?_
    rintro e w' ⟨p, q, A, he, h1, h2, h3⟩
    refine ⟨p, q, A, he, ?_, h3⟩
    cases ho : ofB s.data.toList with
    | none =>
      obtain ⟨rfl, rfl, rfl⟩ := h2 ho
      have e0 : getR s.data.toList = 0 := by unfold getR; rw [ho]; rfl
      rw [e0]
      exact ⟨zero_at rfl, RB.zero _ (by omega) rfl⟩
    | some x =>
      have e0 : getR s.data.toList = x := by unfold getR; rw [ho]; rfl
      rw [e0]
      exact ⟨h1 x ho, of_RB ho (by rw [Array.length_toList]; exact hs)⟩)
  generalize getR s.data.toList = z at *
  generalize (ofB s.data.toList).isSome = t at *
  obtain ⟨w2, hw2⟩ : ∃ w2, w2 = w.alloc (.cells #[.int .i64 0, .int .i64 0, .pointer none] 43) := ⟨_, rfl⟩
  have HE0 : Hid (Ext w w2) := Lib.hid (by rw [hw2]; exact Ext.one _ _)
  have HV : Hid (∀ W, Ext w2 W → VarR W w.heap.size) := Lib.hid (fun W he => VarR.ext (by rw [hw2]; exact VarR.new w) he)
  have HW2 := Lib.hid hw2
  clear hs hn hw2
  go_enter Tryd.func24, Tryd.ntmps24
  go_wp2_with fail
  rw [← HW2.out]
  go_wp2_with (first
    | (go_at_call 31; refine (HO.out _).mono ?_; clear HO; rintro e3 w3 ⟨p3, q3, A3, rfl, hr, he⟩; have HR3 := Lib.hid hr; have HE3 := Lib.hid he; clear hr he; obtain ⟨k0, k1, k2, f0, f1, f2⟩ := (HV.out _ (HE3.out.alloc (.cells #[.int .i64 p3, .int .i64 q3, .pointer A3] 43))).cells))
  refine ret_rat rfl w.heap.size _ _ _ rfl (putR_row (HV.out _ (HE3.out.alloc _)) p3 q3 A3) rfl ?_
  exact ⟨p3, q3, A3, rfl, (HR3.out.ext (Ext.one _ _)).onlyN (HV.out _ (HE3.out.alloc _)).noR (putR_only _ _ _ _ _), (putR_only _ _ _ _ _).ext (HE0.out.trans (HE3.out.alloc _)) (Nat.le_refl _)⟩
set_option maxRecDepth 100000 in
set_option maxHeartbeats 400000 in
theorem ratMul_calls (s t : ByteArray) (n : Nat) (w : World) (hs : s.size ≤ n) (ht : t.size ≤ n) (hn : n ≤ 100000000) (htab : TabW w) :
    Calls Tryd.prog 10 #[.string s, .string t] w fun e w' => e = .returned (.string ⟨(textR (getR s.data.toList * getR t.data.toList)).toArray⟩) ∧ Ext w w' := by
  have HG1 := Lib.hid (fun W => get_calls s n W hs hn)
  have HG2 := Lib.hid (fun W => get_calls t n W ht hn)
  have HN := Lib.hid hn
  have HTB := Lib.hid htab
  generalize getR s.data.toList = x at *
  generalize getR t.data.toList = y at *
  clear hs ht hn htab
  go_enter Tryd.func10, Tryd.ntmps10
  go_wp2_with (first
    | (go_at_call 24; refine (HG1.out _).mono ?_; rintro e w2 ⟨p2, q2, A2, rfl, hr, he⟩; have HR2 := Lib.hid hr; have HE2 : Hid (Ext w w2) := Lib.hid ((Ext.refl w).trans he); have HX2 := Lib.hid he; clear hr he; clear HG1)
    | (go_at_call 24; refine (HG2.out _).mono ?_; rintro e w3 ⟨p3, q3, A3, rfl, hr, he⟩; have HR3 := Lib.hid hr; have HE3 : Hid (Ext w w3) := Lib.hid ((HE2.out).trans he); have HX3 := Lib.hid he; clear hr he; clear HG2)
    | (go_at_call 25; refine (mulK (HR2.out.ext HX3.out) HR3.out (by have := HN.out; omega) (by have := HN.out; omega)).mono ?_; rintro e w4 ⟨p4, q4, A4, rfl, hr, he⟩; have HR4 := Lib.hid hr; have HE4 : Hid (Ext w w4) := Lib.hid ((HE3.out).trans he); have HX4 := Lib.hid he; clear hr he)
    | (go_at_call 22; refine (stringK HR4.out (HTB.out.ext HE4.out) (by have := HN.out; omega)).mono ?_; rintro e5 w5 ⟨rfl, he⟩; have HE5 := Lib.hid (HE4.out.trans he); clear he))
  go_ret
  exact ⟨rfl, HE5.out⟩
set_option maxRecDepth 100000 in
set_option maxHeartbeats 400000 in
theorem ratSign_calls (s : ByteArray) (n : Nat) (w : World) (hs : s.size ≤ n) (hn : n ≤ 100000000) :
    Calls Tryd.prog 12 #[.string s] w fun e w' => e = .returned (.int .i64 (sg (getR s.data.toList))) ∧ Ext w w' := by
  have HG1 := Lib.hid (fun W => get_calls s n W hs hn)
  generalize getR s.data.toList = x at *
  clear hs hn
  go_enter Tryd.func12, Tryd.ntmps12
  go_wp2_with (first
    | (go_at_call 24; refine (HG1.out _).mono ?_; rintro e w2 ⟨p2, q2, A2, rfl, hr, he⟩; have HR2 := Lib.hid hr; have HE2 : Hid (Ext w w2) := Lib.hid ((Ext.refl w).trans he); have HX2 := Lib.hid he; clear hr he; clear HG1)
    | (go_at_call 27; refine (signK HR2.out).mono ?_; rintro e3 w3 ⟨rfl, he⟩; have HE3 := Lib.hid (HE2.out.trans he); clear he))
  go_ret
  exact ⟨rfl, HE3.out⟩
end Go.Proofs.YtpgnlpjjpgdoiaaDoor
