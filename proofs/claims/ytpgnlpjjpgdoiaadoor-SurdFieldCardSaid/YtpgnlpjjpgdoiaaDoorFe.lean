/- Merged by program: SurC, SurF, SurH, SurJ, SurD, SurE. -/
import Derived.Test.YtpgnlpjjpgdoiaaDoorFd
/- surd: rational, zero, normal, together, neg. -/
namespace Go.Proofs.YtpgnlpjjpgdoiaaDoor
open Go Go.RowKit SurdM
set_option linter.unusedVariables false
set_option linter.unusedSimpArgs false
set_option maxRecDepth 100000 in
set_option maxHeartbeats 1000000 in
theorem rational_calls (x : Rat) (b : Nat) (p q : Int) (A : Option Addr) (w : World) (hx : RA b w x (.agg #[.int .i64 p, .int .i64 q, .pointer A])) (hb : 0 < b) :
    Calls Tryd.prog 32 #[.agg #[.int .i64 p, .int .i64 q, .pointer A]] w (VPost b w ⟨x, 0, 1⟩) := by
  have HX := Lib.hid hx
  have HB := Lib.hid hb
  clear hx hb
  go_enter Tryd.func32, Tryd.ntmps32
  go_wp2
  refine ret_val rfl (w.heap.size + 1) _ _ _ _ _ _ _ rfl (heap_alloc2_new w _ _) rfl ?_
  exact ⟨p, q, A, 0, 0, none, rfl, HX.out.ext (Ext.two _ _ _), ⟨zero_at rfl, RB.zero b HB.out rfl⟩, Ext.two _ _ _⟩

set_option maxRecDepth 100000 in
set_option maxHeartbeats 1000000 in
theorem zeroV_true (x y : Rat) (d : Int) (b : Nat) (p q : Int) (A : Option Addr) (r s : Int) (B : Option Addr) (w : World) (hx : RA b w x (.agg #[.int .i64 p, .int .i64 q, .pointer A])) (hy : RA b w y (.agg #[.int .i64 r, .int .i64 s, .pointer B])) (h0 : decide (x = 0) = true) :
    Calls Tryd.prog 29 #[.agg #[.int .i64 p, .int .i64 q, .pointer A, .int .i64 r, .int .i64 s, .pointer B, .int .i64 d]] w fun e w' => e = .returned (.bool (zeroV ⟨x, y, d⟩)) ∧ Ext w w' := by
  have HZ1 := Lib.hid (fun W (he : Ext w W) => zeroK (hx.ext he))
  have HZ2 := Lib.hid (fun W (he : Ext w W) => zeroK (hy.ext he))
  have HQ : Hid (zeroV ⟨x, y, d⟩ = decide (y = 0)) := Lib.hid (by unfold zeroV; simp only [h0]; simp)
  rw [HQ.out]
  rw [h0] at HZ1
  have HC : Hid (∀ W, Ext (w.alloc (.cells #[.int .i64 p, .int .i64 q, .pointer A, .int .i64 r, .int .i64 s, .pointer B, .int .i64 d] 45)) W → BoxV W w.heap.size p q A r s B d) := Lib.hid (fun W he => (boxV_new w p q A r s B d).ext he)
  clear hx hy h0 HQ
  generalize decide (y = 0) = yz at *
  go_enter Tryd.func29, Tryd.ntmps29
  go_wp2_with (first
    | (go_at_call 47; refine (HZ1.out _ (Ext.one _ _)).mono ?_; rintro e w2 ⟨rfl, he⟩; have HE2 : Hid (Ext (w.alloc (.cells #[.int .i64 p, .int .i64 q, .pointer A, .int .i64 r, .int .i64 s, .pointer B, .int .i64 d] 45)) w2) := Lib.hid ((Ext.refl _).trans he); have HX2 := Lib.hid he; clear he; clear HZ1; obtain ⟨k0, k1, k2, k3, k4, k5, k6⟩ := (HC.out _ HE2.out).cells)
    | (go_at_call 47; refine (HZ2.out _ ((Ext.one _ _).trans HE2.out)).mono ?_; rintro e w3 ⟨rfl, he⟩; have HE3 : Hid (Ext (w.alloc (.cells #[.int .i64 p, .int .i64 q, .pointer A, .int .i64 r, .int .i64 s, .pointer B, .int .i64 d] 45)) w3) := Lib.hid ((HE2.out).trans he); have HX3 := Lib.hid he; clear he))
  go_ret
  exact ⟨rfl, (Ext.one _ _).trans HE3.out⟩
set_option maxRecDepth 100000 in
set_option maxHeartbeats 1000000 in
theorem zeroV_false (x y : Rat) (d : Int) (b : Nat) (p q : Int) (A : Option Addr) (r s : Int) (B : Option Addr) (w : World) (hx : RA b w x (.agg #[.int .i64 p, .int .i64 q, .pointer A])) (hy : RA b w y (.agg #[.int .i64 r, .int .i64 s, .pointer B])) (h0 : decide (x = 0) = false) :
    Calls Tryd.prog 29 #[.agg #[.int .i64 p, .int .i64 q, .pointer A, .int .i64 r, .int .i64 s, .pointer B, .int .i64 d]] w fun e w' => e = .returned (.bool (zeroV ⟨x, y, d⟩)) ∧ Ext w w' := by
  have HZ1 := Lib.hid (fun W (he : Ext w W) => zeroK (hx.ext he))
  have HZ2 := Lib.hid (fun W (he : Ext w W) => zeroK (hy.ext he))
  have HQ : Hid (zeroV ⟨x, y, d⟩ = false) := Lib.hid (by unfold zeroV; simp only [h0]; simp)
  rw [HQ.out]
  rw [h0] at HZ1
  have HC : Hid (∀ W, Ext (w.alloc (.cells #[.int .i64 p, .int .i64 q, .pointer A, .int .i64 r, .int .i64 s, .pointer B, .int .i64 d] 45)) W → BoxV W w.heap.size p q A r s B d) := Lib.hid (fun W he => (boxV_new w p q A r s B d).ext he)
  clear hx hy h0 HQ
  generalize decide (y = 0) = yz at *
  go_enter Tryd.func29, Tryd.ntmps29
  go_wp2_with (first
    | (go_at_call 47; refine (HZ1.out _ (Ext.one _ _)).mono ?_; rintro e w2 ⟨rfl, he⟩; have HE2 : Hid (Ext (w.alloc (.cells #[.int .i64 p, .int .i64 q, .pointer A, .int .i64 r, .int .i64 s, .pointer B, .int .i64 d] 45)) w2) := Lib.hid ((Ext.refl _).trans he); have HX2 := Lib.hid he; clear he; clear HZ1; obtain ⟨k0, k1, k2, k3, k4, k5, k6⟩ := (HC.out _ HE2.out).cells)
    | (go_at_call 47; refine (HZ2.out _ ((Ext.one _ _).trans HE2.out)).mono ?_; rintro e w3 ⟨rfl, he⟩; have HE3 : Hid (Ext (w.alloc (.cells #[.int .i64 p, .int .i64 q, .pointer A, .int .i64 r, .int .i64 s, .pointer B, .int .i64 d] 45)) w3) := Lib.hid ((HE2.out).trans he); have HX3 := Lib.hid he; clear he))
  go_ret
  exact ⟨rfl, (Ext.one _ _).trans HE2.out⟩
theorem zeroV_calls {x y : Rat} {d : Int} {b : Nat} {p q : Int} {A : Option Addr} {r s : Int} {B : Option Addr} {w : World} (hx : RA b w x (.agg #[.int .i64 p, .int .i64 q, .pointer A])) (hy : RA b w y (.agg #[.int .i64 r, .int .i64 s, .pointer B])) :
    Calls Tryd.prog 29 #[.agg #[.int .i64 p, .int .i64 q, .pointer A, .int .i64 r, .int .i64 s, .pointer B, .int .i64 d]] w fun e w' => e = .returned (.bool (zeroV ⟨x, y, d⟩)) ∧ Ext w w' := by
  cases h : decide (x = 0) with
  | true => exact zeroV_true x y d b p q A r s B w hx hy h
  | false => exact zeroV_false x y d b p q A r s B w hx hy h
set_option maxRecDepth 100000 in
set_option maxHeartbeats 1000000 in
theorem normal_true (x y : Rat) (d : Int) (b : Nat) (p q : Int) (A : Option Addr) (r s : Int) (B : Option Addr) (w : World) (hx : RA b w x (.agg #[.int .i64 p, .int .i64 q, .pointer A])) (hy : RA b w y (.agg #[.int .i64 r, .int .i64 s, .pointer B])) (h0 : decide (y = 0) = true) :
    Calls Tryd.prog 35 #[.agg #[.int .i64 p, .int .i64 q, .pointer A, .int .i64 r, .int .i64 s, .pointer B, .int .i64 d]] w (VPost b w (norml ⟨x, y, d⟩)) := by
  have HZ := Lib.hid (fun W (he : Ext w W) => zeroK (hy.ext he))
  have HQ : Hid (norml ⟨x, y, d⟩ = ⟨x, y, 1⟩) := Lib.hid (by unfold norml; simp only [of_decide_eq_true h0]; simp)
  rw [HQ.out]
  rw [h0] at HZ
  obtain ⟨w2, hw2⟩ : ∃ w2, w2 = ((w.alloc (.cells #[.int .i64 p, .int .i64 q, .pointer A, .int .i64 r, .int .i64 s, .pointer B, .int .i64 d] 45)).alloc (.cells #[.int .i64 0, .int .i64 0, .pointer none, .int .i64 0, .int .i64 0, .pointer none, .int .i64 0] 45)) := ⟨_, rfl⟩
  have HE0 : Hid (Ext w w2) := Lib.hid (by rw [hw2]; exact Ext.two _ _ _)
  have HC : Hid (∀ W, Ext w2 W → BoxV W w.heap.size p q A r s B d) := Lib.hid (fun W he => BoxV.ext (by rw [hw2]; exact ((boxV_new w p q A r s B d).ext (Ext.one _ _))) he)
  have HV : Hid (∀ W, Ext w2 W → BoxV W (w.heap.size + 1) 0 0 none 0 0 none 0) := Lib.hid (fun W he => BoxV.ext (by rw [hw2]; exact heap_alloc2_new w _ _) he)
  have HW2 := Lib.hid hw2
  have HX := Lib.hid hx
  have HY := Lib.hid hy
  obtain ⟨k0, k1, k2, k3, k4, k5, k6⟩ := (HC.out _ (Ext.refl _)).cells
  clear hx hy h0 HQ hw2
  go_enter Tryd.func35, Tryd.ntmps35
  go_wp2_with fail
  rw [← HW2.out]
  go_wp2_with (first
    | (go_at_call 47; refine (HZ.out _ HE0.out).mono ?_; rintro e w3 ⟨rfl, he⟩; have HE3 : Hid (Ext w2 w3) := Lib.hid ((Ext.refl _).trans he); have HX3 := Lib.hid he; clear he; clear HZ k0 k1 k2 k3 k4 k5 k6; obtain ⟨k0, k1, k2, k3, k4, k5, k6⟩ := (HC.out _ HE3.out).cells; obtain ⟨f0, f1, f2, f3, f4, f5, f6⟩ := (HC.out _ HE3.out).frozen; obtain ⟨j0, j1, j2, j3, j4, j5, j6⟩ := (HV.out _ HE3.out).cells; obtain ⟨g0, g1, g2, g3, g4, g5, g6⟩ := (HV.out _ HE3.out).frozen))
  have ho : Only w.heap.size w3 (w3.setCell ⟨w.heap.size, 6, none⟩ (.int .i64 1)) := (Only.refl _ _).setCell 6 _
  have hv : BoxV (w3.setCell ⟨w.heap.size, 6, none⟩ (.int .i64 1)) (w.heap.size + 1) 0 0 none 0 0 none 0 := BoxV.only (HV.out _ HE3.out) ho (by omega)
  refine ret_val rfl (w.heap.size + 1) _ _ _ _ _ _ _ rfl (putV_row hv p q A r s B 1) rfl ?_
  exact ⟨p, q, A, r, s, B, rfl, ((HX.out.ext (HE0.out.trans HE3.out)).onlyN (HC.out _ HE3.out).noR ho).onlyN hv.noR (putV_only _ _ _ _ _ _ _ _ _), ((HY.out.ext (HE0.out.trans HE3.out)).onlyN (HC.out _ HE3.out).noR ho).onlyN hv.noR (putV_only _ _ _ _ _ _ _ _ _), (putV_only _ _ _ _ _ _ _ _ _).ext (ho.ext (HE0.out.trans HE3.out) (Nat.le_refl _)) (by omega)⟩
set_option maxRecDepth 100000 in
set_option maxHeartbeats 1000000 in
theorem normal_false (x y : Rat) (d : Int) (b : Nat) (p q : Int) (A : Option Addr) (r s : Int) (B : Option Addr) (w : World) (hx : RA b w x (.agg #[.int .i64 p, .int .i64 q, .pointer A])) (hy : RA b w y (.agg #[.int .i64 r, .int .i64 s, .pointer B])) (h0 : decide (y = 0) = false) :
    Calls Tryd.prog 35 #[.agg #[.int .i64 p, .int .i64 q, .pointer A, .int .i64 r, .int .i64 s, .pointer B, .int .i64 d]] w (VPost b w (norml ⟨x, y, d⟩)) := by
  have HZ := Lib.hid (fun W (he : Ext w W) => zeroK (hy.ext he))
  have HQ : Hid (norml ⟨x, y, d⟩ = ⟨x, y, d⟩) := Lib.hid (by unfold norml; simp only [of_decide_eq_false h0]; simp)
  rw [HQ.out]
  rw [h0] at HZ
  obtain ⟨w2, hw2⟩ : ∃ w2, w2 = ((w.alloc (.cells #[.int .i64 p, .int .i64 q, .pointer A, .int .i64 r, .int .i64 s, .pointer B, .int .i64 d] 45)).alloc (.cells #[.int .i64 0, .int .i64 0, .pointer none, .int .i64 0, .int .i64 0, .pointer none, .int .i64 0] 45)) := ⟨_, rfl⟩
  have HE0 : Hid (Ext w w2) := Lib.hid (by rw [hw2]; exact Ext.two _ _ _)
  have HC : Hid (∀ W, Ext w2 W → BoxV W w.heap.size p q A r s B d) := Lib.hid (fun W he => BoxV.ext (by rw [hw2]; exact ((boxV_new w p q A r s B d).ext (Ext.one _ _))) he)
  have HV : Hid (∀ W, Ext w2 W → BoxV W (w.heap.size + 1) 0 0 none 0 0 none 0) := Lib.hid (fun W he => BoxV.ext (by rw [hw2]; exact heap_alloc2_new w _ _) he)
  have HW2 := Lib.hid hw2
  have HX := Lib.hid hx
  have HY := Lib.hid hy
  obtain ⟨k0, k1, k2, k3, k4, k5, k6⟩ := (HC.out _ (Ext.refl _)).cells
  clear hx hy h0 HQ hw2
  go_enter Tryd.func35, Tryd.ntmps35
  go_wp2_with fail
  rw [← HW2.out]
  go_wp2_with (first
    | (go_at_call 47; refine (HZ.out _ HE0.out).mono ?_; rintro e w3 ⟨rfl, he⟩; have HE3 : Hid (Ext w2 w3) := Lib.hid ((Ext.refl _).trans he); have HX3 := Lib.hid he; clear he; clear HZ k0 k1 k2 k3 k4 k5 k6; obtain ⟨k0, k1, k2, k3, k4, k5, k6⟩ := (HC.out _ HE3.out).cells; obtain ⟨f0, f1, f2, f3, f4, f5, f6⟩ := (HC.out _ HE3.out).frozen; obtain ⟨j0, j1, j2, j3, j4, j5, j6⟩ := (HV.out _ HE3.out).cells; obtain ⟨g0, g1, g2, g3, g4, g5, g6⟩ := (HV.out _ HE3.out).frozen))
  refine ret_val rfl (w.heap.size + 1) _ _ _ _ _ _ _ rfl (putV_row (HV.out _ HE3.out) p q A r s B d) rfl ?_
  exact ⟨p, q, A, r, s, B, rfl, (HX.out.ext (HE0.out.trans HE3.out)).onlyN (HV.out _ HE3.out).noR (putV_only _ _ _ _ _ _ _ _ _), (HY.out.ext (HE0.out.trans HE3.out)).onlyN (HV.out _ HE3.out).noR (putV_only _ _ _ _ _ _ _ _ _), (putV_only _ _ _ _ _ _ _ _ _).ext (HE0.out.trans HE3.out) (by omega)⟩
theorem normal_calls {x y : Rat} {d : Int} {b : Nat} {p q : Int} {A : Option Addr} {r s : Int} {B : Option Addr} {w : World} (hx : RA b w x (.agg #[.int .i64 p, .int .i64 q, .pointer A])) (hy : RA b w y (.agg #[.int .i64 r, .int .i64 s, .pointer B])) :
    Calls Tryd.prog 35 #[.agg #[.int .i64 p, .int .i64 q, .pointer A, .int .i64 r, .int .i64 s, .pointer B, .int .i64 d]] w (VPost b w (norml ⟨x, y, d⟩)) := by
  cases h : decide (y = 0) with
  | true => exact normal_true x y d b p q A r s B w hx hy h
  | false => exact normal_false x y d b p q A r s B w hx hy h
set_option maxRecDepth 100000 in
set_option maxHeartbeats 1000000 in
theorem together_0 (d1 d2 : Int) (p1 q1 : Int) (A1 : Option Addr) (r1 s1 : Int) (B1 : Option Addr) (p2 q2 : Int) (A2 : Option Addr) (r2 s2 : Int) (B2 : Option Addr) (w : World) (h : d1 = 1) :
    Calls Tryd.prog 37 #[.agg #[.int .i64 p1, .int .i64 q1, .pointer A1, .int .i64 r1, .int .i64 s1, .pointer B1, .int .i64 d1], .agg #[.int .i64 p2, .int .i64 q2, .pointer A2, .int .i64 r2, .int .i64 s2, .pointer B2, .int .i64 d2]] w fun e w' => e = .returned (.tuple #[.int .i64 d2, .bool true]) ∧ Ext w w' := by
  have t1 : (d1 == 1) = true := by rw [beq_iff_eq]; exact h
  clear h
  go_enter Tryd.func37, Tryd.ntmps37
  go_wp2
  
  
  go_ret2
  exact ⟨rfl, Ext.two _ _ _⟩
set_option maxRecDepth 100000 in
set_option maxHeartbeats 1000000 in
theorem together_1 (d1 d2 : Int) (p1 q1 : Int) (A1 : Option Addr) (r1 s1 : Int) (B1 : Option Addr) (p2 q2 : Int) (A2 : Option Addr) (r2 s2 : Int) (B2 : Option Addr) (w : World) (h : d1 ≠ 1 ∧ d2 = 1) :
    Calls Tryd.prog 37 #[.agg #[.int .i64 p1, .int .i64 q1, .pointer A1, .int .i64 r1, .int .i64 s1, .pointer B1, .int .i64 d1], .agg #[.int .i64 p2, .int .i64 q2, .pointer A2, .int .i64 r2, .int .i64 s2, .pointer B2, .int .i64 d2]] w fun e w' => e = .returned (.tuple #[.int .i64 d1, .bool true]) ∧ Ext w w' := by
  have t1 : (d1 == 1) = false := by rw [beq_eq_false_iff_ne]; exact h.1
  have t2 : (d2 == 1) = true := by rw [beq_iff_eq]; exact h.2
  clear h
  go_enter Tryd.func37, Tryd.ntmps37
  go_wp2
  
  
  go_ret2
  exact ⟨rfl, Ext.two _ _ _⟩
set_option maxRecDepth 100000 in
set_option maxHeartbeats 1000000 in
theorem together_2 (d1 d2 : Int) (p1 q1 : Int) (A1 : Option Addr) (r1 s1 : Int) (B1 : Option Addr) (p2 q2 : Int) (A2 : Option Addr) (r2 s2 : Int) (B2 : Option Addr) (w : World) (h : d1 ≠ 1 ∧ d2 ≠ 1 ∧ d1 = d2) :
    Calls Tryd.prog 37 #[.agg #[.int .i64 p1, .int .i64 q1, .pointer A1, .int .i64 r1, .int .i64 s1, .pointer B1, .int .i64 d1], .agg #[.int .i64 p2, .int .i64 q2, .pointer A2, .int .i64 r2, .int .i64 s2, .pointer B2, .int .i64 d2]] w fun e w' => e = .returned (.tuple #[.int .i64 d1, .bool true]) ∧ Ext w w' := by
  have t1 : (d1 == 1) = false := by rw [beq_eq_false_iff_ne]; exact h.1
  have t2 : (d2 == 1) = false := by rw [beq_eq_false_iff_ne]; exact h.2.1
  obtain rfl := h.2.2
  have t3 : (d1 == d1) = true := by rw [beq_iff_eq]
  clear h
  go_enter Tryd.func37, Tryd.ntmps37
  go_wp2
  go_quiet (fail)
  go_wp2
  go_ret2
  exact ⟨rfl, (Ext.two _ _ _).drewN _⟩
set_option maxRecDepth 100000 in
set_option maxHeartbeats 1000000 in
theorem together_3 (d1 d2 : Int) (p1 q1 : Int) (A1 : Option Addr) (r1 s1 : Int) (B1 : Option Addr) (p2 q2 : Int) (A2 : Option Addr) (r2 s2 : Int) (B2 : Option Addr) (w : World) (h : d1 ≠ 1 ∧ d2 ≠ 1 ∧ d1 ≠ d2) :
    Calls Tryd.prog 37 #[.agg #[.int .i64 p1, .int .i64 q1, .pointer A1, .int .i64 r1, .int .i64 s1, .pointer B1, .int .i64 d1], .agg #[.int .i64 p2, .int .i64 q2, .pointer A2, .int .i64 r2, .int .i64 s2, .pointer B2, .int .i64 d2]] w fun e w' => e = .returned (.tuple #[.int .i64 d1, .bool false]) ∧ Ext w w' := by
  have t1 : (d1 == 1) = false := by rw [beq_eq_false_iff_ne]; exact h.1
  have t2 : (d2 == 1) = false := by rw [beq_eq_false_iff_ne]; exact h.2.1
  have t3 : (d1 == d2) = false := by rw [beq_eq_false_iff_ne]; exact h.2.2
  clear h
  go_enter Tryd.func37, Tryd.ntmps37
  go_wp2
  go_quiet (fail)
  go_wp2
  go_ret2
  exact ⟨rfl, (Ext.two _ _ _).drewN _⟩
theorem together_calls {d1 d2 : Int} {p1 q1 : Int} {A1 : Option Addr} {r1 s1 : Int} {B1 : Option Addr} {p2 q2 : Int} {A2 : Option Addr} {r2 s2 : Int} {B2 : Option Addr} {w : World} (x1 y1 x2 y2 : Rat) :
    Calls Tryd.prog 37 #[.agg #[.int .i64 p1, .int .i64 q1, .pointer A1, .int .i64 r1, .int .i64 s1, .pointer B1, .int .i64 d1], .agg #[.int .i64 p2, .int .i64 q2, .pointer A2, .int .i64 r2, .int .i64 s2, .pointer B2, .int .i64 d2]] w fun e w' => e = .returned (.tuple #[.int .i64 (tog ⟨x1, y1, d1⟩ ⟨x2, y2, d2⟩), .bool (togOk ⟨x1, y1, d1⟩ ⟨x2, y2, d2⟩)]) ∧ Ext w w' := by
  unfold tog togOk
  by_cases h1 : d1 = 1
  · have := together_0 d1 d2 p1 q1 A1 r1 s1 B1 p2 q2 A2 r2 s2 B2 w h1
    simpa [h1] using this
  · by_cases h2 : d2 = 1
    · have := together_1 d1 d2 p1 q1 A1 r1 s1 B1 p2 q2 A2 r2 s2 B2 w ⟨h1, h2⟩
      simpa [h1, h2] using this
    · by_cases h3 : d1 = d2
      · have := together_2 d1 d2 p1 q1 A1 r1 s1 B1 p2 q2 A2 r2 s2 B2 w ⟨h1, h2, h3⟩
        simp only [if_neg h1, decide_eq_false h1, decide_eq_false h2, decide_eq_true h3]; exact this
      · have := together_3 d1 d2 p1 q1 A1 r1 s1 B1 p2 q2 A2 r2 s2 B2 w ⟨h1, h2, h3⟩
        simp only [if_neg h1, decide_eq_false h1, decide_eq_false h2, decide_eq_false h3]; exact this
end Go.Proofs.YtpgnlpjjpgdoiaaDoor
/- surd: write, squarefree. -/
namespace Go.Proofs.YtpgnlpjjpgdoiaaDoor
open Go Go.RowKit SurdM
set_option linter.unusedVariables false
set_option linter.unusedSimpArgs false
/-- A surd's variable. -/
def BoxS (w : World) (g : Nat) (S T : ByteArray) (d : Int) : Prop := w.heap[g]? = some (.cells #[.string S, .string T, .int .i64 d] 23 (0, 0))
theorem BoxS.ext {w w' : World} {g : Nat} {S T : ByteArray} {d : Int} (h : BoxS w g S T d) (he : Ext w w') : BoxS w' g S T d := he.blk h
theorem BoxS.cells {w : World} {g : Nat} {S T : ByteArray} {d : Int} (h : BoxS w g S T d) : w.cell? ⟨g, 0, none⟩ = some (.string S) ∧ w.cell? ⟨g, 1, none⟩ = some (.string T) ∧ w.cell? ⟨g, 2, none⟩ = some (.int .i64 d) := by
  refine ⟨?_, ?_, ?_⟩ <;> (rw [cell_of_row _ _ _ _ _ _ h]; rfl)
theorem BoxS.frozen {w : World} {g : Nat} {S T : ByteArray} {d : Int} (h : BoxS w g S T d) : w.frozen? ⟨g, 0, none⟩ = false ∧ w.frozen? ⟨g, 1, none⟩ = false ∧ w.frozen? ⟨g, 2, none⟩ = false := by
  refine ⟨?_, ?_, ?_⟩ <;> exact frozen_of_row _ _ _ _ _ h
theorem BoxS.noR {w : World} {g : Nat} {S T : ByteArray} {d : Int} (h : BoxS w g S T d) : NoR w g := noR_of h (by
  intro v hv; simp at hv; rcases hv with rfl | rfl | rfl <;> simp)
def putS (w : World) (g : Nat) (S T : ByteArray) (d : Int) : World := ((w.setCell ⟨g, 0, none⟩ (.string S)).setCell ⟨g, 1, none⟩ (.string T)).setCell ⟨g, 2, none⟩ (.int .i64 d)
theorem putS_only (w : World) (g : Nat) (S T : ByteArray) (d : Int) : Only g w (putS w g S T d) := (((Only.refl g w).setCell 0 _).setCell 1 _).setCell 2 _
theorem putS_row {w : World} {g : Nat} {S0 T0 : ByteArray} {d0 : Int} (h : BoxS w g S0 T0 d0) (S T : ByteArray) (d : Int) : BoxS (putS w g S T d) g S T d := by
  unfold putS BoxS
  rw [heap_setCell_same _ g 2 _ _ _ (heap_setCell_same _ g 1 _ _ _ (heap_setCell_same _ g 0 _ _ _ h))]
  rfl
theorem BoxS.only {w w' : World} {g k : Nat} {S T : ByteArray} {d : Int} (h : BoxS w g S T d) (ho : Only k w w') (hn : g ≠ k) : BoxS w' g S T d := ho.obj h hn
theorem sizeS : (Tryd.prog.info? 23).map (·.size) = some 3 := by kernel_rfl
theorem ret_sur {fn : Func} {p : Tmp} (h : fn.results = #[.cell p 23]) {a : Act} {w : World} {Q : Ending → World → Prop} (g : Nat) (x y z : Value) (ha : a.tmps.getD p undef = .pointer (some ⟨g, 0, none⟩))
    (hg : w.heap[g]? = some (.cells #[x, y, z] 23 (0, 0))) (hdef : a.defers = []) (hq : Q (.returned (.agg #[x, y, z])) w) : bodyPost Tryd.prog fn Q .ret a w :=
  bodyPost_ret (results_cell_row h a.tmps w g _ #[x, y, z] _ _ ha hg Tryd.underlying23 rfl sizeS) hdef hq
theorem ret_sur2 {fn : Func} {p u : Tmp} (h : fn.results = #[.cell p 23, .tmp u]) {a : Act} {w : World} {Q : Ending → World → Prop} (g : Nat) (x y z b : Value) (ha : a.tmps.getD p undef = .pointer (some ⟨g, 0, none⟩)) (hu : a.tmps.getD u undef = b)
    (hg : w.heap[g]? = some (.cells #[x, y, z] 23 (0, 0))) (hdef : a.defers = []) (hq : Q (.returned (.tuple #[.agg #[x, y, z], b])) w) : bodyPost Tryd.prog fn Q .ret a w := by
  refine bodyPost_ret (v := .tuple #[.agg #[x, y, z], b]) ?_ hdef hq
  rw [results_cell_tmp h, ha, hu]
  have hl := run_loadVar_row w g _ 23 #[x, y, z] _ _ hg Tryd.underlying23 rfl sizeS
  simp [asAddr, hl, Result.andThen]
theorem ret_val2 {fn : Func} {p u : Tmp} (h : fn.results = #[.cell p 45, .tmp u]) {a : Act} {w : World} {Q : Ending → World → Prop} (g : Nat) (x0 x1 x2 x3 x4 x5 x6 b : Value) (ha : a.tmps.getD p undef = .pointer (some ⟨g, 0, none⟩)) (hu : a.tmps.getD u undef = b)
    (hg : w.heap[g]? = some (.cells #[x0, x1, x2, x3, x4, x5, x6] 45 (0, 0))) (hdef : a.defers = []) (hq : Q (.returned (.tuple #[.agg #[x0, x1, x2, x3, x4, x5, x6], b])) w) : bodyPost Tryd.prog fn Q .ret a w := by
  refine bodyPost_ret (v := .tuple #[.agg #[x0, x1, x2, x3, x4, x5, x6], b]) ?_ hdef hq
  rw [results_cell_tmp h, ha, hu]
  have hl := run_loadVar_row w g _ 45 #[x0, x1, x2, x3, x4, x5, x6] _ _ hg Tryd.underlying45 rfl sizeV
  simp [asAddr, hl, Result.andThen]
/-- What write returns. -/
def SPost (w : World) (v : SV) (e : Ending) (w' : World) : Prop :=
  e = .returned (.agg #[.string ⟨(textR v.a).toArray⟩, .string ⟨(textR v.b).toArray⟩, .int .i64 v.d]) ∧ Ext w w'

set_option maxRecDepth 100000 in
set_option maxHeartbeats 400000 in
theorem write_calls {x y : Rat} {d : Int} {b : Nat} {p q : Int} {A : Option Addr} {r s : Int} {B : Option Addr} {w : World} (hx : RA b w x (.agg #[.int .i64 p, .int .i64 q, .pointer A])) (hy : RA b w y (.agg #[.int .i64 r, .int .i64 s, .pointer B])) (ht : TabW w) (hb : b ≤ 1099511627776) :
    Calls Tryd.prog 19 #[.agg #[.int .i64 p, .int .i64 q, .pointer A, .int .i64 r, .int .i64 s, .pointer B, .int .i64 d]] w (SPost w ⟨x, y, d⟩) := by
  have HS1 := Lib.hid (fun W (he : Ext w W) => stringK (hx.ext he) (ht.ext he) hb)
  have HS2 := Lib.hid (fun W (he : Ext w W) => stringK (hy.ext he) (ht.ext he) hb)
  obtain ⟨w2, hw2⟩ : ∃ w2, w2 = ((w.alloc (.cells #[.int .i64 p, .int .i64 q, .pointer A, .int .i64 r, .int .i64 s, .pointer B, .int .i64 d] 45)).alloc (.cells #[.string ⟨#[]⟩, .string ⟨#[]⟩, .int .i64 0] 23)) := ⟨_, rfl⟩
  have HE0 : Hid (Ext w w2) := Lib.hid (by rw [hw2]; exact Ext.two _ _ _)
  have HC : Hid (∀ W, Ext w2 W → BoxV W w.heap.size p q A r s B d) := Lib.hid (fun W he => BoxV.ext (by rw [hw2]; exact ((boxV_new w p q A r s B d).ext (Ext.one _ _))) he)
  have HV : Hid (∀ W, Ext w2 W → BoxS W (w.heap.size + 1) ⟨#[]⟩ ⟨#[]⟩ 0) := Lib.hid (fun W he => BoxS.ext (by rw [hw2]; exact heap_alloc2_new w _ _) he)
  have HW2 := Lib.hid hw2
  unfold SPost
  simp only []
  clear hx hy ht hb hw2
  generalize (⟨(textR x).toArray⟩ : ByteArray) = S at *
  generalize (⟨(textR y).toArray⟩ : ByteArray) = T at *
  go_enter Tryd.func19, Tryd.ntmps19
  go_wp2
  rw [← HW2.out]
  go_region_held3 (fun W => W.cell? ⟨w.heap.size, 0, none⟩ = some (.int .i64 p) ∧ W.cell? ⟨w.heap.size, 1, none⟩ = some (.int .i64 q) ∧ W.cell? ⟨w.heap.size, 2, none⟩ = some (.pointer A) ∧ W.cell? ⟨w.heap.size, 3, none⟩ = some (.int .i64 r) ∧ W.cell? ⟨w.heap.size, 4, none⟩ = some (.int .i64 s) ∧ W.cell? ⟨w.heap.size, 5, none⟩ = some (.pointer B) ∧ W.cell? ⟨w.heap.size, 6, none⟩ = some (.int .i64 d))
    (first
      | with_reducible exact (HC.out _ HE4.out).cells
      | with_reducible exact (HC.out _ HE3.out).cells
      | with_reducible exact (HC.out _ (Ext.refl _)).cells
      | with_reducible exact (HC.out _ (Ext.refl _).drew).cells
      | exact ((HC.out _ HE4.out).only (putS_only w4 (w.heap.size + 1) S T d) (by omega)).cells)
    (first
      | (go_at_call 22; refine (HS1.out _ (HE0.out.trans (Ext.refl _).drew)).mono ?_; rintro e w3 ⟨rfl, he⟩; have HE3 : Hid (Ext w2 w3) := Lib.hid (((Ext.refl w2).drew).trans he); have HX3 := Lib.hid he; clear he; clear HS1)
      | (go_at_call 22; refine (HS2.out _ (HE0.out.trans HE3.out)).mono ?_; rintro e w4 ⟨rfl, he⟩; have HE4 : Hid (Ext w2 w4) := Lib.hid ((HE3.out).trans he); have HX4 := Lib.hid he; clear he; clear HS2; obtain ⟨j0, j1, j2⟩ := (HV.out _ HE4.out).cells; obtain ⟨f0, f1, f2⟩ := (HV.out _ HE4.out).frozen))
  go_wp2
  refine ret_sur rfl (w.heap.size + 1) _ _ _ rfl (putS_row (HV.out _ HE4.out) S T d) rfl ?_
  exact ⟨rfl, (putS_only _ _ _ _ _).ext (HE0.out.trans HE4.out) (by omega)⟩
/-- Does no square divide d? -/
noncomputable def sqfB (d : Int) : Bool := @decide (SqF d) (Classical.propDecidable _)
theorem sqfB_iff {d : Int} : sqfB d = true ↔ SqF d := by unfold sqfB; exact @decide_eq_true_iff _ (Classical.propDecidable _)
theorem sq_bound {k : Nat} {d : Int} (hd : d ≤ 1000000) (h : k = 2 ∨ (((k : Int) - 1) * ((k : Int) - 1) ≤ d)) : k ≤ 1001 := by
  rcases h with h | h
  · omega
  · rcases Nat.lt_or_ge 1001 k with h1 | h1
    · have h2 : (1001 : Int) * 1001 ≤ ((k : Int) - 1) * ((k : Int) - 1) := Int.mul_le_mul (by omega) (by omega) (by omega) (by omega)
      omega
    · exact h1
theorem sq_bnd {k : Nat} (h : 2 ≤ k) (h2 : k ≤ 1001) : 4 ≤ (k : Int) * (k : Int) ∧ (k : Int) * (k : Int) ≤ 1002001 := by
  have h3 := Nat.mul_le_mul h h
  have h4 := Nat.mul_le_mul h2 h2
  omega
set_option maxRecDepth 100000 in
set_option maxHeartbeats 400000 in
theorem squarefree_calls (d : Int) (w : World) (h0 : 0 ≤ d) (h1 : d ≤ 1000000) :
    Calls Tryd.prog 57 #[.int .i64 d] w fun e w' => e = .returned (.bool (sqfB d)) ∧ w = w' := by
  have HD := Lib.hid h1
  have HD0 := Lib.hid h0
  clear h0 h1
  go_enter Tryd.func57, Tryd.ntmps57
  go_wp2
  go_loop [3] (fun i => ∃ k : Nat, 2 ≤ k ∧ i = .int .i64 (k : Int) ∧ Hid (k = 2 ∨ (((k : Int) - 1) * ((k : Int) - 1) ≤ d)) ∧ Hid (∀ j : Int, 2 ≤ j → j < k → d % (j * j) ≠ 0)) (fun i => 1002 - (intOf i).toNat)
  case atStart => exact ⟨2, by omega, rfl, Lib.hid (.inl rfl), Lib.hid (fun j h1 h2 => by omega)⟩
  case round =>
    obtain ⟨k, hk, rfl, HK, HJ⟩ := hrel
    have hkb := sq_bound HD.out HK.out
    obtain ⟨m, hm⟩ : ∃ m : Int, m = (k : Int) * (k : Int) := ⟨_, rfl⟩
    have hm1 : 4 ≤ m ∧ m ≤ 1002001 := by rw [hm]; exact sq_bnd hk hkb
    have HKK := Lib.hid hk
    have q1 : IntKind.i64.wrap (((k : Nat) : Int) * ((k : Nat) : Int)) = m := by rw [← hm]; simp only [IntKind.wrap_i64]; omega
    have q2 : IntKind.i64.wrap (((k : Nat) : Int) + 1) = ((k : Nat) : Int) + 1 := by simp only [IntKind.wrap_i64]; omega
    have HM := Lib.hid hm
    have HM1 := Lib.hid hm1
    have HKB := Lib.hid hkb
    clear hm hkb hk hm1
    by_cases ht : m ≤ d
    · have t1 : decide (m ≤ d) = true := decide_eq_true ht
      obtain ⟨z, hz⟩ : ∃ z, z = d.tmod m := ⟨_, rfl⟩
      have q3 : d.tmod m = z := hz.symm
      have HZ : Hid (z = d % m) := Lib.hid (by rw [hz]; exact Int.tmod_eq_emod_of_nonneg HD0.out)
      have q4 : ¬ m = 0 := by have := HM1.out.1; omega
      by_cases hz0 : z = 0
      · have t2 : (z == 0) = true := by rw [beq_iff_eq]; exact hz0
        have HR : Hid (sqfB d = false) := Lib.hid (by
          cases h : sqfB d with
          | false => rfl
          | true =>
            exfalso
            refine sqfB_iff.mp h k (by have := HKK.out; omega) (by rw [← HM.out]; exact ht) ?_
            rw [← HM.out, ← HZ.out]; exact hz0)
        clear hz ht
        subst hz0
        clear t2
        go_wp2
        go_ret
        exact ⟨by rw [HR.out]; rfl, rfl⟩
      · have t2 : (z == 0) = false := by rw [beq_eq_false_iff_ne]; exact hz0
        have HJ2 : Hid (∀ j : Int, 2 ≤ j → j < ((k + 1 : Nat) : Int) → d % (j * j) ≠ 0) := Lib.hid (fun j h1 h2 => by
          rcases Int.lt_or_le j k with h3 | h3
          · exact HJ.out j h1 h3
          · have h4 : j = (k : Int) := by omega
            rw [h4, ← HM.out, ← HZ.out]; exact hz0)
        have HK2 : Hid (k + 1 = 2 ∨ ((((k + 1 : Nat) : Int) - 1) * (((k + 1 : Nat) : Int) - 1) ≤ d)) := Lib.hid (.inr (by
          rw [show ((k + 1 : Nat) : Int) - 1 = (k : Int) from by omega, ← HM.out]; exact ht))
        clear hz hz0 ht
        go_wp2
        go_round
        case rel => exact ⟨k + 1, by have := HKK.out; omega, by go_num, HK2, HJ2⟩
        case measure => have := HKB.out; simp [intOf]; omega
    · have t1 : decide (m ≤ d) = false := decide_eq_false ht
      have HR : Hid (sqfB d = true) := Lib.hid (by
        rw [sqfB_iff]
        intro j h1 h2
        rcases Int.lt_or_le j k with h3 | h3
        · exact HJ.out j h1 h3
        · exfalso
          have h4 : (k : Int) * k ≤ j * j := Int.mul_le_mul h3 h3 (by omega) (by omega)
          rw [← HM.out] at h4
          omega)
      clear ht
      go_wp2
      go_ret
      exact ⟨by rw [HR.out]; rfl, rfl⟩
end Go.Proofs.YtpgnlpjjpgdoiaaDoor
/- surd: read. -/
namespace Go.Proofs.YtpgnlpjjpgdoiaaDoor
open Go Go.RowKit SurdM
set_option linter.unusedVariables false
set_option linter.unusedSimpArgs false
theorem BoxR.onlyR3 {w w' : World} {g k : Nat} {p q : Int} {A : Option Addr} (h : BoxR w g p q A) (ho : Only k w w') (hn : g ≠ k) : BoxR w' g p q A := ho.obj h hn
theorem ten_two (n : Nat) : 10 ^ n ≤ 2 ^ (4 * n) := by
  rw [Nat.pow_mul]; exact Nat.pow_le_pow_left (by decide) n
theorem len_top (l : List UInt8) : (topB (bodyB l)).length ≤ l.length := by
  have h1 : (bodyB l).length ≤ l.length := by
    unfold bodyB; split
    · rw [List.length_tail]; omega
    · exact Nat.le_refl _
  exact Nat.le_trans (List.takeWhile_prefix _).length_le h1
theorem len_low (l : List UInt8) : (lowB (bodyB l)).length ≤ l.length + 1 := by
  have h1 : (bodyB l).length ≤ l.length := by
    unfold bodyB; split
    · rw [List.length_tail]; omega
    · exact Nat.le_refl _
  unfold lowB; split
  · rw [List.length_drop]; omega
  · simp
/-- How great the number of a short text is. -/
theorem of_RB {l : List UInt8} {x : Rat} {n : Nat} (h : ofB l = some x) (hn : l.length ≤ n) : RB (4 * n + 4) x := by
  unfold ofB at h
  by_cases hb : badB l = true
  · rw [if_pos hb] at h; exact absurd h (by simp)
  · rw [if_neg hb] at h
    have hb' : badB l = false := by simpa using hb
    split at h
    · exact absurd h (by simp)
    · injection h with h
      have h0 := low_pos hb'
      have hbb := hb'
      unfold badB at hbb
      simp only [Bool.or_eq_false_iff] at hbb
      obtain ⟨⟨⟨h1, h2⟩, h3⟩, h4⟩ := hbb
      have v1 := valD_lt _ (plain_all (by simpa using h1))
      have v2 := valD_lt _ (plain_all (by simpa using h2))
      obtain ⟨m1, m2⟩ := mkRat_num_le (sgn (l.head? == some 45) (valD (topB (bodyB l)))) (valD (lowB (bodyB l))) h0
      rw [h] at m1 m2
      have m3 : (sgn (l.head? == some 45) (valD (topB (bodyB l)))).natAbs = valD (topB (bodyB l)) := by unfold sgn; split <;> omega
      rw [m3] at m1
      have e1 := Nat.pow_le_pow_right (n := 10) (by decide) (Nat.le_trans (len_top l) (Nat.le_trans hn (Nat.le_succ n)))
      have e2 := Nat.pow_le_pow_right (n := 10) (by decide) (Nat.le_trans (len_low l) (Nat.succ_le_succ hn))
      have e3 := ten_two (n + 1)
      rw [show 4 * n + 4 = 4 * (n + 1) from by omega]
      exact ⟨by omega, by omega⟩
/-- What Of returns, with the number's size. -/
def OPost (b : Nat) (w : World) (o : Option Rat) (e : Ending) (w' : World) : Prop :=
  ∃ p q A, e = .returned (.tuple #[.agg #[.int .i64 p, .int .i64 q, .pointer A], .bool o.isSome]) ∧ (∀ x, o = some x → RA b w' x (.agg #[.int .i64 p, .int .i64 q, .pointer A])) ∧ Ext w w'
theorem ofK (s : ByteArray) (n : Nat) (w : World) (hs : s.size ≤ n) (hn : n ≤ 1099511627776) :
    Calls Tryd.prog 31 #[.string s] w (OPost (4 * n + 4) w (ofB s.data.toList)) := by
  refine (of_calls s w (by omega)).mono ?_
  rintro e w' ⟨p, q, A, he, h1, h2, h3⟩
  exact ⟨p, q, A, he, fun x hx => ⟨h1 x hx, of_RB hx (by rw [Array.length_toList]; exact hs)⟩, h3⟩
def OSome (b : Nat) (w : World) (x : Rat) (e : Ending) (w' : World) : Prop :=
  ∃ p q A, e = .returned (.tuple #[.agg #[.int .i64 p, .int .i64 q, .pointer A], .bool true]) ∧ RA b w' x (.agg #[.int .i64 p, .int .i64 q, .pointer A]) ∧ Ext w w'
def ONone (w : World) (t : Bool) (e : Ending) (w' : World) : Prop :=
  ∃ p q A, e = .returned (.tuple #[.agg #[.int .i64 p, .int .i64 q, .pointer A], .bool t]) ∧ Ext w w'
theorem OPost.some {b : Nat} {w w' : World} {o : Option Rat} {x : Rat} {e : Ending} (h : OPost b w o e w') (hx : o = some x) : OSome b w x e w' := by
  obtain ⟨p, q, A, he, h1, h2⟩ := h
  exact ⟨p, q, A, by rw [he, hx]; rfl, h1 x hx, h2⟩
theorem OPost.none {b : Nat} {w w' : World} {o : Option Rat} {e : Ending} (h : OPost b w o e w') : ONone w o.isSome e w' := by
  obtain ⟨p, q, A, he, h1, h2⟩ := h
  exact ⟨p, q, A, he, h2⟩
/-- The value that a surd stands for. -/
noncomputable def readV (la lb : List UInt8) (d : Int) : Option SV :=
  match ofB la, ofB lb with
  | some a, some b => if d = 1 then (if b = 0 then some ⟨a, b, 1⟩ else none) else if d < 2 ∨ 1000000 < d ∨ b = 0 ∨ sqfB d = false then none else some ⟨a, b, d⟩
  | _, _ => none
theorem readV_val {la lb : List UInt8} {d : Int} {v : SV} (h : readV la lb d = some v) : Val v := by
  unfold readV at h
  split at h
  · split at h
    · split at h
      · injection h with h; subst h; rename_i h1; exact .inl ⟨rfl, h1⟩
      · exact absurd h (by simp)
    · split at h
      · exact absurd h (by simp)
      · injection h with h; subst h
        rename_i h1 h2
        refine .inr ⟨by show 2 ≤ d; omega, by show d ≤ 1000000; omega, fun h3 => h2 (.inr (.inr (.inl h3))), ?_⟩
        rw [← sqfB_iff]
        cases h4 : sqfB d with
        | true => rfl
        | false => exact absurd (.inr (.inr (.inr h4))) h2
  · exact absurd h (by simp)
/-- What read returns. -/
def RdPost (b : Nat) (w : World) (o : Option SV) (e : Ending) (w' : World) : Prop :=
  ∃ p q A r s B d, e = .returned (.tuple #[.agg #[.int .i64 p, .int .i64 q, .pointer A, .int .i64 r, .int .i64 s, .pointer B, .int .i64 d], .bool o.isSome]) ∧ (∀ v, o = some v → d = v.d ∧ RA b w' v.a (.agg #[.int .i64 p, .int .i64 q, .pointer A]) ∧ RA b w' v.b (.agg #[.int .i64 r, .int .i64 s, .pointer B])) ∧ Ext w w'
theorem RdPost.no {b : Nat} {w w' : World} {o : Option SV} {p q : Int} {A : Option Addr} {r s : Int} {B : Option Addr} {d : Int} (ho : o = none) (he : Ext w w') : RdPost b w o (.returned (.tuple #[.agg #[.int .i64 p, .int .i64 q, .pointer A, .int .i64 r, .int .i64 s, .pointer B, .int .i64 d], .bool false])) w' :=
  ⟨p, q, A, r, s, B, d, by rw [ho]; rfl, fun v hv => by rw [ho] at hv; exact absurd hv (by simp), he⟩
set_option maxRecDepth 100000 in
set_option maxHeartbeats 400000 in
theorem read_n1 (sa sb : ByteArray) (d : Int) (n : Nat) (w : World) (hsa : sa.size ≤ n) (hsb : sb.size ≤ n) (hn : n ≤ 1000000000) (h1 : ofB sa.data.toList = none)   :
    Calls Tryd.prog 36 #[.agg #[.string sa, .string sb, .int .i64 d]] w (RdPost (4 * n + 4) w (readV sa.data.toList sb.data.toList d)) := by
  have HQ : Hid (readV sa.data.toList sb.data.toList d = none) := Lib.hid (by unfold readV; rw [h1])
  have HO1 := Lib.hid (fun W => (ofK sa n W hsa (by omega)).mono fun _ _ h => h.none)
  have HO2 := Lib.hid (fun W => (ofK sb n W hsb (by omega)).mono fun _ _ h => h.none)
  rw [h1] at HO1
  
  generalize (ofB sb.data.toList).isSome = t2 at *
  obtain ⟨w2, hw2⟩ : ∃ w2, w2 = ((w.alloc (.cells #[.string sa, .string sb, .int .i64 d] 23)).alloc (.cells #[.int .i64 0, .int .i64 0, .pointer none, .int .i64 0, .int .i64 0, .pointer none, .int .i64 0] 45)) := ⟨_, rfl⟩
  have HE0 : Hid (Ext w w2) := Lib.hid (by rw [hw2]; exact Ext.two _ _ _)
  have HC : Hid (∀ W, Ext w2 W → BoxS W w.heap.size sa sb d) := Lib.hid (fun W he => BoxS.ext (by rw [hw2]; exact BoxS.ext (heap_alloc_new w _) (Ext.one _ _)) he)
  have HV : Hid (∀ W, Ext w2 W → BoxV W (w.heap.size + 1) 0 0 none 0 0 none 0) := Lib.hid (fun W he => BoxV.ext (by rw [hw2]; exact heap_alloc2_new w _ _) he)
  have HW2 := Lib.hid hw2
  obtain ⟨k0, k1, k2⟩ := (HC.out _ (Ext.refl _)).cells
  generalize readV sa.data.toList sb.data.toList d = RV at *
  
  clear hsa hsb hn h1  hw2
  go_enter Tryd.func36, Tryd.ntmps36
  go_wp2_with fail
  rw [← HW2.out]
  go_wp2_with (first
    | (go_at_call 31; refine (HO1.out _).mono ?_; rintro e w3 ⟨p3, q3, A3, rfl, he⟩; have HE3 : Hid (Ext w2 w3) := Lib.hid ((Ext.refl w2).trans he); have HX3 := Lib.hid he; clear he; clear HO1 k0 k1 k2; obtain ⟨k0, k1, k2⟩ := (HC.out _ (HE3.out.alloc (.cells #[.int .i64 p3, .int .i64 q3, .pointer A3] 43))).cells)
    | (go_at_call 31; refine (HO2.out _).mono ?_; rintro e w5 ⟨p5, q5, A5, rfl, he⟩; have HE5 : Hid (Ext w2 w5) := Lib.hid ((HE3.out.alloc (.cells #[.int .i64 p3, .int .i64 q3, .pointer A3] 43)).trans he); have HX5 := Lib.hid he; clear he; clear HO2 k0 k1 k2; obtain ⟨k0, k1, k2⟩ := (HC.out _ (HE5.out.alloc (.cells #[.int .i64 p5, .int .i64 q5, .pointer A5] 43))).cells; obtain ⟨j0, j1, j2, j3, j4, j5, j6⟩ := (HV.out _ (HE5.out.alloc (.cells #[.int .i64 p5, .int .i64 q5, .pointer A5] 43))).cells; obtain ⟨f0, f1, f2, f3, f4, f5, f6⟩ := (HV.out _ (HE5.out.alloc (.cells #[.int .i64 p5, .int .i64 q5, .pointer A5] 43))).frozen; obtain ⟨e0, e1, e2⟩ := (BoxR.ext (BoxR.new w3 p3 q3 A3) (HX5.out.alloc (.cells #[.int .i64 p5, .int .i64 q5, .pointer A5] 43))).cells)
    | fail)
  refine ret_val2 rfl (w.heap.size + 1) _ _ _ _ _ _ _ _ rfl rfl (putV_row (HV.out _ (HE5.out.alloc (.cells #[.int .i64 p5, .int .i64 q5, .pointer A5] 43))) 0 0 none 0 0 none 0) rfl ?_
  exact RdPost.no HQ.out ((putV_only _ _ _ _ _ _ _ _ _).ext (HE0.out.trans (HE5.out.alloc (.cells #[.int .i64 p5, .int .i64 q5, .pointer A5] 43))) (by omega))
set_option maxRecDepth 100000 in
set_option maxHeartbeats 400000 in
theorem read_n2 (sa sb : ByteArray) (d : Int) (n : Nat) (w : World) (hsa : sa.size ≤ n) (hsb : sb.size ≤ n) (hn : n ≤ 1000000000) (x : Rat) (h1 : ofB sa.data.toList = some x) (h2 : ofB sb.data.toList = none)  :
    Calls Tryd.prog 36 #[.agg #[.string sa, .string sb, .int .i64 d]] w (RdPost (4 * n + 4) w (readV sa.data.toList sb.data.toList d)) := by
  have HQ : Hid (readV sa.data.toList sb.data.toList d = none) := Lib.hid (by unfold readV; rw [h1, h2])
  have HO1 := Lib.hid (fun W => (ofK sa n W hsa (by omega)).mono fun _ _ h => h.some h1)
  have HO2 := Lib.hid (fun W => (ofK sb n W hsb (by omega)).mono fun _ _ h => h.none)
  
  rw [h2] at HO2
  
  obtain ⟨w2, hw2⟩ : ∃ w2, w2 = ((w.alloc (.cells #[.string sa, .string sb, .int .i64 d] 23)).alloc (.cells #[.int .i64 0, .int .i64 0, .pointer none, .int .i64 0, .int .i64 0, .pointer none, .int .i64 0] 45)) := ⟨_, rfl⟩
  have HE0 : Hid (Ext w w2) := Lib.hid (by rw [hw2]; exact Ext.two _ _ _)
  have HC : Hid (∀ W, Ext w2 W → BoxS W w.heap.size sa sb d) := Lib.hid (fun W he => BoxS.ext (by rw [hw2]; exact BoxS.ext (heap_alloc_new w _) (Ext.one _ _)) he)
  have HV : Hid (∀ W, Ext w2 W → BoxV W (w.heap.size + 1) 0 0 none 0 0 none 0) := Lib.hid (fun W he => BoxV.ext (by rw [hw2]; exact heap_alloc2_new w _ _) he)
  have HW2 := Lib.hid hw2
  obtain ⟨k0, k1, k2⟩ := (HC.out _ (Ext.refl _)).cells
  generalize readV sa.data.toList sb.data.toList d = RV at *
  
  clear hsa hsb hn h1 h2 hw2
  go_enter Tryd.func36, Tryd.ntmps36
  go_wp2_with fail
  rw [← HW2.out]
  go_wp2_with (first
    | (go_at_call 31; refine (HO1.out _).mono ?_; rintro e w3 ⟨p3, q3, A3, rfl, hr, he⟩; have HR3 := Lib.hid hr; have HE3 : Hid (Ext w2 w3) := Lib.hid ((Ext.refl w2).trans he); have HX3 := Lib.hid he; clear hr he; clear HO1 k0 k1 k2; obtain ⟨k0, k1, k2⟩ := (HC.out _ (HE3.out.alloc (.cells #[.int .i64 p3, .int .i64 q3, .pointer A3] 43))).cells)
    | (go_at_call 31; refine (HO2.out _).mono ?_; rintro e w5 ⟨p5, q5, A5, rfl, he⟩; have HE5 : Hid (Ext w2 w5) := Lib.hid ((HE3.out.alloc (.cells #[.int .i64 p3, .int .i64 q3, .pointer A3] 43)).trans he); have HX5 := Lib.hid he; clear he; clear HO2 k0 k1 k2; obtain ⟨k0, k1, k2⟩ := (HC.out _ (HE5.out.alloc (.cells #[.int .i64 p5, .int .i64 q5, .pointer A5] 43))).cells; obtain ⟨j0, j1, j2, j3, j4, j5, j6⟩ := (HV.out _ (HE5.out.alloc (.cells #[.int .i64 p5, .int .i64 q5, .pointer A5] 43))).cells; obtain ⟨f0, f1, f2, f3, f4, f5, f6⟩ := (HV.out _ (HE5.out.alloc (.cells #[.int .i64 p5, .int .i64 q5, .pointer A5] 43))).frozen; obtain ⟨e0, e1, e2⟩ := (BoxR.ext (BoxR.new w3 p3 q3 A3) (HX5.out.alloc (.cells #[.int .i64 p5, .int .i64 q5, .pointer A5] 43))).cells)
    | fail)
  refine ret_val2 rfl (w.heap.size + 1) _ _ _ _ _ _ _ _ rfl rfl (putV_row (HV.out _ (HE5.out.alloc (.cells #[.int .i64 p5, .int .i64 q5, .pointer A5] 43))) 0 0 none 0 0 none 0) rfl ?_
  exact RdPost.no HQ.out ((putV_only _ _ _ _ _ _ _ _ _).ext (HE0.out.trans (HE5.out.alloc (.cells #[.int .i64 p5, .int .i64 q5, .pointer A5] 43))) (by omega))
set_option maxRecDepth 100000 in
set_option maxHeartbeats 400000 in
theorem read_lo (sa sb : ByteArray) (d : Int) (n : Nat) (w : World) (hsa : sa.size ≤ n) (hsb : sb.size ≤ n) (hn : n ≤ 1000000000) (x : Rat) (h1 : ofB sa.data.toList = some x) (y : Rat) (h2 : ofB sb.data.toList = some y) (hd : d < 2) (hd1 : ¬ d = 1) :
    Calls Tryd.prog 36 #[.agg #[.string sa, .string sb, .int .i64 d]] w (RdPost (4 * n + 4) w (readV sa.data.toList sb.data.toList d)) := by
  have HQ : Hid (readV sa.data.toList sb.data.toList d = none) := Lib.hid (by unfold readV; rw [h1, h2]; simp only [if_neg hd1]; rw [if_pos (.inl hd)])
  have HO1 := Lib.hid (fun W => (ofK sa n W hsa (by omega)).mono fun _ _ h => h.some h1)
  have HO2 := Lib.hid (fun W => (ofK sb n W hsb (by omega)).mono fun _ _ h => h.some h2)
  
  
  
  obtain ⟨w2, hw2⟩ : ∃ w2, w2 = ((w.alloc (.cells #[.string sa, .string sb, .int .i64 d] 23)).alloc (.cells #[.int .i64 0, .int .i64 0, .pointer none, .int .i64 0, .int .i64 0, .pointer none, .int .i64 0] 45)) := ⟨_, rfl⟩
  have HE0 : Hid (Ext w w2) := Lib.hid (by rw [hw2]; exact Ext.two _ _ _)
  have HC : Hid (∀ W, Ext w2 W → BoxS W w.heap.size sa sb d) := Lib.hid (fun W he => BoxS.ext (by rw [hw2]; exact BoxS.ext (heap_alloc_new w _) (Ext.one _ _)) he)
  have HV : Hid (∀ W, Ext w2 W → BoxV W (w.heap.size + 1) 0 0 none 0 0 none 0) := Lib.hid (fun W he => BoxV.ext (by rw [hw2]; exact heap_alloc2_new w _ _) he)
  have HW2 := Lib.hid hw2
  obtain ⟨k0, k1, k2⟩ := (HC.out _ (Ext.refl _)).cells
  generalize readV sa.data.toList sb.data.toList d = RV at *
  
  clear hsa hsb hn h1 h2 hw2
  go_enter Tryd.func36, Tryd.ntmps36
  go_wp2_with fail
  rw [← HW2.out]
  go_wp2_with (first
    | (go_at_call 31; refine (HO1.out _).mono ?_; rintro e w3 ⟨p3, q3, A3, rfl, hr, he⟩; have HR3 := Lib.hid hr; have HE3 : Hid (Ext w2 w3) := Lib.hid ((Ext.refl w2).trans he); have HX3 := Lib.hid he; clear hr he; clear HO1 k0 k1 k2; obtain ⟨k0, k1, k2⟩ := (HC.out _ (HE3.out.alloc (.cells #[.int .i64 p3, .int .i64 q3, .pointer A3] 43))).cells)
    | (go_at_call 31; refine (HO2.out _).mono ?_; rintro e w5 ⟨p5, q5, A5, rfl, hr, he⟩; have HR5 := Lib.hid hr; have HE5 : Hid (Ext w2 w5) := Lib.hid ((HE3.out.alloc (.cells #[.int .i64 p3, .int .i64 q3, .pointer A3] 43)).trans he); have HX5 := Lib.hid he; clear hr he; clear HO2 k0 k1 k2; obtain ⟨k0, k1, k2⟩ := (HC.out _ (HE5.out.alloc (.cells #[.int .i64 p5, .int .i64 q5, .pointer A5] 43))).cells; obtain ⟨j0, j1, j2, j3, j4, j5, j6⟩ := (HV.out _ (HE5.out.alloc (.cells #[.int .i64 p5, .int .i64 q5, .pointer A5] 43))).cells; obtain ⟨f0, f1, f2, f3, f4, f5, f6⟩ := (HV.out _ (HE5.out.alloc (.cells #[.int .i64 p5, .int .i64 q5, .pointer A5] 43))).frozen; obtain ⟨e0, e1, e2⟩ := (BoxR.ext (BoxR.new w3 p3 q3 A3) (HX5.out.alloc (.cells #[.int .i64 p5, .int .i64 q5, .pointer A5] 43))).cells)
    | fail)
  refine ret_val2 rfl (w.heap.size + 1) _ _ _ _ _ _ _ _ rfl rfl (putV_row (HV.out _ (HE5.out.alloc (.cells #[.int .i64 p5, .int .i64 q5, .pointer A5] 43))) 0 0 none 0 0 none 0) rfl ?_
  exact RdPost.no HQ.out ((putV_only _ _ _ _ _ _ _ _ _).ext (HE0.out.trans (HE5.out.alloc (.cells #[.int .i64 p5, .int .i64 q5, .pointer A5] 43))) (by omega))
set_option maxRecDepth 100000 in
set_option maxHeartbeats 400000 in
theorem read_hi (sa sb : ByteArray) (d : Int) (n : Nat) (w : World) (hsa : sa.size ≤ n) (hsb : sb.size ≤ n) (hn : n ≤ 1000000000) (x : Rat) (h1 : ofB sa.data.toList = some x) (y : Rat) (h2 : ofB sb.data.toList = some y) (hd : 1000000 < d) :
    Calls Tryd.prog 36 #[.agg #[.string sa, .string sb, .int .i64 d]] w (RdPost (4 * n + 4) w (readV sa.data.toList sb.data.toList d)) := by
  have HQ : Hid (readV sa.data.toList sb.data.toList d = none) := Lib.hid (by unfold readV; rw [h1, h2]; simp only [if_neg (show ¬ d = 1 by omega)]; rw [if_pos (.inr (.inl hd))])
  have HO1 := Lib.hid (fun W => (ofK sa n W hsa (by omega)).mono fun _ _ h => h.some h1)
  have HO2 := Lib.hid (fun W => (ofK sb n W hsb (by omega)).mono fun _ _ h => h.some h2)
  
  
  
  obtain ⟨w2, hw2⟩ : ∃ w2, w2 = ((w.alloc (.cells #[.string sa, .string sb, .int .i64 d] 23)).alloc (.cells #[.int .i64 0, .int .i64 0, .pointer none, .int .i64 0, .int .i64 0, .pointer none, .int .i64 0] 45)) := ⟨_, rfl⟩
  have HE0 : Hid (Ext w w2) := Lib.hid (by rw [hw2]; exact Ext.two _ _ _)
  have HC : Hid (∀ W, Ext w2 W → BoxS W w.heap.size sa sb d) := Lib.hid (fun W he => BoxS.ext (by rw [hw2]; exact BoxS.ext (heap_alloc_new w _) (Ext.one _ _)) he)
  have HV : Hid (∀ W, Ext w2 W → BoxV W (w.heap.size + 1) 0 0 none 0 0 none 0) := Lib.hid (fun W he => BoxV.ext (by rw [hw2]; exact heap_alloc2_new w _ _) he)
  have HW2 := Lib.hid hw2
  obtain ⟨k0, k1, k2⟩ := (HC.out _ (Ext.refl _)).cells
  generalize readV sa.data.toList sb.data.toList d = RV at *
  
  clear hsa hsb hn h1 h2 hw2
  go_enter Tryd.func36, Tryd.ntmps36
  go_wp2_with fail
  rw [← HW2.out]
  go_wp2_with (first
    | (go_at_call 31; refine (HO1.out _).mono ?_; rintro e w3 ⟨p3, q3, A3, rfl, hr, he⟩; have HR3 := Lib.hid hr; have HE3 : Hid (Ext w2 w3) := Lib.hid ((Ext.refl w2).trans he); have HX3 := Lib.hid he; clear hr he; clear HO1 k0 k1 k2; obtain ⟨k0, k1, k2⟩ := (HC.out _ (HE3.out.alloc (.cells #[.int .i64 p3, .int .i64 q3, .pointer A3] 43))).cells)
    | (go_at_call 31; refine (HO2.out _).mono ?_; rintro e w5 ⟨p5, q5, A5, rfl, hr, he⟩; have HR5 := Lib.hid hr; have HE5 : Hid (Ext w2 w5) := Lib.hid ((HE3.out.alloc (.cells #[.int .i64 p3, .int .i64 q3, .pointer A3] 43)).trans he); have HX5 := Lib.hid he; clear hr he; clear HO2 k0 k1 k2; obtain ⟨k0, k1, k2⟩ := (HC.out _ (HE5.out.alloc (.cells #[.int .i64 p5, .int .i64 q5, .pointer A5] 43))).cells; obtain ⟨j0, j1, j2, j3, j4, j5, j6⟩ := (HV.out _ (HE5.out.alloc (.cells #[.int .i64 p5, .int .i64 q5, .pointer A5] 43))).cells; obtain ⟨f0, f1, f2, f3, f4, f5, f6⟩ := (HV.out _ (HE5.out.alloc (.cells #[.int .i64 p5, .int .i64 q5, .pointer A5] 43))).frozen; obtain ⟨e0, e1, e2⟩ := (BoxR.ext (BoxR.new w3 p3 q3 A3) (HX5.out.alloc (.cells #[.int .i64 p5, .int .i64 q5, .pointer A5] 43))).cells)
    | fail)
  refine ret_val2 rfl (w.heap.size + 1) _ _ _ _ _ _ _ _ rfl rfl (putV_row (HV.out _ (HE5.out.alloc (.cells #[.int .i64 p5, .int .i64 q5, .pointer A5] 43))) 0 0 none 0 0 none 0) rfl ?_
  exact RdPost.no HQ.out ((putV_only _ _ _ _ _ _ _ _ _).ext (HE0.out.trans (HE5.out.alloc (.cells #[.int .i64 p5, .int .i64 q5, .pointer A5] 43))) (by omega))
set_option maxRecDepth 100000 in
set_option maxHeartbeats 400000 in
theorem read_z (sa sb : ByteArray) (d : Int) (n : Nat) (w : World) (hsa : sa.size ≤ n) (hsb : sb.size ≤ n) (hn : n ≤ 1000000000) (x : Rat) (h1 : ofB sa.data.toList = some x) (y : Rat) (h2 : ofB sb.data.toList = some y) (hd2 : ¬ d < 2) (hd3 : ¬ 1000000 < d) (h0 : y = 0) (hd4 : ¬ d = 1) :
    Calls Tryd.prog 36 #[.agg #[.string sa, .string sb, .int .i64 d]] w (RdPost (4 * n + 4) w (readV sa.data.toList sb.data.toList d)) := by
  have HQ : Hid (readV sa.data.toList sb.data.toList d = none) := Lib.hid (by unfold readV; rw [h1, h2]; simp only [if_neg (show ¬ d = 1 by omega)]; rw [if_pos (.inr (.inr (.inl h0)))])
  have HO1 := Lib.hid (fun W => (ofK sa n W hsa (by omega)).mono fun _ _ h => h.some h1)
  have HO2 := Lib.hid (fun W => (ofK sb n W hsb (by omega)).mono fun _ _ h => h.some h2)
  
  
  
  obtain ⟨w2, hw2⟩ : ∃ w2, w2 = ((w.alloc (.cells #[.string sa, .string sb, .int .i64 d] 23)).alloc (.cells #[.int .i64 0, .int .i64 0, .pointer none, .int .i64 0, .int .i64 0, .pointer none, .int .i64 0] 45)) := ⟨_, rfl⟩
  have HE0 : Hid (Ext w w2) := Lib.hid (by rw [hw2]; exact Ext.two _ _ _)
  have HC : Hid (∀ W, Ext w2 W → BoxS W w.heap.size sa sb d) := Lib.hid (fun W he => BoxS.ext (by rw [hw2]; exact BoxS.ext (heap_alloc_new w _) (Ext.one _ _)) he)
  have HV : Hid (∀ W, Ext w2 W → BoxV W (w.heap.size + 1) 0 0 none 0 0 none 0) := Lib.hid (fun W he => BoxV.ext (by rw [hw2]; exact heap_alloc2_new w _ _) he)
  have HW2 := Lib.hid hw2
  obtain ⟨k0, k1, k2⟩ := (HC.out _ (Ext.refl _)).cells
  generalize readV sa.data.toList sb.data.toList d = RV at *
  have HY0 : Hid (decide (y = 0) = true) := Lib.hid (decide_eq_true h0)
  clear h0
  clear hsa hsb hn h1 h2 hw2
  go_enter Tryd.func36, Tryd.ntmps36
  go_wp2_with fail
  rw [← HW2.out]
  go_wp2_with (first
    | (go_at_call 31; refine (HO1.out _).mono ?_; rintro e w3 ⟨p3, q3, A3, rfl, hr, he⟩; have HR3 := Lib.hid hr; have HE3 : Hid (Ext w2 w3) := Lib.hid ((Ext.refl w2).trans he); have HX3 := Lib.hid he; clear hr he; clear HO1 k0 k1 k2; obtain ⟨k0, k1, k2⟩ := (HC.out _ (HE3.out.alloc (.cells #[.int .i64 p3, .int .i64 q3, .pointer A3] 43))).cells)
    | (go_at_call 31; refine (HO2.out _).mono ?_; rintro e w5 ⟨p5, q5, A5, rfl, hr, he⟩; have HR5 := Lib.hid hr; have HE5 : Hid (Ext w2 w5) := Lib.hid ((HE3.out.alloc (.cells #[.int .i64 p3, .int .i64 q3, .pointer A3] 43)).trans he); have HX5 := Lib.hid he; clear hr he; clear HO2 k0 k1 k2; obtain ⟨k0, k1, k2⟩ := (HC.out _ (HE5.out.alloc (.cells #[.int .i64 p5, .int .i64 q5, .pointer A5] 43))).cells; obtain ⟨j0, j1, j2, j3, j4, j5, j6⟩ := (HV.out _ (HE5.out.alloc (.cells #[.int .i64 p5, .int .i64 q5, .pointer A5] 43))).cells; obtain ⟨f0, f1, f2, f3, f4, f5, f6⟩ := (HV.out _ (HE5.out.alloc (.cells #[.int .i64 p5, .int .i64 q5, .pointer A5] 43))).frozen; obtain ⟨e0, e1, e2⟩ := (BoxR.ext (BoxR.new w3 p3 q3 A3) (HX5.out.alloc (.cells #[.int .i64 p5, .int .i64 q5, .pointer A5] 43))).cells)
    | (go_at_call 47; refine (zeroK (HR5.out.ext ((Ext.refl _).alloc (.cells #[.int .i64 p5, .int .i64 q5, .pointer A5] 43)))).mono ?_; rw [HY0.out]; rintro e w7 ⟨rfl, he⟩; have HX7 := Lib.hid he; have HE7 : Hid (Ext w2 w7) := Lib.hid ((HE5.out.alloc (.cells #[.int .i64 p5, .int .i64 q5, .pointer A5] 43)).trans he); clear he; clear k0 k1 k2 j0 j1 j2 j3 j4 j5 j6 f0 f1 f2 f3 f4 f5 f6 e0 e1 e2; obtain ⟨k0, k1, k2⟩ := (HC.out _ HE7.out).cells; obtain ⟨j0, j1, j2, j3, j4, j5, j6⟩ := (HV.out _ HE7.out).cells; obtain ⟨f0, f1, f2, f3, f4, f5, f6⟩ := (HV.out _ HE7.out).frozen; obtain ⟨e0, e1, e2⟩ := (BoxR.ext (BoxR.new w3 p3 q3 A3) ((HX5.out.alloc (.cells #[.int .i64 p5, .int .i64 q5, .pointer A5] 43)).trans HX7.out)).cells; obtain ⟨c0, c1, c2⟩ := (BoxR.ext (BoxR.new w5 p5 q5 A5) HX7.out).cells))
  refine ret_val2 rfl (w.heap.size + 1) _ _ _ _ _ _ _ _ rfl rfl (putV_row (HV.out _ HE7.out) 0 0 none 0 0 none 0) rfl ?_
  exact RdPost.no HQ.out ((putV_only _ _ _ _ _ _ _ _ _).ext (HE0.out.trans HE7.out) (by omega))
set_option maxRecDepth 100000 in
set_option maxHeartbeats 400000 in
theorem read_q (sa sb : ByteArray) (d : Int) (n : Nat) (w : World) (hsa : sa.size ≤ n) (hsb : sb.size ≤ n) (hn : n ≤ 1000000000) (x : Rat) (h1 : ofB sa.data.toList = some x) (y : Rat) (h2 : ofB sb.data.toList = some y) (hd2 : ¬ d < 2) (hd3 : ¬ 1000000 < d) (h0 : ¬ y = 0) (hq : sqfB d = false) (hd4 : ¬ d = 1) :
    Calls Tryd.prog 36 #[.agg #[.string sa, .string sb, .int .i64 d]] w (RdPost (4 * n + 4) w (readV sa.data.toList sb.data.toList d)) := by
  have HQ : Hid (readV sa.data.toList sb.data.toList d = none) := Lib.hid (by unfold readV; rw [h1, h2]; simp only [if_neg (show ¬ d = 1 by omega)]; rw [if_pos (.inr (.inr (.inr hq)))])
  have HO1 := Lib.hid (fun W => (ofK sa n W hsa (by omega)).mono fun _ _ h => h.some h1)
  have HO2 := Lib.hid (fun W => (ofK sb n W hsb (by omega)).mono fun _ _ h => h.some h2)
  
  
  
  obtain ⟨w2, hw2⟩ : ∃ w2, w2 = ((w.alloc (.cells #[.string sa, .string sb, .int .i64 d] 23)).alloc (.cells #[.int .i64 0, .int .i64 0, .pointer none, .int .i64 0, .int .i64 0, .pointer none, .int .i64 0] 45)) := ⟨_, rfl⟩
  have HE0 : Hid (Ext w w2) := Lib.hid (by rw [hw2]; exact Ext.two _ _ _)
  have HC : Hid (∀ W, Ext w2 W → BoxS W w.heap.size sa sb d) := Lib.hid (fun W he => BoxS.ext (by rw [hw2]; exact BoxS.ext (heap_alloc_new w _) (Ext.one _ _)) he)
  have HV : Hid (∀ W, Ext w2 W → BoxV W (w.heap.size + 1) 0 0 none 0 0 none 0) := Lib.hid (fun W he => BoxV.ext (by rw [hw2]; exact heap_alloc2_new w _ _) he)
  have HW2 := Lib.hid hw2
  obtain ⟨k0, k1, k2⟩ := (HC.out _ (Ext.refl _)).cells
  generalize readV sa.data.toList sb.data.toList d = RV at *
  have HY0 : Hid (decide (y = 0) = false) := Lib.hid (decide_eq_false h0)
  have HQ0 := Lib.hid hq
  have HSQ := Lib.hid (fun W => squarefree_calls d W (by omega) (by omega))
  clear h0 hq
  clear hsa hsb hn h1 h2 hw2
  go_enter Tryd.func36, Tryd.ntmps36
  go_wp2_with fail
  rw [← HW2.out]
  go_wp2_with (first
    | (go_at_call 31; refine (HO1.out _).mono ?_; rintro e w3 ⟨p3, q3, A3, rfl, hr, he⟩; have HR3 := Lib.hid hr; have HE3 : Hid (Ext w2 w3) := Lib.hid ((Ext.refl w2).trans he); have HX3 := Lib.hid he; clear hr he; clear HO1 k0 k1 k2; obtain ⟨k0, k1, k2⟩ := (HC.out _ (HE3.out.alloc (.cells #[.int .i64 p3, .int .i64 q3, .pointer A3] 43))).cells)
    | (go_at_call 31; refine (HO2.out _).mono ?_; rintro e w5 ⟨p5, q5, A5, rfl, hr, he⟩; have HR5 := Lib.hid hr; have HE5 : Hid (Ext w2 w5) := Lib.hid ((HE3.out.alloc (.cells #[.int .i64 p3, .int .i64 q3, .pointer A3] 43)).trans he); have HX5 := Lib.hid he; clear hr he; clear HO2 k0 k1 k2; obtain ⟨k0, k1, k2⟩ := (HC.out _ (HE5.out.alloc (.cells #[.int .i64 p5, .int .i64 q5, .pointer A5] 43))).cells; obtain ⟨j0, j1, j2, j3, j4, j5, j6⟩ := (HV.out _ (HE5.out.alloc (.cells #[.int .i64 p5, .int .i64 q5, .pointer A5] 43))).cells; obtain ⟨f0, f1, f2, f3, f4, f5, f6⟩ := (HV.out _ (HE5.out.alloc (.cells #[.int .i64 p5, .int .i64 q5, .pointer A5] 43))).frozen; obtain ⟨e0, e1, e2⟩ := (BoxR.ext (BoxR.new w3 p3 q3 A3) (HX5.out.alloc (.cells #[.int .i64 p5, .int .i64 q5, .pointer A5] 43))).cells)
    | (go_at_call 47; refine (zeroK (HR5.out.ext ((Ext.refl _).alloc (.cells #[.int .i64 p5, .int .i64 q5, .pointer A5] 43)))).mono ?_; rw [HY0.out]; rintro e w7 ⟨rfl, he⟩; have HX7 := Lib.hid he; have HE7 : Hid (Ext w2 w7) := Lib.hid ((HE5.out.alloc (.cells #[.int .i64 p5, .int .i64 q5, .pointer A5] 43)).trans he); clear he; clear k0 k1 k2 j0 j1 j2 j3 j4 j5 j6 f0 f1 f2 f3 f4 f5 f6 e0 e1 e2; obtain ⟨k0, k1, k2⟩ := (HC.out _ HE7.out).cells; obtain ⟨j0, j1, j2, j3, j4, j5, j6⟩ := (HV.out _ HE7.out).cells; obtain ⟨f0, f1, f2, f3, f4, f5, f6⟩ := (HV.out _ HE7.out).frozen; obtain ⟨e0, e1, e2⟩ := (BoxR.ext (BoxR.new w3 p3 q3 A3) ((HX5.out.alloc (.cells #[.int .i64 p5, .int .i64 q5, .pointer A5] 43)).trans HX7.out)).cells; obtain ⟨c0, c1, c2⟩ := (BoxR.ext (BoxR.new w5 p5 q5 A5) HX7.out).cells)
    | (go_at_call 57; refine (HSQ.out _).mono ?_; rw [HQ0.out]; rintro e w8 ⟨rfl, rfl⟩))
  refine ret_val2 rfl (w.heap.size + 1) _ _ _ _ _ _ _ _ rfl rfl (putV_row (HV.out _ HE7.out) 0 0 none 0 0 none 0) rfl ?_
  exact RdPost.no HQ.out ((putV_only _ _ _ _ _ _ _ _ _).ext (HE0.out.trans HE7.out) (by omega))
set_option maxRecDepth 100000 in
set_option maxHeartbeats 400000 in
theorem read_ok (sa sb : ByteArray) (d : Int) (n : Nat) (w : World) (hsa : sa.size ≤ n) (hsb : sb.size ≤ n) (hn : n ≤ 1000000000) (x : Rat) (h1 : ofB sa.data.toList = some x) (y : Rat) (h2 : ofB sb.data.toList = some y) (hd2 : ¬ d < 2) (hd3 : ¬ 1000000 < d) (h0 : ¬ y = 0) (hq : sqfB d = true) (hd4 : ¬ d = 1) :
    Calls Tryd.prog 36 #[.agg #[.string sa, .string sb, .int .i64 d]] w (RdPost (4 * n + 4) w (readV sa.data.toList sb.data.toList d)) := by
  have HQ : Hid (readV sa.data.toList sb.data.toList d = some ⟨x, y, d⟩) := Lib.hid (by unfold readV; rw [h1, h2]; simp only [if_neg (show ¬ d = 1 by omega)]; rw [if_neg (fun h => by rcases h with h | h | h | h <;> first | exact hd2 h | exact hd3 h | exact h0 h | (rw [hq] at h; exact absurd h (by simp)))])
  have HO1 := Lib.hid (fun W => (ofK sa n W hsa (by omega)).mono fun _ _ h => h.some h1)
  have HO2 := Lib.hid (fun W => (ofK sb n W hsb (by omega)).mono fun _ _ h => h.some h2)
  
  
  
  obtain ⟨w2, hw2⟩ : ∃ w2, w2 = ((w.alloc (.cells #[.string sa, .string sb, .int .i64 d] 23)).alloc (.cells #[.int .i64 0, .int .i64 0, .pointer none, .int .i64 0, .int .i64 0, .pointer none, .int .i64 0] 45)) := ⟨_, rfl⟩
  have HE0 : Hid (Ext w w2) := Lib.hid (by rw [hw2]; exact Ext.two _ _ _)
  have HC : Hid (∀ W, Ext w2 W → BoxS W w.heap.size sa sb d) := Lib.hid (fun W he => BoxS.ext (by rw [hw2]; exact BoxS.ext (heap_alloc_new w _) (Ext.one _ _)) he)
  have HV : Hid (∀ W, Ext w2 W → BoxV W (w.heap.size + 1) 0 0 none 0 0 none 0) := Lib.hid (fun W he => BoxV.ext (by rw [hw2]; exact heap_alloc2_new w _ _) he)
  have HW2 := Lib.hid hw2
  obtain ⟨k0, k1, k2⟩ := (HC.out _ (Ext.refl _)).cells
  generalize readV sa.data.toList sb.data.toList d = RV at *
  have HY0 : Hid (decide (y = 0) = false) := Lib.hid (decide_eq_false h0)
  have HQ0 := Lib.hid hq
  have HSQ := Lib.hid (fun W => squarefree_calls d W (by omega) (by omega))
  clear h0 hq
  clear hsa hsb hn h1 h2 hw2
  go_enter Tryd.func36, Tryd.ntmps36
  go_wp2_with fail
  rw [← HW2.out]
  go_wp2_with (first
    | (go_at_call 31; refine (HO1.out _).mono ?_; rintro e w3 ⟨p3, q3, A3, rfl, hr, he⟩; have HR3 := Lib.hid hr; have HE3 : Hid (Ext w2 w3) := Lib.hid ((Ext.refl w2).trans he); have HX3 := Lib.hid he; clear hr he; clear HO1 k0 k1 k2; obtain ⟨k0, k1, k2⟩ := (HC.out _ (HE3.out.alloc (.cells #[.int .i64 p3, .int .i64 q3, .pointer A3] 43))).cells)
    | (go_at_call 31; refine (HO2.out _).mono ?_; rintro e w5 ⟨p5, q5, A5, rfl, hr, he⟩; have HR5 := Lib.hid hr; have HE5 : Hid (Ext w2 w5) := Lib.hid ((HE3.out.alloc (.cells #[.int .i64 p3, .int .i64 q3, .pointer A3] 43)).trans he); have HX5 := Lib.hid he; clear hr he; clear HO2 k0 k1 k2; obtain ⟨k0, k1, k2⟩ := (HC.out _ (HE5.out.alloc (.cells #[.int .i64 p5, .int .i64 q5, .pointer A5] 43))).cells; obtain ⟨j0, j1, j2, j3, j4, j5, j6⟩ := (HV.out _ (HE5.out.alloc (.cells #[.int .i64 p5, .int .i64 q5, .pointer A5] 43))).cells; obtain ⟨f0, f1, f2, f3, f4, f5, f6⟩ := (HV.out _ (HE5.out.alloc (.cells #[.int .i64 p5, .int .i64 q5, .pointer A5] 43))).frozen; obtain ⟨e0, e1, e2⟩ := (BoxR.ext (BoxR.new w3 p3 q3 A3) (HX5.out.alloc (.cells #[.int .i64 p5, .int .i64 q5, .pointer A5] 43))).cells)
    | (go_at_call 47; refine (zeroK (HR5.out.ext ((Ext.refl _).alloc (.cells #[.int .i64 p5, .int .i64 q5, .pointer A5] 43)))).mono ?_; rw [HY0.out]; rintro e w7 ⟨rfl, he⟩; have HX7 := Lib.hid he; have HE7 : Hid (Ext w2 w7) := Lib.hid ((HE5.out.alloc (.cells #[.int .i64 p5, .int .i64 q5, .pointer A5] 43)).trans he); clear he; clear k0 k1 k2 j0 j1 j2 j3 j4 j5 j6 f0 f1 f2 f3 f4 f5 f6 e0 e1 e2; obtain ⟨k0, k1, k2⟩ := (HC.out _ HE7.out).cells; obtain ⟨j0, j1, j2, j3, j4, j5, j6⟩ := (HV.out _ HE7.out).cells; obtain ⟨f0, f1, f2, f3, f4, f5, f6⟩ := (HV.out _ HE7.out).frozen; obtain ⟨e0, e1, e2⟩ := (BoxR.ext (BoxR.new w3 p3 q3 A3) ((HX5.out.alloc (.cells #[.int .i64 p5, .int .i64 q5, .pointer A5] 43)).trans HX7.out)).cells; obtain ⟨c0, c1, c2⟩ := (BoxR.ext (BoxR.new w5 p5 q5 A5) HX7.out).cells)
    | (go_at_call 57; refine (HSQ.out _).mono ?_; rw [HQ0.out]; rintro e w8 ⟨rfl, rfl⟩))
  refine ret_val2 rfl (w.heap.size + 1) _ _ _ _ _ _ _ _ rfl rfl (putV_row (HV.out _ HE7.out) p3 q3 A3 p5 q5 A5 d) rfl ?_
  refine ⟨p3, q3, A3, p5, q5, A5, d, by rw [HQ.out]; rfl, fun v hv => ?_, (putV_only _ _ _ _ _ _ _ _ _).ext (HE0.out.trans HE7.out) (by omega)⟩
  rw [HQ.out] at hv; injection hv with hv; subst hv
  exact ⟨rfl, (HR3.out.ext ((Ext.one _ _).trans ((HX5.out.alloc _).trans HX7.out))).onlyN (HV.out _ HE7.out).noR (putV_only _ _ _ _ _ _ _ _ _), (HR5.out.ext ((Ext.one _ _).trans HX7.out)).onlyN (HV.out _ HE7.out).noR (putV_only _ _ _ _ _ _ _ _ _)⟩
set_option maxRecDepth 100000 in
set_option maxHeartbeats 400000 in
theorem read_d1z (sa sb : ByteArray) (n : Nat) (w : World) (hsa : sa.size ≤ n) (hsb : sb.size ≤ n) (hn : n ≤ 1000000000) (x : Rat) (h1 : ofB sa.data.toList = some x) (y : Rat) (h2 : ofB sb.data.toList = some y) (h0 : y = 0) :
    Calls Tryd.prog 36 #[.agg #[.string sa, .string sb, .int .i64 1]] w (RdPost (4 * n + 4) w (readV sa.data.toList sb.data.toList 1)) := by
  have HQ : Hid (readV sa.data.toList sb.data.toList 1 = some ⟨x, y, 1⟩) := Lib.hid (by unfold readV; rw [h1, h2]; simp only []; rw [if_pos trivial, if_pos h0])
  have HO1 := Lib.hid (fun W => (ofK sa n W hsa (by omega)).mono fun _ _ h => h.some h1)
  have HO2 := Lib.hid (fun W => (ofK sb n W hsb (by omega)).mono fun _ _ h => h.some h2)
  
  
  
  obtain ⟨w2, hw2⟩ : ∃ w2, w2 = ((w.alloc (.cells #[.string sa, .string sb, .int .i64 1] 23)).alloc (.cells #[.int .i64 0, .int .i64 0, .pointer none, .int .i64 0, .int .i64 0, .pointer none, .int .i64 0] 45)) := ⟨_, rfl⟩
  have HE0 : Hid (Ext w w2) := Lib.hid (by rw [hw2]; exact Ext.two _ _ _)
  have HC : Hid (∀ W, Ext w2 W → BoxS W w.heap.size sa sb 1) := Lib.hid (fun W he => BoxS.ext (by rw [hw2]; exact BoxS.ext (heap_alloc_new w _) (Ext.one _ _)) he)
  have HV : Hid (∀ W, Ext w2 W → BoxV W (w.heap.size + 1) 0 0 none 0 0 none 0) := Lib.hid (fun W he => BoxV.ext (by rw [hw2]; exact heap_alloc2_new w _ _) he)
  have HW2 := Lib.hid hw2
  obtain ⟨k0, k1, k2⟩ := (HC.out _ (Ext.refl _)).cells
  generalize readV sa.data.toList sb.data.toList 1 = RV at *
  have HY0 : Hid (decide (y = 0) = true) := Lib.hid (decide_eq_true h0)
  clear h0
  clear hsa hsb hn h1 h2 hw2
  go_enter Tryd.func36, Tryd.ntmps36
  go_wp2_with fail
  rw [← HW2.out]
  go_wp2_with (first
    | (go_at_call 31; refine (HO1.out _).mono ?_; rintro e w3 ⟨p3, q3, A3, rfl, hr, he⟩; have HR3 := Lib.hid hr; have HE3 : Hid (Ext w2 w3) := Lib.hid ((Ext.refl w2).trans he); have HX3 := Lib.hid he; clear hr he; clear HO1 k0 k1 k2; obtain ⟨k0, k1, k2⟩ := (HC.out _ (HE3.out.alloc (.cells #[.int .i64 p3, .int .i64 q3, .pointer A3] 43))).cells)
    | (go_at_call 31; refine (HO2.out _).mono ?_; rintro e w5 ⟨p5, q5, A5, rfl, hr, he⟩; have HR5 := Lib.hid hr; have HE5 : Hid (Ext w2 w5) := Lib.hid ((HE3.out.alloc (.cells #[.int .i64 p3, .int .i64 q3, .pointer A3] 43)).trans he); have HX5 := Lib.hid he; clear hr he; clear HO2 k0 k1 k2; obtain ⟨k0, k1, k2⟩ := (HC.out _ (HE5.out.alloc (.cells #[.int .i64 p5, .int .i64 q5, .pointer A5] 43))).cells; obtain ⟨j0, j1, j2, j3, j4, j5, j6⟩ := (HV.out _ (HE5.out.alloc (.cells #[.int .i64 p5, .int .i64 q5, .pointer A5] 43))).cells; obtain ⟨f0, f1, f2, f3, f4, f5, f6⟩ := (HV.out _ (HE5.out.alloc (.cells #[.int .i64 p5, .int .i64 q5, .pointer A5] 43))).frozen; obtain ⟨e0, e1, e2⟩ := (BoxR.ext (BoxR.new w3 p3 q3 A3) (HX5.out.alloc (.cells #[.int .i64 p5, .int .i64 q5, .pointer A5] 43))).cells)
    | fail)
  obtain ⟨w6, hw6⟩ : ∃ w6, w6 = w5.alloc (.cells #[.int .i64 p5, .int .i64 q5, .pointer A5] 43) := ⟨_, rfl⟩
  obtain ⟨g3, hg3⟩ : ∃ g3, g3 = w3.heap.size := ⟨_, rfl⟩
  obtain ⟨g5, hg5⟩ : ∃ g5, g5 = w5.heap.size := ⟨_, rfl⟩
  have HD0 : Hid (Ext w2 w6) := Lib.hid (by rw [hw6]; exact HE5.out.alloc _)
  have HD1 : Hid (∀ W, Ext w6 W → BoxR W g3 p3 q3 A3) := Lib.hid (fun W he => by rw [hg3]; exact BoxR.ext (BoxR.new w3 p3 q3 A3) ((HX5.out.alloc (.cells #[.int .i64 p5, .int .i64 q5, .pointer A5] 43)).trans (by rw [← hw6]; exact he)))
  have HD2 : Hid (∀ W, Ext w6 W → BoxR W g5 p5 q5 A5) := Lib.hid (fun W he => BoxR.ext (by rw [hw6, hg5]; exact BoxR.new w5 p5 q5 A5) he)
  have HR6 : Hid (RA (4 * n + 4) w6 y (.agg #[.int .i64 p5, .int .i64 q5, .pointer A5])) := Lib.hid (by rw [hw6]; exact HR5.out.ext (Ext.one _ _))
  have HX6 : Hid (Ext w3 w6) := Lib.hid (by rw [hw6]; exact HX5.out.alloc (.cells #[.int .i64 p5, .int .i64 q5, .pointer A5] 43) |> fun h => (Ext.one w3 (.cells #[.int .i64 p3, .int .i64 q3, .pointer A3] 43)).trans h)
  have HG : Hid (w.heap.size + 1 + 1 ≤ g3 ∧ w.heap.size + 1 + 1 ≤ g5) := Lib.hid (by
    have h1 := HE3.out.le
    have h2 : w2.heap.size = w.heap.size + 1 + 1 := by rw [HW2.out]; simp
    have h3 := HE5.out.le
    omega)
  rw [← hw6, ← hg3, ← hg5]
  clear hw6 hg3 hg5 k0 k1 k2 e0 e1 e2 j0 j1 j2 j3 j4 j5 j6 f0 f1 f2 f3 f4 f5 f6
  obtain ⟨j0, j1, j2, j3, j4, j5, j6⟩ := (HV.out _ HD0.out.drew).cells
  obtain ⟨f0, f1, f2, f3, f4, f5, f6⟩ := (HV.out _ HD0.out.drew).frozen
  go_region_held3 (fun W => (W.cell? ⟨g3, 0, none⟩ = some (.int .i64 p3) ∧ W.cell? ⟨g3, 1, none⟩ = some (.int .i64 q3) ∧ W.cell? ⟨g3, 2, none⟩ = some (.pointer A3)) ∧ (W.cell? ⟨g5, 0, none⟩ = some (.int .i64 p5) ∧ W.cell? ⟨g5, 1, none⟩ = some (.int .i64 q5) ∧ W.cell? ⟨g5, 2, none⟩ = some (.pointer A5)))
    (first
      | with_reducible exact ⟨(HD1.out _ HY7.out).cells, (HD2.out _ HY7.out).cells⟩
      | with_reducible exact ⟨(HD1.out _ (Ext.refl _)).cells, (HD2.out _ (Ext.refl _)).cells⟩
      | with_reducible exact ⟨(HD1.out _ (Ext.refl _).drew).cells, (HD2.out _ (Ext.refl _).drew).cells⟩
      | exact ⟨((HD1.out _ HY7.out).onlyR3 (putV_only w7 (w.heap.size + 1) p3 q3 A3 p5 q5 A5 1) (by have := HG.out.1; omega)).cells, ((HD2.out _ HY7.out).onlyR3 (putV_only w7 (w.heap.size + 1) p3 q3 A3 p5 q5 A5 1) (by have := HG.out.2; omega)).cells⟩
      | exact ⟨((HD1.out _ (Ext.refl _).drew).onlyR3 (putV_only w6.drew (w.heap.size + 1) p3 q3 A3 p5 q5 A5 1) (by have := HG.out.1; omega)).cells, ((HD2.out _ (Ext.refl _).drew).onlyR3 (putV_only w6.drew (w.heap.size + 1) p3 q3 A3 p5 q5 A5 1) (by have := HG.out.2; omega)).cells⟩)
    (first
      | (go_at_call 47; refine (zeroK (HR6.out.ext (Ext.refl _).drew)).mono ?_; rw [HY0.out]; rintro e w7 ⟨rfl, he⟩; have HX7 := Lib.hid (((Ext.refl w6).drew).trans he); have HE7 : Hid (Ext w2 w7) := Lib.hid (HD0.out.trans HX7.out); have HY7 := HX7; clear he j0 j1 j2 j3 j4 j5 j6 f0 f1 f2 f3 f4 f5 f6; obtain ⟨j0, j1, j2, j3, j4, j5, j6⟩ := (HV.out _ HE7.out).cells; obtain ⟨f0, f1, f2, f3, f4, f5, f6⟩ := (HV.out _ HE7.out).frozen))
  go_wp2
  refine ret_val2 rfl (w.heap.size + 1) _ _ _ _ _ _ _ _ rfl rfl (putV_row (HV.out _ HE7.out) p3 q3 A3 p5 q5 A5 1) rfl ?_
  refine ⟨p3, q3, A3, p5, q5, A5, 1, by rw [HQ.out]; rfl, fun v hv => ?_, (putV_only _ _ _ _ _ _ _ _ _).ext (HE0.out.trans HE7.out) (by omega)⟩
  rw [HQ.out] at hv; injection hv with hv; subst hv
  exact ⟨rfl, (HR3.out.ext (HX6.out.trans HX7.out)).onlyN (HV.out _ HE7.out).noR (putV_only _ _ _ _ _ _ _ _ _), (HR6.out.ext HX7.out).onlyN (HV.out _ HE7.out).noR (putV_only _ _ _ _ _ _ _ _ _)⟩
set_option maxRecDepth 100000 in
set_option maxHeartbeats 400000 in
theorem read_d1n (sa sb : ByteArray) (n : Nat) (w : World) (hsa : sa.size ≤ n) (hsb : sb.size ≤ n) (hn : n ≤ 1000000000) (x : Rat) (h1 : ofB sa.data.toList = some x) (y : Rat) (h2 : ofB sb.data.toList = some y) (h0 : ¬ y = 0) :
    Calls Tryd.prog 36 #[.agg #[.string sa, .string sb, .int .i64 1]] w (RdPost (4 * n + 4) w (readV sa.data.toList sb.data.toList 1)) := by
  have HQ : Hid (readV sa.data.toList sb.data.toList 1 = none) := Lib.hid (by unfold readV; rw [h1, h2]; simp only []; rw [if_pos trivial, if_neg h0])
  have HO1 := Lib.hid (fun W => (ofK sa n W hsa (by omega)).mono fun _ _ h => h.some h1)
  have HO2 := Lib.hid (fun W => (ofK sb n W hsb (by omega)).mono fun _ _ h => h.some h2)
  
  
  
  obtain ⟨w2, hw2⟩ : ∃ w2, w2 = ((w.alloc (.cells #[.string sa, .string sb, .int .i64 1] 23)).alloc (.cells #[.int .i64 0, .int .i64 0, .pointer none, .int .i64 0, .int .i64 0, .pointer none, .int .i64 0] 45)) := ⟨_, rfl⟩
  have HE0 : Hid (Ext w w2) := Lib.hid (by rw [hw2]; exact Ext.two _ _ _)
  have HC : Hid (∀ W, Ext w2 W → BoxS W w.heap.size sa sb 1) := Lib.hid (fun W he => BoxS.ext (by rw [hw2]; exact BoxS.ext (heap_alloc_new w _) (Ext.one _ _)) he)
  have HV : Hid (∀ W, Ext w2 W → BoxV W (w.heap.size + 1) 0 0 none 0 0 none 0) := Lib.hid (fun W he => BoxV.ext (by rw [hw2]; exact heap_alloc2_new w _ _) he)
  have HW2 := Lib.hid hw2
  obtain ⟨k0, k1, k2⟩ := (HC.out _ (Ext.refl _)).cells
  generalize readV sa.data.toList sb.data.toList 1 = RV at *
  have HY0 : Hid (decide (y = 0) = false) := Lib.hid (decide_eq_false h0)
  clear h0
  clear hsa hsb hn h1 h2 hw2
  go_enter Tryd.func36, Tryd.ntmps36
  go_wp2_with fail
  rw [← HW2.out]
  go_wp2_with (first
    | (go_at_call 31; refine (HO1.out _).mono ?_; rintro e w3 ⟨p3, q3, A3, rfl, hr, he⟩; have HR3 := Lib.hid hr; have HE3 : Hid (Ext w2 w3) := Lib.hid ((Ext.refl w2).trans he); have HX3 := Lib.hid he; clear hr he; clear HO1 k0 k1 k2; obtain ⟨k0, k1, k2⟩ := (HC.out _ (HE3.out.alloc (.cells #[.int .i64 p3, .int .i64 q3, .pointer A3] 43))).cells)
    | (go_at_call 31; refine (HO2.out _).mono ?_; rintro e w5 ⟨p5, q5, A5, rfl, hr, he⟩; have HR5 := Lib.hid hr; have HE5 : Hid (Ext w2 w5) := Lib.hid ((HE3.out.alloc (.cells #[.int .i64 p3, .int .i64 q3, .pointer A3] 43)).trans he); have HX5 := Lib.hid he; clear hr he; clear HO2 k0 k1 k2; obtain ⟨k0, k1, k2⟩ := (HC.out _ (HE5.out.alloc (.cells #[.int .i64 p5, .int .i64 q5, .pointer A5] 43))).cells; obtain ⟨j0, j1, j2, j3, j4, j5, j6⟩ := (HV.out _ (HE5.out.alloc (.cells #[.int .i64 p5, .int .i64 q5, .pointer A5] 43))).cells; obtain ⟨f0, f1, f2, f3, f4, f5, f6⟩ := (HV.out _ (HE5.out.alloc (.cells #[.int .i64 p5, .int .i64 q5, .pointer A5] 43))).frozen; obtain ⟨e0, e1, e2⟩ := (BoxR.ext (BoxR.new w3 p3 q3 A3) (HX5.out.alloc (.cells #[.int .i64 p5, .int .i64 q5, .pointer A5] 43))).cells)
    | fail)
  obtain ⟨w6, hw6⟩ : ∃ w6, w6 = w5.alloc (.cells #[.int .i64 p5, .int .i64 q5, .pointer A5] 43) := ⟨_, rfl⟩
  obtain ⟨g3, hg3⟩ : ∃ g3, g3 = w3.heap.size := ⟨_, rfl⟩
  obtain ⟨g5, hg5⟩ : ∃ g5, g5 = w5.heap.size := ⟨_, rfl⟩
  have HD0 : Hid (Ext w2 w6) := Lib.hid (by rw [hw6]; exact HE5.out.alloc _)
  have HD1 : Hid (∀ W, Ext w6 W → BoxR W g3 p3 q3 A3) := Lib.hid (fun W he => by rw [hg3]; exact BoxR.ext (BoxR.new w3 p3 q3 A3) ((HX5.out.alloc (.cells #[.int .i64 p5, .int .i64 q5, .pointer A5] 43)).trans (by rw [← hw6]; exact he)))
  have HD2 : Hid (∀ W, Ext w6 W → BoxR W g5 p5 q5 A5) := Lib.hid (fun W he => BoxR.ext (by rw [hw6, hg5]; exact BoxR.new w5 p5 q5 A5) he)
  have HR6 : Hid (RA (4 * n + 4) w6 y (.agg #[.int .i64 p5, .int .i64 q5, .pointer A5])) := Lib.hid (by rw [hw6]; exact HR5.out.ext (Ext.one _ _))
  have HX6 : Hid (Ext w3 w6) := Lib.hid (by rw [hw6]; exact HX5.out.alloc (.cells #[.int .i64 p5, .int .i64 q5, .pointer A5] 43) |> fun h => (Ext.one w3 (.cells #[.int .i64 p3, .int .i64 q3, .pointer A3] 43)).trans h)
  have HG : Hid (w.heap.size + 1 + 1 ≤ g3 ∧ w.heap.size + 1 + 1 ≤ g5) := Lib.hid (by
    have h1 := HE3.out.le
    have h2 : w2.heap.size = w.heap.size + 1 + 1 := by rw [HW2.out]; simp
    have h3 := HE5.out.le
    omega)
  rw [← hw6, ← hg3, ← hg5]
  clear hw6 hg3 hg5 k0 k1 k2 e0 e1 e2 j0 j1 j2 j3 j4 j5 j6 f0 f1 f2 f3 f4 f5 f6
  obtain ⟨j0, j1, j2, j3, j4, j5, j6⟩ := (HV.out _ HD0.out.drew).cells
  obtain ⟨f0, f1, f2, f3, f4, f5, f6⟩ := (HV.out _ HD0.out.drew).frozen
  go_region_held3 (fun W => (W.cell? ⟨g3, 0, none⟩ = some (.int .i64 p3) ∧ W.cell? ⟨g3, 1, none⟩ = some (.int .i64 q3) ∧ W.cell? ⟨g3, 2, none⟩ = some (.pointer A3)) ∧ (W.cell? ⟨g5, 0, none⟩ = some (.int .i64 p5) ∧ W.cell? ⟨g5, 1, none⟩ = some (.int .i64 q5) ∧ W.cell? ⟨g5, 2, none⟩ = some (.pointer A5)))
    (first
      | with_reducible exact ⟨(HD1.out _ HY7.out).cells, (HD2.out _ HY7.out).cells⟩
      | with_reducible exact ⟨(HD1.out _ (Ext.refl _)).cells, (HD2.out _ (Ext.refl _)).cells⟩
      | with_reducible exact ⟨(HD1.out _ (Ext.refl _).drew).cells, (HD2.out _ (Ext.refl _).drew).cells⟩
      | exact ⟨((HD1.out _ HY7.out).onlyR3 (putV_only w7 (w.heap.size + 1) p3 q3 A3 p5 q5 A5 1) (by have := HG.out.1; omega)).cells, ((HD2.out _ HY7.out).onlyR3 (putV_only w7 (w.heap.size + 1) p3 q3 A3 p5 q5 A5 1) (by have := HG.out.2; omega)).cells⟩
      | exact ⟨((HD1.out _ (Ext.refl _).drew).onlyR3 (putV_only w6.drew (w.heap.size + 1) p3 q3 A3 p5 q5 A5 1) (by have := HG.out.1; omega)).cells, ((HD2.out _ (Ext.refl _).drew).onlyR3 (putV_only w6.drew (w.heap.size + 1) p3 q3 A3 p5 q5 A5 1) (by have := HG.out.2; omega)).cells⟩)
    (first
      | (go_at_call 47; refine (zeroK (HR6.out.ext (Ext.refl _).drew)).mono ?_; rw [HY0.out]; rintro e w7 ⟨rfl, he⟩; have HX7 := Lib.hid (((Ext.refl w6).drew).trans he); have HE7 : Hid (Ext w2 w7) := Lib.hid (HD0.out.trans HX7.out); have HY7 := HX7; clear he j0 j1 j2 j3 j4 j5 j6 f0 f1 f2 f3 f4 f5 f6; obtain ⟨j0, j1, j2, j3, j4, j5, j6⟩ := (HV.out _ HE7.out).cells; obtain ⟨f0, f1, f2, f3, f4, f5, f6⟩ := (HV.out _ HE7.out).frozen))
  go_wp2
  refine ret_val2 rfl (w.heap.size + 1) _ _ _ _ _ _ _ _ rfl rfl (putV_row (HV.out _ HE7.out) p3 q3 A3 p5 q5 A5 1) rfl ?_
  exact RdPost.no HQ.out ((putV_only _ _ _ _ _ _ _ _ _).ext (HE0.out.trans HE7.out) (by omega))
/-- The contract of read. -/
theorem read_calls (sa sb : ByteArray) (d : Int) (n : Nat) (w : World) (hsa : sa.size ≤ n) (hsb : sb.size ≤ n) (hn : n ≤ 1000000000) :
    Calls Tryd.prog 36 #[.agg #[.string sa, .string sb, .int .i64 d]] w (RdPost (4 * n + 4) w (readV sa.data.toList sb.data.toList d)) := by
  cases h1 : ofB sa.data.toList with
  | none => exact read_n1 sa sb d n w hsa hsb hn h1
  | some x =>
    cases h2 : ofB sb.data.toList with
    | none => exact read_n2 sa sb d n w hsa hsb hn x h1 h2
    | some y =>
      by_cases hd : d = 1
      · subst hd
        by_cases h0 : y = 0
        · exact read_d1z sa sb n w hsa hsb hn x h1 y h2 h0
        · exact read_d1n sa sb n w hsa hsb hn x h1 y h2 h0
      · by_cases hd2 : d < 2
        · exact read_lo sa sb d n w hsa hsb hn x h1 y h2 hd2 hd
        · by_cases hd3 : 1000000 < d
          · exact read_hi sa sb d n w hsa hsb hn x h1 y h2 hd3
          · by_cases h0 : y = 0
            · exact read_z sa sb d n w hsa hsb hn x h1 y h2 hd2 hd3 h0 hd
            · cases hq : sqfB d with
              | true => exact read_ok sa sb d n w hsa hsb hn x h1 y h2 hd2 hd3 h0 hq hd
              | false => exact read_q sa sb d n w hsa hsb hn x h1 y h2 hd2 hd3 h0 hq hd
end Go.Proofs.YtpgnlpjjpgdoiaaDoor
/- surd: one, two. -/
namespace Go.Proofs.YtpgnlpjjpgdoiaaDoor
open Go Go.RowKit SurdM
set_option linter.unusedVariables false
set_option linter.unusedSimpArgs false
def RdSome (b : Nat) (w : World) (v : SV) (e : Ending) (w' : World) : Prop :=
  ∃ p q A r s B, e = .returned (.tuple #[.agg #[.int .i64 p, .int .i64 q, .pointer A, .int .i64 r, .int .i64 s, .pointer B, .int .i64 v.d], .bool true]) ∧ RA b w' v.a (.agg #[.int .i64 p, .int .i64 q, .pointer A]) ∧ RA b w' v.b (.agg #[.int .i64 r, .int .i64 s, .pointer B]) ∧ Ext w w'
def RdNone (w : World) (t : Bool) (e : Ending) (w' : World) : Prop :=
  ∃ p q A r s B d, e = .returned (.tuple #[.agg #[.int .i64 p, .int .i64 q, .pointer A, .int .i64 r, .int .i64 s, .pointer B, .int .i64 d], .bool t]) ∧ Ext w w'
theorem RdPost.some {b : Nat} {w w' : World} {o : Option SV} {v : SV} {e : Ending} (h : RdPost b w o e w') (hv : o = some v) : RdSome b w v e w' := by
  obtain ⟨p, q, A, r, s, B, d, he, h1, h2⟩ := h
  obtain ⟨h3, h4, h5⟩ := h1 v hv
  exact ⟨p, q, A, r, s, B, by rw [he, hv, h3]; rfl, h4, h5, h2⟩
theorem RdPost.none {b : Nat} {w w' : World} {o : Option SV} {e : Ending} (h : RdPost b w o e w') : RdNone w o.isSome e w' := by
  obtain ⟨p, q, A, r, s, B, d, he, h1, h2⟩ := h
  exact ⟨p, q, A, r, s, B, d, he, h2⟩
def OneSome (b : Nat) (w : World) (v : SV) (e : Ending) (w' : World) : Prop :=
  ∃ p q A r s B, e = .returned (.tuple #[.agg #[.int .i64 p, .int .i64 q, .pointer A, .int .i64 r, .int .i64 s, .pointer B, .int .i64 v.d], .int .i64 0]) ∧ RA b w' v.a (.agg #[.int .i64 p, .int .i64 q, .pointer A]) ∧ RA b w' v.b (.agg #[.int .i64 r, .int .i64 s, .pointer B]) ∧ Ext w w'
def OneErr (w : World) (e : Ending) (w' : World) : Prop := e = .returned (.tuple #[.agg #[.int .i64 0, .int .i64 0, .pointer none, .int .i64 0, .int .i64 0, .pointer none, .int .i64 0], .int .i64 1]) ∧ Ext w w'
def TwoSome (b : Nat) (w : World) (v u : SV) (e : Ending) (w' : World) : Prop :=
  ∃ p1 q1 A1 r1 s1 B1 p2 q2 A2 r2 s2 B2, e = .returned (.tuple #[.agg #[.int .i64 p1, .int .i64 q1, .pointer A1, .int .i64 r1, .int .i64 s1, .pointer B1, .int .i64 v.d], .agg #[.int .i64 p2, .int .i64 q2, .pointer A2, .int .i64 r2, .int .i64 s2, .pointer B2, .int .i64 u.d], .int .i64 0]) ∧ RA b w' v.a (.agg #[.int .i64 p1, .int .i64 q1, .pointer A1]) ∧ RA b w' v.b (.agg #[.int .i64 r1, .int .i64 s1, .pointer B1]) ∧ RA b w' u.a (.agg #[.int .i64 p2, .int .i64 q2, .pointer A2]) ∧ RA b w' u.b (.agg #[.int .i64 r2, .int .i64 s2, .pointer B2]) ∧ Ext w w'
def TwoErr (w : World) (k : Int) (e : Ending) (w' : World) : Prop := e = .returned (.tuple #[.agg #[.int .i64 0, .int .i64 0, .pointer none, .int .i64 0, .int .i64 0, .pointer none, .int .i64 0], .agg #[.int .i64 0, .int .i64 0, .pointer none, .int .i64 0, .int .i64 0, .pointer none, .int .i64 0], .int .i64 k]) ∧ Ext w w'
theorem ret_val3 {fn : Func} {p u z : Tmp} (h : fn.results = #[.cell p 45, .cell u 45, .tmp z]) {a : Act} {w : World} {Q : Ending → World → Prop} (g k : Nat) (x0 x1 x2 x3 x4 x5 x6 y0 y1 y2 y3 y4 y5 y6 b : Value) (ha : a.tmps.getD p undef = .pointer (some ⟨g, 0, none⟩)) (hb : a.tmps.getD u undef = .pointer (some ⟨k, 0, none⟩)) (hu : a.tmps.getD z undef = b)
    (hg : w.heap[g]? = some (.cells #[x0, x1, x2, x3, x4, x5, x6] 45 (0, 0))) (hk : w.heap[k]? = some (.cells #[y0, y1, y2, y3, y4, y5, y6] 45 (0, 0))) (hdef : a.defers = []) (hq : Q (.returned (.tuple #[.agg #[x0, x1, x2, x3, x4, x5, x6], .agg #[y0, y1, y2, y3, y4, y5, y6], b])) w) : bodyPost Tryd.prog fn Q .ret a w := by
  refine bodyPost_ret (v := .tuple #[.agg #[x0, x1, x2, x3, x4, x5, x6], .agg #[y0, y1, y2, y3, y4, y5, y6], b]) ?_ hdef hq
  have hl := run_loadVar_row w g _ 45 #[x0, x1, x2, x3, x4, x5, x6] _ _ hg Tryd.underlying45 rfl sizeV
  have hl2 := run_loadVar_row w k _ 45 #[y0, y1, y2, y3, y4, y5, y6] _ _ hk Tryd.underlying45 rfl sizeV
  have ha' : a.tmps[p]?.getD undef = .pointer (some ⟨g, 0, none⟩) := by simpa using ha
  have hb' : a.tmps[u]?.getD undef = .pointer (some ⟨k, 0, none⟩) := by simpa using hb
  have hu' : a.tmps[z]?.getD undef = b := by simpa using hu
  simp [results, h, ha', hb', hu', asAddr, hl, hl2, Sem.run_bind, Result.andThen]
set_option maxRecDepth 100000 in
set_option maxHeartbeats 400000 in
theorem one_some (sa sb : ByteArray) (d : Int) (n : Nat) (w : World) (hsa : sa.size ≤ n) (hsb : sb.size ≤ n) (hn : n ≤ 1000000000) (v : SV) (h : readV sa.data.toList sb.data.toList d = some v) :
    Calls Tryd.prog 20 #[.agg #[.string sa, .string sb, .int .i64 d]] w (OneSome (4 * n + 4) w v) := by
  have HRD := Lib.hid (fun W => (read_calls sa sb d n W hsa hsb hn).mono fun _ _ h2 => h2.some h)
  
  obtain ⟨w2, hw2⟩ : ∃ w2, w2 = ((w.alloc (.cells #[.string sa, .string sb, .int .i64 d] 23)).alloc (.cells #[.int .i64 0, .int .i64 0, .pointer none, .int .i64 0, .int .i64 0, .pointer none, .int .i64 0] 45)) := ⟨_, rfl⟩
  have HE0 : Hid (Ext w w2) := Lib.hid (by rw [hw2]; exact Ext.two _ _ _)
  have HC : Hid (∀ W, Ext w2 W → BoxS W w.heap.size sa sb d) := Lib.hid (fun W he => BoxS.ext (by rw [hw2]; exact BoxS.ext (heap_alloc_new w _) (Ext.one _ _)) he)
  have HV : Hid (∀ W, Ext w2 W → BoxV W (w.heap.size + 1) 0 0 none 0 0 none 0) := Lib.hid (fun W he => BoxV.ext (by rw [hw2]; exact heap_alloc2_new w _ _) he)
  have HW2 := Lib.hid hw2
  obtain ⟨x, y, dv⟩ := v
  obtain ⟨k0, k1, k2⟩ := (HC.out _ (Ext.refl _)).cells
  clear hsa hsb hn h hw2
  go_enter Tryd.func20, Tryd.ntmps20
  go_wp2_with fail
  rw [← HW2.out]
  go_wp2_with (first
    | (go_at_call 36; refine (HRD.out _).mono ?_; clear HRD k0 k1 k2; rintro e w3 ⟨p3, q3, A3, r3, s3, B3, rfl, hr, hs, he⟩; have HR3 := Lib.hid hr; have HS3 := Lib.hid hs; clear hr hs; have HE3 := Lib.hid he; clear he; obtain ⟨j0, j1, j2, j3, j4, j5, j6⟩ := (HV.out _ (HE3.out.alloc (.cells #[.int .i64 p3, .int .i64 q3, .pointer A3, .int .i64 r3, .int .i64 s3, .pointer B3, .int .i64 dv] 45))).cells; obtain ⟨f0, f1, f2, f3, f4, f5, f6⟩ := (HV.out _ (HE3.out.alloc (.cells #[.int .i64 p3, .int .i64 q3, .pointer A3, .int .i64 r3, .int .i64 s3, .pointer B3, .int .i64 dv] 45))).frozen))
  refine ret_val2 rfl (w.heap.size + 1) _ _ _ _ _ _ _ _ rfl rfl (putV_row (HV.out _ (HE3.out.alloc _)) p3 q3 A3 r3 s3 B3 dv) rfl ?_
  exact ⟨p3, q3, A3, r3, s3, B3, rfl, (HR3.out.ext (Ext.one _ _)).onlyN (HV.out _ (HE3.out.alloc _)).noR (putV_only _ _ _ _ _ _ _ _ _), (HS3.out.ext (Ext.one _ _)).onlyN (HV.out _ (HE3.out.alloc _)).noR (putV_only _ _ _ _ _ _ _ _ _), (putV_only _ _ _ _ _ _ _ _ _).ext (HE0.out.trans (HE3.out.alloc _)) (by omega)⟩
set_option maxRecDepth 100000 in
set_option maxHeartbeats 400000 in
theorem one_none (sa sb : ByteArray) (d : Int) (n : Nat) (w : World) (hsa : sa.size ≤ n) (hsb : sb.size ≤ n) (hn : n ≤ 1000000000) (h : readV sa.data.toList sb.data.toList d = none) :
    Calls Tryd.prog 20 #[.agg #[.string sa, .string sb, .int .i64 d]] w (OneErr w) := by
  have HRD := Lib.hid (fun W => (read_calls sa sb d n W hsa hsb hn).mono fun _ _ h2 => h2.none)
  rw [h] at HRD
  obtain ⟨w2, hw2⟩ : ∃ w2, w2 = ((w.alloc (.cells #[.string sa, .string sb, .int .i64 d] 23)).alloc (.cells #[.int .i64 0, .int .i64 0, .pointer none, .int .i64 0, .int .i64 0, .pointer none, .int .i64 0] 45)) := ⟨_, rfl⟩
  have HE0 : Hid (Ext w w2) := Lib.hid (by rw [hw2]; exact Ext.two _ _ _)
  have HC : Hid (∀ W, Ext w2 W → BoxS W w.heap.size sa sb d) := Lib.hid (fun W he => BoxS.ext (by rw [hw2]; exact BoxS.ext (heap_alloc_new w _) (Ext.one _ _)) he)
  have HV : Hid (∀ W, Ext w2 W → BoxV W (w.heap.size + 1) 0 0 none 0 0 none 0) := Lib.hid (fun W he => BoxV.ext (by rw [hw2]; exact heap_alloc2_new w _ _) he)
  have HW2 := Lib.hid hw2
  
  obtain ⟨k0, k1, k2⟩ := (HC.out _ (Ext.refl _)).cells
  clear hsa hsb hn h hw2
  go_enter Tryd.func20, Tryd.ntmps20
  go_wp2_with fail
  rw [← HW2.out]
  go_wp2_with (first
    | (go_at_call 36; refine (HRD.out _).mono ?_; clear HRD k0 k1 k2; rintro e w3 ⟨p3, q3, A3, r3, s3, B3, d3, rfl, he⟩; have HE3 := Lib.hid he; clear he; obtain ⟨j0, j1, j2, j3, j4, j5, j6⟩ := (HV.out _ (HE3.out.alloc (.cells #[.int .i64 p3, .int .i64 q3, .pointer A3, .int .i64 r3, .int .i64 s3, .pointer B3, .int .i64 d3] 45))).cells; obtain ⟨f0, f1, f2, f3, f4, f5, f6⟩ := (HV.out _ (HE3.out.alloc (.cells #[.int .i64 p3, .int .i64 q3, .pointer A3, .int .i64 r3, .int .i64 s3, .pointer B3, .int .i64 d3] 45))).frozen))
  refine ret_val2 rfl (w.heap.size + 1) _ _ _ _ _ _ _ _ rfl rfl (putV_row (HV.out _ (HE3.out.alloc _)) 0 0 none 0 0 none 0) rfl ?_
  exact ⟨rfl, (putV_only _ _ _ _ _ _ _ _ _).ext (HE0.out.trans (HE3.out.alloc _)) (by omega)⟩
theorem heap_alloc4_new (w : World) (A B C D : Obj) : ((((w.alloc A).alloc B).alloc C).alloc D).heap[w.heap.size + 1 + 1 + 1]? = some D := by
  have h := heap_alloc_new (((w.alloc A).alloc B).alloc C) D
  rw [size_alloc, size_alloc, size_alloc] at h
  exact h
theorem two_puts {w W W' : World} {g k : Nat} {p q : Int} {A : Option Addr} {r s : Int} {B : Option Addr} {d : Int} {p' q' : Int} {A' : Option Addr} {r' s' : Int} {B' : Option Addr} {d' : Int} (h1 : BoxV W g 0 0 none 0 0 none 0) (h2 : BoxV W k 0 0 none 0 0 none 0) (hn : g ≠ k) (he : Ext w W) (hg : w.heap.size ≤ g) (hk : w.heap.size ≤ k) :
    BoxV (putV (putV W g p q A r s B d) k p' q' A' r' s' B' d') g p q A r s B d ∧ BoxV (putV (putV W g p q A r s B d) k p' q' A' r' s' B' d') k p' q' A' r' s' B' d' ∧ Ext w (putV (putV W g p q A r s B d) k p' q' A' r' s' B' d') ∧ (∀ {b x v}, RA b W x v → RA b (putV (putV W g p q A r s B d) k p' q' A' r' s' B' d') x v) := by
  have e1 : BoxV (putV W g p q A r s B d) g p q A r s B d := putV_row h1 p q A r s B d
  have e2 : BoxV (putV W g p q A r s B d) k 0 0 none 0 0 none 0 := h2.only (putV_only _ _ _ _ _ _ _ _ _) (fun e => hn e.symm)
  exact ⟨e1.only (putV_only _ _ _ _ _ _ _ _ _) hn, putV_row e2 p' q' A' r' s' B' d', (putV_only _ _ _ _ _ _ _ _ _).ext ((putV_only _ _ _ _ _ _ _ _ _).ext he hg) hk, fun h => (h.onlyN h1.noR (putV_only _ _ _ _ _ _ _ _ _)).onlyN e2.noR (putV_only _ _ _ _ _ _ _ _ _)⟩
set_option maxRecDepth 100000 in
set_option maxHeartbeats 400000 in
theorem two_n1 (sa sb ta tb : ByteArray) (d e : Int) (n : Nat) (w : World) (hsa : sa.size ≤ n) (hsb : sb.size ≤ n) (hta : ta.size ≤ n) (htb : tb.size ≤ n) (hn : n ≤ 1000000000) (h1 : readV sa.data.toList sb.data.toList d = none)   :
    Calls Tryd.prog 17 #[.agg #[.string sa, .string sb, .int .i64 d], .agg #[.string ta, .string tb, .int .i64 e]] w (TwoErr w 1) := by
  have HR1 := Lib.hid (fun W => (read_calls sa sb d n W hsa hsb hn).mono fun _ _ h3 => h3.none)
  have HR2 := Lib.hid (fun W => (read_calls ta tb e n W hta htb hn).mono fun _ _ h3 => h3.none)
  rw [h1] at HR1
  generalize (readV ta.data.toList tb.data.toList e).isSome = t2 at *
  obtain ⟨w2, hw2⟩ : ∃ w2, w2 = ((((w.alloc (.cells #[.string sa, .string sb, .int .i64 d] 23)).alloc (.cells #[.string ta, .string tb, .int .i64 e] 23)).alloc (.cells #[.int .i64 0, .int .i64 0, .pointer none, .int .i64 0, .int .i64 0, .pointer none, .int .i64 0] 45)).alloc (.cells #[.int .i64 0, .int .i64 0, .pointer none, .int .i64 0, .int .i64 0, .pointer none, .int .i64 0] 45)) := ⟨_, rfl⟩
  have HE0 : Hid (Ext w w2) := Lib.hid (by rw [hw2]; exact (Ext.three _ _ _ _).alloc _)
  have HC1 : Hid (∀ W, Ext w2 W → BoxS W w.heap.size sa sb d) := Lib.hid (fun W he => BoxS.ext (by rw [hw2]; exact BoxS.ext (heap_alloc_new w _) (Ext.three _ _ _ _)) he)
  have HC2 : Hid (∀ W, Ext w2 W → BoxS W (w.heap.size + 1) ta tb e) := Lib.hid (fun W he => BoxS.ext (by rw [hw2]; exact BoxS.ext (heap_alloc2_new w _ _) (Ext.two _ _ _)) he)
  have HV1 : Hid (∀ W, Ext w2 W → BoxV W (w.heap.size + 1 + 1) 0 0 none 0 0 none 0) := Lib.hid (fun W he => BoxV.ext (by rw [hw2]; exact BoxV.ext (heap_alloc3_new w _ _ _) (Ext.one _ _)) he)
  have HV2 : Hid (∀ W, Ext w2 W → BoxV W (w.heap.size + 1 + 1 + 1) 0 0 none 0 0 none 0) := Lib.hid (fun W he => BoxV.ext (by rw [hw2]; exact heap_alloc4_new w _ _ _ _) he)
  have HW2 := Lib.hid hw2
  
  
  
  obtain ⟨k0, k1, k2⟩ := (HC1.out _ (Ext.refl _)).cells
  clear hsa hsb hta htb hn h1  hw2
  go_enter Tryd.func17, Tryd.ntmps17
  go_wp2_with fail
  rw [← HW2.out]
  go_wp2_with (first
    | (go_at_call 36; refine (HR1.out _).mono ?_; clear HR1 k0 k1 k2; rintro e3 w3 ⟨p3, q3, A3, r3, s3, B3, d3, rfl, he⟩; have HE3 := Lib.hid he; clear he; obtain ⟨l0, l1, l2⟩ := (HC2.out _ (HE3.out.alloc (.cells #[.int .i64 p3, .int .i64 q3, .pointer A3, .int .i64 r3, .int .i64 s3, .pointer B3, .int .i64 d3] 45))).cells)
    | (go_at_call 36; refine (HR2.out _).mono ?_; clear HR2 l0 l1 l2; rintro e5 w5 ⟨p5, q5, A5, r5, s5, B5, d5, rfl, he⟩; have HX5 := Lib.hid he; have HE5 := Lib.hid ((HE3.out.alloc (.cells #[.int .i64 p3, .int .i64 q3, .pointer A3, .int .i64 r3, .int .i64 s3, .pointer B3, .int .i64 d3] 45)).trans he); clear he; obtain ⟨j0, j1, j2, j3, j4, j5, j6⟩ := (HV1.out _ (HE5.out.alloc (.cells #[.int .i64 p5, .int .i64 q5, .pointer A5, .int .i64 r5, .int .i64 s5, .pointer B5, .int .i64 d5] 45))).cells; obtain ⟨f0, f1, f2, f3, f4, f5, f6⟩ := (HV1.out _ (HE5.out.alloc (.cells #[.int .i64 p5, .int .i64 q5, .pointer A5, .int .i64 r5, .int .i64 s5, .pointer B5, .int .i64 d5] 45))).frozen; obtain ⟨m0, m1, m2, m3, m4, m5, m6⟩ := (HV2.out _ (HE5.out.alloc (.cells #[.int .i64 p5, .int .i64 q5, .pointer A5, .int .i64 r5, .int .i64 s5, .pointer B5, .int .i64 d5] 45))).cells; obtain ⟨g0, g1, g2, g3, g4, g5, g6⟩ := (HV2.out _ (HE5.out.alloc (.cells #[.int .i64 p5, .int .i64 q5, .pointer A5, .int .i64 r5, .int .i64 s5, .pointer B5, .int .i64 d5] 45))).frozen; obtain ⟨i0, i1, i2, i3, i4, i5, i6⟩ := (BoxV.ext (boxV_new w3 p3 q3 A3 r3 s3 B3 d3) (HX5.out.alloc (.cells #[.int .i64 p5, .int .i64 q5, .pointer A5, .int .i64 r5, .int .i64 s5, .pointer B5, .int .i64 d5] 45))).cells))
  obtain ⟨b1, b2, b3, b4⟩ := two_puts (w := w) (p := 0) (q := 0) (A := none) (r := 0) (s := 0) (B := none) (d := 0) (p' := 0) (q' := 0) (A' := none) (r' := 0) (s' := 0) (B' := none) (d' := 0) (W' := w) (HV1.out _ (HE5.out.alloc (.cells #[.int .i64 p5, .int .i64 q5, .pointer A5, .int .i64 r5, .int .i64 s5, .pointer B5, .int .i64 d5] 45))) (HV2.out _ (HE5.out.alloc (.cells #[.int .i64 p5, .int .i64 q5, .pointer A5, .int .i64 r5, .int .i64 s5, .pointer B5, .int .i64 d5] 45))) (by omega) (HE0.out.trans (HE5.out.alloc (.cells #[.int .i64 p5, .int .i64 q5, .pointer A5, .int .i64 r5, .int .i64 s5, .pointer B5, .int .i64 d5] 45))) (by omega) (by omega)
  refine ret_val3 rfl (w.heap.size + 1 + 1) (w.heap.size + 1 + 1 + 1) _ _ _ _ _ _ _ _ _ _ _ _ _ _ _ rfl rfl rfl b1 b2 rfl ?_
  exact ⟨rfl, b3⟩
set_option maxRecDepth 100000 in
set_option maxHeartbeats 400000 in
theorem two_n2 (sa sb ta tb : ByteArray) (d e : Int) (n : Nat) (w : World) (hsa : sa.size ≤ n) (hsb : sb.size ≤ n) (hta : ta.size ≤ n) (htb : tb.size ≤ n) (hn : n ≤ 1000000000) (v : SV) (h1 : readV sa.data.toList sb.data.toList d = some v) (h2 : readV ta.data.toList tb.data.toList e = none)  :
    Calls Tryd.prog 17 #[.agg #[.string sa, .string sb, .int .i64 d], .agg #[.string ta, .string tb, .int .i64 e]] w (TwoErr w 1) := by
  have HR1 := Lib.hid (fun W => (read_calls sa sb d n W hsa hsb hn).mono fun _ _ h3 => h3.some h1)
  have HR2 := Lib.hid (fun W => (read_calls ta tb e n W hta htb hn).mono fun _ _ h3 => h3.none)
  
  rw [h2] at HR2
  obtain ⟨w2, hw2⟩ : ∃ w2, w2 = ((((w.alloc (.cells #[.string sa, .string sb, .int .i64 d] 23)).alloc (.cells #[.string ta, .string tb, .int .i64 e] 23)).alloc (.cells #[.int .i64 0, .int .i64 0, .pointer none, .int .i64 0, .int .i64 0, .pointer none, .int .i64 0] 45)).alloc (.cells #[.int .i64 0, .int .i64 0, .pointer none, .int .i64 0, .int .i64 0, .pointer none, .int .i64 0] 45)) := ⟨_, rfl⟩
  have HE0 : Hid (Ext w w2) := Lib.hid (by rw [hw2]; exact (Ext.three _ _ _ _).alloc _)
  have HC1 : Hid (∀ W, Ext w2 W → BoxS W w.heap.size sa sb d) := Lib.hid (fun W he => BoxS.ext (by rw [hw2]; exact BoxS.ext (heap_alloc_new w _) (Ext.three _ _ _ _)) he)
  have HC2 : Hid (∀ W, Ext w2 W → BoxS W (w.heap.size + 1) ta tb e) := Lib.hid (fun W he => BoxS.ext (by rw [hw2]; exact BoxS.ext (heap_alloc2_new w _ _) (Ext.two _ _ _)) he)
  have HV1 : Hid (∀ W, Ext w2 W → BoxV W (w.heap.size + 1 + 1) 0 0 none 0 0 none 0) := Lib.hid (fun W he => BoxV.ext (by rw [hw2]; exact BoxV.ext (heap_alloc3_new w _ _ _) (Ext.one _ _)) he)
  have HV2 : Hid (∀ W, Ext w2 W → BoxV W (w.heap.size + 1 + 1 + 1) 0 0 none 0 0 none 0) := Lib.hid (fun W he => BoxV.ext (by rw [hw2]; exact heap_alloc4_new w _ _ _ _) he)
  have HW2 := Lib.hid hw2
  obtain ⟨x1, y1, dv1⟩ := v
  
  
  obtain ⟨k0, k1, k2⟩ := (HC1.out _ (Ext.refl _)).cells
  clear hsa hsb hta htb hn h1 h2 hw2
  go_enter Tryd.func17, Tryd.ntmps17
  go_wp2_with fail
  rw [← HW2.out]
  go_wp2_with (first
    | (go_at_call 36; refine (HR1.out _).mono ?_; clear HR1 k0 k1 k2; rintro e3 w3 ⟨p3, q3, A3, r3, s3, B3, rfl, hr, hs, he⟩; have HR3 := Lib.hid hr; have HS3 := Lib.hid hs; clear hr hs; have HE3 := Lib.hid he; clear he; obtain ⟨l0, l1, l2⟩ := (HC2.out _ (HE3.out.alloc (.cells #[.int .i64 p3, .int .i64 q3, .pointer A3, .int .i64 r3, .int .i64 s3, .pointer B3, .int .i64 dv1] 45))).cells)
    | (go_at_call 36; refine (HR2.out _).mono ?_; clear HR2 l0 l1 l2; rintro e5 w5 ⟨p5, q5, A5, r5, s5, B5, d5, rfl, he⟩; have HX5 := Lib.hid he; have HE5 := Lib.hid ((HE3.out.alloc (.cells #[.int .i64 p3, .int .i64 q3, .pointer A3, .int .i64 r3, .int .i64 s3, .pointer B3, .int .i64 dv1] 45)).trans he); clear he; obtain ⟨j0, j1, j2, j3, j4, j5, j6⟩ := (HV1.out _ (HE5.out.alloc (.cells #[.int .i64 p5, .int .i64 q5, .pointer A5, .int .i64 r5, .int .i64 s5, .pointer B5, .int .i64 d5] 45))).cells; obtain ⟨f0, f1, f2, f3, f4, f5, f6⟩ := (HV1.out _ (HE5.out.alloc (.cells #[.int .i64 p5, .int .i64 q5, .pointer A5, .int .i64 r5, .int .i64 s5, .pointer B5, .int .i64 d5] 45))).frozen; obtain ⟨m0, m1, m2, m3, m4, m5, m6⟩ := (HV2.out _ (HE5.out.alloc (.cells #[.int .i64 p5, .int .i64 q5, .pointer A5, .int .i64 r5, .int .i64 s5, .pointer B5, .int .i64 d5] 45))).cells; obtain ⟨g0, g1, g2, g3, g4, g5, g6⟩ := (HV2.out _ (HE5.out.alloc (.cells #[.int .i64 p5, .int .i64 q5, .pointer A5, .int .i64 r5, .int .i64 s5, .pointer B5, .int .i64 d5] 45))).frozen; obtain ⟨i0, i1, i2, i3, i4, i5, i6⟩ := (BoxV.ext (boxV_new w3 p3 q3 A3 r3 s3 B3 dv1) (HX5.out.alloc (.cells #[.int .i64 p5, .int .i64 q5, .pointer A5, .int .i64 r5, .int .i64 s5, .pointer B5, .int .i64 d5] 45))).cells))
  obtain ⟨b1, b2, b3, b4⟩ := two_puts (w := w) (p := 0) (q := 0) (A := none) (r := 0) (s := 0) (B := none) (d := 0) (p' := 0) (q' := 0) (A' := none) (r' := 0) (s' := 0) (B' := none) (d' := 0) (W' := w) (HV1.out _ (HE5.out.alloc (.cells #[.int .i64 p5, .int .i64 q5, .pointer A5, .int .i64 r5, .int .i64 s5, .pointer B5, .int .i64 d5] 45))) (HV2.out _ (HE5.out.alloc (.cells #[.int .i64 p5, .int .i64 q5, .pointer A5, .int .i64 r5, .int .i64 s5, .pointer B5, .int .i64 d5] 45))) (by omega) (HE0.out.trans (HE5.out.alloc (.cells #[.int .i64 p5, .int .i64 q5, .pointer A5, .int .i64 r5, .int .i64 s5, .pointer B5, .int .i64 d5] 45))) (by omega) (by omega)
  refine ret_val3 rfl (w.heap.size + 1 + 1) (w.heap.size + 1 + 1 + 1) _ _ _ _ _ _ _ _ _ _ _ _ _ _ _ rfl rfl rfl b1 b2 rfl ?_
  exact ⟨rfl, b3⟩
set_option maxRecDepth 100000 in
set_option maxHeartbeats 400000 in
theorem two_fld (sa sb ta tb : ByteArray) (d e : Int) (n : Nat) (w : World) (hsa : sa.size ≤ n) (hsb : sb.size ≤ n) (hta : ta.size ≤ n) (htb : tb.size ≤ n) (hn : n ≤ 1000000000) (v : SV) (h1 : readV sa.data.toList sb.data.toList d = some v) (u : SV) (h2 : readV ta.data.toList tb.data.toList e = some u) (ht : togOk v u = false) :
    Calls Tryd.prog 17 #[.agg #[.string sa, .string sb, .int .i64 d], .agg #[.string ta, .string tb, .int .i64 e]] w (TwoErr w 9) := by
  have HR1 := Lib.hid (fun W => (read_calls sa sb d n W hsa hsb hn).mono fun _ _ h3 => h3.some h1)
  have HR2 := Lib.hid (fun W => (read_calls ta tb e n W hta htb hn).mono fun _ _ h3 => h3.some h2)
  
  
  obtain ⟨w2, hw2⟩ : ∃ w2, w2 = ((((w.alloc (.cells #[.string sa, .string sb, .int .i64 d] 23)).alloc (.cells #[.string ta, .string tb, .int .i64 e] 23)).alloc (.cells #[.int .i64 0, .int .i64 0, .pointer none, .int .i64 0, .int .i64 0, .pointer none, .int .i64 0] 45)).alloc (.cells #[.int .i64 0, .int .i64 0, .pointer none, .int .i64 0, .int .i64 0, .pointer none, .int .i64 0] 45)) := ⟨_, rfl⟩
  have HE0 : Hid (Ext w w2) := Lib.hid (by rw [hw2]; exact (Ext.three _ _ _ _).alloc _)
  have HC1 : Hid (∀ W, Ext w2 W → BoxS W w.heap.size sa sb d) := Lib.hid (fun W he => BoxS.ext (by rw [hw2]; exact BoxS.ext (heap_alloc_new w _) (Ext.three _ _ _ _)) he)
  have HC2 : Hid (∀ W, Ext w2 W → BoxS W (w.heap.size + 1) ta tb e) := Lib.hid (fun W he => BoxS.ext (by rw [hw2]; exact BoxS.ext (heap_alloc2_new w _ _) (Ext.two _ _ _)) he)
  have HV1 : Hid (∀ W, Ext w2 W → BoxV W (w.heap.size + 1 + 1) 0 0 none 0 0 none 0) := Lib.hid (fun W he => BoxV.ext (by rw [hw2]; exact BoxV.ext (heap_alloc3_new w _ _ _) (Ext.one _ _)) he)
  have HV2 : Hid (∀ W, Ext w2 W → BoxV W (w.heap.size + 1 + 1 + 1) 0 0 none 0 0 none 0) := Lib.hid (fun W he => BoxV.ext (by rw [hw2]; exact heap_alloc4_new w _ _ _ _) he)
  have HW2 := Lib.hid hw2
  obtain ⟨x1, y1, dv1⟩ := v
  obtain ⟨x2, y2, dv2⟩ := u
  have HTG : Hid (∀ {p1 q1 : Int} {A1 : Option Addr} {r1 s1 : Int} {B1 : Option Addr} {p2 q2 : Int} {A2 : Option Addr} {r2 s2 : Int} {B2 : Option Addr} (W : World), Calls Tryd.prog 37 #[.agg #[.int .i64 p1, .int .i64 q1, .pointer A1, .int .i64 r1, .int .i64 s1, .pointer B1, .int .i64 dv1], .agg #[.int .i64 p2, .int .i64 q2, .pointer A2, .int .i64 r2, .int .i64 s2, .pointer B2, .int .i64 dv2]] W fun e w' => e = .returned (.tuple #[.int .i64 (tog ⟨x1, y1, dv1⟩ ⟨x2, y2, dv2⟩), .bool false]) ∧ Ext W w') := Lib.hid (fun W => by rw [← ht]; exact together_calls x1 y1 x2 y2)
  clear ht
  generalize tog ⟨x1, y1, dv1⟩ ⟨x2, y2, dv2⟩ = td at *
  obtain ⟨k0, k1, k2⟩ := (HC1.out _ (Ext.refl _)).cells
  clear hsa hsb hta htb hn h1 h2 hw2
  go_enter Tryd.func17, Tryd.ntmps17
  go_wp2_with fail
  rw [← HW2.out]
  go_wp2_with (first
    | (go_at_call 36; refine (HR1.out _).mono ?_; clear HR1 k0 k1 k2; rintro e3 w3 ⟨p3, q3, A3, r3, s3, B3, rfl, hr, hs, he⟩; have HR3 := Lib.hid hr; have HS3 := Lib.hid hs; clear hr hs; have HE3 := Lib.hid he; clear he; obtain ⟨l0, l1, l2⟩ := (HC2.out _ (HE3.out.alloc (.cells #[.int .i64 p3, .int .i64 q3, .pointer A3, .int .i64 r3, .int .i64 s3, .pointer B3, .int .i64 dv1] 45))).cells)
    | (go_at_call 36; refine (HR2.out _).mono ?_; clear HR2 l0 l1 l2; rintro e5 w5 ⟨p5, q5, A5, r5, s5, B5, rfl, hr, hs, he⟩; have HR5 := Lib.hid hr; have HS5 := Lib.hid hs; clear hr hs; have HX5 := Lib.hid he; have HE5 := Lib.hid ((HE3.out.alloc (.cells #[.int .i64 p3, .int .i64 q3, .pointer A3, .int .i64 r3, .int .i64 s3, .pointer B3, .int .i64 dv1] 45)).trans he); clear he; obtain ⟨j0, j1, j2, j3, j4, j5, j6⟩ := (HV1.out _ (HE5.out.alloc (.cells #[.int .i64 p5, .int .i64 q5, .pointer A5, .int .i64 r5, .int .i64 s5, .pointer B5, .int .i64 dv2] 45))).cells; obtain ⟨f0, f1, f2, f3, f4, f5, f6⟩ := (HV1.out _ (HE5.out.alloc (.cells #[.int .i64 p5, .int .i64 q5, .pointer A5, .int .i64 r5, .int .i64 s5, .pointer B5, .int .i64 dv2] 45))).frozen; obtain ⟨m0, m1, m2, m3, m4, m5, m6⟩ := (HV2.out _ (HE5.out.alloc (.cells #[.int .i64 p5, .int .i64 q5, .pointer A5, .int .i64 r5, .int .i64 s5, .pointer B5, .int .i64 dv2] 45))).cells; obtain ⟨g0, g1, g2, g3, g4, g5, g6⟩ := (HV2.out _ (HE5.out.alloc (.cells #[.int .i64 p5, .int .i64 q5, .pointer A5, .int .i64 r5, .int .i64 s5, .pointer B5, .int .i64 dv2] 45))).frozen; obtain ⟨i0, i1, i2, i3, i4, i5, i6⟩ := (BoxV.ext (boxV_new w3 p3 q3 A3 r3 s3 B3 dv1) (HX5.out.alloc (.cells #[.int .i64 p5, .int .i64 q5, .pointer A5, .int .i64 r5, .int .i64 s5, .pointer B5, .int .i64 dv2] 45))).cells)
    | (go_at_call 37; refine (HTG.out _).mono ?_; clear HTG j0 j1 j2 j3 j4 j5 j6 f0 f1 f2 f3 f4 f5 f6 m0 m1 m2 m3 m4 m5 m6 g0 g1 g2 g3 g4 g5 g6 i0 i1 i2 i3 i4 i5 i6; rintro e7 w7 ⟨rfl, he⟩; have HX7 := Lib.hid he; have HE7 : Hid (Ext w2 w7) := Lib.hid ((HE5.out.alloc (.cells #[.int .i64 p5, .int .i64 q5, .pointer A5, .int .i64 r5, .int .i64 s5, .pointer B5, .int .i64 dv2] 45)).trans he); clear he; obtain ⟨j0, j1, j2, j3, j4, j5, j6⟩ := (HV1.out _ HE7.out).cells; obtain ⟨f0, f1, f2, f3, f4, f5, f6⟩ := (HV1.out _ HE7.out).frozen; obtain ⟨m0, m1, m2, m3, m4, m5, m6⟩ := (HV2.out _ HE7.out).cells; obtain ⟨g0, g1, g2, g3, g4, g5, g6⟩ := (HV2.out _ HE7.out).frozen))
  obtain ⟨b1, b2, b3, b4⟩ := two_puts (w := w) (p := 0) (q := 0) (A := none) (r := 0) (s := 0) (B := none) (d := 0) (p' := 0) (q' := 0) (A' := none) (r' := 0) (s' := 0) (B' := none) (d' := 0) (W' := w) (HV1.out _ HE7.out) (HV2.out _ HE7.out) (by omega) (HE0.out.trans HE7.out) (by omega) (by omega)
  refine ret_val3 rfl (w.heap.size + 1 + 1) (w.heap.size + 1 + 1 + 1) _ _ _ _ _ _ _ _ _ _ _ _ _ _ _ rfl rfl rfl b1 b2 rfl ?_
  exact ⟨rfl, b3⟩
set_option maxRecDepth 100000 in
set_option maxHeartbeats 400000 in
theorem two_ok (sa sb ta tb : ByteArray) (d e : Int) (n : Nat) (w : World) (hsa : sa.size ≤ n) (hsb : sb.size ≤ n) (hta : ta.size ≤ n) (htb : tb.size ≤ n) (hn : n ≤ 1000000000) (v : SV) (h1 : readV sa.data.toList sb.data.toList d = some v) (u : SV) (h2 : readV ta.data.toList tb.data.toList e = some u) (ht : togOk v u = true) :
    Calls Tryd.prog 17 #[.agg #[.string sa, .string sb, .int .i64 d], .agg #[.string ta, .string tb, .int .i64 e]] w (TwoSome (4 * n + 4) w v u) := by
  have HR1 := Lib.hid (fun W => (read_calls sa sb d n W hsa hsb hn).mono fun _ _ h3 => h3.some h1)
  have HR2 := Lib.hid (fun W => (read_calls ta tb e n W hta htb hn).mono fun _ _ h3 => h3.some h2)
  
  
  obtain ⟨w2, hw2⟩ : ∃ w2, w2 = ((((w.alloc (.cells #[.string sa, .string sb, .int .i64 d] 23)).alloc (.cells #[.string ta, .string tb, .int .i64 e] 23)).alloc (.cells #[.int .i64 0, .int .i64 0, .pointer none, .int .i64 0, .int .i64 0, .pointer none, .int .i64 0] 45)).alloc (.cells #[.int .i64 0, .int .i64 0, .pointer none, .int .i64 0, .int .i64 0, .pointer none, .int .i64 0] 45)) := ⟨_, rfl⟩
  have HE0 : Hid (Ext w w2) := Lib.hid (by rw [hw2]; exact (Ext.three _ _ _ _).alloc _)
  have HC1 : Hid (∀ W, Ext w2 W → BoxS W w.heap.size sa sb d) := Lib.hid (fun W he => BoxS.ext (by rw [hw2]; exact BoxS.ext (heap_alloc_new w _) (Ext.three _ _ _ _)) he)
  have HC2 : Hid (∀ W, Ext w2 W → BoxS W (w.heap.size + 1) ta tb e) := Lib.hid (fun W he => BoxS.ext (by rw [hw2]; exact BoxS.ext (heap_alloc2_new w _ _) (Ext.two _ _ _)) he)
  have HV1 : Hid (∀ W, Ext w2 W → BoxV W (w.heap.size + 1 + 1) 0 0 none 0 0 none 0) := Lib.hid (fun W he => BoxV.ext (by rw [hw2]; exact BoxV.ext (heap_alloc3_new w _ _ _) (Ext.one _ _)) he)
  have HV2 : Hid (∀ W, Ext w2 W → BoxV W (w.heap.size + 1 + 1 + 1) 0 0 none 0 0 none 0) := Lib.hid (fun W he => BoxV.ext (by rw [hw2]; exact heap_alloc4_new w _ _ _ _) he)
  have HW2 := Lib.hid hw2
  obtain ⟨x1, y1, dv1⟩ := v
  obtain ⟨x2, y2, dv2⟩ := u
  have HTG : Hid (∀ {p1 q1 : Int} {A1 : Option Addr} {r1 s1 : Int} {B1 : Option Addr} {p2 q2 : Int} {A2 : Option Addr} {r2 s2 : Int} {B2 : Option Addr} (W : World), Calls Tryd.prog 37 #[.agg #[.int .i64 p1, .int .i64 q1, .pointer A1, .int .i64 r1, .int .i64 s1, .pointer B1, .int .i64 dv1], .agg #[.int .i64 p2, .int .i64 q2, .pointer A2, .int .i64 r2, .int .i64 s2, .pointer B2, .int .i64 dv2]] W fun e w' => e = .returned (.tuple #[.int .i64 (tog ⟨x1, y1, dv1⟩ ⟨x2, y2, dv2⟩), .bool true]) ∧ Ext W w') := Lib.hid (fun W => by rw [← ht]; exact together_calls x1 y1 x2 y2)
  clear ht
  generalize tog ⟨x1, y1, dv1⟩ ⟨x2, y2, dv2⟩ = td at *
  obtain ⟨k0, k1, k2⟩ := (HC1.out _ (Ext.refl _)).cells
  clear hsa hsb hta htb hn h1 h2 hw2
  go_enter Tryd.func17, Tryd.ntmps17
  go_wp2_with fail
  rw [← HW2.out]
  go_wp2_with (first
    | (go_at_call 36; refine (HR1.out _).mono ?_; clear HR1 k0 k1 k2; rintro e3 w3 ⟨p3, q3, A3, r3, s3, B3, rfl, hr, hs, he⟩; have HR3 := Lib.hid hr; have HS3 := Lib.hid hs; clear hr hs; have HE3 := Lib.hid he; clear he; obtain ⟨l0, l1, l2⟩ := (HC2.out _ (HE3.out.alloc (.cells #[.int .i64 p3, .int .i64 q3, .pointer A3, .int .i64 r3, .int .i64 s3, .pointer B3, .int .i64 dv1] 45))).cells)
    | (go_at_call 36; refine (HR2.out _).mono ?_; clear HR2 l0 l1 l2; rintro e5 w5 ⟨p5, q5, A5, r5, s5, B5, rfl, hr, hs, he⟩; have HR5 := Lib.hid hr; have HS5 := Lib.hid hs; clear hr hs; have HX5 := Lib.hid he; have HE5 := Lib.hid ((HE3.out.alloc (.cells #[.int .i64 p3, .int .i64 q3, .pointer A3, .int .i64 r3, .int .i64 s3, .pointer B3, .int .i64 dv1] 45)).trans he); clear he; obtain ⟨j0, j1, j2, j3, j4, j5, j6⟩ := (HV1.out _ (HE5.out.alloc (.cells #[.int .i64 p5, .int .i64 q5, .pointer A5, .int .i64 r5, .int .i64 s5, .pointer B5, .int .i64 dv2] 45))).cells; obtain ⟨f0, f1, f2, f3, f4, f5, f6⟩ := (HV1.out _ (HE5.out.alloc (.cells #[.int .i64 p5, .int .i64 q5, .pointer A5, .int .i64 r5, .int .i64 s5, .pointer B5, .int .i64 dv2] 45))).frozen; obtain ⟨m0, m1, m2, m3, m4, m5, m6⟩ := (HV2.out _ (HE5.out.alloc (.cells #[.int .i64 p5, .int .i64 q5, .pointer A5, .int .i64 r5, .int .i64 s5, .pointer B5, .int .i64 dv2] 45))).cells; obtain ⟨g0, g1, g2, g3, g4, g5, g6⟩ := (HV2.out _ (HE5.out.alloc (.cells #[.int .i64 p5, .int .i64 q5, .pointer A5, .int .i64 r5, .int .i64 s5, .pointer B5, .int .i64 dv2] 45))).frozen; obtain ⟨i0, i1, i2, i3, i4, i5, i6⟩ := (BoxV.ext (boxV_new w3 p3 q3 A3 r3 s3 B3 dv1) (HX5.out.alloc (.cells #[.int .i64 p5, .int .i64 q5, .pointer A5, .int .i64 r5, .int .i64 s5, .pointer B5, .int .i64 dv2] 45))).cells)
    | (go_at_call 37; refine (HTG.out _).mono ?_; clear HTG j0 j1 j2 j3 j4 j5 j6 f0 f1 f2 f3 f4 f5 f6 m0 m1 m2 m3 m4 m5 m6 g0 g1 g2 g3 g4 g5 g6 i0 i1 i2 i3 i4 i5 i6; rintro e7 w7 ⟨rfl, he⟩; have HX7 := Lib.hid he; have HE7 : Hid (Ext w2 w7) := Lib.hid ((HE5.out.alloc (.cells #[.int .i64 p5, .int .i64 q5, .pointer A5, .int .i64 r5, .int .i64 s5, .pointer B5, .int .i64 dv2] 45)).trans he); clear he; obtain ⟨j0, j1, j2, j3, j4, j5, j6⟩ := (HV1.out _ HE7.out).cells; obtain ⟨f0, f1, f2, f3, f4, f5, f6⟩ := (HV1.out _ HE7.out).frozen; obtain ⟨m0, m1, m2, m3, m4, m5, m6⟩ := (HV2.out _ HE7.out).cells; obtain ⟨g0, g1, g2, g3, g4, g5, g6⟩ := (HV2.out _ HE7.out).frozen))
  obtain ⟨g3, hg3⟩ : ∃ g3, g3 = w3.heap.size := ⟨_, rfl⟩
  obtain ⟨g5, hg5⟩ : ∃ g5, g5 = w5.heap.size := ⟨_, rfl⟩
  have HD1 : Hid (∀ W, Ext w7 W → BoxV W g3 p3 q3 A3 r3 s3 B3 dv1) := Lib.hid (fun W he => by rw [hg3]; exact (boxV_new w3 p3 q3 A3 r3 s3 B3 dv1).ext (((HX5.out.alloc (.cells #[.int .i64 p5, .int .i64 q5, .pointer A5, .int .i64 r5, .int .i64 s5, .pointer B5, .int .i64 dv2] 45)).trans HX7.out).trans he))
  have HD2 : Hid (∀ W, Ext w7 W → BoxV W g5 p5 q5 A5 r5 s5 B5 dv2) := Lib.hid (fun W he => by rw [hg5]; exact (boxV_new w5 p5 q5 A5 r5 s5 B5 dv2).ext (HX7.out.trans he))
  have HG : Hid (w.heap.size + 1 + 1 + 1 + 1 ≤ g3 ∧ w.heap.size + 1 + 1 + 1 + 1 ≤ g5) := Lib.hid (by
    have h1 := HE3.out.le
    have h2 : w2.heap.size = w.heap.size + 1 + 1 + 1 + 1 := by rw [HW2.out]; simp
    have h3 := HE5.out.le
    omega)
  have hn1 : g3 ≠ w.heap.size + 1 + 1 ∧ g3 ≠ w.heap.size + 1 + 1 + 1 := by have := HG.out.1; omega
  have hn2 : g5 ≠ w.heap.size + 1 + 1 ∧ g5 ≠ w.heap.size + 1 + 1 + 1 := by have := HG.out.2; omega
  rw [← hg3, ← hg5]
  have HR7 : Hid (RA (4 * n + 4) w7 x1 (.agg #[.int .i64 p3, .int .i64 q3, .pointer A3]) ∧ RA (4 * n + 4) w7 y1 (.agg #[.int .i64 r3, .int .i64 s3, .pointer B3]) ∧ RA (4 * n + 4) w7 x2 (.agg #[.int .i64 p5, .int .i64 q5, .pointer A5]) ∧ RA (4 * n + 4) w7 y2 (.agg #[.int .i64 r5, .int .i64 s5, .pointer B5])) := Lib.hid (by
    have e1 : Ext w3 w7 := (Ext.one w3 (.cells #[.int .i64 p3, .int .i64 q3, .pointer A3, .int .i64 r3, .int .i64 s3, .pointer B3, .int .i64 dv1] 45)).trans ((HX5.out.alloc (.cells #[.int .i64 p5, .int .i64 q5, .pointer A5, .int .i64 r5, .int .i64 s5, .pointer B5, .int .i64 dv2] 45)).trans HX7.out)
    have e2 : Ext w5 w7 := (Ext.one w5 (.cells #[.int .i64 p5, .int .i64 q5, .pointer A5, .int .i64 r5, .int .i64 s5, .pointer B5, .int .i64 dv2] 45)).trans HX7.out
    exact ⟨HR3.out.ext e1, HS3.out.ext e1, HR5.out.ext e2, HS5.out.ext e2⟩)
  clear hg3 hg5
  obtain ⟨i0, i1, i2, i3, i4, i5, i6⟩ := (HD1.out _ (Ext.refl _)).cells
  obtain ⟨h0, h1, h2, h3, h4, h5, h6⟩ := (HD2.out _ (Ext.refl _)).cells
  go_region
  go_wp2
  obtain ⟨b1, b2, b3, b4⟩ := two_puts (w := w) (p := p3) (q := q3) (A := A3) (r := r3) (s := s3) (B := B3) (d := dv1) (p' := p5) (q' := q5) (A' := A5) (r' := r5) (s' := s5) (B' := B5) (d' := dv2) (W' := w) (HV1.out _ HE7.out) (HV2.out _ HE7.out) (by omega) (HE0.out.trans HE7.out) (by omega) (by omega)
  refine ret_val3 rfl (w.heap.size + 1 + 1) (w.heap.size + 1 + 1 + 1) _ _ _ _ _ _ _ _ _ _ _ _ _ _ _ rfl rfl rfl (b1.ext (Ext.refl _).drew) (b2.ext (Ext.refl _).drew) rfl ?_
  exact ⟨p3, q3, A3, r3, s3, B3, p5, q5, A5, r5, s5, B5, rfl, (b4 HR7.out.1).ext (Ext.refl _).drew, (b4 HR7.out.2.1).ext (Ext.refl _).drew, (b4 HR7.out.2.2.1).ext (Ext.refl _).drew, (b4 HR7.out.2.2.2).ext (Ext.refl _).drew, b3.drew⟩
end Go.Proofs.YtpgnlpjjpgdoiaaDoor
/- surd: add, mul. -/
namespace Go.Proofs.YtpgnlpjjpgdoiaaDoor
open Go Go.RowKit SurdM
set_option linter.unusedVariables false
set_option linter.unusedSimpArgs false
set_option maxRecDepth 100000 in
set_option maxHeartbeats 400000 in
theorem add_callsV {x1 y1 x2 y2 : Rat} {d1 d2 : Int} {b c : Nat} {p1 q1 : Int} {A1 : Option Addr} {r1 s1 : Int} {B1 : Option Addr} {p2 q2 : Int} {A2 : Option Addr} {r2 s2 : Int} {B2 : Option Addr} {w : World} (hx1 : RA b w x1 (.agg #[.int .i64 p1, .int .i64 q1, .pointer A1])) (hy1 : RA b w y1 (.agg #[.int .i64 r1, .int .i64 s1, .pointer B1])) (hx2 : RA c w x2 (.agg #[.int .i64 p2, .int .i64 q2, .pointer A2])) (hy2 : RA c w y2 (.agg #[.int .i64 r2, .int .i64 s2, .pointer B2])) (hb : b ≤ 10000000000) (hc : c ≤ 10000000000) :
    Calls Tryd.prog 28 #[.agg #[.int .i64 p1, .int .i64 q1, .pointer A1, .int .i64 r1, .int .i64 s1, .pointer B1, .int .i64 d1], .agg #[.int .i64 p2, .int .i64 q2, .pointer A2, .int .i64 r2, .int .i64 s2, .pointer B2, .int .i64 d2]] w (VPost (b + c + 1) w (addV ⟨x1, y1, d1⟩ ⟨x2, y2, d2⟩)) := by
  have HA1 := Lib.hid (fun W (he : Ext w W) => addK (hx1.ext he) (hx2.ext he) (by omega) (by omega))
  have HA2 := Lib.hid (fun W (he : Ext w W) => addK (hy1.ext he) (hy2.ext he) (by omega) (by omega))
  obtain ⟨w2, hw2⟩ : ∃ w2, w2 = (((w.alloc (.cells #[.int .i64 p1, .int .i64 q1, .pointer A1, .int .i64 r1, .int .i64 s1, .pointer B1, .int .i64 d1] 45)).alloc (.cells #[.int .i64 p2, .int .i64 q2, .pointer A2, .int .i64 r2, .int .i64 s2, .pointer B2, .int .i64 d2] 45)).alloc (.cells #[.int .i64 0, .int .i64 0, .pointer none, .int .i64 0, .int .i64 0, .pointer none, .int .i64 0] 45)) := ⟨_, rfl⟩
  have HE0 : Hid (Ext w w2) := Lib.hid (by rw [hw2]; exact Ext.three _ _ _ _)
  have HC1 : Hid (∀ W, Ext w2 W → BoxV W w.heap.size p1 q1 A1 r1 s1 B1 d1) := Lib.hid (fun W he => BoxV.ext (by rw [hw2]; exact ((boxV_new w p1 q1 A1 r1 s1 B1 d1).ext (Ext.two _ _ _))) he)
  have HC2 : Hid (∀ W, Ext w2 W → BoxV W (w.heap.size + 1) p2 q2 A2 r2 s2 B2 d2) := Lib.hid (fun W he => BoxV.ext (by rw [hw2]; exact BoxV.ext (heap_alloc2_new w _ _) (Ext.one _ _)) he)
  have HV : Hid (∀ W, Ext w2 W → BoxV W (w.heap.size + 1 + 1) 0 0 none 0 0 none 0) := Lib.hid (fun W he => BoxV.ext (by rw [hw2]; exact heap_alloc3_new w _ _ _) he)
  have HTG := Lib.hid (fun W => together_calls (d1 := d1) (d2 := d2) (p1 := p1) (q1 := q1) (A1 := A1) (r1 := r1) (s1 := s1) (B1 := B1) (p2 := p2) (q2 := q2) (A2 := A2) (r2 := r2) (s2 := s2) (B2 := B2) (w := W) x1 y1 x2 y2)
  have HW2 := Lib.hid hw2
  unfold addV
  simp only []
  generalize tog ⟨x1, y1, d1⟩ ⟨x2, y2, d2⟩ = td at *
  obtain ⟨j0, j1, j2, j3, j4, j5, j6⟩ := (HC1.out _ (Ext.refl _)).cells
  obtain ⟨k0, k1, k2, k3, k4, k5, k6⟩ := (HC2.out _ (Ext.refl _)).cells
  clear hx1 hy1 hx2 hy2 hb hc hw2
  go_enter Tryd.func28, Tryd.ntmps28
  go_wp2_with fail
  rw [← HW2.out]
  go_wp2_with (first
    | (go_at_call 37; refine (HTG.out _).mono ?_; rintro e w3 ⟨rfl, he⟩; have HE3 : Hid (Ext w2 w3) := Lib.hid ((Ext.refl _).trans he); have HX3 := Lib.hid he; clear he; clear HTG j0 j1 j2 j3 j4 j5 j6 k0 k1 k2 k3 k4 k5 k6))
  go_region_held3 (fun W => (W.cell? ⟨w.heap.size, 0, none⟩ = some (.int .i64 p1) ∧ W.cell? ⟨w.heap.size, 1, none⟩ = some (.int .i64 q1) ∧ W.cell? ⟨w.heap.size, 2, none⟩ = some (.pointer A1) ∧ W.cell? ⟨w.heap.size, 3, none⟩ = some (.int .i64 r1) ∧ W.cell? ⟨w.heap.size, 4, none⟩ = some (.int .i64 s1) ∧ W.cell? ⟨w.heap.size, 5, none⟩ = some (.pointer B1) ∧ W.cell? ⟨w.heap.size, 6, none⟩ = some (.int .i64 d1)) ∧ (W.cell? ⟨(w.heap.size + 1), 0, none⟩ = some (.int .i64 p2) ∧ W.cell? ⟨(w.heap.size + 1), 1, none⟩ = some (.int .i64 q2) ∧ W.cell? ⟨(w.heap.size + 1), 2, none⟩ = some (.pointer A2) ∧ W.cell? ⟨(w.heap.size + 1), 3, none⟩ = some (.int .i64 r2) ∧ W.cell? ⟨(w.heap.size + 1), 4, none⟩ = some (.int .i64 s2) ∧ W.cell? ⟨(w.heap.size + 1), 5, none⟩ = some (.pointer B2) ∧ W.cell? ⟨(w.heap.size + 1), 6, none⟩ = some (.int .i64 d2)))
    (first
      | with_reducible exact ⟨(HC1.out _ HE6.out).cells, (HC2.out _ HE6.out).cells⟩
      | with_reducible exact ⟨(HC1.out _ HE5.out).cells, (HC2.out _ HE5.out).cells⟩
      | with_reducible exact ⟨(HC1.out _ HE4.out).cells, (HC2.out _ HE4.out).cells⟩
      | with_reducible exact ⟨(HC1.out _ HE3.out).cells, (HC2.out _ HE3.out).cells⟩
      | with_reducible exact ⟨(HC1.out _ HE3.out.drew).cells, (HC2.out _ HE3.out.drew).cells⟩
      | exact ⟨((HC1.out _ HE6.out).only (putV_only w6 (w.heap.size + 1 + 1) p6 q6 A6 r6 s6 B6 _) (by omega)).cells, ((HC2.out _ HE6.out).only (putV_only w6 (w.heap.size + 1 + 1) p6 q6 A6 r6 s6 B6 _) (by omega)).cells⟩)
    (first
      | (go_at_call 34; refine (HA1.out _ (HE0.out.trans HE3.out.drew)).mono ?_; rintro e w4 ⟨p4, q4, A4, rfl, hr, he⟩; have HR4 := Lib.hid hr; have HE4 : Hid (Ext w2 w4) := Lib.hid ((HE3.out.drew).trans he); have HX4 := Lib.hid he; clear hr he; clear HA1)
      | (go_at_call 34; refine (HA2.out _ (HE0.out.trans HE4.out)).mono ?_; rintro e w5 ⟨p5, q5, A5, rfl, hr, he⟩; have HR5 := Lib.hid hr; have HE5 : Hid (Ext w2 w5) := Lib.hid ((HE4.out).trans he); have HX5 := Lib.hid he; clear hr he; clear HA2)
      | (go_at_call 35; refine (normal_calls (HR4.out.ext HX5.out) HR5.out).mono ?_; rintro e w6 ⟨p6, q6, A6, r6, s6, B6, rfl, hr, hs, he⟩; have HR6 := Lib.hid hr; have HS6 := Lib.hid hs; have HE6 : Hid (Ext w2 w6) := Lib.hid ((HE5.out).trans he); have HX6 := Lib.hid he; clear hr hs he; obtain ⟨j0, j1, j2, j3, j4, j5, j6⟩ := (HV.out _ HE6.out).cells; obtain ⟨f0, f1, f2, f3, f4, f5, f6⟩ := (HV.out _ HE6.out).frozen))
  go_wp2
  refine ret_val rfl (w.heap.size + 1 + 1) _ _ _ _ _ _ _ rfl (putV_row (HV.out _ HE6.out) p6 q6 A6 r6 s6 B6 _) rfl ?_
  exact ⟨p6, q6, A6, r6, s6, B6, rfl, HR6.out.onlyN (HV.out _ HE6.out).noR (putV_only _ _ _ _ _ _ _ _ _), HS6.out.onlyN (HV.out _ HE6.out).noR (putV_only _ _ _ _ _ _ _ _ _), (putV_only _ _ _ _ _ _ _ _ _).ext (HE0.out.trans HE6.out) (by omega)⟩
end Go.Proofs.YtpgnlpjjpgdoiaaDoor
/- surd: mul. -/
namespace Go.Proofs.YtpgnlpjjpgdoiaaDoor
open Go Go.RowKit SurdM
set_option linter.unusedVariables false
set_option linter.unusedSimpArgs false
theorem BoxR.onlyR {w w' : World} {g k : Nat} {p q : Int} {A : Option Addr} (h : BoxR w g p q A) (ho : Only k w w') (hn : g ≠ k) : BoxR w' g p q A := ho.obj h hn
set_option maxRecDepth 100000 in
set_option maxHeartbeats 400000 in
theorem mul_callsV {x1 y1 x2 y2 : Rat} {d1 d2 : Int} {b c : Nat} {p1 q1 : Int} {A1 : Option Addr} {r1 s1 : Int} {B1 : Option Addr} {p2 q2 : Int} {A2 : Option Addr} {r2 s2 : Int} {B2 : Option Addr} {w : World} (hx1 : RA b w x1 (.agg #[.int .i64 p1, .int .i64 q1, .pointer A1])) (hy1 : RA b w y1 (.agg #[.int .i64 r1, .int .i64 s1, .pointer B1])) (hx2 : RA c w x2 (.agg #[.int .i64 p2, .int .i64 q2, .pointer A2])) (hy2 : RA c w y2 (.agg #[.int .i64 r2, .int .i64 s2, .pointer B2])) (hb : b ≤ 10000000000) (hc : c ≤ 10000000000) (hd1 : 0 ≤ d1 ∧ d1 ≤ 1000000) (hd2 : 0 ≤ d2 ∧ d2 ≤ 1000000) :
    Calls Tryd.prog 18 #[.agg #[.int .i64 p1, .int .i64 q1, .pointer A1, .int .i64 r1, .int .i64 s1, .pointer B1, .int .i64 d1], .agg #[.int .i64 p2, .int .i64 q2, .pointer A2, .int .i64 r2, .int .i64 s2, .pointer B2, .int .i64 d2]] w (VPost (2 * (b + c) + 32) w (mulV ⟨x1, y1, d1⟩ ⟨x2, y2, d2⟩)) := by
  have htd : 0 ≤ tog ⟨x1, y1, d1⟩ ⟨x2, y2, d2⟩ ∧ tog ⟨x1, y1, d1⟩ ⟨x2, y2, d2⟩ ≤ 1000000 := by unfold tog; simp only []; split <;> assumption
  have HM1 := Lib.hid (fun W (he : Ext w W) => mulK (hx1.ext he) (hx2.ext he) (by omega) (by omega))
  have HM2 := Lib.hid (fun W (he : Ext w W) => mulK (hy1.ext he) (hy2.ext he) (by omega) (by omega))
  have HM3 := Lib.hid (fun W (he : Ext w W) => mulK (hx1.ext he) (hy2.ext he) (by omega) (by omega))
  have HM4 := Lib.hid (fun W (he : Ext w W) => mulK (hy1.ext he) (hx2.ext he) (by omega) (by omega))
  obtain ⟨w2, hw2⟩ : ∃ w2, w2 = (((w.alloc (.cells #[.int .i64 p1, .int .i64 q1, .pointer A1, .int .i64 r1, .int .i64 s1, .pointer B1, .int .i64 d1] 45)).alloc (.cells #[.int .i64 p2, .int .i64 q2, .pointer A2, .int .i64 r2, .int .i64 s2, .pointer B2, .int .i64 d2] 45)).alloc (.cells #[.int .i64 0, .int .i64 0, .pointer none, .int .i64 0, .int .i64 0, .pointer none, .int .i64 0] 45)) := ⟨_, rfl⟩
  have HE0 : Hid (Ext w w2) := Lib.hid (by rw [hw2]; exact Ext.three _ _ _ _)
  have HC1 : Hid (∀ W, Ext w2 W → BoxV W w.heap.size p1 q1 A1 r1 s1 B1 d1) := Lib.hid (fun W he => BoxV.ext (by rw [hw2]; exact ((boxV_new w p1 q1 A1 r1 s1 B1 d1).ext (Ext.two _ _ _))) he)
  have HC2 : Hid (∀ W, Ext w2 W → BoxV W (w.heap.size + 1) p2 q2 A2 r2 s2 B2 d2) := Lib.hid (fun W he => BoxV.ext (by rw [hw2]; exact BoxV.ext (heap_alloc2_new w _ _) (Ext.one _ _)) he)
  have HV : Hid (∀ W, Ext w2 W → BoxV W (w.heap.size + 1 + 1) 0 0 none 0 0 none 0) := Lib.hid (fun W he => BoxV.ext (by rw [hw2]; exact heap_alloc3_new w _ _ _) he)
  have HTG := Lib.hid (fun W => together_calls (d1 := d1) (d2 := d2) (p1 := p1) (q1 := q1) (A1 := A1) (r1 := r1) (s1 := s1) (B1 := B1) (p2 := p2) (q2 := q2) (A2 := A2) (r2 := r2) (s2 := s2) (B2 := B2) (w := W) x1 y1 x2 y2)
  have HW2 := Lib.hid hw2
  have HBC : Hid (b ≤ 10000000000 ∧ c ≤ 10000000000) := Lib.hid ⟨hb, hc⟩
  unfold mulV
  simp only []
  generalize tog ⟨x1, y1, d1⟩ ⟨x2, y2, d2⟩ = td at *
  have HI := Lib.hid (fun W => intK td W (by omega) (by omega))
  obtain ⟨j0, j1, j2, j3, j4, j5, j6⟩ := (HC1.out _ (Ext.refl _)).cells
  obtain ⟨k0, k1, k2, k3, k4, k5, k6⟩ := (HC2.out _ (Ext.refl _)).cells
  clear hx1 hy1 hx2 hy2 hb hc hw2 hd1 hd2 htd
  go_enter Tryd.func18, Tryd.ntmps18
  go_wp2_with fail
  rw [← HW2.out]
  go_wp2_with (first
    | (go_at_call 37; refine (HTG.out _).mono ?_; rintro e w3 ⟨rfl, he⟩; have HE3 : Hid (Ext w2 w3) := Lib.hid ((Ext.refl _).trans he); have HX3 := Lib.hid he; clear he; clear HTG j0 j1 j2 j3 j4 j5 j6 k0 k1 k2 k3 k4 k5 k6)
    | (go_at_call 33; refine (HI.out _).mono ?_; rintro e w4 ⟨p4, q4, A4, rfl, hr, he⟩; have HR4 := Lib.hid hr; have HE4 : Hid (Ext w2 w4) := Lib.hid ((HE3.out).trans he); have HX4 := Lib.hid he; clear hr he; clear HI))
  obtain ⟨w5, hw5⟩ : ∃ w5, w5 = w4.alloc (.cells #[.int .i64 p4, .int .i64 q4, .pointer A4] 43) := ⟨_, rfl⟩
  obtain ⟨g5, hg5⟩ : ∃ g5, g5 = w4.heap.size := ⟨_, rfl⟩
  have HD0 : Hid (Ext w w5) := Lib.hid (by rw [hw5]; exact (HE0.out.trans HE4.out).alloc _)
  have HD1 : Hid (∀ W, Ext w5 W → BoxV W w.heap.size p1 q1 A1 r1 s1 B1 d1) := Lib.hid (fun W he => HC1.out _ ((HE4.out.alloc _).trans (by rw [← hw5]; exact he)))
  have HD2 : Hid (∀ W, Ext w5 W → BoxV W (w.heap.size + 1) p2 q2 A2 r2 s2 B2 d2) := Lib.hid (fun W he => HC2.out _ ((HE4.out.alloc _).trans (by rw [← hw5]; exact he)))
  have HDV : Hid (∀ W, Ext w5 W → BoxV W (w.heap.size + 1 + 1) 0 0 none 0 0 none 0) := Lib.hid (fun W he => HV.out _ ((HE4.out.alloc _).trans (by rw [← hw5]; exact he)))
  have HD3 : Hid (∀ W, Ext w5 W → BoxR W g5 p4 q4 A4) := Lib.hid (fun W he => BoxR.ext (by rw [hw5, hg5]; exact BoxR.new w4 p4 q4 A4) he)
  have HR4' : Hid (RA 31 w5 (td : Rat) (.agg #[.int .i64 p4, .int .i64 q4, .pointer A4])) := Lib.hid (by rw [hw5]; exact HR4.out.ext (Ext.one _ _))
  have HG5 : Hid (w.heap.size + 1 + 1 + 1 ≤ g5) := Lib.hid (by
    have h1 := (HE3.out.trans HX4.out).le
    have h2 : w2.heap.size = w.heap.size + 1 + 1 + 1 := by rw [HW2.out]; simp
    omega)
  rw [← hw5, ← hg5]
  clear hw5 hg5 HE3 HE4 HX3 HX4 HR4 HC1 HC2 HV HE0
  go_region_held3 (fun W => (W.cell? ⟨w.heap.size, 0, none⟩ = some (.int .i64 p1) ∧ W.cell? ⟨w.heap.size, 1, none⟩ = some (.int .i64 q1) ∧ W.cell? ⟨w.heap.size, 2, none⟩ = some (.pointer A1) ∧ W.cell? ⟨w.heap.size, 3, none⟩ = some (.int .i64 r1) ∧ W.cell? ⟨w.heap.size, 4, none⟩ = some (.int .i64 s1) ∧ W.cell? ⟨w.heap.size, 5, none⟩ = some (.pointer B1) ∧ W.cell? ⟨w.heap.size, 6, none⟩ = some (.int .i64 d1)) ∧ (W.cell? ⟨(w.heap.size + 1), 0, none⟩ = some (.int .i64 p2) ∧ W.cell? ⟨(w.heap.size + 1), 1, none⟩ = some (.int .i64 q2) ∧ W.cell? ⟨(w.heap.size + 1), 2, none⟩ = some (.pointer A2) ∧ W.cell? ⟨(w.heap.size + 1), 3, none⟩ = some (.int .i64 r2) ∧ W.cell? ⟨(w.heap.size + 1), 4, none⟩ = some (.int .i64 s2) ∧ W.cell? ⟨(w.heap.size + 1), 5, none⟩ = some (.pointer B2) ∧ W.cell? ⟨(w.heap.size + 1), 6, none⟩ = some (.int .i64 d2)) ∧ (W.cell? ⟨g5, 0, none⟩ = some (.int .i64 p4) ∧ W.cell? ⟨g5, 1, none⟩ = some (.int .i64 q4) ∧ W.cell? ⟨g5, 2, none⟩ = some (.pointer A4)))
    (first
      | with_reducible exact ⟨(HD1.out _ HE13.out).cells, (HD2.out _ HE13.out).cells, (HD3.out _ HE13.out).cells⟩
      | with_reducible exact ⟨(HD1.out _ HE12.out).cells, (HD2.out _ HE12.out).cells, (HD3.out _ HE12.out).cells⟩
      | with_reducible exact ⟨(HD1.out _ HE11.out).cells, (HD2.out _ HE11.out).cells, (HD3.out _ HE11.out).cells⟩
      | with_reducible exact ⟨(HD1.out _ HE10.out).cells, (HD2.out _ HE10.out).cells, (HD3.out _ HE10.out).cells⟩
      | with_reducible exact ⟨(HD1.out _ HE9.out).cells, (HD2.out _ HE9.out).cells, (HD3.out _ HE9.out).cells⟩
      | with_reducible exact ⟨(HD1.out _ HE8.out).cells, (HD2.out _ HE8.out).cells, (HD3.out _ HE8.out).cells⟩
      | with_reducible exact ⟨(HD1.out _ HE7.out).cells, (HD2.out _ HE7.out).cells, (HD3.out _ HE7.out).cells⟩
      | with_reducible exact ⟨(HD1.out _ HE6.out).cells, (HD2.out _ HE6.out).cells, (HD3.out _ HE6.out).cells⟩
      | with_reducible exact ⟨(HD1.out _ (Ext.refl _)).cells, (HD2.out _ (Ext.refl _)).cells, (HD3.out _ (Ext.refl _)).cells⟩
      | with_reducible exact ⟨(HD1.out _ (Ext.refl _).drew).cells, (HD2.out _ (Ext.refl _).drew).cells, (HD3.out _ (Ext.refl _).drew).cells⟩
      | exact ⟨((HD1.out _ HE13.out).only (putV_only w13 (w.heap.size + 1 + 1) p13 q13 A13 r13 s13 B13 _) (by omega)).cells, ((HD2.out _ HE13.out).only (putV_only w13 (w.heap.size + 1 + 1) p13 q13 A13 r13 s13 B13 _) (by omega)).cells, (BoxR.onlyR (HD3.out _ HE13.out) (putV_only w13 (w.heap.size + 1 + 1) p13 q13 A13 r13 s13 B13 _) (by have := HG5.out; omega)).cells⟩)
    (first
      | (go_at_call 25; refine (HM1.out _ (HD0.out.trans (Ext.refl _).drew)).mono ?_; rintro e w6 ⟨p6, q6, A6, rfl, hr, he⟩; have HR6 := Lib.hid hr; have HE6 : Hid (Ext w5 w6) := Lib.hid (((Ext.refl w5).drew).trans he); have HX6 := Lib.hid he; clear hr he; clear HM1)
      | (go_at_call 25; refine (HM2.out _ (HD0.out.trans HE6.out)).mono ?_; rintro e w7 ⟨p7, q7, A7, rfl, hr, he⟩; have HR7 := Lib.hid hr; have HE7 : Hid (Ext w5 w7) := Lib.hid ((HE6.out).trans he); have HX7 := Lib.hid he; clear hr he; clear HM2)
      | (go_at_call 25; refine (mulK HR7.out (HR4'.out.ext HE7.out) (by have := HBC.out; omega) (by omega)).mono ?_; rintro e w8 ⟨p8, q8, A8, rfl, hr, he⟩; have HR8 := Lib.hid hr; have HE8 : Hid (Ext w5 w8) := Lib.hid ((HE7.out).trans he); have HX8 := Lib.hid he; clear hr he; clear HR4')
      | (go_at_call 34; refine (addK (HR6.out.ext (HX7.out.trans HX8.out)) HR8.out (by have := HBC.out; omega) (by have := HBC.out; omega)).mono ?_; rintro e w9 ⟨p9, q9, A9, rfl, hr, he⟩; have HR9 := Lib.hid hr; have HE9 : Hid (Ext w5 w9) := Lib.hid ((HE8.out).trans he); have HX9 := Lib.hid he; clear hr he; clear HR6)
      | (go_at_call 25; refine (HM3.out _ (HD0.out.trans HE9.out)).mono ?_; rintro e w10 ⟨p10, q10, A10, rfl, hr, he⟩; have HR10 := Lib.hid hr; have HE10 : Hid (Ext w5 w10) := Lib.hid ((HE9.out).trans he); have HX10 := Lib.hid he; clear hr he; clear HM3)
      | (go_at_call 25; refine (HM4.out _ (HD0.out.trans HE10.out)).mono ?_; rintro e w11 ⟨p11, q11, A11, rfl, hr, he⟩; have HR11 := Lib.hid hr; have HE11 : Hid (Ext w5 w11) := Lib.hid ((HE10.out).trans he); have HX11 := Lib.hid he; clear hr he; clear HM4)
      | (go_at_call 34; refine (addK (HR10.out.ext HX11.out) HR11.out (by have := HBC.out; omega) (by have := HBC.out; omega)).mono ?_; rintro e w12 ⟨p12, q12, A12, rfl, hr, he⟩; have HR12 := Lib.hid hr; have HE12 : Hid (Ext w5 w12) := Lib.hid ((HE11.out).trans he); have HX12 := Lib.hid he; clear hr he; clear HR10)
      | (go_at_call 35; refine (normal_calls ((HR9.out.ext (HX10.out.trans (HX11.out.trans HX12.out))).mono (c := 2 * (b + c) + 32) (by omega)) (HR12.out.mono (by omega))).mono ?_; rintro e w13 ⟨p13, q13, A13, r13, s13, B13, rfl, hr, hs, he⟩; have HR13 := Lib.hid hr; have HS13 := Lib.hid hs; have HE13 : Hid (Ext w5 w13) := Lib.hid ((HE12.out).trans he); have HX13 := Lib.hid he; clear hr hs he; obtain ⟨j0, j1, j2, j3, j4, j5, j6⟩ := (HDV.out _ HE13.out).cells; obtain ⟨f0, f1, f2, f3, f4, f5, f6⟩ := (HDV.out _ HE13.out).frozen))
  go_wp2
  refine ret_val rfl (w.heap.size + 1 + 1) _ _ _ _ _ _ _ rfl (putV_row (HDV.out _ HE13.out) p13 q13 A13 r13 s13 B13 _) rfl ?_
  exact ⟨p13, q13, A13, r13, s13, B13, rfl, HR13.out.onlyN (HDV.out _ HE13.out).noR (putV_only _ _ _ _ _ _ _ _ _), HS13.out.onlyN (HDV.out _ HE13.out).noR (putV_only _ _ _ _ _ _ _ _ _), (putV_only _ _ _ _ _ _ _ _ _).ext (HD0.out.trans HE13.out) (by omega)⟩
end Go.Proofs.YtpgnlpjjpgdoiaaDoor
