/- Merged by program: Quot, RatD, RatE, RatF, RatG, RatH, Plain, Dgts, Digits, TextP, Build, Byw. -/
import Derived.Deep.CutRange
import Derived.Lib.ItoaNum
import Derived.Lib.TrimByte
import Derived.Test.YtpgnlpjjpgdoiaaDoorShelf
import Derived.Test.YtpgnlpjjpgdoiaaDoorFb
/- quotient. -/
namespace Go.Proofs.YtpgnlpjjpgdoiaaDoor
open Go Go.RowKit
set_option linter.unusedVariables false
set_option linter.unusedSimpArgs false
set_option maxRecDepth 100000 in
set_option maxHeartbeats 2000000 in
theorem quotient_calls (neg : Bool) (x y : Nat) (w : World) (hneg : neg = true → x ≠ 0) (hx : x < 9223372036854775808) (hy0 : y ≠ 0) (hy : y < 9223372036854775808) :
    Calls Tryd.prog 43 #[.int .i64 (sgn neg x), .int .i64 (y : Int)] w fun e w' => ∃ r, e = .returned r ∧ RatAt w' (mkRat (sgn neg x) y) r ∧ Ext w w' := by
  have HX : Hid (IsR (mkRat (sgn neg x) y) neg (x / Nat.gcd x y) (y / Nat.gcd x y)) := Lib.hid (isR_mk hy0)
  obtain ⟨g0, hg0⟩ : ∃ g0, g0 = Nat.gcd x y := ⟨_, rfl⟩
  have hgp : g0 ≠ 0 := by rw [hg0]; exact Nat.pos_iff_ne_zero.mp (Nat.gcd_pos_of_pos_right _ (by omega))
  have HG : Hid (Nat.gcd x y = g0) := Lib.hid hg0.symm
  rw [← hg0] at HX
  have HXW : Hid (x < W64) := Lib.hid (by unfold W64; omega)
  have HYW : Hid (y < W64) := Lib.hid (by unfold W64; omega)
  obtain ⟨xq, hxq⟩ : ∃ xq, xq = x / g0 := ⟨_, rfl⟩
  obtain ⟨yq, hyq⟩ : ∃ yq, yq = y / g0 := ⟨_, rfl⟩
  have u1 : ((x : Nat) : Int).tdiv ((g0 : Nat) : Int) = ((xq : Nat) : Int) := by rw [hxq]; exact (Int.ofNat_tdiv x g0).symm
  have u2 : ((y : Nat) : Int).tdiv ((g0 : Nat) : Int) = ((yq : Nat) : Int) := by rw [hyq]; exact (Int.ofNat_tdiv y g0).symm
  have hxl : xq ≤ x := by rw [hxq]; exact Nat.div_le_self _ _
  have hyl : yq ≤ y := by rw [hyq]; exact Nat.div_le_self _ _
  have hx0 : x ≠ 0 → xq ≠ 0 := fun h e => by
    rw [hxq] at e
    have := Nat.gcd_dvd_left x y
    rw [← hg0] at this
    have h2 := Nat.div_mul_cancel this
    rw [e] at h2; omega
  rw [← hxq, ← hyq] at HX
  have u3 : IntKind.u64.wrap ((xq : Nat) : Int) = ((xq : Nat) : Int) := by simp only [IntKind.wrap_u64]; omega
  have u4 : IntKind.u64.wrap ((yq : Nat) : Int) = ((yq : Nat) : Int) := by simp only [IntKind.wrap_u64]; omega
  have u5 : ((g0 : Nat) : Int) ≠ 0 := by omega
  have u6 : (((g0 : Nat) : Int) == 0) = false := by rw [beq_eq_false_iff_ne]; omega
  have HM1 := Lib.hid (fun W => magnitude_calls (sgn neg x) W (by unfold sgn; split <;> omega) (by unfold sgn; split <;> omega))
  have HM2 := Lib.hid (fun W => magnitude_calls (y : Int) W (by omega) (by omega))
  have ha : (sgn neg x).natAbs = x := by unfold sgn; split <;> omega
  rw [ha] at HM1
  rw [Int.natAbs_natCast] at HM2
  have hng : neg = decide (sgn neg x < 0) := by
    unfold sgn
    cases neg
    · simp
    · have := hneg rfl; simp; omega
  have v2 : decide (((y : Nat) : Int) < 0) = false := decide_eq_false (by omega)
  obtain ⟨n, hn⟩ : ∃ n, n = sgn neg x := ⟨_, rfl⟩
  have v1 : decide (n < 0) = neg := by rw [hn]; exact hng.symm
  generalize mkRat (sgn neg x) y = z at *
  rw [← hn] at HM1 ⊢
  have HXL := Lib.hid hxl
  have HYL := Lib.hid hyl
  have HX0 : Hid (neg = true → xq ≠ 0) := Lib.hid (fun h => hx0 (hneg h))
  have HX00 : Hid ((2147483648 ≤ xq ∨ 2147483648 ≤ yq) → xq ≠ 0) := Lib.hid (fun h e => by
    rcases h with h | h
    · omega
    · by_cases hx00 : x = 0
      · rw [hx00, Nat.gcd_zero_left] at hg0
        rw [hg0, Nat.div_self (by omega)] at hyq
        omega
      · exact hx0 hx00 e)
  have HB := Lib.hid (⟨hx, hy⟩ : x < 9223372036854775808 ∧ y < 9223372036854775808)
  clear hneg hx0 hng hn ha hxq hyq hg0 hgp hxl hyl hx hy hy0
  by_cases hs : xq < 2147483648 ∧ yq < 2147483648
  · obtain ⟨hs1, hs2⟩ := hs
    have d1 : decide (((xq : Nat) : Int) < 2147483648) = true := decide_eq_true (by omega)
    have d2 : decide (((yq : Nat) : Int) < 2147483648) = true := decide_eq_true (by omega)
    have q1 : IntKind.i64.wrap ((xq : Nat) : Int) = ((xq : Nat) : Int) := by simp only [IntKind.wrap_i64]; omega
    have q2 : IntKind.i64.wrap ((yq : Nat) : Int) = ((yq : Nat) : Int) := by simp only [IntKind.wrap_i64]; omega
    have q3 : IntKind.i64.wrap (-((xq : Nat) : Int)) = -((xq : Nat) : Int) := by simp only [IntKind.wrap_i64]; omega
    have HSS := Lib.hid (⟨hs1, hs2⟩ : xq < 2147483648 ∧ yq < 2147483648)
    have HF := Lib.hid (And.intro d1 (And.intro d2 (And.intro q1 (And.intro q2 q3))))
    clear hs1 hs2 d1 d2 q1 q2 q3
    cases neg
    · go_enter Tryd.func43, Tryd.ntmps43
      go_wp2_with (first
        | (go_at_call 54; refine (HM1.out _).mono ?_; clear HM1; rintro e w3 ⟨rfl, rfl⟩)
        | (go_at_call 54; refine (HM2.out _).mono ?_; clear HM2; rintro e w4 ⟨rfl, rfl⟩))
      obtain ⟨w1, hw1⟩ : ∃ w1, w1 = w.alloc (.cells #[.int .i64 0, .int .i64 0, .pointer none] 43) := ⟨_, rfl⟩
      obtain ⟨gr, hgr⟩ : ∃ gr, gr = w.heap.size := ⟨_, rfl⟩
      have HE : Hid (Ext w w1) := Lib.hid (by rw [hw1]; exact (Ext.refl _).alloc _)
      have HV : Hid (VarR w1 gr) := Lib.hid (by rw [hw1, hgr]; exact VarR.new w)
      have HGR := Lib.hid hgr
      rw [← hw1, ← hgr]
      clear hw1 hgr
      go_loopg [8, 9] y (fun g p q wr => ∃ (s t : Nat), g = t ∧ p = .int .u64 (s : Int) ∧ q = .int .u64 (t : Int) ∧ Hid (s < W64) ∧ Hid (t < W64) ∧ Hid (Nat.gcd s t = g0) ∧ Hid (Ext w1 wr))
      case atStart => exact ⟨x, y, rfl, rfl, rfl, HXW, HYW, HG, Lib.hid (Ext.refl _)⟩
      case round =>
        obtain ⟨s, t, hgk, rfl, rfl, HS, HT, HGG, HEE⟩ := hrel
        have HGK := Lib.hid hgk
        clear hgk
        by_cases ht : t = 0
        · subst ht
          have hsg : s = g0 := by rw [← HGG.out, Nat.gcd_zero_right]
          rw [hsg]
          clear hsg HGG HS HT HGK
          go_wp2
          go_quiet (fail)
          have HE5 := Lib.hid (HEE.out.drewN nq)
          generalize wr.drewN nq = w5 at *
          obtain ⟨d1, d2, q1, q2, q3⟩ := HF.out
          have HV6 : Hid (VarR (w5.alloc (.cells #[.int .i64 ((xq : Nat) : Int), .int .i64 (yq : Int), .pointer none] 43)) gr) := Lib.hid (HV.out.ext (HE5.out.alloc _))
          obtain ⟨k0, k1, k2, f0, f1, f2⟩ := HV6.out.cells
          clear u1 u2 u3 u4 u5 u6
          go_wp2
          refine ret_rat rfl gr _ _ _ rfl (putR_row HV6.out ((xq : Nat) : Int) (yq : Int) none) rfl ?_
          exact putR_rat HV6.out (small_fin (neg := false) HX.out HSS.out) (HE.out.trans (HE5.out.alloc _)) (by rw [HGR.out]; exact Nat.le_refl _)
        · have t1 : ((t : Nat) : Int) ≠ 0 := by omega
          have t2 : (((t : Nat) : Int) == 0) = false := by rw [beq_eq_false_iff_ne]; omega
          obtain ⟨r, hr⟩ : ∃ r, r = s % t := ⟨_, rfl⟩
          have q1 : ((s : Nat) : Int).tmod ((t : Nat) : Int) = ((r : Nat) : Int) := by rw [hr]; exact (Int.ofNat_tmod s t).symm
          have hrt : r < t := by rw [hr]; exact Nat.mod_lt _ (by omega)
          have q2 : IntKind.u64.wrap ((r : Nat) : Int) = ((r : Nat) : Int) := wrap_nat (Nat.lt_trans hrt HT.out)
          have HR := Lib.hid hr
          have HRT := Lib.hid hrt
          clear hr hrt
          go_wp2
          go_quiet (fail)
          go_wp2
          go_roundg r
          case measure => rw [HGK.out]; exact HRT.out
          case rel => exact ⟨t, r, rfl, rfl, rfl, HT, Lib.hid (Nat.lt_trans HRT.out HT.out), Lib.hid (by rw [← HGG.out, HR.out, Nat.gcd_comm t, ← Nat.gcd_rec, Nat.gcd_comm]), Lib.hid (HEE.out.drewN _)⟩
    · go_enter Tryd.func43, Tryd.ntmps43
      go_wp2_with (first
        | (go_at_call 54; refine (HM1.out _).mono ?_; clear HM1; rintro e w3 ⟨rfl, rfl⟩)
        | (go_at_call 54; refine (HM2.out _).mono ?_; clear HM2; rintro e w4 ⟨rfl, rfl⟩))
      obtain ⟨w1, hw1⟩ : ∃ w1, w1 = w.alloc (.cells #[.int .i64 0, .int .i64 0, .pointer none] 43) := ⟨_, rfl⟩
      obtain ⟨gr, hgr⟩ : ∃ gr, gr = w.heap.size := ⟨_, rfl⟩
      have HE : Hid (Ext w w1) := Lib.hid (by rw [hw1]; exact (Ext.refl _).alloc _)
      have HV : Hid (VarR w1 gr) := Lib.hid (by rw [hw1, hgr]; exact VarR.new w)
      have HGR := Lib.hid hgr
      rw [← hw1, ← hgr]
      clear hw1 hgr
      go_loopg [8, 9] y (fun g p q wr => ∃ (s t : Nat), g = t ∧ p = .int .u64 (s : Int) ∧ q = .int .u64 (t : Int) ∧ Hid (s < W64) ∧ Hid (t < W64) ∧ Hid (Nat.gcd s t = g0) ∧ Hid (Ext w1 wr))
      case atStart => exact ⟨x, y, rfl, rfl, rfl, HXW, HYW, HG, Lib.hid (Ext.refl _)⟩
      case round =>
        obtain ⟨s, t, hgk, rfl, rfl, HS, HT, HGG, HEE⟩ := hrel
        have HGK := Lib.hid hgk
        clear hgk
        by_cases ht : t = 0
        · subst ht
          have hsg : s = g0 := by rw [← HGG.out, Nat.gcd_zero_right]
          rw [hsg]
          clear hsg HGG HS HT HGK
          go_wp2
          go_quiet (fail)
          have HE5 := Lib.hid (HEE.out.drewN nq)
          generalize wr.drewN nq = w5 at *
          obtain ⟨d1, d2, q1, q2, q3⟩ := HF.out
          have HV6 : Hid (VarR (w5.alloc (.cells #[.int .i64 (-((xq : Nat) : Int)), .int .i64 (yq : Int), .pointer none] 43)) gr) := Lib.hid (HV.out.ext (HE5.out.alloc _))
          obtain ⟨k0, k1, k2, f0, f1, f2⟩ := HV6.out.cells
          clear u1 u2 u3 u4 u5 u6
          go_wp2
          refine ret_rat rfl gr _ _ _ rfl (putR_row HV6.out (-((xq : Nat) : Int)) (yq : Int) none) rfl ?_
          exact putR_rat HV6.out (small_fin (neg := true) HX.out HSS.out) (HE.out.trans (HE5.out.alloc _)) (by rw [HGR.out]; exact Nat.le_refl _)
        · have t1 : ((t : Nat) : Int) ≠ 0 := by omega
          have t2 : (((t : Nat) : Int) == 0) = false := by rw [beq_eq_false_iff_ne]; omega
          obtain ⟨r, hr⟩ : ∃ r, r = s % t := ⟨_, rfl⟩
          have q1 : ((s : Nat) : Int).tmod ((t : Nat) : Int) = ((r : Nat) : Int) := by rw [hr]; exact (Int.ofNat_tmod s t).symm
          have hrt : r < t := by rw [hr]; exact Nat.mod_lt _ (by omega)
          have q2 : IntKind.u64.wrap ((r : Nat) : Int) = ((r : Nat) : Int) := wrap_nat (Nat.lt_trans hrt HT.out)
          have HR := Lib.hid hr
          have HRT := Lib.hid hrt
          clear hr hrt
          go_wp2
          go_quiet (fail)
          go_wp2
          go_roundg r
          case measure => rw [HGK.out]; exact HRT.out
          case rel => exact ⟨t, r, rfl, rfl, rfl, HT, Lib.hid (Nat.lt_trans HRT.out HT.out), Lib.hid (by rw [← HGG.out, HR.out, Nat.gcd_comm t, ← Nat.gcd_rec, Nat.gcd_comm]), Lib.hid (HEE.out.drewN _)⟩
  · by_cases h1 : xq < 2147483648
    · have d1 : decide (((xq : Nat) : Int) < 2147483648) = true := decide_eq_true (by omega)
      have d2 : decide (((yq : Nat) : Int) < 2147483648) = false := decide_eq_false (by omega)
      have HBG := Lib.hid (show 2147483648 ≤ xq ∨ 2147483648 ≤ yq by omega)
      have HD12 := Lib.hid (And.intro d1 d2)
      clear hs h1 d1 d2
      go_enter Tryd.func43, Tryd.ntmps43
      go_wp2_with (first
        | (go_at_call 54; refine (HM1.out _).mono ?_; clear HM1; rintro e w3 ⟨rfl, rfl⟩)
        | (go_at_call 54; refine (HM2.out _).mono ?_; clear HM2; rintro e w4 ⟨rfl, rfl⟩))
      obtain ⟨w1, hw1⟩ : ∃ w1, w1 = w.alloc (.cells #[.int .i64 0, .int .i64 0, .pointer none] 43) := ⟨_, rfl⟩
      obtain ⟨gr, hgr⟩ : ∃ gr, gr = w.heap.size := ⟨_, rfl⟩
      have HE : Hid (Ext w w1) := Lib.hid (by rw [hw1]; exact (Ext.refl _).alloc _)
      have HV : Hid (VarR w1 gr) := Lib.hid (by rw [hw1, hgr]; exact VarR.new w)
      have HGR := Lib.hid hgr
      rw [← hw1, ← hgr]
      clear hw1 hgr
      go_loopg [8, 9] y (fun g p q wr => ∃ (s t : Nat), g = t ∧ p = .int .u64 (s : Int) ∧ q = .int .u64 (t : Int) ∧ Hid (s < W64) ∧ Hid (t < W64) ∧ Hid (Nat.gcd s t = g0) ∧ Hid (Ext w1 wr))
      case atStart => exact ⟨x, y, rfl, rfl, rfl, HXW, HYW, HG, Lib.hid (Ext.refl _)⟩
      case round =>
        obtain ⟨s, t, hgk, rfl, rfl, HS, HT, HGG, HEE⟩ := hrel
        have HGK := Lib.hid hgk
        clear hgk
        by_cases ht : t = 0
        · subst ht
          have hsg : s = g0 := by rw [← HGG.out, Nat.gcd_zero_right]
          rw [hsg]
          clear hsg HGG HS HT HGK
          go_wp2
          go_quiet (fail)
          have HE5 := Lib.hid (HEE.out.drewN nq)
          generalize wr.drewN nq = w5 at *
          have HW1 := Lib.hid (fun W => word_calls xq W (Nat.lt_of_le_of_lt HXL.out HXW.out))
          have HW2 := Lib.hid (fun W => word_calls yq W (Nat.lt_of_le_of_lt HYL.out HYW.out))
          obtain ⟨dd1, dd2⟩ := HD12.out
          clear u1 u2 u3 u4 u5 u6
          go_upto_region 12 with (fail)
          clear dd1 dd2
          go_wp2_with (first
            | (go_at_call 53; refine (HW1.out _).mono ?_; clear HW1; rintro e w6 ⟨r1, rfl, hn1, he1⟩; have HN1 := Lib.hid hn1; obtain ⟨A1, c1, rfl, hc1, hr1⟩ := hn1; clear hc1 hr1)
            | (go_at_call 53; refine (HW2.out _).mono ?_; clear HW2; rintro e w7 ⟨r2, rfl, hn2, he2⟩; have HN2 := Lib.hid hn2; obtain ⟨A2, c2, rfl, hc2, hr2⟩ := hn2; clear hc2 hr2; have HV7 : Hid (VarR (w7.alloc (.cells #[.bool neg, .slice A1 (dg W64 xq).length c1, .slice A2 (dg W64 yq).length c2] 74)) gr) := Lib.hid (HV.out.ext (((HE5.out.trans he1).trans he2).alloc _)); obtain ⟨k0, k1, k2, f0, f1, f2⟩ := HV7.out.cells))
          refine ret_rat rfl gr _ _ _ rfl (putR_row HV7.out 0 0 (some ⟨w7.heap.size, 0, none⟩)) rfl ?_
          have hb : xq ≠ 0 := HX00.out HBG.out
          exact putR_rat HV7.out (big_fin HX.out (heap_alloc_new w7 _) ((HN1.out.ext he2).ext ((Ext.refl w7).alloc _)) (HN2.out.ext ((Ext.refl w7).alloc _)) hb HBG.out) (HE.out.trans (((HE5.out.trans he1).trans he2).alloc _)) (by rw [HGR.out]; exact Nat.le_refl _)
        · have t1 : ((t : Nat) : Int) ≠ 0 := by omega
          have t2 : (((t : Nat) : Int) == 0) = false := by rw [beq_eq_false_iff_ne]; omega
          obtain ⟨r, hr⟩ : ∃ r, r = s % t := ⟨_, rfl⟩
          have q1 : ((s : Nat) : Int).tmod ((t : Nat) : Int) = ((r : Nat) : Int) := by rw [hr]; exact (Int.ofNat_tmod s t).symm
          have hrt : r < t := by rw [hr]; exact Nat.mod_lt _ (by omega)
          have q2 : IntKind.u64.wrap ((r : Nat) : Int) = ((r : Nat) : Int) := wrap_nat (Nat.lt_trans hrt HT.out)
          have HR := Lib.hid hr
          have HRT := Lib.hid hrt
          clear hr hrt
          go_wp2
          go_quiet (fail)
          go_wp2
          go_roundg r
          case measure => rw [HGK.out]; exact HRT.out
          case rel => exact ⟨t, r, rfl, rfl, rfl, HT, Lib.hid (Nat.lt_trans HRT.out HT.out), Lib.hid (by rw [← HGG.out, HR.out, Nat.gcd_comm t, ← Nat.gcd_rec, Nat.gcd_comm]), Lib.hid (HEE.out.drewN _)⟩
    · have d1 : decide (((xq : Nat) : Int) < 2147483648) = false := decide_eq_false (by omega)
      have HBG := Lib.hid (show 2147483648 ≤ xq ∨ 2147483648 ≤ yq by omega)
      have HD12 := Lib.hid (And.intro d1 trivial)
      clear hs h1 d1
      go_enter Tryd.func43, Tryd.ntmps43
      go_wp2_with (first
        | (go_at_call 54; refine (HM1.out _).mono ?_; clear HM1; rintro e w3 ⟨rfl, rfl⟩)
        | (go_at_call 54; refine (HM2.out _).mono ?_; clear HM2; rintro e w4 ⟨rfl, rfl⟩))
      obtain ⟨w1, hw1⟩ : ∃ w1, w1 = w.alloc (.cells #[.int .i64 0, .int .i64 0, .pointer none] 43) := ⟨_, rfl⟩
      obtain ⟨gr, hgr⟩ : ∃ gr, gr = w.heap.size := ⟨_, rfl⟩
      have HE : Hid (Ext w w1) := Lib.hid (by rw [hw1]; exact (Ext.refl _).alloc _)
      have HV : Hid (VarR w1 gr) := Lib.hid (by rw [hw1, hgr]; exact VarR.new w)
      have HGR := Lib.hid hgr
      rw [← hw1, ← hgr]
      clear hw1 hgr
      go_loopg [8, 9] y (fun g p q wr => ∃ (s t : Nat), g = t ∧ p = .int .u64 (s : Int) ∧ q = .int .u64 (t : Int) ∧ Hid (s < W64) ∧ Hid (t < W64) ∧ Hid (Nat.gcd s t = g0) ∧ Hid (Ext w1 wr))
      case atStart => exact ⟨x, y, rfl, rfl, rfl, HXW, HYW, HG, Lib.hid (Ext.refl _)⟩
      case round =>
        obtain ⟨s, t, hgk, rfl, rfl, HS, HT, HGG, HEE⟩ := hrel
        have HGK := Lib.hid hgk
        clear hgk
        by_cases ht : t = 0
        · subst ht
          have hsg : s = g0 := by rw [← HGG.out, Nat.gcd_zero_right]
          rw [hsg]
          clear hsg HGG HS HT HGK
          go_wp2
          go_quiet (fail)
          have HE5 := Lib.hid (HEE.out.drewN nq)
          generalize wr.drewN nq = w5 at *
          have HW1 := Lib.hid (fun W => word_calls xq W (Nat.lt_of_le_of_lt HXL.out HXW.out))
          have HW2 := Lib.hid (fun W => word_calls yq W (Nat.lt_of_le_of_lt HYL.out HYW.out))
          have dd1 := HD12.out.1
          clear u1 u2 u3 u4 u5 u6
          go_upto_region 12 with (fail)
          clear dd1
          go_wp2_with (first
            | (go_at_call 53; refine (HW1.out _).mono ?_; clear HW1; rintro e w6 ⟨r1, rfl, hn1, he1⟩; have HN1 := Lib.hid hn1; obtain ⟨A1, c1, rfl, hc1, hr1⟩ := hn1; clear hc1 hr1)
            | (go_at_call 53; refine (HW2.out _).mono ?_; clear HW2; rintro e w7 ⟨r2, rfl, hn2, he2⟩; have HN2 := Lib.hid hn2; obtain ⟨A2, c2, rfl, hc2, hr2⟩ := hn2; clear hc2 hr2; have HV7 : Hid (VarR (w7.alloc (.cells #[.bool neg, .slice A1 (dg W64 xq).length c1, .slice A2 (dg W64 yq).length c2] 74)) gr) := Lib.hid (HV.out.ext (((HE5.out.trans he1).trans he2).alloc _)); obtain ⟨k0, k1, k2, f0, f1, f2⟩ := HV7.out.cells))
          refine ret_rat rfl gr _ _ _ rfl (putR_row HV7.out 0 0 (some ⟨w7.heap.size, 0, none⟩)) rfl ?_
          have hb : xq ≠ 0 := HX00.out HBG.out
          exact putR_rat HV7.out (big_fin HX.out (heap_alloc_new w7 _) ((HN1.out.ext he2).ext ((Ext.refl w7).alloc _)) (HN2.out.ext ((Ext.refl w7).alloc _)) hb HBG.out) (HE.out.trans (((HE5.out.trans he1).trans he2).alloc _)) (by rw [HGR.out]; exact Nat.le_refl _)
        · have t1 : ((t : Nat) : Int) ≠ 0 := by omega
          have t2 : (((t : Nat) : Int) == 0) = false := by rw [beq_eq_false_iff_ne]; omega
          obtain ⟨r, hr⟩ : ∃ r, r = s % t := ⟨_, rfl⟩
          have q1 : ((s : Nat) : Int).tmod ((t : Nat) : Int) = ((r : Nat) : Int) := by rw [hr]; exact (Int.ofNat_tmod s t).symm
          have hrt : r < t := by rw [hr]; exact Nat.mod_lt _ (by omega)
          have q2 : IntKind.u64.wrap ((r : Nat) : Int) = ((r : Nat) : Int) := wrap_nat (Nat.lt_trans hrt HT.out)
          have HR := Lib.hid hr
          have HRT := Lib.hid hrt
          clear hr hrt
          go_wp2
          go_quiet (fail)
          go_wp2
          go_roundg r
          case measure => rw [HGK.out]; exact HRT.out
          case rel => exact ⟨t, r, rfl, rfl, rfl, HT, Lib.hid (Nat.lt_trans HRT.out HT.out), Lib.hid (by rw [← HGG.out, HR.out, Nat.gcd_comm t, ← Nat.gcd_rec, Nat.gcd_comm]), Lib.hid (HEE.out.drewN _)⟩
end Go.Proofs.YtpgnlpjjpgdoiaaDoor
/- Mul: the product of two rational numbers. -/
namespace Go.Proofs.YtpgnlpjjpgdoiaaDoor
open Go Go.RowKit
set_option linter.unusedVariables false
set_option linter.unusedSimpArgs false
/-- A number's variable: its block. -/
def BoxR (w : World) (g : Nat) (p q : Int) (A : Option Addr) : Prop := w.heap[g]? = some (.cells #[.int .i64 p, .int .i64 q, .pointer A] 43 (0, 0))
theorem BoxR.cells {w : World} {g : Nat} {p q : Int} {A : Option Addr} (h : BoxR w g p q A) : w.cell? ⟨g, 0, none⟩ = some (.int .i64 p) ∧ w.cell? ⟨g, 1, none⟩ = some (.int .i64 q) ∧ w.cell? ⟨g, 2, none⟩ = some (.pointer A) := by
  refine ⟨?_, ?_, ?_⟩
  · rw [cell_of_row _ _ _ _ _ _ h]; rfl
  · rw [cell_of_row _ _ _ _ _ _ h]; rfl
  · rw [cell_of_row _ _ _ _ _ _ h]; rfl
theorem BoxR.ext {w w' : World} {g : Nat} {p q : Int} {A : Option Addr} (h : BoxR w g p q A) (he : Ext w w') : BoxR w' g p q A := he.blk h
theorem BoxR.new (w : World) (p q : Int) (A : Option Addr) : BoxR (w.alloc (.cells #[.int .i64 p, .int .i64 q, .pointer A] 43)) w.heap.size p q A := heap_alloc_new w _
theorem size_alloc (w : World) (o : Obj) : (w.alloc o).heap.size = w.heap.size + 1 := Array.size_push ..
theorem BoxR.new2 (w : World) (O : Obj) (p q : Int) (A : Option Addr) : BoxR ((w.alloc O).alloc (.cells #[.int .i64 p, .int .i64 q, .pointer A] 43)) (w.heap.size + 1) p q A := heap_alloc2_new w _ _
theorem VarR.new2 (w : World) (O : Obj) : VarR ((w.alloc O).alloc (.cells #[.int .i64 0, .int .i64 0, .pointer none] 43)) (w.heap.size + 1) := heap_alloc2_new w _ _
theorem VarR.new3 (w : World) (O O' : Obj) : VarR (((w.alloc O).alloc O').alloc (.cells #[.int .i64 0, .int .i64 0, .pointer none] 43)) (w.heap.size + 1 + 1) := by
  have h := VarR.new ((w.alloc O).alloc O')
  rw [size_alloc, size_alloc] at h
  exact h
theorem Ext.one (w : World) (O : Obj) : Ext w (w.alloc O) := (Ext.refl w).alloc O
theorem Ext.three (w : World) (O O' O'' : Obj) : Ext w (((w.alloc O).alloc O').alloc O'') := (((Ext.refl w).alloc O).alloc O').alloc O''
theorem RatAt.isSmall {w : World} {x : Rat} {p q : Int} (h : RatAt w x (.agg #[.int .i64 p, .int .i64 q, .pointer none])) : p = x.num ∧ SmallR x q := by
  generalize hv : Value.agg #[.int .i64 p, .int .i64 q, .pointer none] = v at h
  cases h with
  | small q' h =>
    injection hv with hv
    injection hv with hv
    simp at hv
    obtain ⟨h1, h2⟩ := hv
    subst h1; subst h2
    exact ⟨rfl, h⟩
  | big b o vn vd h0 h1 h2 hn hd hs h3 =>
    injection hv with hv
    injection hv with hv
    simp at hv
/-- How long a number is. -/
structure RL (k : Nat) (x : Rat) : Prop where
  num : (dg W64 x.num.natAbs).length ≤ k
  den : (dg W64 x.den).length ≤ k
theorem sgn_abs (n : Int) : sgn (decide (n < 0)) n.natAbs = n := by
  unfold sgn
  by_cases h : n < 0
  · rw [decide_eq_true h]; simp; omega
  · rw [decide_eq_false h]; simp; omega
theorem sgn_mul (a b : Int) : sgn (decide (a < 0) != decide (b < 0)) (a.natAbs * b.natAbs) = a * b := by
  have e1 := sgn_abs a
  have e2 := sgn_abs b
  generalize decide (a < 0) = s at *
  generalize decide (b < 0) = t at *
  generalize a.natAbs = m at *
  generalize b.natAbs = n at *
  subst e1 e2
  unfold sgn
  cases s <;> cases t <;> simp [Int.neg_mul, Int.mul_neg]
theorem mul_bnd {a b : Int} (ha : a.natAbs < 2147483648) (hb : b.natAbs < 2147483648) : (a * b).natAbs < 4611686018427387904 := by
  rw [Int.natAbs_mul]
  have h1 : a.natAbs * b.natAbs ≤ 2147483647 * 2147483647 := Nat.mul_le_mul (by omega) (by omega)
  omega
theorem prod_len {a b k l : Nat} (ha : (dg W64 a).length ≤ k) (hb : (dg W64 b).length ≤ l) : (dg W64 (a * b)).length ≤ k + l := by
  apply dg_length_le W64_two
  rw [Nat.pow_add]
  have h1 := Nat.lt_of_lt_of_le (lt_pow_dg W64_two a) (Nat.pow_le_pow_right W64_pos ha)
  have h2 := Nat.lt_of_lt_of_le (lt_pow_dg W64_two b) (Nat.pow_le_pow_right W64_pos hb)
  exact Nat.mul_lt_mul_of_lt_of_le h1 (Nat.le_of_lt h2) (Nat.pos_of_ne_zero (by have := Nat.pow_pos (n := l) W64_pos; omega))
set_option maxRecDepth 100000 in
theorem mul_small (x y : Rat) (p q : Int) (w : World) (hx : SmallR x p) (hy : SmallR y q) :
    Calls Tryd.prog 25 #[.agg #[.int .i64 x.num, .int .i64 p, .pointer none], .agg #[.int .i64 y.num, .int .i64 q, .pointer none]] w fun e w' => ∃ r, e = .returned r ∧ RatAt w' (x * y) r ∧ Ext w w' := by
  have HSX := Lib.hid (fun W => low_calls x p W hx)
  have HSY := Lib.hid (fun W => low_calls y q W hy)
  have hb := mul_bnd hx.num hy.num
  have hd : x.den * y.den ≤ 2147483647 * 2147483647 := Nat.mul_le_mul (by have := hx.den; omega) (by have := hy.den; omega)
  have hd0 : x.den * y.den ≠ 0 := Nat.mul_ne_zero x.den_nz y.den_nz
  have HQ := Lib.hid (fun W => quotient_calls (decide (x.num * y.num < 0)) (x.num * y.num).natAbs (x.den * y.den) W (fun h e => by rw [decide_eq_true_eq] at h; omega) (by omega) hd0 (by omega))
  rw [sgn_abs] at HQ
  have u1 : IntKind.i64.wrap (x.num * y.num) = x.num * y.num := by simp only [IntKind.wrap_i64]; omega
  have u2 : IntKind.i64.wrap ((x.den : Int) * (y.den : Int)) = (x.den : Int) * (y.den : Int) := by rw [← Int.natCast_mul]; simp only [IntKind.wrap_i64]; omega
  rw [Int.natCast_mul] at HQ
  rw [Rat.mul_def']
  generalize mkRat (x.num * y.num) (x.den * y.den) = z at *
  generalize x.num = a at *
  generalize y.num = b at *
  generalize ((x.den : Nat) : Int) = c at *
  generalize ((y.den : Nat) : Int) = d at *
  clear hx hy hb hd hd0
  go_enter Tryd.func25, Tryd.ntmps25
  go_wp2_with (first
    | (go_at_call 39; refine (HSX.out _).mono ?_; clear HSX; rintro e w2 ⟨rfl, he2⟩; have HE2 := Lib.hid he2; have HB2 : Hid (BoxR w2 (w.heap.size + 1) b q none) := Lib.hid ((BoxR.new2 w _ b q none).ext ((Ext.one _ _).trans HE2.out)); obtain ⟨k0, k1, k2⟩ := HB2.out.cells; clear he2)
    | (go_at_call 39; refine (HSY.out _).mono ?_; clear HSY; rintro e w3 ⟨rfl, he3⟩; have HE3 := Lib.hid (HE2.out.trans he3); clear he3 k0 k1 k2)
    | (go_at_call 43; refine (HQ.out _).mono ?_; clear HQ; rintro e w4 ⟨r4, rfl, hr4, he4⟩; obtain ⟨p4, q4, Ap, rfl⟩ := hr4.shape; have HR := Lib.hid hr4; have HE4 := Lib.hid (HE3.out.trans he4); have HV4 := Lib.hid ((VarR.new3 w _ _).ext HE4.out); clear hr4 he4; obtain ⟨k0, k1, k2, f0, f1, f2⟩ := HV4.out.cells))
  refine ret_rat rfl (w.heap.size + 1 + 1) _ _ _ rfl (putR_row HV4.out p4 q4 Ap) rfl ?_
  exact putR_rat HV4.out HR.out ((Ext.three w _ _ _).trans HE4.out) (by omega)
set_option maxRecDepth 100000 in
set_option maxHeartbeats 1000000 in
theorem mul_big (x y : Rat) (p1 q1 p2 q2 : Int) (A1 A2 : Option Addr) (w : World) (k : Nat) (hx : RatAt w x (.agg #[.int .i64 p1, .int .i64 q1, .pointer A1])) (hy : RatAt w y (.agg #[.int .i64 p2, .int .i64 q2, .pointer A2])) (hA : A1 ≠ none ∨ A2 ≠ none) (hk : k ≤ 1099511627776) (hlx : RL k x) (hly : RL k y) :
    Calls Tryd.prog 25 #[.agg #[.int .i64 p1, .int .i64 q1, .pointer A1], .agg #[.int .i64 p2, .int .i64 q2, .pointer A2]] w fun e w' => ∃ r, e = .returned r ∧ RatAt w' (x * y) r ∧ Ext w w' := by
  have HX := Lib.hid (fun W he => parts_calls _ x W (hx.ext he) : ∀ W, Ext w W → _)
  have HY := Lib.hid (fun W he => parts_calls _ y W (hy.ext he) : ∀ W, Ext w W → _)
  have hsg := sgn_mul x.num y.num
  unfold PartsPost at HX HY
  generalize decide (x.num < 0) = s1 at HX hsg
  generalize decide (y.num < 0) = s2 at HY hsg
  have a1 := hlx.num
  have a2 := hlx.den
  have a3 := hly.num
  have a4 := hly.den
  have HL1 : Hid ((dg W64 x.num.natAbs).length + (dg W64 y.num.natAbs).length ≤ 35184372088832) := Lib.hid (by omega)
  have HL2 : Hid ((dg W64 x.den).length + (dg W64 y.den).length ≤ 35184372088832) := Lib.hid (by omega)
  have HL3 : Hid ((dg W64 (x.num.natAbs * y.num.natAbs)).length < 17592186044416) := Lib.hid (by have := prod_len a1 a3; omega)
  have HL4 : Hid ((dg W64 (x.den * y.den)).length < 17592186044416) := Lib.hid (by have := prod_len a2 a4; omega)
  have HDN : Hid (x.den * y.den ≠ 0) := Lib.hid (Nat.mul_ne_zero x.den_nz y.den_nz)
  rw [Rat.mul_def', ← hsg]
  clear hx hy hlx hly a1 a2 a3 a4 hk hsg
  rcases A1 with _ | c1
  · rcases A2 with _ | c2
    · simp at hA
    · clear hA
      go_enter Tryd.func25, Tryd.ntmps25
      go_wp2_with (first
        | (go_at_call 44; refine (HX.out _ (Ext.three w _ _ _)).mono ?_; clear HX; rintro e w2 ⟨vn, vd, rfl, hn, hd, he2⟩; have HN := Lib.hid hn; have HD := Lib.hid hd; have HE2 := Lib.hid he2; have HB2 := Lib.hid ((BoxR.new2 w _ p2 q2 (some c2)).ext ((Ext.one _ _).trans HE2.out)); obtain ⟨k0, k1, k2⟩ := HB2.out.cells; clear he2 hn hd)
        | (go_at_call 44; refine (HY.out _ ((Ext.three w _ _ _).trans HE2.out)).mono ?_; clear HY; rintro e w3 ⟨vm, ve, rfl, hm, hf, he3⟩; have HM := Lib.hid hm; have HF := Lib.hid hf; have HE23 := Lib.hid he3; have HE3 := Lib.hid (HE2.out.trans he3); clear he3 hm hf k0 k1 k2)
        | (go_at_call 46; refine (product_calls _ _ x.num.natAbs y.num.natAbs _ (HN.out.ext HE23.out) HM.out HL1.out).mono ?_; clear HN HM; rintro e w4 ⟨r4, rfl, hr4, he4⟩; have HP := Lib.hid hr4; have HE4 := Lib.hid he4; clear hr4 he4)
        | (go_at_call 46; refine (product_calls _ _ x.den y.den _ (HD.out.ext (HE23.out.trans HE4.out)) (HF.out.ext HE4.out) HL2.out).mono ?_; clear HD HF; rintro e w5 ⟨r5, rfl, hr5, he5⟩; have HQ := Lib.hid hr5; have HE5 := Lib.hid he5; clear hr5 he5)
        | (go_at_call 45; go_loud (refine (reduce_calls _ _ (s1 != s2) _ _ _ HDN.out (HP.out.ext HE5.out) HQ.out HL3.out HL4.out).mono ?_); rintro e w6 ⟨r6, rfl, hr6, he6⟩; obtain ⟨p6, q6, Ap, rfl⟩ := hr6.shape; have HR := Lib.hid hr6; have HE6 := Lib.hid (((HE3.out.trans HE4.out).trans HE5.out).trans he6); have HV6 := Lib.hid ((VarR.new3 w _ _).ext HE6.out); clear hr6 he6; obtain ⟨k0, k1, k2, f0, f1, f2⟩ := HV6.out.cells))
      refine ret_rat rfl (w.heap.size + 1 + 1) _ _ _ rfl (putR_row HV6.out p6 q6 Ap) rfl ?_
      exact putR_rat HV6.out HR.out ((Ext.three w _ _ _).trans HE6.out) (by omega)
  · rcases A2 with _ | c2
    · clear hA
      go_enter Tryd.func25, Tryd.ntmps25
      go_wp2_with (first
        | (go_at_call 44; refine (HX.out _ (Ext.three w _ _ _)).mono ?_; clear HX; rintro e w2 ⟨vn, vd, rfl, hn, hd, he2⟩; have HN := Lib.hid hn; have HD := Lib.hid hd; have HE2 := Lib.hid he2; have HB2 := Lib.hid ((BoxR.new2 w _ p2 q2 none).ext ((Ext.one _ _).trans HE2.out)); obtain ⟨k0, k1, k2⟩ := HB2.out.cells; clear he2 hn hd)
        | (go_at_call 44; refine (HY.out _ ((Ext.three w _ _ _).trans HE2.out)).mono ?_; clear HY; rintro e w3 ⟨vm, ve, rfl, hm, hf, he3⟩; have HM := Lib.hid hm; have HF := Lib.hid hf; have HE23 := Lib.hid he3; have HE3 := Lib.hid (HE2.out.trans he3); clear he3 hm hf k0 k1 k2)
        | (go_at_call 46; refine (product_calls _ _ x.num.natAbs y.num.natAbs _ (HN.out.ext HE23.out) HM.out HL1.out).mono ?_; clear HN HM; rintro e w4 ⟨r4, rfl, hr4, he4⟩; have HP := Lib.hid hr4; have HE4 := Lib.hid he4; clear hr4 he4)
        | (go_at_call 46; refine (product_calls _ _ x.den y.den _ (HD.out.ext (HE23.out.trans HE4.out)) (HF.out.ext HE4.out) HL2.out).mono ?_; clear HD HF; rintro e w5 ⟨r5, rfl, hr5, he5⟩; have HQ := Lib.hid hr5; have HE5 := Lib.hid he5; clear hr5 he5)
        | (go_at_call 45; go_loud (refine (reduce_calls _ _ (s1 != s2) _ _ _ HDN.out (HP.out.ext HE5.out) HQ.out HL3.out HL4.out).mono ?_); rintro e w6 ⟨r6, rfl, hr6, he6⟩; obtain ⟨p6, q6, Ap, rfl⟩ := hr6.shape; have HR := Lib.hid hr6; have HE6 := Lib.hid (((HE3.out.trans HE4.out).trans HE5.out).trans he6); have HV6 := Lib.hid ((VarR.new3 w _ _).ext HE6.out); clear hr6 he6; obtain ⟨k0, k1, k2, f0, f1, f2⟩ := HV6.out.cells))
      refine ret_rat rfl (w.heap.size + 1 + 1) _ _ _ rfl (putR_row HV6.out p6 q6 Ap) rfl ?_
      exact putR_rat HV6.out HR.out ((Ext.three w _ _ _).trans HE6.out) (by omega)
    · clear hA
      go_enter Tryd.func25, Tryd.ntmps25
      go_wp2_with (first
        | (go_at_call 44; refine (HX.out _ (Ext.three w _ _ _)).mono ?_; clear HX; rintro e w2 ⟨vn, vd, rfl, hn, hd, he2⟩; have HN := Lib.hid hn; have HD := Lib.hid hd; have HE2 := Lib.hid he2; have HB2 := Lib.hid ((BoxR.new2 w _ p2 q2 (some c2)).ext ((Ext.one _ _).trans HE2.out)); obtain ⟨k0, k1, k2⟩ := HB2.out.cells; clear he2 hn hd)
        | (go_at_call 44; refine (HY.out _ ((Ext.three w _ _ _).trans HE2.out)).mono ?_; clear HY; rintro e w3 ⟨vm, ve, rfl, hm, hf, he3⟩; have HM := Lib.hid hm; have HF := Lib.hid hf; have HE23 := Lib.hid he3; have HE3 := Lib.hid (HE2.out.trans he3); clear he3 hm hf k0 k1 k2)
        | (go_at_call 46; refine (product_calls _ _ x.num.natAbs y.num.natAbs _ (HN.out.ext HE23.out) HM.out HL1.out).mono ?_; clear HN HM; rintro e w4 ⟨r4, rfl, hr4, he4⟩; have HP := Lib.hid hr4; have HE4 := Lib.hid he4; clear hr4 he4)
        | (go_at_call 46; refine (product_calls _ _ x.den y.den _ (HD.out.ext (HE23.out.trans HE4.out)) (HF.out.ext HE4.out) HL2.out).mono ?_; clear HD HF; rintro e w5 ⟨r5, rfl, hr5, he5⟩; have HQ := Lib.hid hr5; have HE5 := Lib.hid he5; clear hr5 he5)
        | (go_at_call 45; go_loud (refine (reduce_calls _ _ (s1 != s2) _ _ _ HDN.out (HP.out.ext HE5.out) HQ.out HL3.out HL4.out).mono ?_); rintro e w6 ⟨r6, rfl, hr6, he6⟩; obtain ⟨p6, q6, Ap, rfl⟩ := hr6.shape; have HR := Lib.hid hr6; have HE6 := Lib.hid (((HE3.out.trans HE4.out).trans HE5.out).trans he6); have HV6 := Lib.hid ((VarR.new3 w _ _).ext HE6.out); clear hr6 he6; obtain ⟨k0, k1, k2, f0, f1, f2⟩ := HV6.out.cells))
      refine ret_rat rfl (w.heap.size + 1 + 1) _ _ _ rfl (putR_row HV6.out p6 q6 Ap) rfl ?_
      exact putR_rat HV6.out HR.out ((Ext.three w _ _ _).trans HE6.out) (by omega)
/-- The contract of Mul. -/
theorem mul_calls (vx vy : Value) (x y : Rat) (k : Nat) (w : World) (hx : RatAt w x vx) (hy : RatAt w y vy) (hk : k ≤ 1099511627776) (hlx : RL k x) (hly : RL k y) :
    Calls Tryd.prog 25 #[vx, vy] w fun e w' => ∃ r, e = .returned r ∧ RatAt w' (x * y) r ∧ Ext w w' := by
  obtain ⟨p1, q1, A1, rfl⟩ := hx.shape
  obtain ⟨p2, q2, A2, rfl⟩ := hy.shape
  by_cases h : A1 = none ∧ A2 = none
  · obtain ⟨rfl, rfl⟩ := h
    obtain ⟨rfl, h1⟩ := hx.isSmall
    obtain ⟨rfl, h2⟩ := hy.isSmall
    exact mul_small x y q1 q2 w h1 h2
  · exact mul_big x y p1 q1 p2 q2 A1 A2 w k hx hy (Decidable.byCases (fun h1 : A1 = none => .inr (fun h2 => h ⟨h1, h2⟩)) .inl) hk hlx hly
end Go.Proofs.YtpgnlpjjpgdoiaaDoor
/- Add: the sum of two rational numbers. -/
namespace Go.Proofs.YtpgnlpjjpgdoiaaDoor
open Go Go.RowKit
set_option linter.unusedVariables false
set_option linter.unusedSimpArgs false
theorem add_same {s1 s2 : Bool} {a b : Int} {n m d e : Nat} (ha : sgn s1 n = a) (hb : sgn s2 m = b) (h : (s1 == s2) = true) : sgn s1 (n * e + m * d) = a * (e : Int) + b * (d : Int) := by
  have h' : s1 = s2 := by simpa using h
  subst h' ha hb
  unfold sgn
  cases s1
  · simp
  · simp [Int.neg_mul, Int.neg_add]
theorem add_ge {s1 s2 : Bool} {a b : Int} {n m d e : Nat} (ha : sgn s1 n = a) (hb : sgn s2 m = b) (h : (s1 == s2) = false) (hge : m * d ≤ n * e) : sgn s1 (n * e - m * d) = a * (e : Int) + b * (d : Int) := by
  subst ha hb
  unfold sgn
  cases s1 <;> cases s2 <;> simp at h ⊢
  · rw [Int.natCast_sub hge, Int.neg_mul]; simp [Int.sub_eq_add_neg]
  · rw [Int.natCast_sub hge, Int.neg_mul]; simp; omega
theorem add_lt {s1 s2 : Bool} {a b : Int} {n m d e : Nat} (ha : sgn s1 n = a) (hb : sgn s2 m = b) (h : (s1 == s2) = false) (hlt : n * e < m * d) : sgn s2 (m * d - n * e) = a * (e : Int) + b * (d : Int) := by
  subst ha hb
  unfold sgn
  cases s1 <;> cases s2 <;> simp at h ⊢
  · rw [Int.natCast_sub (Nat.le_of_lt hlt), Int.neg_mul]; simp; omega
  · rw [Int.natCast_sub (Nat.le_of_lt hlt), Int.neg_mul]; simp; omega
theorem add_bnd {a b : Int} {c d : Nat} (ha : a.natAbs < 2147483648) (hb : b.natAbs < 2147483648) (hc : c < 2147483648) (hd : d < 2147483648) : (a * (d : Int)).natAbs ≤ 4611686014132420609 ∧ (b * (c : Int)).natAbs ≤ 4611686014132420609 := by
  rw [Int.natAbs_mul, Int.natAbs_mul, Int.natAbs_natCast, Int.natAbs_natCast]
  have h1 : a.natAbs * d ≤ 2147483647 * 2147483647 := Nat.mul_le_mul (by omega) (by omega)
  have h2 : b.natAbs * c ≤ 2147483647 * 2147483647 := Nat.mul_le_mul (by omega) (by omega)
  omega
set_option maxRecDepth 100000 in
theorem add_small (x y : Rat) (p q : Int) (w : World) (hx : SmallR x p) (hy : SmallR y q) :
    Calls Tryd.prog 34 #[.agg #[.int .i64 x.num, .int .i64 p, .pointer none], .agg #[.int .i64 y.num, .int .i64 q, .pointer none]] w fun e w' => ∃ r, e = .returned r ∧ RatAt w' (x + y) r ∧ Ext w w' := by
  have HSX := Lib.hid (fun W => low_calls x p W hx)
  have HSY := Lib.hid (fun W => low_calls y q W hy)
  obtain ⟨hb1, hb2⟩ := add_bnd hx.num hy.num hx.den hy.den
  have hd : x.den * y.den ≤ 2147483647 * 2147483647 := Nat.mul_le_mul (by have := hx.den; omega) (by have := hy.den; omega)
  have hd0 : x.den * y.den ≠ 0 := Nat.mul_ne_zero x.den_nz y.den_nz
  have HQ := Lib.hid (fun W => quotient_calls (decide (x.num * (y.den : Int) + y.num * (x.den : Int) < 0)) (x.num * (y.den : Int) + y.num * (x.den : Int)).natAbs (x.den * y.den) W (fun h e => by rw [decide_eq_true_eq] at h; omega) (by omega) hd0 (by omega))
  rw [sgn_abs] at HQ
  have u1 : IntKind.i64.wrap (x.num * (y.den : Int)) = x.num * (y.den : Int) := by simp only [IntKind.wrap_i64]; omega
  have u3 : IntKind.i64.wrap (y.num * (x.den : Int)) = y.num * (x.den : Int) := by simp only [IntKind.wrap_i64]; omega
  have u4 : IntKind.i64.wrap (x.num * (y.den : Int) + y.num * (x.den : Int)) = x.num * (y.den : Int) + y.num * (x.den : Int) := by simp only [IntKind.wrap_i64]; omega
  have u2 : IntKind.i64.wrap ((x.den : Int) * (y.den : Int)) = (x.den : Int) * (y.den : Int) := by rw [← Int.natCast_mul]; simp only [IntKind.wrap_i64]; omega
  rw [Int.natCast_mul] at HQ
  rw [Rat.add_def']
  generalize mkRat (x.num * (y.den : Int) + y.num * (x.den : Int)) (x.den * y.den) = z at *
  generalize x.num = a at *
  generalize y.num = b at *
  generalize ((x.den : Nat) : Int) = c at *
  generalize ((y.den : Nat) : Int) = d at *
  clear hx hy hb1 hb2 hd hd0
  go_enter Tryd.func34, Tryd.ntmps34
  go_wp2_with (first
    | (go_at_call 39; refine (HSX.out _).mono ?_; clear HSX; rintro e w2 ⟨rfl, he2⟩; have HE2 := Lib.hid he2; have HB2 : Hid (BoxR w2 (w.heap.size + 1) b q none) := Lib.hid ((BoxR.new2 w _ b q none).ext ((Ext.one _ _).trans HE2.out)); obtain ⟨k0, k1, k2⟩ := HB2.out.cells; clear he2)
    | (go_at_call 39; refine (HSY.out _).mono ?_; clear HSY; rintro e w3 ⟨rfl, he3⟩; have HE3 := Lib.hid (HE2.out.trans he3); clear he3 k0 k1 k2)
    | (go_at_call 43; refine (HQ.out _).mono ?_; clear HQ; rintro e w4 ⟨r4, rfl, hr4, he4⟩; obtain ⟨p4, q4, Ap, rfl⟩ := hr4.shape; have HR := Lib.hid hr4; have HE4 := Lib.hid (HE3.out.trans he4); have HV4 := Lib.hid ((VarR.new3 w _ _).ext HE4.out); clear hr4 he4; obtain ⟨k0, k1, k2, f0, f1, f2⟩ := HV4.out.cells))
  refine ret_rat rfl (w.heap.size + 1 + 1) _ _ _ rfl (putR_row HV4.out p4 q4 Ap) rfl ?_
  exact putR_rat HV4.out HR.out ((Ext.three w _ _ _).trans HE4.out) (by omega)
theorem sum_len {a b k l : Nat} (ha : (dg W64 a).length ≤ k) (hb : (dg W64 b).length ≤ l) : (dg W64 (a + b)).length ≤ k + l + 1 := by
  apply dg_length_le W64_two
  have h1 := Nat.lt_of_lt_of_le (lt_pow_dg W64_two a) (Nat.pow_le_pow_right W64_pos (show (dg W64 a).length ≤ k + l by omega))
  have h2 := Nat.lt_of_lt_of_le (lt_pow_dg W64_two b) (Nat.pow_le_pow_right W64_pos (show (dg W64 b).length ≤ k + l by omega))
  rw [Nat.pow_succ]
  generalize W64 ^ (k + l) = P at *
  have h3 : P * 2 ≤ P * W64 := Nat.mul_le_mul_left _ W64_two
  omega
set_option maxRecDepth 100000 in
set_option maxHeartbeats 2000000 in
theorem add_bigSame (x y : Rat) (p1 q1 p2 q2 : Int) (A1 A2 : Option Addr) (w : World) (k : Nat) (hx : RatAt w x (.agg #[.int .i64 p1, .int .i64 q1, .pointer A1])) (hy : RatAt w y (.agg #[.int .i64 p2, .int .i64 q2, .pointer A2])) (hA : A1 ≠ none ∨ A2 ≠ none) (hk : k ≤ 1099511627776) (hlx : RL k x) (hly : RL k y) (hs : (decide (x.num < 0) == decide (y.num < 0)) = true) :
    Calls Tryd.prog 34 #[.agg #[.int .i64 p1, .int .i64 q1, .pointer A1], .agg #[.int .i64 p2, .int .i64 q2, .pointer A2]] w fun e w' => ∃ r, e = .returned r ∧ RatAt w' (x + y) r ∧ Ext w w' := by
  have HX := Lib.hid (fun W he => parts_calls _ x W (hx.ext he) : ∀ W, Ext w W → _)
  have HY := Lib.hid (fun W he => parts_calls _ y W (hy.ext he) : ∀ W, Ext w W → _)
  have e1 := sgn_abs x.num
  have e2 := sgn_abs y.num
  unfold PartsPost at HX HY
  generalize decide (x.num < 0) = s1 at HX e1 hs
  generalize decide (y.num < 0) = s2 at HY e2 hs
  have a1 := hlx.num
  have a2 := hlx.den
  have a3 := hly.num
  have a4 := hly.den
  have HL0 : Hid ((dg W64 x.den).length + (dg W64 y.den).length ≤ 35184372088832) := Lib.hid (by omega)
  have HL1 : Hid ((dg W64 x.num.natAbs).length + (dg W64 y.den).length ≤ 35184372088832) := Lib.hid (by omega)
  have HL2 : Hid ((dg W64 y.num.natAbs).length + (dg W64 x.den).length ≤ 35184372088832) := Lib.hid (by omega)
  have hu := prod_len a1 a4
  have hv := prod_len a3 a2
  have HLU : Hid ((dg W64 (x.num.natAbs * y.den)).length < 17592186044416) := Lib.hid (by omega)
  have HLV : Hid ((dg W64 (y.num.natAbs * x.den)).length < 17592186044416) := Lib.hid (by omega)
  have HL4 : Hid ((dg W64 (x.den * y.den)).length < 17592186044416) := Lib.hid (by have := prod_len a2 a4; omega)
  have HDN : Hid (x.den * y.den ≠ 0) := Lib.hid (Nat.mul_ne_zero x.den_nz y.den_nz)
  have HL3 : Hid ((dg W64 (x.num.natAbs * y.den + y.num.natAbs * x.den)).length < 17592186044416) := Lib.hid (by have := sum_len hu hv; omega)
  rw [Rat.add_def', ← add_same e1 e2 hs]
  clear hx hy hlx hly a1 a2 a3 a4 hk e1 e2 hu hv
  rcases A1 with _ | c1
  · rcases A2 with _ | c2
    · simp at hA
    · clear hA
      go_enter Tryd.func34, Tryd.ntmps34
      go_wp2_with (first
        | (go_at_call 44; refine (HX.out _ (Ext.three w _ _ _)).mono ?_; clear HX; rintro e w2 ⟨vn, vd, rfl, hn, hd, he2⟩; have HN := Lib.hid hn; have HD := Lib.hid hd; have HE2 := Lib.hid he2; have HB2 := Lib.hid ((BoxR.new2 w _ p2 q2 (some c2)).ext ((Ext.one _ _).trans HE2.out)); obtain ⟨k0, k1, k2⟩ := HB2.out.cells; clear he2 hn hd)
        | (go_at_call 44; refine (HY.out _ ((Ext.three w _ _ _).trans HE2.out)).mono ?_; clear HY; rintro e w3 ⟨vm, ve, rfl, hm, hf, he3⟩; have HM := Lib.hid hm; have HF := Lib.hid hf; have HE23 := Lib.hid he3; have HE3 := Lib.hid (HE2.out.trans he3); clear he3 hm hf k0 k1 k2)
        | (go_at_call 46; refine (product_calls _ _ x.num.natAbs y.den _ (HN.out.ext HE23.out) HF.out HL1.out).mono ?_; clear HN; rintro e w4 ⟨r4, rfl, hr4, he4⟩; have HP := Lib.hid hr4; have HE4 := Lib.hid he4; clear hr4 he4)
        | (go_at_call 46; refine (product_calls _ _ y.num.natAbs x.den _ (HM.out.ext HE4.out) (HD.out.ext (HE23.out.trans HE4.out)) HL2.out).mono ?_; clear HM; rintro e w5 ⟨r5, rfl, hr5, he5⟩; have HQ := Lib.hid hr5; have HE5 := Lib.hid he5; clear hr5 he5)
        | (go_at_call 46; refine (product_calls _ _ x.den y.den _ (HD.out.ext ((HE23.out.trans HE4.out).trans HE5.out)) (HF.out.ext (HE4.out.trans HE5.out)) HL0.out).mono ?_; clear HD HF; rintro e w6 ⟨r6, rfl, hr6, he6⟩; have HT := Lib.hid hr6; have HE6 := Lib.hid he6; have HPP := Lib.hid (HP.out.ext (HE5.out.trans HE6.out)); have HQQ := Lib.hid (HQ.out.ext HE6.out); clear hr6 he6)
        | (go_at_call 42; refine (compare_calls _ _ _ _ _ HPP.out HQQ.out (Nat.le_of_lt (Nat.lt_trans HLU.out (by decide)))).mono ?_; rw [← HCM.out]; rintro e w7 ⟨rfl, nq, rfl⟩)
        | (go_at_call 55; refine (sum_calls _ _ _ _ _ HPP.out HQQ.out HLU.out HLV.out).mono ?_; rintro e w7 ⟨r7, rfl, hr7, he7⟩; have HCC := Lib.hid hr7; have HE67 := Lib.hid he7; clear hr7 he7)
        | (go_at_call 45; go_loud (refine (reduce_calls _ _ s1 _ _ _ HDN.out HCC.out (HT.out.ext HE67.out) HL3.out HL4.out).mono ?_); rintro e w8 ⟨r8, rfl, hr8, he8⟩; obtain ⟨p8, q8, Ap, rfl⟩ := hr8.shape; have HR := Lib.hid hr8; have HE8 := Lib.hid ((((HE3.out.trans HE4.out).trans HE5.out).trans HE6.out).trans (HE67.out.trans he8)); have HV8 := Lib.hid ((VarR.new3 w _ _).ext HE8.out); clear hr8 he8; obtain ⟨k0, k1, k2, f0, f1, f2⟩ := HV8.out.cells))
      refine ret_rat rfl (w.heap.size + 1 + 1) _ _ _ rfl (putR_row HV8.out p8 q8 Ap) rfl ?_
      exact putR_rat HV8.out HR.out ((Ext.three w _ _ _).trans HE8.out) (by omega)
  · rcases A2 with _ | c2
    · clear hA
      go_enter Tryd.func34, Tryd.ntmps34
      go_wp2_with (first
        | (go_at_call 44; refine (HX.out _ (Ext.three w _ _ _)).mono ?_; clear HX; rintro e w2 ⟨vn, vd, rfl, hn, hd, he2⟩; have HN := Lib.hid hn; have HD := Lib.hid hd; have HE2 := Lib.hid he2; have HB2 := Lib.hid ((BoxR.new2 w _ p2 q2 none).ext ((Ext.one _ _).trans HE2.out)); obtain ⟨k0, k1, k2⟩ := HB2.out.cells; clear he2 hn hd)
        | (go_at_call 44; refine (HY.out _ ((Ext.three w _ _ _).trans HE2.out)).mono ?_; clear HY; rintro e w3 ⟨vm, ve, rfl, hm, hf, he3⟩; have HM := Lib.hid hm; have HF := Lib.hid hf; have HE23 := Lib.hid he3; have HE3 := Lib.hid (HE2.out.trans he3); clear he3 hm hf k0 k1 k2)
        | (go_at_call 46; refine (product_calls _ _ x.num.natAbs y.den _ (HN.out.ext HE23.out) HF.out HL1.out).mono ?_; clear HN; rintro e w4 ⟨r4, rfl, hr4, he4⟩; have HP := Lib.hid hr4; have HE4 := Lib.hid he4; clear hr4 he4)
        | (go_at_call 46; refine (product_calls _ _ y.num.natAbs x.den _ (HM.out.ext HE4.out) (HD.out.ext (HE23.out.trans HE4.out)) HL2.out).mono ?_; clear HM; rintro e w5 ⟨r5, rfl, hr5, he5⟩; have HQ := Lib.hid hr5; have HE5 := Lib.hid he5; clear hr5 he5)
        | (go_at_call 46; refine (product_calls _ _ x.den y.den _ (HD.out.ext ((HE23.out.trans HE4.out).trans HE5.out)) (HF.out.ext (HE4.out.trans HE5.out)) HL0.out).mono ?_; clear HD HF; rintro e w6 ⟨r6, rfl, hr6, he6⟩; have HT := Lib.hid hr6; have HE6 := Lib.hid he6; have HPP := Lib.hid (HP.out.ext (HE5.out.trans HE6.out)); have HQQ := Lib.hid (HQ.out.ext HE6.out); clear hr6 he6)
        | (go_at_call 42; refine (compare_calls _ _ _ _ _ HPP.out HQQ.out (Nat.le_of_lt (Nat.lt_trans HLU.out (by decide)))).mono ?_; rw [← HCM.out]; rintro e w7 ⟨rfl, nq, rfl⟩)
        | (go_at_call 55; refine (sum_calls _ _ _ _ _ HPP.out HQQ.out HLU.out HLV.out).mono ?_; rintro e w7 ⟨r7, rfl, hr7, he7⟩; have HCC := Lib.hid hr7; have HE67 := Lib.hid he7; clear hr7 he7)
        | (go_at_call 45; go_loud (refine (reduce_calls _ _ s1 _ _ _ HDN.out HCC.out (HT.out.ext HE67.out) HL3.out HL4.out).mono ?_); rintro e w8 ⟨r8, rfl, hr8, he8⟩; obtain ⟨p8, q8, Ap, rfl⟩ := hr8.shape; have HR := Lib.hid hr8; have HE8 := Lib.hid ((((HE3.out.trans HE4.out).trans HE5.out).trans HE6.out).trans (HE67.out.trans he8)); have HV8 := Lib.hid ((VarR.new3 w _ _).ext HE8.out); clear hr8 he8; obtain ⟨k0, k1, k2, f0, f1, f2⟩ := HV8.out.cells))
      refine ret_rat rfl (w.heap.size + 1 + 1) _ _ _ rfl (putR_row HV8.out p8 q8 Ap) rfl ?_
      exact putR_rat HV8.out HR.out ((Ext.three w _ _ _).trans HE8.out) (by omega)
    · clear hA
      go_enter Tryd.func34, Tryd.ntmps34
      go_wp2_with (first
        | (go_at_call 44; refine (HX.out _ (Ext.three w _ _ _)).mono ?_; clear HX; rintro e w2 ⟨vn, vd, rfl, hn, hd, he2⟩; have HN := Lib.hid hn; have HD := Lib.hid hd; have HE2 := Lib.hid he2; have HB2 := Lib.hid ((BoxR.new2 w _ p2 q2 (some c2)).ext ((Ext.one _ _).trans HE2.out)); obtain ⟨k0, k1, k2⟩ := HB2.out.cells; clear he2 hn hd)
        | (go_at_call 44; refine (HY.out _ ((Ext.three w _ _ _).trans HE2.out)).mono ?_; clear HY; rintro e w3 ⟨vm, ve, rfl, hm, hf, he3⟩; have HM := Lib.hid hm; have HF := Lib.hid hf; have HE23 := Lib.hid he3; have HE3 := Lib.hid (HE2.out.trans he3); clear he3 hm hf k0 k1 k2)
        | (go_at_call 46; refine (product_calls _ _ x.num.natAbs y.den _ (HN.out.ext HE23.out) HF.out HL1.out).mono ?_; clear HN; rintro e w4 ⟨r4, rfl, hr4, he4⟩; have HP := Lib.hid hr4; have HE4 := Lib.hid he4; clear hr4 he4)
        | (go_at_call 46; refine (product_calls _ _ y.num.natAbs x.den _ (HM.out.ext HE4.out) (HD.out.ext (HE23.out.trans HE4.out)) HL2.out).mono ?_; clear HM; rintro e w5 ⟨r5, rfl, hr5, he5⟩; have HQ := Lib.hid hr5; have HE5 := Lib.hid he5; clear hr5 he5)
        | (go_at_call 46; refine (product_calls _ _ x.den y.den _ (HD.out.ext ((HE23.out.trans HE4.out).trans HE5.out)) (HF.out.ext (HE4.out.trans HE5.out)) HL0.out).mono ?_; clear HD HF; rintro e w6 ⟨r6, rfl, hr6, he6⟩; have HT := Lib.hid hr6; have HE6 := Lib.hid he6; have HPP := Lib.hid (HP.out.ext (HE5.out.trans HE6.out)); have HQQ := Lib.hid (HQ.out.ext HE6.out); clear hr6 he6)
        | (go_at_call 42; refine (compare_calls _ _ _ _ _ HPP.out HQQ.out (Nat.le_of_lt (Nat.lt_trans HLU.out (by decide)))).mono ?_; rw [← HCM.out]; rintro e w7 ⟨rfl, nq, rfl⟩)
        | (go_at_call 55; refine (sum_calls _ _ _ _ _ HPP.out HQQ.out HLU.out HLV.out).mono ?_; rintro e w7 ⟨r7, rfl, hr7, he7⟩; have HCC := Lib.hid hr7; have HE67 := Lib.hid he7; clear hr7 he7)
        | (go_at_call 45; go_loud (refine (reduce_calls _ _ s1 _ _ _ HDN.out HCC.out (HT.out.ext HE67.out) HL3.out HL4.out).mono ?_); rintro e w8 ⟨r8, rfl, hr8, he8⟩; obtain ⟨p8, q8, Ap, rfl⟩ := hr8.shape; have HR := Lib.hid hr8; have HE8 := Lib.hid ((((HE3.out.trans HE4.out).trans HE5.out).trans HE6.out).trans (HE67.out.trans he8)); have HV8 := Lib.hid ((VarR.new3 w _ _).ext HE8.out); clear hr8 he8; obtain ⟨k0, k1, k2, f0, f1, f2⟩ := HV8.out.cells))
      refine ret_rat rfl (w.heap.size + 1 + 1) _ _ _ rfl (putR_row HV8.out p8 q8 Ap) rfl ?_
      exact putR_rat HV8.out HR.out ((Ext.three w _ _ _).trans HE8.out) (by omega)
set_option maxRecDepth 100000 in
set_option maxHeartbeats 2000000 in
theorem add_bigGe (x y : Rat) (p1 q1 p2 q2 : Int) (A1 A2 : Option Addr) (w : World) (k : Nat) (hx : RatAt w x (.agg #[.int .i64 p1, .int .i64 q1, .pointer A1])) (hy : RatAt w y (.agg #[.int .i64 p2, .int .i64 q2, .pointer A2])) (hA : A1 ≠ none ∨ A2 ≠ none) (hk : k ≤ 1099511627776) (hlx : RL k x) (hly : RL k y) (hs : (decide (x.num < 0) == decide (y.num < 0)) = false) (hge : y.num.natAbs * x.den ≤ x.num.natAbs * y.den) :
    Calls Tryd.prog 34 #[.agg #[.int .i64 p1, .int .i64 q1, .pointer A1], .agg #[.int .i64 p2, .int .i64 q2, .pointer A2]] w fun e w' => ∃ r, e = .returned r ∧ RatAt w' (x + y) r ∧ Ext w w' := by
  have HX := Lib.hid (fun W he => parts_calls _ x W (hx.ext he) : ∀ W, Ext w W → _)
  have HY := Lib.hid (fun W he => parts_calls _ y W (hy.ext he) : ∀ W, Ext w W → _)
  have e1 := sgn_abs x.num
  have e2 := sgn_abs y.num
  unfold PartsPost at HX HY
  generalize decide (x.num < 0) = s1 at HX e1 hs
  generalize decide (y.num < 0) = s2 at HY e2 hs
  have a1 := hlx.num
  have a2 := hlx.den
  have a3 := hly.num
  have a4 := hly.den
  have HL0 : Hid ((dg W64 x.den).length + (dg W64 y.den).length ≤ 35184372088832) := Lib.hid (by omega)
  have HL1 : Hid ((dg W64 x.num.natAbs).length + (dg W64 y.den).length ≤ 35184372088832) := Lib.hid (by omega)
  have HL2 : Hid ((dg W64 y.num.natAbs).length + (dg W64 x.den).length ≤ 35184372088832) := Lib.hid (by omega)
  have hu := prod_len a1 a4
  have hv := prod_len a3 a2
  have HLU : Hid ((dg W64 (x.num.natAbs * y.den)).length < 17592186044416) := Lib.hid (by omega)
  have HLV : Hid ((dg W64 (y.num.natAbs * x.den)).length < 17592186044416) := Lib.hid (by omega)
  have HL4 : Hid ((dg W64 (x.den * y.den)).length < 17592186044416) := Lib.hid (by have := prod_len a2 a4; omega)
  have HDN : Hid (x.den * y.den ≠ 0) := Lib.hid (Nat.mul_ne_zero x.den_nz y.den_nz)
  have HL3 : Hid ((dg W64 (x.num.natAbs * y.den - y.num.natAbs * x.den)).length < 17592186044416) := Lib.hid (by have := dg_length_mono W64_two (Nat.sub_le (x.num.natAbs * y.den) (y.num.natAbs * x.den)); omega)
  rw [Rat.add_def', ← add_ge e1 e2 hs hge]
  have HGE := Lib.hid hge
  obtain ⟨cm, hcm, hcm0⟩ : ∃ cm : Int, cm = cmpN (x.num.natAbs * y.den) (y.num.natAbs * x.den) ∧ decide (0 ≤ cm) = true := ⟨_, rfl, by
    unfold cmpN
    rw [if_neg (by omega)]
    split <;> decide⟩
  have HCM := Lib.hid hcm
  clear hge hcm
  clear hx hy hlx hly a1 a2 a3 a4 hk e1 e2 hu hv
  rcases A1 with _ | c1
  · rcases A2 with _ | c2
    · simp at hA
    · clear hA
      go_enter Tryd.func34, Tryd.ntmps34
      go_wp2_with (first
        | (go_at_call 44; refine (HX.out _ (Ext.three w _ _ _)).mono ?_; clear HX; rintro e w2 ⟨vn, vd, rfl, hn, hd, he2⟩; have HN := Lib.hid hn; have HD := Lib.hid hd; have HE2 := Lib.hid he2; have HB2 := Lib.hid ((BoxR.new2 w _ p2 q2 (some c2)).ext ((Ext.one _ _).trans HE2.out)); obtain ⟨k0, k1, k2⟩ := HB2.out.cells; clear he2 hn hd)
        | (go_at_call 44; refine (HY.out _ ((Ext.three w _ _ _).trans HE2.out)).mono ?_; clear HY; rintro e w3 ⟨vm, ve, rfl, hm, hf, he3⟩; have HM := Lib.hid hm; have HF := Lib.hid hf; have HE23 := Lib.hid he3; have HE3 := Lib.hid (HE2.out.trans he3); clear he3 hm hf k0 k1 k2)
        | (go_at_call 46; refine (product_calls _ _ x.num.natAbs y.den _ (HN.out.ext HE23.out) HF.out HL1.out).mono ?_; clear HN; rintro e w4 ⟨r4, rfl, hr4, he4⟩; have HP := Lib.hid hr4; have HE4 := Lib.hid he4; clear hr4 he4)
        | (go_at_call 46; refine (product_calls _ _ y.num.natAbs x.den _ (HM.out.ext HE4.out) (HD.out.ext (HE23.out.trans HE4.out)) HL2.out).mono ?_; clear HM; rintro e w5 ⟨r5, rfl, hr5, he5⟩; have HQ := Lib.hid hr5; have HE5 := Lib.hid he5; clear hr5 he5)
        | (go_at_call 46; refine (product_calls _ _ x.den y.den _ (HD.out.ext ((HE23.out.trans HE4.out).trans HE5.out)) (HF.out.ext (HE4.out.trans HE5.out)) HL0.out).mono ?_; clear HD HF; rintro e w6 ⟨r6, rfl, hr6, he6⟩; have HT := Lib.hid hr6; have HE6 := Lib.hid he6; have HPP := Lib.hid (HP.out.ext (HE5.out.trans HE6.out)); have HQQ := Lib.hid (HQ.out.ext HE6.out); clear hr6 he6)
        | (go_at_call 42; refine (compare_calls _ _ _ _ _ HPP.out HQQ.out (Nat.le_of_lt (Nat.lt_trans HLU.out (by decide)))).mono ?_; rw [← HCM.out]; rintro e w7 ⟨rfl, nq, rfl⟩)
        | (go_at_call 56; refine (less_calls _ _ _ _ _ (HPP.out.ext ((Ext.refl _).drewN nq)) (HQQ.out.ext ((Ext.refl _).drewN nq)) HGE.out (Nat.le_of_lt (Nat.lt_trans HLU.out (by decide)))).mono ?_; rintro e w7 ⟨r7, rfl, hr7, he7⟩; have HCC := Lib.hid hr7; have HE67 := Lib.hid (((Ext.refl _).drewN nq).trans he7); clear hr7 he7)
        | (go_at_call 45; go_loud (refine (reduce_calls _ _ s1 _ _ _ HDN.out HCC.out (HT.out.ext HE67.out) HL3.out HL4.out).mono ?_); rintro e w8 ⟨r8, rfl, hr8, he8⟩; obtain ⟨p8, q8, Ap, rfl⟩ := hr8.shape; have HR := Lib.hid hr8; have HE8 := Lib.hid ((((HE3.out.trans HE4.out).trans HE5.out).trans HE6.out).trans (HE67.out.trans he8)); have HV8 := Lib.hid ((VarR.new3 w _ _).ext HE8.out); clear hr8 he8; obtain ⟨k0, k1, k2, f0, f1, f2⟩ := HV8.out.cells))
      refine ret_rat rfl (w.heap.size + 1 + 1) _ _ _ rfl (putR_row HV8.out p8 q8 Ap) rfl ?_
      exact putR_rat HV8.out HR.out ((Ext.three w _ _ _).trans HE8.out) (by omega)
  · rcases A2 with _ | c2
    · clear hA
      go_enter Tryd.func34, Tryd.ntmps34
      go_wp2_with (first
        | (go_at_call 44; refine (HX.out _ (Ext.three w _ _ _)).mono ?_; clear HX; rintro e w2 ⟨vn, vd, rfl, hn, hd, he2⟩; have HN := Lib.hid hn; have HD := Lib.hid hd; have HE2 := Lib.hid he2; have HB2 := Lib.hid ((BoxR.new2 w _ p2 q2 none).ext ((Ext.one _ _).trans HE2.out)); obtain ⟨k0, k1, k2⟩ := HB2.out.cells; clear he2 hn hd)
        | (go_at_call 44; refine (HY.out _ ((Ext.three w _ _ _).trans HE2.out)).mono ?_; clear HY; rintro e w3 ⟨vm, ve, rfl, hm, hf, he3⟩; have HM := Lib.hid hm; have HF := Lib.hid hf; have HE23 := Lib.hid he3; have HE3 := Lib.hid (HE2.out.trans he3); clear he3 hm hf k0 k1 k2)
        | (go_at_call 46; refine (product_calls _ _ x.num.natAbs y.den _ (HN.out.ext HE23.out) HF.out HL1.out).mono ?_; clear HN; rintro e w4 ⟨r4, rfl, hr4, he4⟩; have HP := Lib.hid hr4; have HE4 := Lib.hid he4; clear hr4 he4)
        | (go_at_call 46; refine (product_calls _ _ y.num.natAbs x.den _ (HM.out.ext HE4.out) (HD.out.ext (HE23.out.trans HE4.out)) HL2.out).mono ?_; clear HM; rintro e w5 ⟨r5, rfl, hr5, he5⟩; have HQ := Lib.hid hr5; have HE5 := Lib.hid he5; clear hr5 he5)
        | (go_at_call 46; refine (product_calls _ _ x.den y.den _ (HD.out.ext ((HE23.out.trans HE4.out).trans HE5.out)) (HF.out.ext (HE4.out.trans HE5.out)) HL0.out).mono ?_; clear HD HF; rintro e w6 ⟨r6, rfl, hr6, he6⟩; have HT := Lib.hid hr6; have HE6 := Lib.hid he6; have HPP := Lib.hid (HP.out.ext (HE5.out.trans HE6.out)); have HQQ := Lib.hid (HQ.out.ext HE6.out); clear hr6 he6)
        | (go_at_call 42; refine (compare_calls _ _ _ _ _ HPP.out HQQ.out (Nat.le_of_lt (Nat.lt_trans HLU.out (by decide)))).mono ?_; rw [← HCM.out]; rintro e w7 ⟨rfl, nq, rfl⟩)
        | (go_at_call 56; refine (less_calls _ _ _ _ _ (HPP.out.ext ((Ext.refl _).drewN nq)) (HQQ.out.ext ((Ext.refl _).drewN nq)) HGE.out (Nat.le_of_lt (Nat.lt_trans HLU.out (by decide)))).mono ?_; rintro e w7 ⟨r7, rfl, hr7, he7⟩; have HCC := Lib.hid hr7; have HE67 := Lib.hid (((Ext.refl _).drewN nq).trans he7); clear hr7 he7)
        | (go_at_call 45; go_loud (refine (reduce_calls _ _ s1 _ _ _ HDN.out HCC.out (HT.out.ext HE67.out) HL3.out HL4.out).mono ?_); rintro e w8 ⟨r8, rfl, hr8, he8⟩; obtain ⟨p8, q8, Ap, rfl⟩ := hr8.shape; have HR := Lib.hid hr8; have HE8 := Lib.hid ((((HE3.out.trans HE4.out).trans HE5.out).trans HE6.out).trans (HE67.out.trans he8)); have HV8 := Lib.hid ((VarR.new3 w _ _).ext HE8.out); clear hr8 he8; obtain ⟨k0, k1, k2, f0, f1, f2⟩ := HV8.out.cells))
      refine ret_rat rfl (w.heap.size + 1 + 1) _ _ _ rfl (putR_row HV8.out p8 q8 Ap) rfl ?_
      exact putR_rat HV8.out HR.out ((Ext.three w _ _ _).trans HE8.out) (by omega)
    · clear hA
      go_enter Tryd.func34, Tryd.ntmps34
      go_wp2_with (first
        | (go_at_call 44; refine (HX.out _ (Ext.three w _ _ _)).mono ?_; clear HX; rintro e w2 ⟨vn, vd, rfl, hn, hd, he2⟩; have HN := Lib.hid hn; have HD := Lib.hid hd; have HE2 := Lib.hid he2; have HB2 := Lib.hid ((BoxR.new2 w _ p2 q2 (some c2)).ext ((Ext.one _ _).trans HE2.out)); obtain ⟨k0, k1, k2⟩ := HB2.out.cells; clear he2 hn hd)
        | (go_at_call 44; refine (HY.out _ ((Ext.three w _ _ _).trans HE2.out)).mono ?_; clear HY; rintro e w3 ⟨vm, ve, rfl, hm, hf, he3⟩; have HM := Lib.hid hm; have HF := Lib.hid hf; have HE23 := Lib.hid he3; have HE3 := Lib.hid (HE2.out.trans he3); clear he3 hm hf k0 k1 k2)
        | (go_at_call 46; refine (product_calls _ _ x.num.natAbs y.den _ (HN.out.ext HE23.out) HF.out HL1.out).mono ?_; clear HN; rintro e w4 ⟨r4, rfl, hr4, he4⟩; have HP := Lib.hid hr4; have HE4 := Lib.hid he4; clear hr4 he4)
        | (go_at_call 46; refine (product_calls _ _ y.num.natAbs x.den _ (HM.out.ext HE4.out) (HD.out.ext (HE23.out.trans HE4.out)) HL2.out).mono ?_; clear HM; rintro e w5 ⟨r5, rfl, hr5, he5⟩; have HQ := Lib.hid hr5; have HE5 := Lib.hid he5; clear hr5 he5)
        | (go_at_call 46; refine (product_calls _ _ x.den y.den _ (HD.out.ext ((HE23.out.trans HE4.out).trans HE5.out)) (HF.out.ext (HE4.out.trans HE5.out)) HL0.out).mono ?_; clear HD HF; rintro e w6 ⟨r6, rfl, hr6, he6⟩; have HT := Lib.hid hr6; have HE6 := Lib.hid he6; have HPP := Lib.hid (HP.out.ext (HE5.out.trans HE6.out)); have HQQ := Lib.hid (HQ.out.ext HE6.out); clear hr6 he6)
        | (go_at_call 42; refine (compare_calls _ _ _ _ _ HPP.out HQQ.out (Nat.le_of_lt (Nat.lt_trans HLU.out (by decide)))).mono ?_; rw [← HCM.out]; rintro e w7 ⟨rfl, nq, rfl⟩)
        | (go_at_call 56; refine (less_calls _ _ _ _ _ (HPP.out.ext ((Ext.refl _).drewN nq)) (HQQ.out.ext ((Ext.refl _).drewN nq)) HGE.out (Nat.le_of_lt (Nat.lt_trans HLU.out (by decide)))).mono ?_; rintro e w7 ⟨r7, rfl, hr7, he7⟩; have HCC := Lib.hid hr7; have HE67 := Lib.hid (((Ext.refl _).drewN nq).trans he7); clear hr7 he7)
        | (go_at_call 45; go_loud (refine (reduce_calls _ _ s1 _ _ _ HDN.out HCC.out (HT.out.ext HE67.out) HL3.out HL4.out).mono ?_); rintro e w8 ⟨r8, rfl, hr8, he8⟩; obtain ⟨p8, q8, Ap, rfl⟩ := hr8.shape; have HR := Lib.hid hr8; have HE8 := Lib.hid ((((HE3.out.trans HE4.out).trans HE5.out).trans HE6.out).trans (HE67.out.trans he8)); have HV8 := Lib.hid ((VarR.new3 w _ _).ext HE8.out); clear hr8 he8; obtain ⟨k0, k1, k2, f0, f1, f2⟩ := HV8.out.cells))
      refine ret_rat rfl (w.heap.size + 1 + 1) _ _ _ rfl (putR_row HV8.out p8 q8 Ap) rfl ?_
      exact putR_rat HV8.out HR.out ((Ext.three w _ _ _).trans HE8.out) (by omega)
set_option maxRecDepth 100000 in
set_option maxHeartbeats 2000000 in
theorem add_bigLt (x y : Rat) (p1 q1 p2 q2 : Int) (A1 A2 : Option Addr) (w : World) (k : Nat) (hx : RatAt w x (.agg #[.int .i64 p1, .int .i64 q1, .pointer A1])) (hy : RatAt w y (.agg #[.int .i64 p2, .int .i64 q2, .pointer A2])) (hA : A1 ≠ none ∨ A2 ≠ none) (hk : k ≤ 1099511627776) (hlx : RL k x) (hly : RL k y) (hs : (decide (x.num < 0) == decide (y.num < 0)) = false) (hge : x.num.natAbs * y.den < y.num.natAbs * x.den) :
    Calls Tryd.prog 34 #[.agg #[.int .i64 p1, .int .i64 q1, .pointer A1], .agg #[.int .i64 p2, .int .i64 q2, .pointer A2]] w fun e w' => ∃ r, e = .returned r ∧ RatAt w' (x + y) r ∧ Ext w w' := by
  have HX := Lib.hid (fun W he => parts_calls _ x W (hx.ext he) : ∀ W, Ext w W → _)
  have HY := Lib.hid (fun W he => parts_calls _ y W (hy.ext he) : ∀ W, Ext w W → _)
  have e1 := sgn_abs x.num
  have e2 := sgn_abs y.num
  unfold PartsPost at HX HY
  generalize decide (x.num < 0) = s1 at HX e1 hs
  generalize decide (y.num < 0) = s2 at HY e2 hs
  have a1 := hlx.num
  have a2 := hlx.den
  have a3 := hly.num
  have a4 := hly.den
  have HL0 : Hid ((dg W64 x.den).length + (dg W64 y.den).length ≤ 35184372088832) := Lib.hid (by omega)
  have HL1 : Hid ((dg W64 x.num.natAbs).length + (dg W64 y.den).length ≤ 35184372088832) := Lib.hid (by omega)
  have HL2 : Hid ((dg W64 y.num.natAbs).length + (dg W64 x.den).length ≤ 35184372088832) := Lib.hid (by omega)
  have hu := prod_len a1 a4
  have hv := prod_len a3 a2
  have HLU : Hid ((dg W64 (x.num.natAbs * y.den)).length < 17592186044416) := Lib.hid (by omega)
  have HLV : Hid ((dg W64 (y.num.natAbs * x.den)).length < 17592186044416) := Lib.hid (by omega)
  have HL4 : Hid ((dg W64 (x.den * y.den)).length < 17592186044416) := Lib.hid (by have := prod_len a2 a4; omega)
  have HDN : Hid (x.den * y.den ≠ 0) := Lib.hid (Nat.mul_ne_zero x.den_nz y.den_nz)
  have HL3 : Hid ((dg W64 (y.num.natAbs * x.den - x.num.natAbs * y.den)).length < 17592186044416) := Lib.hid (by have := dg_length_mono W64_two (Nat.sub_le (y.num.natAbs * x.den) (x.num.natAbs * y.den)); omega)
  rw [Rat.add_def', ← add_lt e1 e2 hs hge]
  have HGE := Lib.hid (Nat.le_of_lt hge)
  have HCM : Hid ((-1 : Int) = cmpN (x.num.natAbs * y.den) (y.num.natAbs * x.den)) := Lib.hid (cmpN_lt hge).symm
  clear hge
  clear hx hy hlx hly a1 a2 a3 a4 hk e1 e2 hu hv
  rcases A1 with _ | c1
  · rcases A2 with _ | c2
    · simp at hA
    · clear hA
      go_enter Tryd.func34, Tryd.ntmps34
      go_wp2_with (first
        | (go_at_call 44; refine (HX.out _ (Ext.three w _ _ _)).mono ?_; clear HX; rintro e w2 ⟨vn, vd, rfl, hn, hd, he2⟩; have HN := Lib.hid hn; have HD := Lib.hid hd; have HE2 := Lib.hid he2; have HB2 := Lib.hid ((BoxR.new2 w _ p2 q2 (some c2)).ext ((Ext.one _ _).trans HE2.out)); obtain ⟨k0, k1, k2⟩ := HB2.out.cells; clear he2 hn hd)
        | (go_at_call 44; refine (HY.out _ ((Ext.three w _ _ _).trans HE2.out)).mono ?_; clear HY; rintro e w3 ⟨vm, ve, rfl, hm, hf, he3⟩; have HM := Lib.hid hm; have HF := Lib.hid hf; have HE23 := Lib.hid he3; have HE3 := Lib.hid (HE2.out.trans he3); clear he3 hm hf k0 k1 k2)
        | (go_at_call 46; refine (product_calls _ _ x.num.natAbs y.den _ (HN.out.ext HE23.out) HF.out HL1.out).mono ?_; clear HN; rintro e w4 ⟨r4, rfl, hr4, he4⟩; have HP := Lib.hid hr4; have HE4 := Lib.hid he4; clear hr4 he4)
        | (go_at_call 46; refine (product_calls _ _ y.num.natAbs x.den _ (HM.out.ext HE4.out) (HD.out.ext (HE23.out.trans HE4.out)) HL2.out).mono ?_; clear HM; rintro e w5 ⟨r5, rfl, hr5, he5⟩; have HQ := Lib.hid hr5; have HE5 := Lib.hid he5; clear hr5 he5)
        | (go_at_call 46; refine (product_calls _ _ x.den y.den _ (HD.out.ext ((HE23.out.trans HE4.out).trans HE5.out)) (HF.out.ext (HE4.out.trans HE5.out)) HL0.out).mono ?_; clear HD HF; rintro e w6 ⟨r6, rfl, hr6, he6⟩; have HT := Lib.hid hr6; have HE6 := Lib.hid he6; have HPP := Lib.hid (HP.out.ext (HE5.out.trans HE6.out)); have HQQ := Lib.hid (HQ.out.ext HE6.out); clear hr6 he6)
        | (go_at_call 42; refine (compare_calls _ _ _ _ _ HPP.out HQQ.out (Nat.le_of_lt (Nat.lt_trans HLU.out (by decide)))).mono ?_; rw [← HCM.out]; rintro e w7 ⟨rfl, nq, rfl⟩)
        | (go_at_call 56; refine (less_calls _ _ _ _ _ (HQQ.out.ext ((Ext.refl _).drewN nq)) (HPP.out.ext ((Ext.refl _).drewN nq)) HGE.out (Nat.le_of_lt (Nat.lt_trans HLV.out (by decide)))).mono ?_; rintro e w7 ⟨r7, rfl, hr7, he7⟩; have HCC := Lib.hid hr7; have HE67 := Lib.hid (((Ext.refl _).drewN nq).trans he7); clear hr7 he7)
        | (go_at_call 45; go_loud (refine (reduce_calls _ _ s2 _ _ _ HDN.out HCC.out (HT.out.ext HE67.out) HL3.out HL4.out).mono ?_); rintro e w8 ⟨r8, rfl, hr8, he8⟩; obtain ⟨p8, q8, Ap, rfl⟩ := hr8.shape; have HR := Lib.hid hr8; have HE8 := Lib.hid ((((HE3.out.trans HE4.out).trans HE5.out).trans HE6.out).trans (HE67.out.trans he8)); have HV8 := Lib.hid ((VarR.new3 w _ _).ext HE8.out); clear hr8 he8; obtain ⟨k0, k1, k2, f0, f1, f2⟩ := HV8.out.cells))
      refine ret_rat rfl (w.heap.size + 1 + 1) _ _ _ rfl (putR_row HV8.out p8 q8 Ap) rfl ?_
      exact putR_rat HV8.out HR.out ((Ext.three w _ _ _).trans HE8.out) (by omega)
  · rcases A2 with _ | c2
    · clear hA
      go_enter Tryd.func34, Tryd.ntmps34
      go_wp2_with (first
        | (go_at_call 44; refine (HX.out _ (Ext.three w _ _ _)).mono ?_; clear HX; rintro e w2 ⟨vn, vd, rfl, hn, hd, he2⟩; have HN := Lib.hid hn; have HD := Lib.hid hd; have HE2 := Lib.hid he2; have HB2 := Lib.hid ((BoxR.new2 w _ p2 q2 none).ext ((Ext.one _ _).trans HE2.out)); obtain ⟨k0, k1, k2⟩ := HB2.out.cells; clear he2 hn hd)
        | (go_at_call 44; refine (HY.out _ ((Ext.three w _ _ _).trans HE2.out)).mono ?_; clear HY; rintro e w3 ⟨vm, ve, rfl, hm, hf, he3⟩; have HM := Lib.hid hm; have HF := Lib.hid hf; have HE23 := Lib.hid he3; have HE3 := Lib.hid (HE2.out.trans he3); clear he3 hm hf k0 k1 k2)
        | (go_at_call 46; refine (product_calls _ _ x.num.natAbs y.den _ (HN.out.ext HE23.out) HF.out HL1.out).mono ?_; clear HN; rintro e w4 ⟨r4, rfl, hr4, he4⟩; have HP := Lib.hid hr4; have HE4 := Lib.hid he4; clear hr4 he4)
        | (go_at_call 46; refine (product_calls _ _ y.num.natAbs x.den _ (HM.out.ext HE4.out) (HD.out.ext (HE23.out.trans HE4.out)) HL2.out).mono ?_; clear HM; rintro e w5 ⟨r5, rfl, hr5, he5⟩; have HQ := Lib.hid hr5; have HE5 := Lib.hid he5; clear hr5 he5)
        | (go_at_call 46; refine (product_calls _ _ x.den y.den _ (HD.out.ext ((HE23.out.trans HE4.out).trans HE5.out)) (HF.out.ext (HE4.out.trans HE5.out)) HL0.out).mono ?_; clear HD HF; rintro e w6 ⟨r6, rfl, hr6, he6⟩; have HT := Lib.hid hr6; have HE6 := Lib.hid he6; have HPP := Lib.hid (HP.out.ext (HE5.out.trans HE6.out)); have HQQ := Lib.hid (HQ.out.ext HE6.out); clear hr6 he6)
        | (go_at_call 42; refine (compare_calls _ _ _ _ _ HPP.out HQQ.out (Nat.le_of_lt (Nat.lt_trans HLU.out (by decide)))).mono ?_; rw [← HCM.out]; rintro e w7 ⟨rfl, nq, rfl⟩)
        | (go_at_call 56; refine (less_calls _ _ _ _ _ (HQQ.out.ext ((Ext.refl _).drewN nq)) (HPP.out.ext ((Ext.refl _).drewN nq)) HGE.out (Nat.le_of_lt (Nat.lt_trans HLV.out (by decide)))).mono ?_; rintro e w7 ⟨r7, rfl, hr7, he7⟩; have HCC := Lib.hid hr7; have HE67 := Lib.hid (((Ext.refl _).drewN nq).trans he7); clear hr7 he7)
        | (go_at_call 45; go_loud (refine (reduce_calls _ _ s2 _ _ _ HDN.out HCC.out (HT.out.ext HE67.out) HL3.out HL4.out).mono ?_); rintro e w8 ⟨r8, rfl, hr8, he8⟩; obtain ⟨p8, q8, Ap, rfl⟩ := hr8.shape; have HR := Lib.hid hr8; have HE8 := Lib.hid ((((HE3.out.trans HE4.out).trans HE5.out).trans HE6.out).trans (HE67.out.trans he8)); have HV8 := Lib.hid ((VarR.new3 w _ _).ext HE8.out); clear hr8 he8; obtain ⟨k0, k1, k2, f0, f1, f2⟩ := HV8.out.cells))
      refine ret_rat rfl (w.heap.size + 1 + 1) _ _ _ rfl (putR_row HV8.out p8 q8 Ap) rfl ?_
      exact putR_rat HV8.out HR.out ((Ext.three w _ _ _).trans HE8.out) (by omega)
    · clear hA
      go_enter Tryd.func34, Tryd.ntmps34
      go_wp2_with (first
        | (go_at_call 44; refine (HX.out _ (Ext.three w _ _ _)).mono ?_; clear HX; rintro e w2 ⟨vn, vd, rfl, hn, hd, he2⟩; have HN := Lib.hid hn; have HD := Lib.hid hd; have HE2 := Lib.hid he2; have HB2 := Lib.hid ((BoxR.new2 w _ p2 q2 (some c2)).ext ((Ext.one _ _).trans HE2.out)); obtain ⟨k0, k1, k2⟩ := HB2.out.cells; clear he2 hn hd)
        | (go_at_call 44; refine (HY.out _ ((Ext.three w _ _ _).trans HE2.out)).mono ?_; clear HY; rintro e w3 ⟨vm, ve, rfl, hm, hf, he3⟩; have HM := Lib.hid hm; have HF := Lib.hid hf; have HE23 := Lib.hid he3; have HE3 := Lib.hid (HE2.out.trans he3); clear he3 hm hf k0 k1 k2)
        | (go_at_call 46; refine (product_calls _ _ x.num.natAbs y.den _ (HN.out.ext HE23.out) HF.out HL1.out).mono ?_; clear HN; rintro e w4 ⟨r4, rfl, hr4, he4⟩; have HP := Lib.hid hr4; have HE4 := Lib.hid he4; clear hr4 he4)
        | (go_at_call 46; refine (product_calls _ _ y.num.natAbs x.den _ (HM.out.ext HE4.out) (HD.out.ext (HE23.out.trans HE4.out)) HL2.out).mono ?_; clear HM; rintro e w5 ⟨r5, rfl, hr5, he5⟩; have HQ := Lib.hid hr5; have HE5 := Lib.hid he5; clear hr5 he5)
        | (go_at_call 46; refine (product_calls _ _ x.den y.den _ (HD.out.ext ((HE23.out.trans HE4.out).trans HE5.out)) (HF.out.ext (HE4.out.trans HE5.out)) HL0.out).mono ?_; clear HD HF; rintro e w6 ⟨r6, rfl, hr6, he6⟩; have HT := Lib.hid hr6; have HE6 := Lib.hid he6; have HPP := Lib.hid (HP.out.ext (HE5.out.trans HE6.out)); have HQQ := Lib.hid (HQ.out.ext HE6.out); clear hr6 he6)
        | (go_at_call 42; refine (compare_calls _ _ _ _ _ HPP.out HQQ.out (Nat.le_of_lt (Nat.lt_trans HLU.out (by decide)))).mono ?_; rw [← HCM.out]; rintro e w7 ⟨rfl, nq, rfl⟩)
        | (go_at_call 56; refine (less_calls _ _ _ _ _ (HQQ.out.ext ((Ext.refl _).drewN nq)) (HPP.out.ext ((Ext.refl _).drewN nq)) HGE.out (Nat.le_of_lt (Nat.lt_trans HLV.out (by decide)))).mono ?_; rintro e w7 ⟨r7, rfl, hr7, he7⟩; have HCC := Lib.hid hr7; have HE67 := Lib.hid (((Ext.refl _).drewN nq).trans he7); clear hr7 he7)
        | (go_at_call 45; go_loud (refine (reduce_calls _ _ s2 _ _ _ HDN.out HCC.out (HT.out.ext HE67.out) HL3.out HL4.out).mono ?_); rintro e w8 ⟨r8, rfl, hr8, he8⟩; obtain ⟨p8, q8, Ap, rfl⟩ := hr8.shape; have HR := Lib.hid hr8; have HE8 := Lib.hid ((((HE3.out.trans HE4.out).trans HE5.out).trans HE6.out).trans (HE67.out.trans he8)); have HV8 := Lib.hid ((VarR.new3 w _ _).ext HE8.out); clear hr8 he8; obtain ⟨k0, k1, k2, f0, f1, f2⟩ := HV8.out.cells))
      refine ret_rat rfl (w.heap.size + 1 + 1) _ _ _ rfl (putR_row HV8.out p8 q8 Ap) rfl ?_
      exact putR_rat HV8.out HR.out ((Ext.three w _ _ _).trans HE8.out) (by omega)
/-- The contract of Add. -/
theorem add_calls (vx vy : Value) (x y : Rat) (k : Nat) (w : World) (hx : RatAt w x vx) (hy : RatAt w y vy) (hk : k ≤ 1099511627776) (hlx : RL k x) (hly : RL k y) :
    Calls Tryd.prog 34 #[vx, vy] w fun e w' => ∃ r, e = .returned r ∧ RatAt w' (x + y) r ∧ Ext w w' := by
  obtain ⟨p1, q1, A1, rfl⟩ := hx.shape
  obtain ⟨p2, q2, A2, rfl⟩ := hy.shape
  by_cases h : A1 = none ∧ A2 = none
  · obtain ⟨rfl, rfl⟩ := h
    obtain ⟨rfl, h1⟩ := hx.isSmall
    obtain ⟨rfl, h2⟩ := hy.isSmall
    exact add_small x y q1 q2 w h1 h2
  · have hA : A1 ≠ none ∨ A2 ≠ none := Decidable.byCases (fun h1 : A1 = none => .inr (fun h2 => h ⟨h1, h2⟩)) .inl
    cases hs : (decide (x.num < 0) == decide (y.num < 0)) with
    | true => exact add_bigSame x y p1 q1 p2 q2 A1 A2 w k hx hy hA hk hlx hly hs
    | false =>
      rcases Nat.lt_or_ge (x.num.natAbs * y.den) (y.num.natAbs * x.den) with h1 | h1
      · exact add_bigLt x y p1 q1 p2 q2 A1 A2 w k hx hy hA hk hlx hly hs h1
      · exact add_bigGe x y p1 q1 p2 q2 A1 A2 w k hx hy hA hk hlx hly hs h1
end Go.Proofs.YtpgnlpjjpgdoiaaDoor
/- Neg, Sub, Inv, Quo, Int. -/
namespace Go.Proofs.YtpgnlpjjpgdoiaaDoor
open Go Go.RowKit
set_option linter.unusedVariables false
set_option linter.unusedSimpArgs false
theorem heap_alloc3_new (w : World) (A B C : Obj) : (((w.alloc A).alloc B).alloc C).heap[w.heap.size + 1 + 1]? = some C := by
  have h := heap_alloc_new ((w.alloc A).alloc B) C
  rw [size_alloc, size_alloc] at h
  exact h
set_option maxRecDepth 100000 in
set_option maxHeartbeats 1000000 in
/-- The contract of Neg. -/
theorem neg_calls (v : Value) (x : Rat) (w : World) (h : RatAt w x v) :
    Calls Tryd.prog 23 #[v] w fun e w' => ∃ r, e = .returned r ∧ RatAt w' (-x) r ∧ Ext w w' := by
  have en : (-x).num = -x.num := Rat.neg_num x
  have ed : (-x).den = x.den := Rat.neg_den x
  cases h with
  | small q h =>
    have hb := h.num
    have u1 : IntKind.i64.wrap (-x.num) = -x.num := by simp only [IntKind.wrap_i64]; omega
    have HS : Hid (SmallR (-x) q) := Lib.hid ⟨by rw [en]; omega, by rw [ed]; exact h.den, by
      rcases h.q with h1 | ⟨h1, h2, h3⟩
      · left; rw [ed]; exact h1
      · right; rw [en, ed, h2]; exact ⟨h1, rfl, h3⟩⟩
    generalize -x = y at *
    have HEN := Lib.hid en.symm
    clear h hb en ed
    generalize x.num = p at *
    go_enter Tryd.func23, Tryd.ntmps23
    go_wp2
    refine ret_rat rfl (w.heap.size + 1) _ _ _ rfl (heap_alloc2_new w _ _) rfl ?_
    refine ⟨_, rfl, ?_, ((Ext.refl w).alloc _).alloc _⟩
    rw [HEN.out]
    exact .small q HS.out
  | big b o vn vd c0 c1 c2 hn hd hs h3 =>
    have d0 := (((Ext.refl w).alloc (.cells #[.int .i64 0, .int .i64 0, .pointer (some ⟨b, o, none⟩)] 43)).alloc (.cells #[.int .i64 0, .int .i64 0, .pointer none] 43)).cell c0
    have d1 := (((Ext.refl w).alloc (.cells #[.int .i64 0, .int .i64 0, .pointer (some ⟨b, o, none⟩)] 43)).alloc (.cells #[.int .i64 0, .int .i64 0, .pointer none] 43)).cell c1
    have d2 := (((Ext.refl w).alloc (.cells #[.int .i64 0, .int .i64 0, .pointer (some ⟨b, o, none⟩)] 43)).alloc (.cells #[.int .i64 0, .int .i64 0, .pointer none] 43)).cell c2
    have HN := Lib.hid hn
    have HD := Lib.hid hd
    obtain ⟨A1, l1, rfl, hc1, hr1⟩ := hn
    obtain ⟨A2, l2, rfl, hc2, hr2⟩ := hd
    have HX : Hid (IsR (-x) (!decide (x.num < 0)) x.num.natAbs x.den) := Lib.hid ⟨by rw [en]; unfold sgn; by_cases h : x.num < 0 <;> simp [h] <;> omega, ed⟩
    have H0 : Hid (x.num.natAbs ≠ 0) := Lib.hid (by omega)
    have HB := Lib.hid hs
    clear c0 c1 c2 hr1 hr2 hs h3 en ed hc1 hc2
    generalize decide (x.num < 0) = s at *
    generalize -x = y at *
    generalize x.num.natAbs = n at *
    generalize x.den = d at *
    go_enter Tryd.func23, Tryd.ntmps23
    go_wp2
    go_region
    go_wp2
    refine ret_rat rfl (w.heap.size + 1) _ _ _ rfl ((((Ext.refl _).alloc _).drew : Ext ((w.alloc _).alloc _) _).blk (heap_alloc2_new w _ _)) rfl ?_
    exact ⟨_, rfl, big_fin (neg := !s) HX.out ((((Ext.refl _).drew) : Ext (((w.alloc _).alloc _).alloc _) _).blk (heap_alloc3_new w _ _ _)) (HN.out.ext (((((Ext.refl w).alloc _).alloc _).alloc _).drew)) (HD.out.ext (((((Ext.refl w).alloc _).alloc _).alloc _).drew)) H0.out HB.out, ((((Ext.refl w).alloc _).alloc _).alloc _).drew⟩
theorem RL.neg {k : Nat} {x : Rat} (h : RL k x) : RL k (-x) := ⟨by rw [Rat.neg_num, Int.natAbs_neg]; exact h.num, by rw [Rat.neg_den]; exact h.den⟩
set_option maxRecDepth 100000 in
set_option maxHeartbeats 1000000 in
/-- The contract of Sub. -/
theorem sub_calls (vx vy : Value) (x y : Rat) (k : Nat) (w : World) (hx : RatAt w x vx) (hy : RatAt w y vy) (hk : k ≤ 1099511627776) (hlx : RL k x) (hly : RL k y) :
    Calls Tryd.prog 38 #[vx, vy] w fun e w' => ∃ r, e = .returned r ∧ RatAt w' (x - y) r ∧ Ext w w' := by
  have HNG := Lib.hid (fun W he => neg_calls vy y W (hy.ext he) : ∀ W, Ext w W → _)
  have HAD := Lib.hid (fun W v (he : Ext w W) (hv : RatAt W (-y) v) => add_calls vx v x (-y) k W (hx.ext he) hv hk hlx hly.neg)
  obtain ⟨p1, q1, A1, rfl⟩ := hx.shape
  obtain ⟨p2, q2, A2, rfl⟩ := hy.shape
  rw [Rat.sub_eq_add_neg]
  generalize -y = z at *
  clear hx hy hk hlx hly
  go_enter Tryd.func38, Tryd.ntmps38
  go_wp2
  go_region_with (first
    | (go_at_call 23; refine (HNG.out _ (((((Ext.refl w).alloc _).alloc _).alloc _).drew)).mono ?_; clear HNG; rintro e w2 ⟨r2, rfl, hr2, he2⟩; have HR2 := Lib.hid hr2; have HE2 := Lib.hid (((Ext.refl _).drew).trans he2); have HB2 := Lib.hid ((BoxR.new w p1 q1 A1).ext ((((Ext.refl _).alloc _).alloc _).trans HE2.out)); obtain ⟨k0, k1, k2⟩ := HB2.out.cells; clear hr2 he2)
    | (go_at_call 34; refine (HAD.out _ _ ((Ext.three w _ _ _).trans HE2.out) HR2.out).mono ?_; clear HAD; rintro e w3 ⟨r3, rfl, hr3, he3⟩; obtain ⟨p3, q3, Ap, rfl⟩ := hr3.shape; have HR3 := Lib.hid hr3; have HE3 := Lib.hid (HE2.out.trans he3); have HV3 := Lib.hid ((VarR.new3 w _ _).ext HE3.out); clear hr3 he3 k0 k1 k2; obtain ⟨k0, k1, k2, f0, f1, f2⟩ := HV3.out.cells))
  all_goals go_wp2
  all_goals
    refine ret_rat rfl (w.heap.size + 1 + 1) _ _ _ rfl (putR_row HV3.out p3 q3 Ap) rfl ?_
    exact putR_rat HV3.out HR3.out ((Ext.three w _ _ _).trans HE3.out) (by omega)
end Go.Proofs.YtpgnlpjjpgdoiaaDoor
/- Inv, Quo, Int. -/
namespace Go.Proofs.YtpgnlpjjpgdoiaaDoor
open Go Go.RowKit
set_option linter.unusedVariables false
set_option linter.unusedSimpArgs false
theorem inv_num_zero {x : Rat} (h : x.num = 0) : (x⁻¹).num = 0 := by rw [Rat.num_inv, h]; simp
theorem inv_isR {x : Rat} (h : x.num ≠ 0) : IsR x⁻¹ (decide (x.num < 0)) x.den x.num.natAbs := by
  refine ⟨?_, by rw [Rat.den_inv, if_neg h]⟩
  rw [Rat.num_inv]
  unfold sgn
  rcases Int.lt_trichotomy x.num 0 with h0 | h0 | h0
  · rw [Int.sign_eq_neg_one_of_neg h0, decide_eq_true h0]; simp
  · exact absurd h0 h
  · rw [Int.sign_eq_one_of_pos h0, decide_eq_false (by omega)]; simp
theorem RL.inv {k : Nat} {x : Rat} (h : RL k x) (h0 : x.num ≠ 0) : RL k x⁻¹ := by
  have hr := inv_isR h0
  exact ⟨by rw [hr.abs]; exact h.den, by rw [hr.den]; exact h.num⟩
theorem Ext.two (w : World) (O O' : Obj) : Ext w ((w.alloc O).alloc O') := ((Ext.refl w).alloc O).alloc O'
set_option maxRecDepth 100000 in
set_option maxHeartbeats 1000000 in
/-- The contract of Inv. -/
theorem inv_calls (v : Value) (x : Rat) (k : Nat) (w : World) (hx : RatAt w x v) (hk : k ≤ 1099511627776) (hlx : RL k x) :
    Calls Tryd.prog 67 #[v] w fun e w' => ∃ r, e = .returned r ∧ RatAt w' (x⁻¹) r ∧ Ext w w' := by
  have HZ := Lib.hid (fun W he => zero_calls v x W (hx.ext he) : ∀ W, Ext w W → _)
  have HP := Lib.hid (fun W he => parts_calls v x W (hx.ext he) : ∀ W, Ext w W → _)
  obtain ⟨p1, q1, A1, rfl⟩ := hx.shape
  by_cases h0 : x.num = 0
  · have HX : Hid ((x⁻¹).num = 0) := Lib.hid (inv_num_zero h0)
    rw [decide_eq_true h0] at HZ
    generalize x⁻¹ = y at *
    clear hx hlx hk h0 HP
    go_enter Tryd.func67, Tryd.ntmps67
    go_wp2_with (first
      | (go_at_call 47; refine (HZ.out _ (Ext.two w _ _)).mono ?_; clear HZ; rintro e w2 ⟨rfl, he2⟩; have HE2 := Lib.hid he2; have HV2 := Lib.hid ((VarR.new2 w _).ext HE2.out); clear he2; obtain ⟨k0, k1, k2, f0, f1, f2⟩ := HV2.out.cells))
    refine ret_rat rfl (w.heap.size + 1) _ _ _ rfl (putR_row HV2.out 0 0 none) rfl ?_
    exact putR_rat HV2.out (zero_at HX.out) ((Ext.two w _ _).trans HE2.out) (by omega)
  · have HX : Hid (IsR x⁻¹ (decide (x.num < 0)) x.den x.num.natAbs) := Lib.hid (inv_isR h0)
    have HL1 : Hid ((dg W64 x.den).length ≤ 17592186044416) := Lib.hid (by have := hlx.den; omega)
    have HL2 : Hid ((dg W64 x.num.natAbs).length ≤ 17592186044416) := Lib.hid (by have := hlx.num; omega)
    rw [decide_eq_false h0] at HZ
    unfold PartsPost at HP
    generalize decide (x.num < 0) = s at *
    generalize x⁻¹ = y at *
    clear hx hlx hk h0
    go_enter Tryd.func67, Tryd.ntmps67
    go_wp2_with (first
      | (go_at_call 47; refine (HZ.out _ (Ext.two w _ _)).mono ?_; clear HZ; rintro e w2 ⟨rfl, he2⟩; have HE2 := Lib.hid he2; have HB2 := Lib.hid ((BoxR.new w p1 q1 A1).ext ((Ext.one _ _).trans HE2.out)); clear he2; obtain ⟨k0, k1, k2⟩ := HB2.out.cells)
      | (go_at_call 44; refine (HP.out _ ((Ext.two w _ _).trans HE2.out)).mono ?_; clear HP; rintro e w3 ⟨vn, vd, rfl, hn, hd, he3⟩; have HN := Lib.hid hn; have HD := Lib.hid hd; have HE3 := Lib.hid (HE2.out.trans he3); clear he3 hn hd k0 k1 k2)
      | (go_at_call 52; refine (lowest_calls _ _ y s _ _ _ HX.out HD.out HN.out HL1.out HL2.out).mono ?_; rintro e w4 ⟨r4, rfl, hr4, he4⟩; obtain ⟨p4, q4, Ap, rfl⟩ := hr4.shape; have HR := Lib.hid hr4; have HE4 := Lib.hid (HE3.out.trans he4); have HV4 := Lib.hid ((VarR.new2 w _).ext HE4.out); clear hr4 he4; obtain ⟨k0, k1, k2, f0, f1, f2⟩ := HV4.out.cells))
    refine ret_rat rfl (w.heap.size + 1) _ _ _ rfl (putR_row HV4.out p4 q4 Ap) rfl ?_
    exact putR_rat HV4.out HR.out ((Ext.two w _ _).trans HE4.out) (by omega)
theorem div_num_zero {x y : Rat} (h : y.num = 0) : (x / y).num = 0 := by
  rw [Rat.div_def, Rat.mul_def', Rat.num_mkRat, inv_num_zero h]; simp
set_option maxRecDepth 100000 in
set_option maxHeartbeats 1000000 in
/-- The contract of Quo. -/
theorem quo_calls (vx vy : Value) (x y : Rat) (k : Nat) (w : World) (hx : RatAt w x vx) (hy : RatAt w y vy) (hk : k ≤ 1099511627776) (hlx : RL k x) (hly : RL k y) :
    Calls Tryd.prog 48 #[vx, vy] w fun e w' => ∃ r, e = .returned r ∧ RatAt w' (x / y) r ∧ Ext w w' := by
  have HZ := Lib.hid (fun W he => zero_calls vy y W (hy.ext he) : ∀ W, Ext w W → _)
  by_cases h0 : y.num = 0
  · have HX : Hid ((x / y).num = 0) := Lib.hid (div_num_zero h0)
    rw [decide_eq_true h0] at HZ
    obtain ⟨p1, q1, A1, rfl⟩ := hx.shape
    obtain ⟨p2, q2, A2, rfl⟩ := hy.shape
    generalize x / y = z at *
    clear hx hy hlx hly hk h0
    go_enter Tryd.func48, Tryd.ntmps48
    go_wp2_with (first
      | (go_at_call 47; refine (HZ.out _ (Ext.three w _ _ _)).mono ?_; clear HZ; rintro e w2 ⟨rfl, he2⟩; have HE2 := Lib.hid he2; have HV2 := Lib.hid ((VarR.new3 w _ _).ext HE2.out); clear he2; obtain ⟨k0, k1, k2, f0, f1, f2⟩ := HV2.out.cells))
    refine ret_rat rfl (w.heap.size + 1 + 1) _ _ _ rfl (putR_row HV2.out 0 0 none) rfl ?_
    exact putR_rat HV2.out (zero_at HX.out) ((Ext.three w _ _ _).trans HE2.out) (by omega)
  · rw [decide_eq_false h0] at HZ
    have HIN := Lib.hid (fun W he => inv_calls vy y k W (hy.ext he) hk hly : ∀ W, Ext w W → _)
    have HMU := Lib.hid (fun W v (he : Ext w W) (hv : RatAt W (y⁻¹) v) => mul_calls vx v x (y⁻¹) k W (hx.ext he) hv hk hlx (hly.inv h0))
    obtain ⟨p1, q1, A1, rfl⟩ := hx.shape
    obtain ⟨p2, q2, A2, rfl⟩ := hy.shape
    rw [Rat.div_def]
    generalize y⁻¹ = z at *
    clear hx hy hk hlx hly h0
    go_enter Tryd.func48, Tryd.ntmps48
    go_wp2_with (first
      | (go_at_call 47; refine (HZ.out _ (Ext.three w _ _ _)).mono ?_; clear HZ; rintro e w2 ⟨rfl, he2⟩; have HE2 := Lib.hid he2; have HB1 := Lib.hid ((BoxR.new w p1 q1 A1).ext ((Ext.two _ _ _).trans HE2.out)); have HB2 := Lib.hid ((BoxR.new2 w _ p2 q2 A2).ext ((Ext.one _ _).trans HE2.out)); clear he2; obtain ⟨k0, k1, k2⟩ := HB2.out.cells; obtain ⟨j0, j1, j2⟩ := HB1.out.cells))
    go_region_with (first
      | (go_at_call 67; refine (HIN.out _ ((Ext.three w _ _ _).trans HE2.out.drew)).mono ?_; clear HIN; rintro e w3 ⟨r3, rfl, hr3, he3⟩; have HR3 := Lib.hid hr3; have HE3 := Lib.hid (HE2.out.trans (((Ext.refl _).drew).trans he3)); have HB3 := Lib.hid (HB1.out.ext (((Ext.refl _).drew).trans he3)); clear k0 k1 k2 j0 j1 j2; obtain ⟨k0, k1, k2⟩ := HB3.out.cells; clear hr3 he3)
      | (go_at_call 25; refine (HMU.out _ _ ((Ext.three w _ _ _).trans HE3.out) HR3.out).mono ?_; clear HMU; rintro e w4 ⟨r4, rfl, hr4, he4⟩; obtain ⟨p4, q4, Ap, rfl⟩ := hr4.shape; have HR4 := Lib.hid hr4; have HE4 := Lib.hid (HE3.out.trans he4); have HV4 := Lib.hid ((VarR.new3 w _ _).ext HE4.out); clear hr4 he4 k0 k1 k2; obtain ⟨k0, k1, k2, f0, f1, f2⟩ := HV4.out.cells))
    all_goals go_wp2
    all_goals
      refine ret_rat rfl (w.heap.size + 1 + 1) _ _ _ rfl (putR_row HV4.out p4 q4 Ap) rfl ?_
      exact putR_rat HV4.out HR4.out ((Ext.three w _ _ _).trans HE4.out) (by omega)
end Go.Proofs.YtpgnlpjjpgdoiaaDoor
/- Int; plain. -/
namespace Go.Proofs.YtpgnlpjjpgdoiaaDoor
open Go Go.RowKit
set_option linter.unusedVariables false
set_option linter.unusedSimpArgs false
set_option maxRecDepth 100000 in
/-- The contract of Int for small numbers. -/
theorem int_calls (n : Int) (w : World) (h1 : -2147483648 < n) (h2 : n < 2147483648) :
    Calls Tryd.prog 33 #[.int .i64 n] w fun e w' => ∃ r, e = .returned r ∧ RatAt w' (n : Rat) r ∧ Ext w w' := by
  have HS : Hid (SmallR (n : Rat) 1) := Lib.hid ⟨by rw [Rat.num_intCast]; omega, by rw [Rat.den_intCast]; decide, .inl (by rw [Rat.den_intCast]; rfl)⟩
  have HN : Hid (n = ((n : Int) : Rat).num) := Lib.hid (Rat.num_intCast n).symm
  generalize ((n : Int) : Rat) = x at *
  have d1 : decide (-2147483648 < n) = true := decide_eq_true h1
  have d2 : decide (n < 2147483648) = true := decide_eq_true h2
  clear h1 h2
  go_enter Tryd.func33, Tryd.ntmps33
  go_wp2
  refine ret_rat rfl w.heap.size _ _ _ rfl (heap_alloc_new w _) rfl ?_
  refine ⟨_, rfl, ?_, (Ext.refl w).alloc _⟩
  rw [HN.out]
  exact .small 1 HS.out
end Go.Proofs.YtpgnlpjjpgdoiaaDoor
/- plain: a natural number's text. -/
namespace Go.Proofs.YtpgnlpjjpgdoiaaDoor
open Go Go.RowKit
set_option linter.unusedVariables false
set_option linter.unusedSimpArgs false
def isD (b : UInt8) : Bool := decide (48 ≤ b.toNat) && decide (b.toNat ≤ 57)
/-- A natural number without leading zeros. -/
def plainB (l : List UInt8) : Bool := (!l.isEmpty && !(l.head? == some 48 && decide (1 < l.length))) && l.all isD
theorem get_list (s : ByteArray) (k : Nat) (h : k < s.size) : s.data.toList[k]'(by rw [Array.length_toList]; exact h) = s[k] := rfl
theorem all_snoc (s : ByteArray) (k : Nat) (h : k < s.size) : (s.data.toList.take (k + 1)).all isD = ((s.data.toList.take k).all isD && isD s[k]) := by
  rw [List.take_succ_eq_append_getElem (by rw [Array.length_toList]; exact h), List.all_append]
  simp [get_list s k h]
theorem plain_bad (s : ByteArray) (k : Nat) (h : k < s.size) (hb : isD s[k] = false) : plainB s.data.toList = false := by
  unfold plainB
  have : s.data.toList.all isD = false := by
    rw [List.all_eq_false]
    exact ⟨s[k], by rw [← get_list s k h]; exact List.getElem_mem _, by rw [hb]; decide⟩
  rw [this, Bool.and_false]
theorem list_cons (s : ByteArray) (h : 0 < s.size) : s.data.toList.isEmpty = false ∧ s.data.toList.head? = some s[0] ∧ s.data.toList.length = s.size := by
  refine ⟨?_, ?_, Array.length_toList⟩
  · rw [List.isEmpty_eq_false_iff]; intro e; have := congrArg List.length e; rw [Array.length_toList] at this; simp at this; have h2 : s.size = s.data.size := rfl; rw [h2, this] at h; simp at h
  · rw [List.head?_eq_getElem?, List.getElem?_eq_getElem (by rw [Array.length_toList]; exact h)]; rfl
theorem empty_iff (s : ByteArray) : s.toList.isEmpty = s.data.toList.isEmpty := by rw [ByteArray.toList_eq]
set_option maxRecDepth 100000 in
theorem plain_calls (s : ByteArray) (w : World) (hs : s.size ≤ 1099511627776) :
    Calls Tryd.prog 49 #[.string s] w fun e w' => e = .returned (.bool (plainB s.data.toList)) ∧ w = w' := by
  by_cases h0 : s.size = 0
  · have he : s.data.toList = [] := List.eq_nil_of_length_eq_zero (by rw [Array.length_toList]; exact h0)
    obtain rfl : s = ⟨#[]⟩ := by
      obtain ⟨⟨l⟩⟩ := s
      exact congrArg (fun x => ByteArray.mk (Array.mk x)) he
    have HP : Hid (plainB (⟨#[]⟩ : ByteArray).data.toList = false) := Lib.hid rfl
    clear he h0
    go_enter Tryd.func49, Tryd.ntmps49
    go_wp2
    go_ret
    exact ⟨by rw [HP.out]; rfl, rfl⟩
  have hp : 0 < s.size := by omega
  obtain ⟨l1, l2, l3⟩ := list_cons s hp
  have e1 : s.toList.isEmpty = false := by rw [empty_iff]; exact l1
  have e2 : ¬ s.toList = [] := by intro e; rw [e] at e1; simp at e1
  by_cases h48 : s[0].toNat = 48
  · have t48 : (((s[0].toNat : Nat) : Int) == 48) = true := by rw [beq_iff_eq]; omega
    have h48' : s[0] = 48 := UInt8.toNat_inj.mp h48
    by_cases hl : 1 < s.size
    · have HP : Hid (plainB s.data.toList = false) := Lib.hid (by unfold plainB; rw [l1, l2, l3, h48', decide_eq_true hl]; rfl)
      clear l1 l2 l3 h48 h48' h0
      go_enter Tryd.func49, Tryd.ntmps49
      go_wp2
      go_ret
      exact ⟨by rw [HP.out]; rfl, rfl⟩
    · have HHEAD : Hid ((!s.data.toList.isEmpty && !(s.data.toList.head? == some 48 && decide (1 < s.data.toList.length))) = true) := Lib.hid (by rw [l1, l2, l3, decide_eq_false hl]; simp)
      clear l1 l2 l3 h48 h48' h0
      go_enter Tryd.func49, Tryd.ntmps49
      go_wp2
      go_loop [3, 18] (fun _ i => ∃ k : Nat, k ≤ s.size ∧ i = .int .i64 (k : Int) ∧ Hid ((s.data.toList.take k).all isD = true)) (fun _ i => s.size - (intOf i).toNat)
      case atStart => exact ⟨0, by omega, rfl, Lib.hid rfl⟩
      case round =>
        obtain ⟨k, hk, rfl, HA⟩ := hrel
        by_cases hlt : k < s.size
        · have HSN := Lib.hid (all_snoc s k hlt)
          by_cases hd1 : s[k].toNat < 48
          · have d1 : decide (((s[k].toNat : Nat) : Int) < 48) = true := decide_eq_true (by omega)
            have HB : Hid (plainB s.data.toList = false) := Lib.hid (plain_bad s k hlt (by unfold isD; simp; omega))
            clear hd1
            go_wp2
            go_ret
            exact ⟨by rw [HB.out]; rfl, rfl⟩
          · have d1 : decide (((s[k].toNat : Nat) : Int) < 48) = false := decide_eq_false (by omega)
            by_cases hd2 : 57 < s[k].toNat
            · have d2 : decide ((57 : Int) < ((s[k].toNat : Nat) : Int)) = true := decide_eq_true (by omega)
              have HB : Hid (plainB s.data.toList = false) := Lib.hid (plain_bad s k hlt (by unfold isD; simp; omega))
              clear hd1 hd2
              go_wp2
              go_ret
              exact ⟨by rw [HB.out]; rfl, rfl⟩
            · have d2 : decide ((57 : Int) < ((s[k].toNat : Nat) : Int)) = false := decide_eq_false (by omega)
              have HD : Hid (isD s[k] = true) := Lib.hid (by unfold isD; simp; omega)
              clear hd1 hd2
              go_wp2
              go_round
              case rel => exact ⟨k + 1, by omega, by go_num, Lib.hid (by rw [HSN.out, HA.out, HD.out]; rfl)⟩
              case measure => simp [intOf]; omega
        · have hks : k = s.size := by omega
          have HR : Hid (plainB s.data.toList = true) := Lib.hid (by
            have h := HA.out
            rw [hks, List.take_of_length_le (by rw [Array.length_toList]; exact Nat.le_refl _)] at h
            unfold plainB
            rw [h, HHEAD.out]; rfl)
          go_wp2
          go_ret
          exact ⟨by rw [HR.out]; rfl, rfl⟩
  · have t48 : (((s[0].toNat : Nat) : Int) == 48) = false := by rw [beq_eq_false_iff_ne]; omega
    have h48' : (some s[0] == some (48 : UInt8)) = false := by rw [beq_eq_false_iff_ne]; intro h; injection h with h; rw [h] at h48; exact h48 rfl
    have HHEAD : Hid ((!s.data.toList.isEmpty && !(s.data.toList.head? == some 48 && decide (1 < s.data.toList.length))) = true) := Lib.hid (by rw [l1, l2, h48']; rfl)
    clear l1 l2 l3 h48 h48' h0
    go_enter Tryd.func49, Tryd.ntmps49
    go_wp2
    go_loop [3, 18] (fun _ i => ∃ k : Nat, k ≤ s.size ∧ i = .int .i64 (k : Int) ∧ Hid ((s.data.toList.take k).all isD = true)) (fun _ i => s.size - (intOf i).toNat)
    case atStart => exact ⟨0, by omega, rfl, Lib.hid rfl⟩
    case round =>
      obtain ⟨k, hk, rfl, HA⟩ := hrel
      by_cases hlt : k < s.size
      · have HSN := Lib.hid (all_snoc s k hlt)
        by_cases hd1 : s[k].toNat < 48
        · have d1 : decide (((s[k].toNat : Nat) : Int) < 48) = true := decide_eq_true (by omega)
          have HB : Hid (plainB s.data.toList = false) := Lib.hid (plain_bad s k hlt (by unfold isD; simp; omega))
          clear hd1
          go_wp2
          go_ret
          exact ⟨by rw [HB.out]; rfl, rfl⟩
        · have d1 : decide (((s[k].toNat : Nat) : Int) < 48) = false := decide_eq_false (by omega)
          by_cases hd2 : 57 < s[k].toNat
          · have d2 : decide ((57 : Int) < ((s[k].toNat : Nat) : Int)) = true := decide_eq_true (by omega)
            have HB : Hid (plainB s.data.toList = false) := Lib.hid (plain_bad s k hlt (by unfold isD; simp; omega))
            clear hd1 hd2
            go_wp2
            go_ret
            exact ⟨by rw [HB.out]; rfl, rfl⟩
          · have d2 : decide ((57 : Int) < ((s[k].toNat : Nat) : Int)) = false := decide_eq_false (by omega)
            have HD : Hid (isD s[k] = true) := Lib.hid (by unfold isD; simp; omega)
            clear hd1 hd2
            go_wp2
            go_round
            case rel => exact ⟨k + 1, by omega, by go_num, Lib.hid (by rw [HSN.out, HA.out, HD.out]; rfl)⟩
            case measure => simp [intOf]; omega
      · have hks : k = s.size := by omega
        have HR : Hid (plainB s.data.toList = true) := Lib.hid (by
          have h := HA.out
          rw [hks, List.take_of_length_le (by rw [Array.length_toList]; exact Nat.le_refl _)] at h
          unfold plainB
          rw [h, HHEAD.out]; rfl)
        go_wp2
        go_ret
        exact ⟨by rw [HR.out]; rfl, rfl⟩
end Go.Proofs.YtpgnlpjjpgdoiaaDoor
/- digits: a text's number. -/
namespace Go.Proofs.YtpgnlpjjpgdoiaaDoor
open Go Go.RowKit
set_option linter.unusedVariables false
set_option linter.unusedSimpArgs false
/-- The number that digits stand for. -/
def valD (l : List UInt8) : Nat := l.foldl (fun a b => 10 * a + (b.toNat - 48)) 0
theorem valD_snoc (l : List UInt8) (b : UInt8) : valD (l ++ [b]) = 10 * valD l + (b.toNat - 48) := by
  unfold valD; rw [List.foldl_append]; rfl
theorem valD_fold (l : List UInt8) : ∀ a : Nat, l.foldl (fun a b => 10 * a + (b.toNat - 48)) a = a * 10 ^ l.length + valD l := by
  induction l with
  | nil => intro a; simp [valD]
  | cons b l ih =>
    intro a
    have e : valD (b :: l) = (10 * 0 + (b.toNat - 48)) * 10 ^ l.length + valD l := by rw [← ih]; rfl
    rw [e, List.foldl_cons, ih, List.length_cons, Nat.pow_succ, Nat.mul_zero, Nat.zero_add, Nat.add_mul]
    generalize 10 ^ l.length = P
    rw [show 10 * a * P = a * (P * 10) from by rw [Nat.mul_comm 10 a, Nat.mul_assoc, Nat.mul_comm 10 P]]
    omega
theorem valD_cons (b : UInt8) (l : List UInt8) : valD (b :: l) = (b.toNat - 48) * 10 ^ l.length + valD l := by
  have e : valD (b :: l) = (10 * 0 + (b.toNat - 48)) * 10 ^ l.length + valD l := by rw [← valD_fold]; rfl
  rw [e, Nat.mul_zero, Nat.zero_add]
theorem valD_append (l m : List UInt8) : valD (l ++ m) = valD l * 10 ^ m.length + valD m := by
  rw [← valD_fold]; unfold valD; rw [List.foldl_append]
theorem isD_bnd {b : UInt8} (h : isD b = true) : 48 ≤ b.toNat ∧ b.toNat ≤ 57 := by
  unfold isD at h; simpa using h
theorem valD_lt (l : List UInt8) (h : l.all isD = true) : valD l < 10 ^ l.length := by
  induction l with
  | nil => simp [valD]
  | cons b l ih =>
    rw [List.all_cons, Bool.and_eq_true] at h
    have h1 := ih h.2
    have h2 := isD_bnd h.1
    rw [valD_cons, List.length_cons, Nat.pow_succ]
    have h3 : (b.toNat - 48) * 10 ^ l.length ≤ 9 * 10 ^ l.length := Nat.mul_le_mul_right _ (by omega)
    generalize 10 ^ l.length = P at *
    omega
theorem all_at {s : ByteArray} (h : s.data.toList.all isD = true) (k : Nat) (hk : k < s.size) : isD s[k] = true := by
  rw [List.all_eq_true] at h
  exact h _ (by rw [← get_list s k hk]; exact List.getElem_mem _)
theorem valD_take (s : ByteArray) (k : Nat) (h : k < s.size) : valD (s.data.toList.take (k + 1)) = 10 * valD (s.data.toList.take k) + (s[k].toNat - 48) := by
  rw [List.take_succ_eq_append_getElem (by rw [Array.length_toList]; exact h), valD_snoc, get_list s k h]
theorem drop_list (T : ByteArray) (k : Nat) : (T.extract k T.size).data.toList = T.data.toList.drop k := by
  rw [ByteArray.data_extract, Array.toList_extract, List.extract_eq_take_drop]
  rw [List.take_of_length_le]
  rw [List.length_drop, Array.length_toList]
  exact Nat.le_refl _
theorem drop_size (T : ByteArray) (k : Nat) : (T.extract k T.size).size = T.size - k := by
  have h := congrArg List.length (drop_list T k)
  rw [List.length_drop, Array.length_toList, Array.length_toList] at h
  exact h
/-- One chunk of digits. -/
theorem dig_next {T : ByteArray} {n m x k V : Nat} (hk : k ≤ T.size) (hn : T.size ≤ n) (hm : m < 10 ^ (n - T.size)) (hx : x = valD (T.data.toList.take k)) (hd : T.data.toList.all isD = true) (hmk : m * 10000000000000000000 = m * 10 ^ k) (h : m * 10 ^ T.size + valD T.data.toList = V) :
    m * 10000000000000000000 + x < 10 ^ (n - (T.extract k T.size).size) ∧ (m * 10000000000000000000 + x) * 10 ^ (T.extract k T.size).size + valD (T.extract k T.size).data.toList = V := by
  have hl : (T.data.toList.take k).length = k := by rw [List.length_take, Array.length_toList]; exact Nat.min_eq_left hk
  have hl2 : (T.data.toList.drop k).length = T.size - k := by rw [List.length_drop, Array.length_toList]; rfl
  rw [drop_size, drop_list, hmk]
  constructor
  · have h1 : x < 10 ^ k := by
      have := valD_lt (T.data.toList.take k) (by rw [List.all_eq_true] at *; exact fun y hy => hd y (List.mem_of_mem_take hy))
      rw [hl, ← hx] at this; exact this
    rw [show n - (T.size - k) = (n - T.size) + k by omega, Nat.pow_add]
    have h2 : (m + 1) * 10 ^ k ≤ 10 ^ (n - T.size) * 10 ^ k := Nat.mul_le_mul_right _ hm
    rw [Nat.add_mul] at h2
    omega
  · have h1 := valD_append (T.data.toList.take k) (T.data.toList.drop k)
    rw [List.take_append_drop, hl2, ← hx] at h1
    rw [← h, h1, Nat.add_mul, Nat.mul_assoc, ← Nat.pow_add, show k + (T.size - k) = T.size by omega]
    omega
end Go.Proofs.YtpgnlpjjpgdoiaaDoor
/- digits: the walk. -/
namespace Go.Proofs.YtpgnlpjjpgdoiaaDoor
open Go Go.RowKit
set_option linter.unusedVariables false
set_option linter.unusedSimpArgs false
theorem all_take {l : List UInt8} (h : l.all isD = true) (k : Nat) : (l.take k).all isD = true := by
  rw [List.all_eq_true] at *
  exact fun x hx => h x (List.mem_of_mem_take hx)
theorem all_drop {l : List UInt8} (h : l.all isD = true) (k : Nat) : (l.drop k).all isD = true := by
  rw [List.all_eq_true] at *
  exact fun x hx => h x (List.mem_of_mem_drop hx)
theorem len_of_ten {m j k : Nat} (h : m < 10 ^ j) (hj : j ≤ k) : (dg W64 m).length ≤ k := by
  apply dg_length_le W64_two
  exact Nat.lt_of_lt_of_le h (Nat.le_trans (Nat.pow_le_pow_left (by decide) j) (Nat.pow_le_pow_right W64_pos hj))
theorem ten_at (w : World) : NatAt (w.alloc (.cells #[.int .u64 10000000000000000000] 76)) (.slice (some ⟨w.heap.size, 0, none⟩) 1 1) 10000000000000000000 :=
  NatAt.one (x := 10000000000000000000) (by rw [cell_of_row _ _ _ _ _ _ (heap_alloc_new w _)]; rfl) (by decide) (by decide)
set_option maxRecDepth 100000 in
set_option maxHeartbeats 2000000 in
theorem digits_calls (s : ByteArray) (w : World) (hs : s.size ≤ 1099511627776) (hd : s.data.toList.all isD = true) :
    Calls Tryd.prog 50 #[.string s] w fun e w' => ∃ r, e = .returned r ∧ NatAt w' r (valD s.data.toList) ∧ Ext w w' := by
  have HD := Lib.hid hd
  have HS := Lib.hid hs
  clear hd hs
  go_enter Tryd.func50, Tryd.ntmps50
  go_wp2
  go_loopg [0, 3, 4, 5, 6] s.size (fun g t o _ _ _ wr => ∃ (T : ByteArray) (m : Nat), g = T.size ∧ t = .string T ∧ Hid (NatAt wr o m) ∧ Hid (T.size ≤ s.size) ∧ Hid (T.data.toList.all isD = true) ∧ Hid (m = 0 ∨ T.size % 19 = 0) ∧ Hid (m < 10 ^ (s.size - T.size)) ∧ Hid (m * 10 ^ T.size + valD T.data.toList = valD s.data.toList) ∧ Hid (Ext w wr))
  case atStart => exact ⟨s, 0, rfl, rfl, Lib.hid (NatAt.zero _), Lib.hid (Nat.le_refl _), HD, Lib.hid (.inl rfl), Lib.hid (by simp), Lib.hid (by simp), Lib.hid (Ext.refl _)⟩
  case round =>
    obtain ⟨T, m, hgk, rfl, HO, HTS, HTD, HM0, HM, HV, HE⟩ := hrel
    have HGK := Lib.hid hgk
    clear hgk
    by_cases hT : T.size = 0
    · have t0 : decide ((0 : Int) < ((T.size : Nat) : Int)) = false := decide_eq_false (by omega)
      have HR : Hid (m = valD s.data.toList) := Lib.hid (by
        have h := HV.out
        have he : T.data.toList = [] := List.eq_nil_of_length_eq_zero (by rw [Array.length_toList]; exact hT)
        rw [hT, he] at h
        simpa [valD] using h)
      go_wp2
      go_ret
      exact ⟨_, rfl, by rw [← HR.out]; exact HO.out, HE.out⟩
    · have hT1 : 0 < T.size := by omega
      have t0 : decide ((0 : Int) < ((T.size : Nat) : Int)) = true := decide_eq_true (by omega)
      obtain ⟨r, hr⟩ : ∃ r, r = T.size % 19 := ⟨_, rfl⟩
      have q1 : ((T.size : Nat) : Int).tmod 19 = ((r : Nat) : Int) := by rw [hr]; exact (Int.ofNat_tmod T.size 19).symm
      by_cases hr0 : r = 0
      · subst hr0
        have HKS : Hid (19 ≤ T.size) := Lib.hid (by omega)
        have HMOD : Hid ((T.size - 19) % 19 = 0) := Lib.hid (by omega)
        clear hr hT
        have HK19 : Hid (19 ≤ 19) := Lib.hid (Nat.le_refl _)
        have HKP : Hid (0 < 19) := Lib.hid (by decide)
        have HMK : Hid (m * 10000000000000000000 = m * 10 ^ 19) := Lib.hid (by rfl)
        go_wp2
        go_loop [5, 6, 16] (fun v _ i => ∃ j x : Nat, j ≤ 19 ∧ i = .int .i64 (j : Int) ∧ v = .int .u64 (x : Int) ∧ Hid (x = valD (T.data.toList.take j)))
          (fun _ _ i => 19 - (intOf i).toNat)
        case atStart => exact ⟨0, 0, by omega, rfl, rfl, Lib.hid rfl⟩
        case round =>
          obtain ⟨j, x, hj, rfl, rfl, HXV⟩ := hrel
          by_cases hjt : j < 19
          · have hjT : j < T.size := Nat.lt_of_lt_of_le hjt HKS.out
            have h19 : j < 19 := Nat.lt_of_lt_of_le hjt HK19.out
            obtain ⟨n1, n2⟩ := isD_bnd (all_at HTD.out j hjT)
            obtain ⟨b, hb⟩ : ∃ b, b = T[j].toNat := ⟨_, rfl⟩
            have hxl : x < 10 ^ 18 := by
              have h1 := valD_lt (T.data.toList.take j) (all_take HTD.out j)
              rw [← HXV.out, List.length_take, Nat.min_eq_left (by rw [Array.length_toList]; exact Nat.le_of_lt hjT)] at h1
              exact Nat.lt_of_lt_of_le h1 (Nat.pow_le_pow_right (by decide) (by have := HK19.out; omega))
            obtain ⟨c, hc⟩ : ∃ c, c = b - 48 := ⟨_, rfl⟩
            rw [← hb] at n1 n2
            obtain ⟨x', hx'⟩ : ∃ x', x' = 10 * x + c := ⟨_, rfl⟩
            have p1 : IntKind.u64.wrap (10 * ((x : Nat) : Int)) = 10 * ((x : Nat) : Int) := by simp only [IntKind.wrap_u64]; omega
            have p2 : IntKind.u8.wrap (((b : Nat) : Int) - 48) = ((c : Nat) : Int) := by simp only [IntKind.wrap_u8]; omega
            have p3 : IntKind.u64.wrap ((c : Nat) : Int) = ((c : Nat) : Int) := by simp only [IntKind.wrap_u64]; omega
            have p4 : IntKind.u64.wrap (10 * ((x : Nat) : Int) + ((c : Nat) : Int)) = ((x' : Nat) : Int) := by simp only [IntKind.wrap_u64]; omega
            have HX' : Hid (x' = valD (T.data.toList.take (j + 1))) := Lib.hid (by rw [valD_take T j hjT, ← HXV.out, ← hb, ← hc]; exact hx')
            have hb' : T[j].toNat = b := hb.symm
            clear n1 n2 hxl hc hx' hb
            go_wp2
            go_round
            case rel => exact ⟨j + 1, x', by omega, by go_num, rfl, HX'⟩
            case measure => simp [intOf]; omega
          · have hjk : 19 = j := by omega
            subst hjk
            have HXW : Hid (x < W64) := Lib.hid (by
              have h1 := valD_lt (T.data.toList.take 19) (all_take HTD.out _)
              rw [← HXV.out, List.length_take, Nat.min_eq_left (by rw [Array.length_toList]; exact HKS.out)] at h1
              have h2 : 10 ^ 19 ≤ 10 ^ 19 := Nat.pow_le_pow_right (by decide) HK19.out
              unfold W64
              omega)
            have HML : Hid ((dg W64 m).length ≤ 1099511627776) := Lib.hid (len_of_ten HM.out (by have := HS.out; omega))
            have HTL : Hid ((dg W64 10000000000000000000).length = 1) := Lib.hid (by rw [dg_small W64_two (by decide) (by decide)]; rfl)
            have HPL : Hid ((dg W64 (m * 10000000000000000000)).length ≤ 1099511627777) := Lib.hid (prod_len HML.out (Nat.le_of_eq HTL.out))
            have dk1 : 19 ≤ T.size := HKS.out
            have dk2 : (19 : Int) ≤ ((T.size : Nat) : Int) := by omega
            go_wp2_with (first
              | (go_at_call 46; refine (product_calls _ _ m 10000000000000000000 _ (HO.out.ext ((Ext.refl _).alloc _)) (ten_at _) (by have := HML.out; have := HTL.out; omega)).mono ?_; rintro e w2 ⟨r2, rfl, hr2, he2⟩; have HP := Lib.hid hr2; have HE2 := Lib.hid he2; clear hr2 he2)
              | (go_at_call 53; refine (word_calls x _ HXW.out).mono ?_; rintro e w3 ⟨r3, rfl, hr3, he3⟩; have HW := Lib.hid hr3; have HE3 := Lib.hid he3; clear hr3 he3)
              | (go_at_call 55; refine (sum_calls _ _ _ _ _ (HP.out.ext HE3.out) HW.out (by have := HPL.out; omega) (by have := dg_length_le (B := W64) (n := x) (k := 1) W64_two (by rw [Nat.pow_one]; exact HXW.out); omega)).mono ?_; rintro e w4 ⟨r4, rfl, hr4, he4⟩; have HSM := Lib.hid hr4; have HE4 := Lib.hid he4; clear hr4 he4))
            have hnx := dig_next HKS.out HTS.out HM.out HXV.out HTD.out (by first | exact HMK.out | rfl) HV.out
            have hsz := drop_size T 19
            go_roundg (T.extract 19 T.size).size
            case measure => rw [HGK.out, hsz]; have := HKP.out; have := HKS.out; omega
            case rel => exact ⟨T.extract 19 T.size, _, rfl, rfl, HSM, Lib.hid (by rw [hsz]; have := HTS.out; omega), Lib.hid (by rw [drop_list]; exact all_drop HTD.out _), Lib.hid (.inr (by rw [hsz]; exact HMOD.out)), Lib.hid hnx.1, Lib.hid hnx.2, Lib.hid (((HE.out.alloc _).trans HE2.out).trans (HE3.out.trans HE4.out))⟩
      · have t1 : (((r : Nat) : Int) == 0) = false := by rw [beq_eq_false_iff_ne]; omega
        have HKS : Hid (r ≤ T.size) := Lib.hid (by rw [hr]; exact Nat.mod_le _ _)
        have HK19 : Hid (r ≤ 19) := Lib.hid (by rw [hr]; exact Nat.le_of_lt (Nat.mod_lt _ (by decide)))
        have HKP : Hid (0 < r) := Lib.hid (Nat.pos_of_ne_zero hr0)
        have HMK : Hid (m * 10000000000000000000 = m * 10 ^ r) := Lib.hid (by
          rcases HM0.out with h | h
          · rw [h, Nat.zero_mul, Nat.zero_mul]
          · exact absurd (hr.trans h) hr0)
        have HMOD : Hid ((T.size - r) % 19 = 0) := Lib.hid (by rw [hr]; exact Nat.sub_mod_eq_zero_of_mod_eq (Nat.mod_mod _ _).symm)
        clear hr hT hr0
        go_wp2
        go_loop [5, 6, 16] (fun v _ i => ∃ j x : Nat, j ≤ r ∧ i = .int .i64 (j : Int) ∧ v = .int .u64 (x : Int) ∧ Hid (x = valD (T.data.toList.take j)))
          (fun _ _ i => r - (intOf i).toNat)
        case atStart => exact ⟨0, 0, by omega, rfl, rfl, Lib.hid rfl⟩
        case round =>
          obtain ⟨j, x, hj, rfl, rfl, HXV⟩ := hrel
          by_cases hjt : j < r
          · have hjT : j < T.size := Nat.lt_of_lt_of_le hjt HKS.out
            have h19 : j < 19 := Nat.lt_of_lt_of_le hjt HK19.out
            obtain ⟨n1, n2⟩ := isD_bnd (all_at HTD.out j hjT)
            obtain ⟨b, hb⟩ : ∃ b, b = T[j].toNat := ⟨_, rfl⟩
            have hxl : x < 10 ^ 18 := by
              have h1 := valD_lt (T.data.toList.take j) (all_take HTD.out j)
              rw [← HXV.out, List.length_take, Nat.min_eq_left (by rw [Array.length_toList]; exact Nat.le_of_lt hjT)] at h1
              exact Nat.lt_of_lt_of_le h1 (Nat.pow_le_pow_right (by decide) (by have := HK19.out; omega))
            obtain ⟨c, hc⟩ : ∃ c, c = b - 48 := ⟨_, rfl⟩
            rw [← hb] at n1 n2
            obtain ⟨x', hx'⟩ : ∃ x', x' = 10 * x + c := ⟨_, rfl⟩
            have p1 : IntKind.u64.wrap (10 * ((x : Nat) : Int)) = 10 * ((x : Nat) : Int) := by simp only [IntKind.wrap_u64]; omega
            have p2 : IntKind.u8.wrap (((b : Nat) : Int) - 48) = ((c : Nat) : Int) := by simp only [IntKind.wrap_u8]; omega
            have p3 : IntKind.u64.wrap ((c : Nat) : Int) = ((c : Nat) : Int) := by simp only [IntKind.wrap_u64]; omega
            have p4 : IntKind.u64.wrap (10 * ((x : Nat) : Int) + ((c : Nat) : Int)) = ((x' : Nat) : Int) := by simp only [IntKind.wrap_u64]; omega
            have HX' : Hid (x' = valD (T.data.toList.take (j + 1))) := Lib.hid (by rw [valD_take T j hjT, ← HXV.out, ← hb, ← hc]; exact hx')
            have hb' : T[j].toNat = b := hb.symm
            clear n1 n2 hxl hc hx' hb
            go_wp2
            go_round
            case rel => exact ⟨j + 1, x', by omega, by go_num, rfl, HX'⟩
            case measure => simp [intOf]; omega
          · have hjk : r = j := by omega
            subst hjk
            have HXW : Hid (x < W64) := Lib.hid (by
              have h1 := valD_lt (T.data.toList.take r) (all_take HTD.out _)
              rw [← HXV.out, List.length_take, Nat.min_eq_left (by rw [Array.length_toList]; exact HKS.out)] at h1
              have h2 : 10 ^ r ≤ 10 ^ 19 := Nat.pow_le_pow_right (by decide) HK19.out
              unfold W64
              omega)
            have HML : Hid ((dg W64 m).length ≤ 1099511627776) := Lib.hid (len_of_ten HM.out (by have := HS.out; omega))
            have HTL : Hid ((dg W64 10000000000000000000).length = 1) := Lib.hid (by rw [dg_small W64_two (by decide) (by decide)]; rfl)
            have HPL : Hid ((dg W64 (m * 10000000000000000000)).length ≤ 1099511627777) := Lib.hid (prod_len HML.out (Nat.le_of_eq HTL.out))
            have dk1 : r ≤ T.size := HKS.out
            go_wp2_with (first
              | (go_at_call 46; refine (product_calls _ _ m 10000000000000000000 _ (HO.out.ext ((Ext.refl _).alloc _)) (ten_at _) (by have := HML.out; have := HTL.out; omega)).mono ?_; rintro e w2 ⟨r2, rfl, hr2, he2⟩; have HP := Lib.hid hr2; have HE2 := Lib.hid he2; clear hr2 he2)
              | (go_at_call 53; refine (word_calls x _ HXW.out).mono ?_; rintro e w3 ⟨r3, rfl, hr3, he3⟩; have HW := Lib.hid hr3; have HE3 := Lib.hid he3; clear hr3 he3)
              | (go_at_call 55; refine (sum_calls _ _ _ _ _ (HP.out.ext HE3.out) HW.out (by have := HPL.out; omega) (by have := dg_length_le (B := W64) (n := x) (k := 1) W64_two (by rw [Nat.pow_one]; exact HXW.out); omega)).mono ?_; rintro e w4 ⟨r4, rfl, hr4, he4⟩; have HSM := Lib.hid hr4; have HE4 := Lib.hid he4; clear hr4 he4))
            have hnx := dig_next HKS.out HTS.out HM.out HXV.out HTD.out (by first | exact HMK.out | rfl) HV.out
            have hsz := drop_size T r
            go_roundg (T.extract r T.size).size
            case measure => rw [HGK.out, hsz]; have := HKP.out; have := HKS.out; omega
            case rel => exact ⟨T.extract r T.size, _, rfl, rfl, HSM, Lib.hid (by rw [hsz]; have := HTS.out; omega), Lib.hid (by rw [drop_list]; exact all_drop HTD.out _), Lib.hid (.inr (by rw [hsz]; exact HMOD.out)), Lib.hid hnx.1, Lib.hid hnx.2, Lib.hid (((HE.out.alloc _).trans HE2.out).trans (HE3.out.trans HE4.out))⟩
end Go.Proofs.YtpgnlpjjpgdoiaaDoor
/- text: decimal digits in pieces of 19 (plain facts). -/
namespace Go.Proofs.YtpgnlpjjpgdoiaaDoor
open Go Go.RowKit
set_option linter.unusedVariables false
set_option linter.unusedSimpArgs false
/-- Ten to the power of 19. -/
def T19 : Nat := 10000000000000000000
theorem T19_two : 2 ≤ T19 := by decide
theorem T19_pos : 0 < T19 := by decide
theorem T19_W64 : T19 < W64 := by decide
theorem T19_eq : T19 = 10 ^ 19 := by decide
/-- A decimal digit. -/
def dig1 (x : Nat) : UInt8 := UInt8.ofNat (48 + x % 10)
theorem dig1_nat (x : Nat) : (dig1 x).toNat = 48 + x % 10 := by
  unfold dig1; rw [UInt8.toNat_ofNat']; omega
/-- The last j digits. -/
def padF : Nat → Nat → List UInt8
  | 0, _ => []
  | j + 1, r => dig1 (r / 10 ^ j) :: padF j r
theorem padF_length : ∀ (j r : Nat), (padF j r).length = j
  | 0, _ => rfl
  | j + 1, r => by rw [padF, List.length_cons, padF_length]
theorem padF_back : ∀ (j r : Nat), padF (j + 1) r = padF j (r / 10) ++ [dig1 r]
  | 0, r => by simp [padF]
  | j + 1, r => by
    rw [padF, padF_back j r, padF, Nat.div_div_eq_div_mul, Nat.pow_succ, Nat.mul_comm 10, List.cons_append]
theorem dec_big {n : Nat} (h : 10 ≤ n) : Lib.decDigits n = Lib.decDigits (n / 10) ++ [dig1 n] := by
  rw [Lib.decDigits, dif_neg (by omega)]; rfl
theorem dec_small {n : Nat} (h : n < 10) : Lib.decDigits n = [dig1 n] := by
  rw [Lib.decDigits, dif_pos h]; unfold dig1; rw [Nat.mod_eq_of_lt h]
theorem dec_pad : ∀ (k q r : Nat), 0 < q → r < 10 ^ k → Lib.decDigits (r + 10 ^ k * q) = Lib.decDigits q ++ padF k r
  | 0, q, r, hq, hr => by
    have : r = 0 := by simpa using hr
    subst this; simp [padF]
  | k + 1, q, r, hq, hr => by
    have hp : 0 < 10 ^ k := Nat.pow_pos (by decide)
    rw [Nat.pow_succ] at hr ⊢
    generalize hP : 10 ^ k = P at *
    have h1 : 10 ≤ r + P * 10 * q := by
      have : 1 * 10 * 1 ≤ P * 10 * q := Nat.mul_le_mul (Nat.mul_le_mul_right _ hp) hq
      omega
    have h2 : (r + P * 10 * q) / 10 = r / 10 + P * q := by
      rw [show P * 10 * q = 10 * (P * q) from by rw [Nat.mul_comm P 10, Nat.mul_assoc], Nat.add_mul_div_left _ _ (by decide)]
    have h3 : dig1 (r + P * 10 * q) = dig1 r := by
      unfold dig1
      rw [show P * 10 * q = 10 * (P * q) from by rw [Nat.mul_comm P 10, Nat.mul_assoc], Nat.add_mul_mod_self_left]
    rw [dec_big h1, h2, h3, padF_back, ← List.append_assoc, ← hP, dec_pad k q (r / 10) hq (by rw [hP]; omega)]
theorem dec_ne (n : Nat) : Lib.decDigits n ≠ [] := by
  intro h
  have h1 := Lib.decDigits_length n
  have h2 := Lib.nDigits_pos n
  rw [h] at h1; simp at h1; omega
theorem trim_zero : ∀ k, Lib.trimLeftB (padF k 0) 48 = []
  | 0 => rfl
  | k + 1 => by
    have := trim_zero k
    unfold Lib.trimLeftB at *
    rw [padF, List.dropWhile_cons, if_pos (by unfold dig1; simp), this]
theorem trim_pad : ∀ (k r : Nat), 0 < r → r < 10 ^ k → Lib.trimLeftB (padF k r) 48 = Lib.decDigits r
  | 0, r, h, hr => by simp at hr; omega
  | k + 1, r, h, hr => by
    rw [padF_back]
    by_cases h10 : r < 10
    · have h0 : r / 10 = 0 := by omega
      have hz := trim_zero k
      unfold Lib.trimLeftB at *
      rw [h0, List.dropWhile_append, hz, dec_small h10]
      have hd : (dig1 r == 48) = false := by
        rw [beq_eq_false_iff_ne]
        intro e
        have := congrArg UInt8.toNat e
        rw [dig1_nat] at this
        simp at this; omega
      simp [List.dropWhile_cons, hd]
    · have ih := trim_pad k (r / 10) (by omega) (by rw [Nat.pow_succ] at hr; omega)
      have hne := dec_ne (r / 10)
      unfold Lib.trimLeftB at *
      rw [List.dropWhile_append, ih, dec_big (n := r) (by omega)]
      simp [hne]
/-- What the builder holds when the pieces from k on are written. -/
def outB (P : List Nat) (k : Nat) : List UInt8 := if k = P.length then [] else Lib.decDigits (vb T19 (P.drop k))
theorem outB_zero {n : Nat} (h : n ≠ 0) : outB (dg T19 n) 0 = Lib.decDigits n := by
  unfold outB
  rw [if_neg (by intro e; exact h ((dg_eq_nil T19_two).mp (List.eq_nil_of_length_eq_zero e.symm))), List.drop_zero, vb_dg T19_two]
theorem vb_one (x : Nat) : vb T19 [x] = x := by simp [vb]
theorem outB_last {P : List Nat} {m : Nat} (hm : m + 1 = P.length) : outB P m = Lib.decDigits (P.getD m 0) := by
  unfold outB
  rw [if_neg (by omega), drop_getD P m (by omega), List.drop_eq_nil_of_le (by omega), vb_one]
theorem outB_next {P : List Nat} {m : Nat} (hw : WB T19 P) (hl : ∀ x, P.getLast? = some x → x ≠ 0) (hm : m + 1 < P.length) : outB P m = outB P (m + 1) ++ padF 19 (P.getD m 0) := by
  unfold outB
  rw [if_neg (by omega), if_neg (by omega), drop_getD P m (by omega)]
  have h1 : 0 < vb T19 (P.drop (m + 1)) := by
    rcases Nat.eq_zero_or_pos (vb T19 (P.drop (m + 1))) with h0 | h0
    · exfalso
      have h2 : dg T19 (vb T19 (P.drop (m + 1))) = P.drop (m + 1) := dg_vb T19_two (hw.drop _) (.inr (by
        rw [List.getLast?_drop, if_neg (by omega)]
        intro e; exact hl 0 e rfl))
      rw [h0, dg_zero] at h2
      have h3 := congrArg List.length h2
      rw [List.length_drop] at h3; simp at h3; omega
    · exact h0
  rw [vb_cons, T19_eq]
  exact dec_pad 19 _ _ h1 (by rw [← T19_eq]; exact hw.getD T19_pos m)
theorem outB_len {P : List Nat} {k : Nat} (hw : WB T19 P) (hk : k ≤ P.length) : (outB P k).length ≤ 19 * (P.length - k) := by
  unfold outB
  by_cases h : k = P.length
  · rw [if_pos h]; simp
  · rw [if_neg h, Lib.decDigits_length]
    have h1 := vb_lt (hw.drop k)
    rw [List.length_drop, T19_eq, ← Nat.pow_mul] at h1
    have h2 : 0 < P.length - k := by omega
    generalize P.length - k = j at *
    rw [← T19_eq] at h1
    generalize vb T19 (P.drop k) = x at *
    rcases Nat.lt_or_ge (19 * j) (Lib.nDigits x) with h3 | h3
    · exfalso
      have h4 : 10 ^ (Lib.nDigits x - 1) ≤ x := by
        have h5 := Lib.nDigits_pos x
        rcases Nat.lt_or_ge x (10 ^ (Lib.nDigits x - 1)) with h6 | h6
        · exfalso
          have h7 : ∀ n y, y < 10 ^ n → 0 < n → Lib.nDigits y ≤ n := by
            intro n
            induction n with
            | zero => intro y h h'; omega
            | succ n ih =>
              intro y h _
              by_cases hy : y < 10
              · rw [Lib.nDigits_small hy]; omega
              · rw [Lib.nDigits_big hy]
                rcases Nat.eq_zero_or_pos n with hn | hn
                · subst hn; simp at h; omega
                · have := ih (y / 10) (by rw [Nat.pow_succ] at h; omega) hn
                  omega
          rcases Nat.eq_zero_or_pos (Lib.nDigits x - 1) with h8 | h8
          · omega
          · have := h7 _ _ h6 h8; omega
        · exact h6
      have h9 : 10 ^ (19 * j) ≤ 10 ^ (Lib.nDigits x - 1) := Nat.pow_le_pow_right (by decide) (by omega)
      omega
    · exact h3
theorem dg_T19_len {n k : Nat} (h : (dg W64 n).length ≤ k) : (dg T19 n).length ≤ 2 * k := by
  apply dg_length_le T19_two
  refine Nat.lt_of_lt_of_le (lt_pow_dg W64_two n) ?_
  rw [Nat.pow_mul]
  refine Nat.le_trans (Nat.pow_le_pow_right W64_pos h) (Nat.pow_le_pow_left ?_ k)
  decide
end Go.Proofs.YtpgnlpjjpgdoiaaDoor
/- strings.Builder: WriteString at a builder of the call's own. -/
namespace Go.Proofs.YtpgnlpjjpgdoiaaDoor
open Go Go.RowKit
set_option linter.unusedVariables false
set_option linter.unusedSimpArgs false
theorem sizeBuilder : (Tryd.prog.info? 92).map (·.size) = some 2 := by kernel_rfl
theorem liesBuilder : liesAt Tryd.prog Tryd.prog.depth 92 (2 / Tryd.prog.cellsOf 92) 0 92 1 = true := by kernel_rfl
theorem infoByte : (Tryd.prog.info? 5).map (fun i => (i.zero, i.size, i.bytes)) = some (some (.int .u8 0), 1, 1) := by kernel_rfl
set_option maxHeartbeats 1000000 in
set_option maxRecDepth 100000 in
theorem copyCheck_used (b : Nat) (w : World) (h0 : w.cell? ⟨b, 0, none⟩ = some (.pointer (some ⟨b, 0, none⟩))) :
    Calls Tryd.prog 78 #[.pointer (some ⟨b, 0, none⟩)] w fun e w' => e = .returned (.tuple #[]) ∧ w' = w := by
  obtain ⟨j, hj, _⟩ := Option.map_eq_some_iff.1 sizeBuilder
  go_enter Tryd.func78, Tryd.ntmps78
  go_wp2
  rw [Lib.run_neq_ptr_same w _ Tryd.underlying89 hj]
  go_wp2
  go_end0
  exact ⟨rfl, rfl⟩
set_option maxHeartbeats 1000000 in
set_option maxRecDepth 100000 in
theorem copyCheck_fresh (b : Nat) (w : World) (h0 : w.cell? ⟨b, 0, none⟩ = some (.pointer none)) (hsh : w.shape? b = some (92, 2)) (hfz : w.frozen? ⟨b, 0, none⟩ = false) :
    Calls Tryd.prog 78 #[.pointer (some ⟨b, 0, none⟩)] w fun e w' => e = .returned (.tuple #[]) ∧ w' = w.setCell ⟨b, 0, none⟩ (.pointer (some ⟨b, 0, none⟩)) := by
  obtain ⟨j, hj, hjs⟩ := Option.map_eq_some_iff.1 sizeBuilder
  go_enter Tryd.func78, Tryd.ntmps78
  go_wp2
  rw [Lib.run_to_unsafe w ⟨b, 0, none⟩ Tryd.underlying89 Tryd.underlying133 hj (by rw [hjs]; decide) hsh (Nat.zero_lt_succ 1)]
  simp only [Result.andThen]
  rw [Oper.upon_value]
  go_wp2
  rw [run_callFunc_extern Tryd.func93 (by kernel_rfl) (by kernel_rfl) (by kernel_rfl) (e := Extern.AbiNoEscape.same) (by kernel_rfl)]
  rw [Lib.run_noEscape]
  simp only [Result.andThen]
  rw [Oper.upon_value]
  go_wp2
  rw [Lib.run_from_unsafe w ⟨b, 0, none⟩ Tryd.underlying133 Tryd.underlying89 hj hsh liesBuilder]
  simp only [Result.andThen]
  rw [Oper.upon_value]
  go_wp2
  go_end0
  exact ⟨rfl, rfl⟩
theorem copyCheck_calls (B b : Nat) (bs : List Value) (w : World) (h : Lib.IsBuilder 92 5 B b bs w) :
    Calls Tryd.prog 78 #[.pointer (some ⟨b, 0, none⟩)] w fun e w' => e = .returned (.tuple #[]) ∧ (Lib.BuilderAt 92 5 B b (.pointer (some ⟨b, 0, none⟩)) bs w' ∧ Below B w w') := by
  rcases h with h | h
  · refine (copyCheck_fresh b w h.cell0 h.shape h.frozen0).mono ?_
    rintro e w' ⟨rfl, rfl⟩
    exact ⟨rfl, h.used _, (Below.refl B w).setCell (p := ⟨b, 0, none⟩) h.1 _⟩
  · refine (copyCheck_used b w h.cell0).mono ?_
    rintro e w' ⟨rfl, rfl⟩
    exact ⟨rfl, h, Below.refl B _⟩
set_option maxHeartbeats 2000000 in
set_option maxRecDepth 100000 in
theorem writeString_calls (B b : Nat) (bs : List Value) (s : ByteArray) (w : World) (h : Lib.IsBuilder 92 5 B b bs w) (hlen : bs.length + s.size ≤ 140737488355328) (hBw : B ≤ w.heap.size) :
    Calls Tryd.prog 61 #[.pointer (some ⟨b, 0, none⟩), .string s] w fun e w' => e = .returned (.tuple #[.int .i64 s.size, .nilIface]) ∧ (Lib.BuilderAt 92 5 B b (.pointer (some ⟨b, 0, none⟩)) (bs ++ Lib.strCells s) w' ∧ Below B w w') := by
  obtain ⟨i0, hi, hz0, hz1, hz2⟩ := info_parts infoByte
  go_enter Tryd.func61, Tryd.ntmps61
  go_wp2_with (go_at_call 78; refine (copyCheck_calls B b bs _ h).mono ?_)
  rintro e w1 ⟨rfl, h1, hb1⟩
  obtain ⟨hB, v, hbk, hown, hne⟩ := h1
  have c0 : w1.cell? ⟨b, 0, none⟩ = some (.pointer (some ⟨b, 0, none⟩)) := by rw [Lib.cell_of_heap hbk]; rfl
  have c1 : w1.cell? ⟨b, 1, none⟩ = some v := by rw [Lib.cell_of_heap hbk]; rfl
  go_wp2_with (at_builtin; refine Lib.wpList_append_own_string _ rfl _ _ 90 9 rfl B 5 i0 Tryd.underlying90 Tryd.underlying9 hi hz0 hz1 hz2 _ _ _ rfl hown s rfl ?c3 ?c4 ?c5 ?_)
  case c3 => unfold maxLen; omega
  case c4 => omega
  case c5 => have := hb1.size; omega
  intro v' w2 hown' hgrow _
  have hlt : b < w1.heap.size := by
    rcases Nat.lt_or_ge b w1.heap.size with h' | h'
    · exact h'
    · simp [Array.getElem?_eq_none h'] at hbk
  have hb2 : w2.heap[b]? = some (.cells #[.pointer (some ⟨b, 0, none⟩), v] 92 (0, 0)) := by
    rw [hgrow.block b hlt (fun e => hne e.symm)]
    exact hbk
  have d0 : w2.cell? ⟨b, 0, none⟩ = some (.pointer (some ⟨b, 0, none⟩)) := by rw [Lib.cell_of_heap hb2]; rfl
  have d1 : w2.cell? ⟨b, 1, none⟩ = some v := by rw [Lib.cell_of_heap hb2]; rfl
  have f1 : w2.frozen? ⟨b, 1, none⟩ = false := Lib.frozen_of_heap hb2 1
  obtain ⟨ao, n', cap, rfl⟩ : ∃ ao n' cap, v' = .slice ao n' cap := by
    rcases hown'.2 with ⟨hv, _⟩ | ⟨g, cap, cur, hv, _⟩
    · exact ⟨_, _, _, hv⟩
    · exact ⟨_, _, _, hv⟩
  go_wp2
  go_ret2
  refine ⟨rfl, ?_, ?_⟩
  · exact Lib.BuilderAt.put (T := 92) (e := 5) hB hb2 (bs' := bs ++ Lib.strCells s) (by simpa [Lib.strCells_length] using hown') (by decide)
  · exact (hb1.grown hgrow (by have := hb1.size; omega) (fun k hk => (hown.lt k hk).1)).setCell (p := ⟨b, 1, none⟩) hB _
end Go.Proofs.YtpgnlpjjpgdoiaaDoor
/- byWord: where its quotient lies. -/
namespace Go.Proofs.YtpgnlpjjpgdoiaaDoor
open Go Go.RowKit
set_option linter.unusedVariables false
set_option linter.unusedSimpArgs false
set_option maxHeartbeats 1000000 in
theorem trim_at (A : Option Addr) (c : Nat) (xs : List Nat) (w : World) (hc : xs.length ≤ c) (hr : Rd w A xs) (hw : WB W64 xs) (hlen : xs.length ≤ 9223372036854775807) :
    Calls Tryd.prog 66 #[.slice A xs.length c] w fun e w' => ∃ k, e = .returned (.slice A k c) ∧ NatAt w' (.slice A k c) (vb W64 xs) ∧ Ext w w' := by
  have HR := Lib.hid hr; clear hr
  have HW := Lib.hid hw; clear hw
  go_enter Tryd.func66, Tryd.ntmps66
  go_wp2
  go_loop [0] (fun s => ∃ k : Nat, k ≤ xs.length ∧ s = .slice A k c ∧ Hid (vb W64 (xs.take k) = vb W64 xs)) (fun s => lenOf s)
  case atStart => exact ⟨xs.length, Nat.le_refl _, rfl, by unfold Hid; rw [List.take_length]⟩
  case round =>
    obtain ⟨k, hk, rfl, HE⟩ := hrel
    by_cases h0 : k = 0
    · subst h0
      go_wp2
      go_ret
      exact ⟨_, rfl, NatAt.of_take HR.out HW.out hc hk HE.out (.inl rfl), Ext.refl _⟩
    · obtain ⟨m, rfl⟩ : ∃ m, k = m + 1 := ⟨k - 1, by omega⟩
      clear h0
      obtain ⟨b, o, rfl, hcell⟩ := HR.out m (by omega)
      by_cases hz : xs.getD m 0 = 0
      · have HZ := Lib.hid hz
        rw [hz] at hcell
        clear hz
        go_wp2
        go_round
        case rel => exact ⟨m, by omega, rfl, by unfold Hid; rw [vb_take_zero xs m HZ.out (by omega)]; exact HE.out⟩
        case measure => simp [lenOf]
      · obtain ⟨z, hzz⟩ : ∃ z : Nat, z = xs.getD m 0 := ⟨_, rfl⟩
        rw [← hzz] at hcell
        have HZ := Lib.hid hz
        have hz1 : ((z : Int) == 0) = false := by
          rw [beq_eq_false_iff_ne]; rw [hzz]; omega
        have HZZ := Lib.hid hzz
        clear hz hzz
        go_wp2
        go_ret
        exact ⟨_, rfl, NatAt.of_take HR.out HW.out hc hk HE.out (.inr ⟨m, rfl, HZ.out⟩), Ext.refl _⟩
set_option maxHeartbeats 4000000 in
theorem byWord_at (va : Value) (a y : Nat) (w : World) (ha : NatAt w va a) (hy : 0 < y) (hyW : y < W64) (hla : (dg W64 a).length ≤ 35184372088832) :
    Calls Tryd.prog 59 #[va, .int .u64 (y : Int)] w fun e w' => ∃ k cc, e = .returned (.tuple #[.slice (some ⟨w.heap.size, 0, none⟩) k cc, .int .u64 ((a % y : Nat) : Int)]) ∧ NatAt w' (.slice (some ⟨w.heap.size, 0, none⟩) k cc) (a / y) ∧ Ext w w' := by
  obtain ⟨A, c, rfl, hc, hra⟩ := ha
  have HA := Lib.hid hra; clear hra
  have HWX := Lib.hid (WB_dg W64_two a)
  have HVX := Lib.hid (vb_dg W64_two a)
  have HY := Lib.hid hy; clear hy
  have HYW := Lib.hid hyW; clear hyW
  generalize dg W64 a = xs at *
  have hmk := makeW xs.length xs.length (Nat.le_refl _) hla
  go_enter Tryd.func59, Tryd.ntmps59
  go_wp2
  obtain ⟨w1, hw1⟩ : ∃ w1, w1 = w.alloc (.cells (rowW (List.replicate xs.length 0)) 76) := ⟨_, rfl⟩
  obtain ⟨g, hg⟩ : ∃ g, g = w.heap.size := ⟨_, rfl⟩
  have HN : Hid (Blk w1 g (List.replicate xs.length 0)) := Lib.hid (by rw [hw1, hg]; exact Blk.new _ _)
  have HE : Hid (Ext w w1) := Lib.hid (by rw [hw1]; exact (Ext.refl _).alloc _)
  have HG : Hid (g = w.heap.size) := Lib.hid hg
  rw [← hw1, ← hg]
  clear hw1 hg hmk
  go_loopw [7, 8] (fun s i wr => ∃ (k : Nat) (r : Nat) (L : List Nat), k ≤ xs.length ∧ i = .int .i64 ((k : Int) - 1) ∧ s = .int .u64 (r : Int) ∧ Hid (r < y) ∧ Hid (Blk wr g L) ∧ L.length = xs.length ∧ Hid (WB W64 L) ∧ Hid (Ext w wr) ∧ Hid (vb W64 (L.drop k) * y + r = vb W64 (xs.drop k))) (fun _ i _ => (intOf i + 1).toNat)
  case atStart => exact ⟨xs.length, 0, _, by omega, rfl, rfl, HY, HN, by simp, Lib.hid (WB.zeros W64_pos _), HE, Lib.hid (by simp [vb])⟩
  case round =>
    clear HN HE
    obtain ⟨k, r, L, hk, rfl, rfl, HR, HL, hLl, HW, HE, HV⟩ := hrel
    by_cases h0 : k = 0
    · subst h0
      go_wp2_with (go_at_call 66; rw [← hLl]; refine (trim_at _ L.length L _ (Nat.le_refl _) (HL.out.rd 0 L (fun i hi => ⟨by omega, by rw [Nat.zero_add]⟩)) HW.out (by omega)).mono ?_; rintro e w2 ⟨v, rfl, hr, he⟩)
      have HT := Lib.hid hr; clear hr
      have HE2 := Lib.hid he; clear he
      go_wp2
      go_ret2
      have h1 := HV.out
      simp only [List.drop_zero] at h1
      rw [HVX.out] at h1
      have h2 := byWord_end HR.out h1
      rw [h2.2]
      rw [← HG.out]
      refine ⟨v, _, rfl, ?_, HE.out.trans HE2.out⟩
      have h3 := HT.out
      rw [hLl] at h3
      rw [← h2.1]; exact h3
    · obtain ⟨m, rfl⟩ : ∃ m, k = m + 1 := ⟨k - 1, by omega⟩
      have em : (((m + 1 : Nat) : Int) - 1) = (m : Int) := by omega
      rw [em]
      clear h0 em
      obtain ⟨b1, o1, rfl, hc1⟩ := HA.out m (by omega)
      have hcx := HE.out.cell hc1
      clear hc1
      obtain ⟨x, hxx⟩ : ∃ x : Nat, x = xs.getD m 0 := ⟨_, rfl⟩
      rw [← hxx] at hcx
      have HXX := Lib.hid hxx; clear hxx
      have hL0 := HL.out.cell (i := m) (by omega)
      have hLf := HL.out.frozen m
      generalize L.getD m 0 = l0 at hL0
      have i0 : (0 : Int) ≤ (m : Int) := by omega
      have i1 : (m : Int) < (xs.length : Int) := by omega
      go_wp2_with (go_at_call 73; refine (div64_calls r x y _ HR.out HYW.out (by rw [HXX.out]; exact HWX.out.getD W64_pos m)).mono ?_; rintro e w2 ⟨rfl, n, rfl⟩)
      clear hcx hL0 hLf i0 i1
      go_roundw
      case rel =>
        refine ⟨m, dvR r x y, L.set m (dvQ r x y), by omega, rfl, rfl, Lib.hid (dvR_lt HR.out), ?_, by simpa using hLl, HW.out.set _ (dvQ_lt HR.out (by rw [HXX.out]; exact HWX.out.getD W64_pos m)), ?_, ?_⟩
        · exact Blk.set (w := wr.drewN n) HL.out _ _
        · exact Ext.setCell (HE.out.drewN n) (by rw [HG.out]; exact Nat.le_refl _) _
        · have := byWord_step (by omega) hLl HV.out
          rw [← HXX.out] at this
          exact this
      case measure => simp [intOf]
end Go.Proofs.YtpgnlpjjpgdoiaaDoor
