/- Merged by program: Right, Guess, Take, DivN, DivA, DivB, DivC, Gcd, RatA, RatB, RatC. -/
import Derived.RegionTactic
import Derived.ChangeAlike
import Derived.StillTailTactics
import Derived.BigRegion
import Derived.Laws.CopyOwn
import Derived.Deep.CutRange
import Derived.Deep.LoopGhost
import Derived.Laws.Rows
import Derived.Test.YtpgnlpjjpgdoiaaDoorFa
/- The contract of right. -/
namespace Go.Proofs.YtpgnlpjjpgdoiaaDoor
open Go Go.RowKit
set_option linter.unusedVariables false
set_option linter.unusedSimpArgs false
/-- One word of a number that is shifted to the right. -/
def shrW (s x y : Nat) : Nat := x / 2 ^ s + y * 2 ^ (64 - s) % W64
theorem shrW_eq {s x y : Nat} (hs : s ≤ 63) : shrW s x y * 2 ^ s + x % 2 ^ s = x + W64 * (y % 2 ^ s) := by
  have e64 : 2 ^ s * 2 ^ (64 - s) = W64 := by rw [← Nat.pow_add, show s + (64 - s) = 64 by omega]; rfl
  have h1 : y * 2 ^ (64 - s) % W64 = 2 ^ (64 - s) * (y % 2 ^ s) := by
    rw [← e64, Nat.mul_comm y, Nat.mul_comm (2 ^ s), Nat.mul_mod_mul_left]
  have h2 := Nat.div_add_mod x (2 ^ s)
  unfold shrW
  rw [h1, Nat.add_mul, show 2 ^ (64 - s) * (y % 2 ^ s) * 2 ^ s = W64 * (y % 2 ^ s) from by rw [← e64]; simp only [Nat.mul_assoc, Nat.mul_comm, Nat.mul_left_comm], Nat.mul_comm (x / 2 ^ s)]
  omega
theorem shrW_or {s x y : Nat} (hs : s ≤ 63) (hx : x < W64) : bits .or .u64 ((x / 2 ^ s : Nat) : Int) ((y * 2 ^ (64 - s) % W64 : Nat) : Int) = ((shrW s x y : Nat) : Int) ∧ shrW s x y < W64 := by
  have e64 : 2 ^ s * 2 ^ (64 - s) = W64 := by rw [← Nat.pow_add, show s + (64 - s) = 64 by omega]; rfl
  have h0 : x / 2 ^ s < 2 ^ (64 - s) := by rw [Nat.div_lt_iff_lt_mul (Nat.pow_pos (by omega)), Nat.mul_comm, e64]; exact hx
  have h1 : y * 2 ^ (64 - s) % W64 = 2 ^ (64 - s) * (y % 2 ^ s) := by
    rw [← e64, Nat.mul_comm y, Nat.mul_comm (2 ^ s), Nat.mul_mod_mul_left]
  have h2 : 2 ^ (64 - s) * (y % 2 ^ s) + 2 ^ (64 - s) ≤ W64 := by
    rw [← e64, ← Nat.mul_succ, Nat.mul_comm (2 ^ s)]
    exact Nat.mul_le_mul_left _ (Nat.mod_lt _ (Nat.pow_pos (by omega)))
  have h3 : x / 2 ^ s < W64 := Nat.lt_of_le_of_lt (Nat.div_le_self _ _) hx
  refine ⟨?_, by unfold shrW; omega⟩
  have h4 : y * 2 ^ (64 - s) % W64 < W64 := Nat.mod_lt _ W64_pos
  rw [bits_or_u64_nat _ _ h3 h4]
  congr 1
  unfold shrW
  rw [h1, Nat.or_comm, Nat.add_comm]
  exact (Nat.two_pow_add_eq_or_of_lt h0 _).symm
theorem shrW_none {s x : Nat} : shrW s x 0 = x / 2 ^ s := by unfold shrW; simp
theorem right_step {L ys : List Nat} {k s x y : Nat} (hs : s ≤ 63) (hk : k < ys.length) (hL : L.length = ys.length) (hx : ys.getD k 0 = x) (hy : ys.getD (k + 1) 0 = y)
    (h : vb W64 (L.take k) * 2 ^ s + ys.getD 0 0 % 2 ^ s = vb W64 (ys.take k) + W64 ^ k * (ys.getD k 0 % 2 ^ s)) :
    vb W64 ((L.set k (shrW s x y)).take (k + 1)) * 2 ^ s + ys.getD 0 0 % 2 ^ s = vb W64 (ys.take (k + 1)) + W64 ^ (k + 1) * (ys.getD (k + 1) 0 % 2 ^ s) := by
  have h1 := shrW_eq (x := x) (y := y) hs
  rw [take_set_succ _ _ _ (by omega), vb_snoc, List.length_take, Nat.min_eq_left (by omega), vb_take_succ ys k hk, Nat.pow_succ, hx, hy] 
  rw [hx] at h
  have h2 : W64 ^ k * (shrW s x y * 2 ^ s + x % 2 ^ s) = W64 ^ k * (x + W64 * (y % 2 ^ s)) := by rw [h1]
  rw [Nat.mul_add, Nat.mul_add] at h2
  rw [Nat.add_mul, Nat.mul_assoc (W64 ^ k) (shrW s x y), Nat.mul_assoc (W64 ^ k) W64]
  omega
theorem getD_drop (xs : List Nat) (w i : Nat) : (xs.drop w).getD i 0 = xs.getD (w + i) 0 := by
  simp [List.getD_eq_getElem?_getD]
theorem right_end {a wd s n : Nat} {L xs : List Nat} (hs : s ≤ 63) (hn : 64 * wd + s = n) (hxs : vb W64 xs = a) (hw : WB W64 xs) (hwd : wd ≤ xs.length) (h : vb W64 L * 2 ^ s + (xs.drop wd).getD 0 0 % 2 ^ s = vb W64 (xs.drop wd)) : vb W64 L = a / 2 ^ n := by
  have h1 : vb W64 (xs.drop wd) = a / W64 ^ wd := by
    rw [← hxs, vb_take_drop xs wd hwd]
    have h2 := vb_lt (hw.take wd)
    rw [List.length_take, Nat.min_eq_left hwd] at h2
    rw [Nat.add_mul_div_left _ _ (Nat.pow_pos W64_pos), Nat.div_eq_of_lt h2]; omega
  have h3 : (2 : Nat) ^ n = W64 ^ wd * 2 ^ s := by rw [← hn, Nat.pow_add, Nat.pow_mul]; rfl
  rw [h3, ← Nat.div_div_eq_div_mul, ← h1, ← h, Nat.mul_comm, Nat.mul_add_div (Nat.pow_pos (by omega)), Nat.div_eq_of_lt (Nat.mod_lt _ (Nat.pow_pos (by omega)))]
  omega

set_option maxRecDepth 100000 in
set_option maxHeartbeats 4000000 in
theorem right_calls (va : Value) (a n : Nat) (w : World) (ha : NatAt w va a) (hla : (dg W64 a).length ≤ 17592186044416) (hn : n ≤ 562949953421312) :
    Calls Tryd.prog 84 #[va, .int .i64 (n : Int)] w fun e w' => ∃ r, e = .returned r ∧ NatAt w' r (a / 2 ^ n) ∧ Ext w w' := by
  obtain ⟨A, c, rfl, hc, hra⟩ := ha
  have HA := Lib.hid hra; clear hra
  have HWX := Lib.hid (WB_dg W64_two a)
  have HVX := Lib.hid (vb_dg W64_two a)
  obtain ⟨s, hs⟩ : ∃ s, s = n % 64 := ⟨_, rfl⟩
  obtain ⟨wd, hwd⟩ : ∃ wd, wd = n / 64 := ⟨_, rfl⟩
  have e1 : (n : Int) / 64 = (wd : Int) := by omega
  have e2 : (n : Int) % 64 = (s : Int) := by omega
  have hs63 : s ≤ 63 := by omega
  have hwdl : wd ≤ 8796093022208 := by omega
  have HS := Lib.hid (show 64 * wd + s = n by omega)
  have hn2 : (n : Int) ≤ 562949953421312 := by omega
  have hn0 : (0 : Int) ≤ (n : Int) := by omega
  clear hs hwd hn
  generalize dg W64 a = xs at *
  by_cases h0 : xs.length ≤ wd
  · have HZ : Hid (a / 2 ^ n = 0) := Lib.hid (by
      rw [← HVX.out]
      refine Nat.div_eq_of_lt (Nat.lt_of_lt_of_le (vb_lt HWX.out) ?_)
      rw [← HS.out, Nat.pow_add, Nat.pow_mul]
      exact Nat.le_trans (Nat.pow_le_pow_right W64_pos h0) (Nat.le_mul_of_pos_right _ (Nat.pow_pos (by omega))))
    have t0 : (xs.length : Int) ≤ (wd : Int) := by omega
    clear h0
    go_enter Tryd.func84, Tryd.ntmps84
    go_wp2
    go_ret
    exact ⟨_, rfl, by rw [HZ.out]; exact NatAt.zero _, Ext.refl _⟩
  have t0 : ¬ (xs.length : Int) ≤ (wd : Int) := by omega
  obtain ⟨m, hm⟩ : ∃ m, xs.length = wd + m := ⟨xs.length - wd, by omega⟩
  have e3 : (xs.length : Int) - (wd : Int) = (m : Int) := by omega
  have HM := Lib.hid hm
  have hm1 : xs.length ≤ wd + m := by omega
  have hm2 : wd + m ≤ xs.length := by omega
  clear hm h0
  have hmk := makeW m m (Nat.le_refl _) (by omega)
  go_enter Tryd.func84, Tryd.ntmps84
  go_wp2
  obtain ⟨w1, hw1⟩ : ∃ w1, w1 = w.alloc (.cells (rowW (List.replicate m 0)) 76) := ⟨_, rfl⟩
  obtain ⟨g, hg⟩ : ∃ g, g = w.heap.size := ⟨_, rfl⟩
  have HN : Hid (Blk w1 g (List.replicate m 0)) := Lib.hid (by rw [hw1, hg]; exact Blk.new _ _)
  have HE : Hid (Ext w w1) := Lib.hid (by rw [hw1]; exact (Ext.refl _).alloc _)
  have HG : Hid (g = w.heap.size) := Lib.hid hg
  rw [← hw1, ← hg]
  clear hw1 hg hmk t0 e3
  have HYL : Hid ((xs.drop wd).length = m) := Lib.hid (by rw [List.length_drop]; omega)
  go_loopw [25] (fun i wr => ∃ (k : Nat) (L : List Nat), k ≤ m ∧ i = .int .i64 (k : Int) ∧ Hid (Blk wr g L) ∧ L.length = m ∧ Hid (WB W64 L) ∧ Hid (Ext w wr) ∧ Hid (vb W64 (L.take k) * 2 ^ s + (xs.drop wd).getD 0 0 % 2 ^ s = vb W64 ((xs.drop wd).take k) + W64 ^ k * ((xs.drop wd).getD k 0 % 2 ^ s))) (fun i _ => m - (intOf i).toNat)
  case atStart => exact ⟨0, _, by omega, rfl, HN, by simp, Lib.hid (WB.zeros W64_pos _), HE, Lib.hid (by simp [vb])⟩
  case round =>
    clear HN HE
    obtain ⟨k, L, hk, rfl, HL, hLl, HW, HE, HV⟩ := hrel
    by_cases hlt : k < m
    · obtain ⟨b1, o1, rfl, hc1⟩ := HA.out (k + wd) (by omega)
      have hcx := HE.out.cell hc1
      clear hc1
      obtain ⟨x, hxx⟩ : ∃ x : Nat, x = xs.getD (k + wd) 0 := ⟨_, rfl⟩
      rw [← hxx] at hcx
      have HX : Hid (x < W64) := Lib.hid (by rw [hxx]; exact HWX.out.getD W64_pos _)
      have HXX : Hid ((xs.drop wd).getD k 0 = x) := Lib.hid (by rw [getD_drop, Nat.add_comm]; exact hxx.symm)
      clear hxx
      obtain ⟨x1, hx1⟩ : ∃ x1, x1 = x / 2 ^ s := ⟨_, rfl⟩
      have r1 : (x : Int) / 2 ^ s = (x1 : Int) := by rw [hx1]; simp
      have HX1 := Lib.hid hx1
      clear hx1
      have hL0 := HL.out.cell (i := k) (by omega)
      have hLf := HL.out.frozen k
      generalize L.getD k 0 = l0 at hL0
      have HL2 := Lib.hid (HL.out.set k x1)
      have kj : ((k : Int) + (wd : Int)).toNat = k + wd := by omega
      by_cases hnx : 0 < s ∧ k + wd + 1 < xs.length
      · obtain ⟨b2, o2, hA2, hc2⟩ := HA.out (k + wd + 1) hnx.2
        injection hA2 with hA2
        injection hA2 with hb hoo
        subst hb; subst hoo
        have hcy := HE.out.cell hc2
        clear hc2
        obtain ⟨y, hyy⟩ : ∃ y : Nat, y = xs.getD (k + wd + 1) 0 := ⟨_, rfl⟩
        rw [← hyy] at hcy
        have HYY : Hid ((xs.drop wd).getD (k + 1) 0 = y) := Lib.hid (by rw [getD_drop, show wd + (k + 1) = k + wd + 1 by omega]; exact hyy.symm)
        clear hyy
        have hor := shrW_or (y := y) hs63 HX.out
        rw [← HX1.out] at hor
        have r2 := hor.1
        have HOR := Lib.hid hor.2
        clear hor
        have r3 : IntKind.u64.wrap ((y : Int) * 2 ^ (64 - s)) = ((y * 2 ^ (64 - s) % W64 : Nat) : Int) := by
          rw [show (y : Int) * 2 ^ (64 - s) = ((y * 2 ^ (64 - s) : Nat) : Int) by simp]; exact wrap_mod _
        generalize y * 2 ^ (64 - s) % W64 = yh at r2 r3
        obtain ⟨sm, hsm⟩ : ∃ sm, sm = shrW s x y := ⟨_, rfl⟩
        rw [← hsm] at r2
        have HSM := Lib.hid hsm
        clear hsm
        obtain ⟨hs0, hk2⟩ := hnx
        have kj2 : ((k : Int) + (wd : Int) + 1).toNat = k + wd + 1 := by omega
        have hc1 := HL2.out.cell (i := k) (by simp; omega)
        rw [getD_set_eq _ _ _ (by omega)] at hc1
        have hf1 := HL2.out.frozen k
        have i1 : ((k : Int) + (wd : Int) + 1) < (xs.length : Int) := by omega
        have i2 : (0 : Int) ≤ ((k : Int) + (wd : Int) + 1) := by omega
        have i3 : (k : Int) < (m : Int) := by omega
        go_wp2
        go_region
        go_wp2
        clear hcx hcy hL0 hLf hc1 hf1 r1 r2 r3
        go_roundw
        case rel =>
          refine ⟨k + 1, (L.set k x1).set k sm, by omega, by go_num, ?_, by simpa using hLl, ?_, ?_, ?_⟩
          · exact HL2.out.set k sm
          · exact (HW.out.set _ (Nat.lt_of_le_of_lt (by rw [HX1.out]; exact Nat.div_le_self _ _) HX.out)).set _ (by rw [HSM.out]; exact HOR.out)
          · exact Ext.setCell (Ext.drew (Ext.setCell HE.out (by rw [HG.out]; exact Nat.le_refl _) _)) (by rw [HG.out]; exact Nat.le_refl _) _
          · rw [List.set_set, HSM.out]
            exact Lib.hid (right_step hs63 (by rw [HYL.out]; exact hlt) (by rw [HYL.out]; exact hLl) HXX.out HYY.out HV.out)
        case measure => simp [intOf]; omega
      · have HY0 : Hid (shrW s x ((xs.drop wd).getD (k + 1) 0) = x1) := Lib.hid (by
          rw [HX1.out]
          by_cases hs0 : s = 0
          · subst hs0
            unfold shrW
            rw [show (xs.drop wd).getD (k + 1) 0 * 2 ^ (64 - 0) = (xs.drop wd).getD (k + 1) 0 * W64 from rfl, Nat.mul_mod_left]; omega
          · have : (xs.drop wd).getD (k + 1) 0 = 0 := by
              rw [getD_drop, List.getD_eq_getElem?_getD, List.getElem?_eq_none (by omega)]; rfl
            rw [this, shrW_none])
        have t1 : (decide ((0 : Int) < (s : Int)) && decide ((k : Int) + (wd : Int) + 1 < (xs.length : Int))) = false := by
          rw [Bool.and_eq_false_iff, decide_eq_false_iff_not, decide_eq_false_iff_not]; omega
        by_cases hs0 : 0 < s
        · have t2 : ¬ ((k : Int) + (wd : Int) + 1 < (xs.length : Int)) := by omega
          clear t1 hnx
          go_wp2
          clear hcx hL0 hLf r1 t2
          go_roundw
          case rel =>
            refine ⟨k + 1, L.set k x1, by omega, by go_num, HL2, by simpa using hLl, HW.out.set _ (Nat.lt_of_le_of_lt (by rw [HX1.out]; exact Nat.div_le_self _ _) HX.out), HE.out.setCell (by rw [HG.out]; exact Nat.le_refl _) _, ?_⟩
            rw [← HY0.out]
            exact Lib.hid (right_step hs63 (by rw [HYL.out]; exact hlt) (by rw [HYL.out]; exact hLl) HXX.out rfl HV.out)
          case measure => simp [intOf]; omega
        · clear t1 hnx
          go_wp2
          clear hcx hL0 hLf r1
          go_roundw
          case rel =>
            refine ⟨k + 1, L.set k x1, by omega, by go_num, HL2, by simpa using hLl, HW.out.set _ (Nat.lt_of_le_of_lt (by rw [HX1.out]; exact Nat.div_le_self _ _) HX.out), HE.out.setCell (by rw [HG.out]; exact Nat.le_refl _) _, ?_⟩
            rw [← HY0.out]
            exact Lib.hid (right_step hs63 (by rw [HYL.out]; exact hlt) (by rw [HYL.out]; exact hLl) HXX.out rfl HV.out)
          case measure => simp [intOf]; omega
    · have hk2 : k = m := by omega
      have HK := Lib.hid hk2
      clear hk2
      go_wp2_with (go_at_call 66; refine (trim_calls _ L _ (HL.out.slAt hLl.symm (by omega)) HW.out (by omega)).mono ?_; rintro e w2 ⟨r, rfl, hr, he⟩)
      have HR := Lib.hid hr; clear hr
      have HE2 := Lib.hid he; clear he
      go_wp2
      go_ret
      refine ⟨r, rfl, ?_, HE.out.trans HE2.out⟩
      have h1 := HV.out
      rw [HK.out, List.take_of_length_le (by omega), List.take_of_length_le (by rw [HYL.out]; exact Nat.le_refl _)] at h1
      have hz : (xs.drop wd).getD m 0 = 0 := by rw [List.getD_eq_getElem?_getD, List.getElem?_eq_none (by rw [HYL.out]; exact Nat.le_refl _)]; rfl
      rw [hz, Nat.zero_mod, Nat.mul_zero, Nat.add_zero] at h1
      have h2 := HR.out
      rw [right_end hs63 HS.out HVX.out HWX.out (by omega) h1] at h2
      exact h2
end Go.Proofs.YtpgnlpjjpgdoiaaDoor
/- The contract of guess: never below the true digit. -/
namespace Go.Proofs.YtpgnlpjjpgdoiaaDoor
open Go Go.RowKit
set_option linter.unusedVariables false
set_option linter.unusedSimpArgs false
/-- d is a digit that fits: d times the divisor's head is at most the dividend's head. -/
def Fits (u2 u1 u0 v1 v0 d : Nat) : Prop := d < W64 ∧ d * (v1 * W64 + v0) ≤ (u2 * W64 + u1) * W64 + u0
/-- The guess's invariant. -/
structure GI (u2 u1 u0 v1 v0 q r : Nat) : Prop where
  eq : q * v1 + r = u2 * W64 + u1
  lq : q < W64
  lr : r < W64
  ge : ∀ d, Fits u2 u1 u0 v1 v0 d → d ≤ q
theorem GI.init {u2 u1 u0 v1 v0 : Nat} (h : u2 < v1) (h1 : u1 < W64) (h0 : u0 < W64) (hv : v1 < W64) : GI u2 u1 u0 v1 v0 (dvQ u2 u1 v1) (dvR u2 u1 v1) := by
  refine ⟨dv_eq _ _ _, dvQ_lt h h1, Nat.lt_trans (dvR_lt h) hv, fun d hd => ?_⟩
  unfold dvQ
  rw [Nat.le_div_iff_mul_le (by omega)]
  obtain ⟨hd1, hd2⟩ := hd
  rw [Nat.mul_add, ← Nat.mul_assoc] at hd2
  rcases Nat.lt_or_ge (u2 * W64 + u1) (d * v1) with h2 | h2
  · exfalso
    have h3 : (u2 * W64 + u1 + 1) * W64 ≤ d * v1 * W64 := Nat.mul_le_mul_right _ h2
    rw [Nat.add_mul] at h3; omega
  · exact h2
/-- What the test says. -/
theorem GI.test {u2 u1 u0 v1 v0 q r : Nat} (h0 : u0 < W64) : (mulH q v0 < r ∨ mulH q v0 = r ∧ mulL q v0 ≤ u0) ↔ q * v0 ≤ r * W64 + u0 := by
  have h1 := mul_eq q v0
  have h2 := mulL_lt q v0
  rw [← h1]
  rw [Nat.mul_comm r]
  unfold W64 at *
  omega
theorem GI.next {u2 u1 u0 v1 v0 q r : Nat} (g : GI u2 u1 u0 v1 v0 q r) (h0 : u0 < W64) (ht : ¬ q * v0 ≤ r * W64 + u0) : 1 ≤ q ∧ (q - 1) * v1 + (r + v1) = u2 * W64 + u1 ∧ ∀ d, Fits u2 u1 u0 v1 v0 d → d ≤ q - 1 := by
  have hq : 1 ≤ q := by
    rcases Nat.eq_zero_or_pos q with h | h
    · subst h; simp at ht
    · exact h
  obtain ⟨p, rfl⟩ : ∃ p, q = p + 1 := ⟨q - 1, by omega⟩
  have he := g.eq
  refine ⟨hq, by rw [Nat.add_sub_cancel]; rw [Nat.add_mul] at he; omega, fun d hd => ?_⟩
  have h1 := g.ge d hd
  rcases Nat.lt_or_ge d (p + 1) with h2 | h2
  · omega
  · exfalso
    have h3 : d = p + 1 := by omega
    subst h3
    have h4 := hd.2
    have h5 : ((p + 1) * v1 + r) * W64 = (p + 1) * v1 * W64 + r * W64 := Nat.add_mul _ _ _
    rw [he] at h5
    rw [Nat.mul_add, ← Nat.mul_assoc] at h4
    omega
def GPost (u2 u1 u0 v1 v0 : Nat) (w : World) (e : Ending) (w' : World) : Prop := ∃ q : Nat, e = .returned (.int .u64 (q : Int)) ∧ q < W64 ∧ (∀ d, Fits u2 u1 u0 v1 v0 d → d ≤ q) ∧ ∃ n, w' = w.drewN n
def gOf (v : Value) : Nat := W64 - (intOf v).toNat

set_option maxRecDepth 100000 in
set_option maxHeartbeats 4000000 in
theorem guess_calls (u2 u1 u0 v1 v0 : Nat) (w : World) (h2 : u2 < W64) (h1 : u1 < W64) (h0 : u0 < W64) (hv1 : v1 < W64) (hv0 : v0 < W64) (hv : 0 < v1) :
    Calls Tryd.prog 81 #[.int .u64 (u2 : Int), .int .u64 (u1 : Int), .int .u64 (u0 : Int), .int .u64 (v1 : Int), .int .u64 (v0 : Int)] w (GPost u2 u1 u0 v1 v0 w) := by
  have H2 := Lib.hid h2
  have H1 := Lib.hid h1
  have H0 := Lib.hid h0
  have HV1 := Lib.hid hv1
  have HV0 := Lib.hid hv0
  have HV := Lib.hid hv
  by_cases hb : v1 ≤ u2
  · have t1 : v1 ≤ u2 := hb
    clear h2 h1 h0 hv1 hv0 hv hb
    go_enter Tryd.func81, Tryd.ntmps81
    go_wp2
    refine bodyPost_ret (results_tmp rfl _ _ _) rfl ?_
    have e1 : (18446744073709551615 : Int) = ((W64 - 1 : Nat) : Int) := by unfold W64; omega
    exact ⟨W64 - 1, by rw [← e1]; rfl, by unfold W64; omega, fun d hd => by have := hd.1; omega, 0, rfl⟩
  have t1 : ¬ v1 ≤ u2 := hb
  have HB : Hid (u2 < v1) := Lib.hid (by omega)
  have HGI := Lib.hid (GI.init (u0 := u0) (v0 := v0) HB.out h1 h0 hv1)
  clear h2 h1 h0 hv1 hv0 hv hb
  go_enter Tryd.func81, Tryd.ntmps81
  go_wp2_with (go_at_call 73; refine (div64_calls u2 u1 v1 _ HB.out HV1.out H1.out).mono ?_; rintro e w2 ⟨rfl, n, rfl⟩)
  clear t1
  go_loop [11, 12] (fun a b => ∃ q r : Nat, a = .int .u64 (q : Int) ∧ b = .int .u64 (r : Int) ∧ Hid (GI u2 u1 u0 v1 v0 q r)) (fun _ b => gOf b)
  case atStart => exact ⟨_, _, rfl, rfl, HGI⟩
  case round =>
    clear HGI
    obtain ⟨q, r, rfl, rfl, HG⟩ := hrel
    have HT := Lib.hid (GI.test (q := q) (v0 := v0) (r := r) (u2 := 0) (u1 := 0) (v1 := 0) H0.out)
    obtain ⟨hi, hhi⟩ : ∃ hi, hi = mulH q v0 := ⟨_, rfl⟩
    obtain ⟨lo, hlo⟩ : ∃ lo, lo = mulL q v0 := ⟨_, rfl⟩
    have hmul : ∀ w, Calls Tryd.prog 64 #[.int .u64 (q : Int), .int .u64 (v0 : Int)] w fun e w' => e = .returned (.tuple #[.int .u64 ((hi : Nat) : Int), .int .u64 ((lo : Nat) : Int)]) ∧ w = w' := fun w => by rw [hhi, hlo]; exact mul64_calls q v0 HG.out.lq HV0.out w
    have HMUL := Lib.hid hmul
    have HT2 : Hid ((hi < r ∨ hi = r ∧ lo ≤ u0) ↔ q * v0 ≤ r * W64 + u0) := Lib.hid (by rw [hhi, hlo]; exact HT.out)
    clear hmul hhi hlo HT
    by_cases ht : hi < r ∨ hi = r ∧ lo ≤ u0
    · have HTT := Lib.hid ht
      rcases ht with ht | ⟨ht1, ht2⟩
      · have t1 : hi < r := ht
        clear ht
        go_wp2_with (go_at_call 64; refine (HMUL.out _).mono ?_; rintro e w2 ⟨rfl, rfl⟩)
        go_ret
        exact ⟨q, rfl, HG.out.lq, HG.out.ge, _, rfl⟩
      · have t1 : ¬ hi < r := by omega
        have t2 : ((hi : Int) == (r : Int)) = true := by rw [beq_iff_eq]; omega
        have t3 : lo ≤ u0 := ht2
        clear ht1 ht2
        go_wp2_with (go_at_call 64; refine (HMUL.out _).mono ?_; rintro e w2 ⟨rfl, rfl⟩)
        go_ret
        exact ⟨q, rfl, HG.out.lq, HG.out.ge, _, rfl⟩
    · have HN := Lib.hid (GI.next HG.out H0.out (fun h => ht (HT2.out.mpr h)))
      have hq1 : (1 : Int) ≤ (q : Int) := by have := HN.out.1; omega
      have hqW : (q : Int) ≤ 18446744073709551615 := by have := HG.out.lq; unfold W64 at this; omega
      have r1 : IntKind.u64.wrap ((r : Int) + (v1 : Int)) = (((r + v1) % W64 : Nat) : Int) := by rw [← Int.natCast_add]; exact wrap_mod _
      obtain ⟨r', hr'⟩ : ∃ r', r' = (r + v1) % W64 := ⟨_, rfl⟩
      rw [← hr'] at r1
      have e1 : (q : Int) - 1 = ((q - 1 : Nat) : Int) := by omega
      obtain ⟨p, hp⟩ : ∃ p, p = q - 1 := ⟨_, rfl⟩
      rw [← hp] at e1
      have HP := Lib.hid hp
      have t1 : ¬ hi < r := fun h => ht (.inl h)
      have HR' := Lib.hid hr'
      by_cases ho : r + v1 < W64
      · have hrr : r' = r + v1 := by rw [hr']; exact Nat.mod_eq_of_lt ho
        have t4 : ¬ r' < r := by omega
        have HRR := Lib.hid hrr
        have HO := Lib.hid ho
        have hvv := HV.out
        by_cases heq : hi = r
        · have t2 : ((hi : Int) == (r : Int)) = true := by rw [beq_iff_eq]; omega
          have t3 : ¬ lo ≤ u0 := fun h => ht (.inr ⟨heq, h⟩)
          clear ht hr' hp ho hrr heq hvv
          go_wp2_with (go_at_call 64; refine (HMUL.out _).mono ?_; rintro e w2 ⟨rfl, rfl⟩)
          go_round
          case rel => exact ⟨p, r', rfl, rfl, Lib.hid ⟨by rw [HP.out, HRR.out]; exact HN.out.2.1, by have := HG.out.lq; rw [HP.out]; omega, by rw [HRR.out]; exact HO.out, by rw [HP.out]; exact HN.out.2.2⟩⟩
          case measure => have := HRR.out; have := HV.out; have := HO.out; simp [gOf, intOf]; omega
        · have t2 : ((hi : Int) == (r : Int)) = false := by rw [beq_eq_false_iff_ne]; omega
          clear ht hr' hp ho hrr heq hvv
          go_wp2_with (go_at_call 64; refine (HMUL.out _).mono ?_; rintro e w2 ⟨rfl, rfl⟩)
          go_round
          case rel => exact ⟨p, r', rfl, rfl, Lib.hid ⟨by rw [HP.out, HRR.out]; exact HN.out.2.1, by have := HG.out.lq; rw [HP.out]; omega, by rw [HRR.out]; exact HO.out, by rw [HP.out]; exact HN.out.2.2⟩⟩
          case measure => have := HRR.out; have := HV.out; have := HO.out; simp [gOf, intOf]; omega
      · have t4 : r' < r := by
          have a1 := HG.out.lr
          have a2 := HV1.out
          have : r' = r + v1 - W64 := by rw [hr', Nat.mod_eq_sub_mod (by omega), Nat.mod_eq_of_lt (by omega)]
          omega
        by_cases heq : hi = r
        · have t2 : ((hi : Int) == (r : Int)) = true := by rw [beq_iff_eq]; omega
          have t3 : ¬ lo ≤ u0 := fun h => ht (.inr ⟨heq, h⟩)
          clear ht hr' hp ho heq
          go_wp2_with (go_at_call 64; refine (HMUL.out _).mono ?_; rintro e w2 ⟨rfl, rfl⟩)
          go_ret
          exact ⟨p, rfl, by have := HG.out.lq; rw [HP.out]; omega, by rw [HP.out]; exact HN.out.2.2, _, rfl⟩
        · have t2 : ((hi : Int) == (r : Int)) = false := by rw [beq_eq_false_iff_ne]; omega
          clear ht hr' hp ho heq
          go_wp2_with (go_at_call 64; refine (HMUL.out _).mono ?_; rintro e w2 ⟨rfl, rfl⟩)
          go_ret
          exact ⟨p, rfl, by have := HG.out.lq; rw [HP.out]; omega, by rw [HP.out]; exact HN.out.2.2, _, rfl⟩
end Go.Proofs.YtpgnlpjjpgdoiaaDoor
/- The contracts of takeAway and putBack: they write into a part of a row. -/
namespace Go.Proofs.YtpgnlpjjpgdoiaaDoor
open Go Go.RowKit
set_option linter.unusedVariables false
set_option linter.unusedSimpArgs false
/-- Only block g has been written. -/
structure Only (g : Nat) (w w' : World) : Prop where
  os : w'.os = w.os
  tape : w'.tape = w.tape
  output : w'.output = w.output
  size : w.heap.size ≤ w'.heap.size
  block : ∀ k, k < w.heap.size → k ≠ g → w'.heap[k]? = w.heap[k]?
namespace Only
theorem refl (g : Nat) (w : World) : Only g w w := ⟨rfl, rfl, rfl, Nat.le_refl _, fun _ _ _ => rfl⟩
theorem setCell {g : Nat} {a w : World} (h : Only g a w) (j : Nat) (u : Value) : Only g a (w.setCell ⟨g, j, none⟩ u) :=
  ⟨h.os, h.tape, h.output, by simp only [World.setCell, Array.size_modify]; exact h.size, fun k hk hn => (Below.heap_setCell _ _ _ _ (by simpa using hn)).trans (h.block k hk hn)⟩
theorem drewN {g : Nat} {a w : World} (h : Only g a w) (n : Nat) : Only g a (w.drewN n) := ⟨h.os, h.tape, h.output, h.size, h.block⟩
theorem ext {g : Nat} {w0 w w' : World} (h : Only g w w') (he : Ext w0 w) (hg : w0.heap.size ≤ g) : Ext w0 w' :=
  ⟨h.os.trans he.os, h.tape.trans he.tape, h.output.trans he.output, Nat.le_trans he.size h.size, fun k hk => (h.block k (Nat.lt_of_lt_of_le hk he.size) (by omega)).trans (he.block k hk)⟩
theorem blk {g : Nat} {w w' : World} (h : Only g w w') {b : Nat} {xs : List Nat} (hb : Blk w b xs) (hn : b ≠ g) : Blk w' b xs := by
  have := h.block b hb.lt hn
  unfold Blk at *
  rw [this]; exact hb
end Only
/-- A part of a list. -/
def seg (L : List Nat) (j n : Nat) : List Nat := (L.drop j).take n
theorem seg_getD {L : List Nat} {j n i : Nat} (h : i < n) : (seg L j n).getD i 0 = L.getD (j + i) 0 := by
  unfold seg; rw [take_getD _ _ _ h, getD_drop]
theorem seg_length {L : List Nat} {j n : Nat} (h : j + n ≤ L.length) : (seg L j n).length = n := by
  unfold seg; rw [List.length_take, List.length_drop]; omega
theorem seg_succ {L : List Nat} {j n : Nat} (h : j + n < L.length) : seg L j (n + 1) = seg L j n ++ [L.getD (j + n) 0] := by
  unfold seg; rw [take_succ_getD _ _ (by rw [List.length_drop]; omega), getD_drop]
theorem vb_seg_succ {L : List Nat} {j n : Nat} (h : j + n < L.length) : vb W64 (seg L j (n + 1)) = vb W64 (seg L j n) + W64 ^ n * L.getD (j + n) 0 := by
  rw [seg_succ h, vb_snoc, seg_length (by omega)]
theorem seg_set_succ {L : List Nat} {j n x : Nat} (h : j + n < L.length) : seg (L.set (j + n) x) j (n + 1) = seg L j n ++ [x] := by
  rw [seg_succ (by simpa using h), getD_set_eq _ _ _ h]
  congr 1
  unfold seg
  rw [List.drop_set, if_neg (by omega), show j + n - j = n by omega, List.take_set_of_le (Nat.le_refl _)]
theorem seg_zero (L : List Nat) (j : Nat) : seg L j 0 = [] := by simp [seg]
theorem WB.seg {L : List Nat} (h : WB W64 L) (j n : Nat) : WB W64 (seg L j n) := (h.drop j).take n
/-- L and L' are alike but for the places from j to j + n - 1. -/
structure Alike (L L' : List Nat) (j n : Nat) : Prop where
  len : L'.length = L.length
  out : ∀ i, (i < j ∨ j + n ≤ i) → L'.getD i 0 = L.getD i 0
theorem Alike.refl (L : List Nat) (j n : Nat) : Alike L L j n := ⟨rfl, fun _ _ => rfl⟩
theorem Alike.set {L L' : List Nat} {j n i x : Nat} (h : Alike L L' j n) (h1 : j ≤ i) (h2 : i < j + n) : Alike L (L'.set i x) j n :=
  ⟨by simpa using h.len, fun k hk => by rw [getD_set_ne _ _ _ _ (by omega)]; exact h.out k hk⟩
theorem take_mul_step {hi lo c0 c' lo1 y d cy : Nat} (h1 : lo + W64 * hi = d * y) (h2 : lo1 + W64 * c' = lo + cy + 0) : lo1 + W64 * (hi + c') = d * y + cy := by
  rw [Nat.mul_add]; omega
/-- One place of taking away. -/
theorem take_step {L M ys : List Nat} {j i d cy bo u y lo cy' : Nat} (hM : M.length = L.length) (hj : j + i < L.length) (hi : i < ys.length)
    (hu : M.getD (j + i) 0 = u) (huL : L.getD (j + i) 0 = u) (hy : ys.getD i 0 = y) (hul : u < W64) (hlo : lo < W64) (hbo : bo ≤ 1)
    (hp : lo + W64 * cy' = d * y + cy)
    (h : vb W64 (seg M j i) + d * vb W64 (ys.take i) = vb W64 (seg L j i) + (cy + bo) * W64 ^ i) :
    vb W64 (seg (M.set (j + i) (subD u lo bo)) j (i + 1)) + d * vb W64 (ys.take (i + 1)) = vb W64 (seg L j (i + 1)) + (cy' + subB u lo bo) * W64 ^ (i + 1) := by
  have h1 := sub_eq hul hlo hbo
  rw [seg_set_succ (by omega), vb_snoc, seg_length (by omega), vb_seg_succ hj, vb_take_succ ys i hi, huL, hy, Nat.pow_succ]
  generalize W64 ^ i = P at *
  generalize vb W64 (seg M j i) = a at *
  generalize vb W64 (seg L j i) = b at *
  generalize vb W64 (ys.take i) = c at *
  generalize subD u lo bo = s at *
  generalize subB u lo bo = e at *
  have h2 : P * (s + lo + bo) = P * (u + W64 * e) := by rw [h1]
  have h3 : P * (lo + W64 * cy') = P * (d * y + cy) := by rw [hp]
  rw [Nat.mul_add, Nat.mul_add, Nat.mul_add] at h2
  rw [Nat.mul_add, Nat.mul_add] at h3
  rw [Nat.mul_add, show d * (P * y) = P * (d * y) from Nat.mul_left_comm _ _ _, show (cy' + e) * (P * W64) = P * (W64 * cy') + P * (W64 * e) from by rw [← Nat.mul_add, ← Nat.mul_add, Nat.mul_comm (cy' + e), Nat.mul_assoc]]
  rw [Nat.add_mul, Nat.mul_comm cy, Nat.mul_comm bo] at h
  omega

theorem carry_fit {d y c : Nat} (hd : d < W64) (hy : y < W64) (hc : c < W64) : mulH d y + addC (mulL d y) c 0 < W64 ∧ addS (mulL d y) c 0 + W64 * (mulH d y + addC (mulL d y) c 0) = d * y + c := by
  have e1 := mul_eq d y
  have e2 := add_eq (mulL d y) c 0
  have e5 : addS (mulL d y) c 0 + W64 * (mulH d y + addC (mulL d y) c 0) = d * y + c := by rw [Nat.mul_add]; omega
  have e4 : d * y + c < W64 * W64 := by
    have h1 : d * y ≤ (W64 - 1) * (W64 - 1) := Nat.mul_le_mul (by omega) (by omega)
    unfold W64 at *
    omega
  refine ⟨?_, e5⟩
  rcases Nat.lt_or_ge (mulH d y + addC (mulL d y) c 0) W64 with h | h
  · exact h
  · have := Nat.mul_le_mul_left W64 h; omega
theorem take_last {L M ys : List Nat} {j n d cy bo u : Nat} (hM : M.length = L.length) (hj : j + n < L.length) (hn : ys.length = n)
    (hu : M.getD (j + n) 0 = u) (huL : L.getD (j + n) 0 = u) (hul : u < W64) (hcy : cy < W64) (hbo : bo ≤ 1)
    (h : vb W64 (seg M j n) + d * vb W64 (ys.take n) = vb W64 (seg L j n) + (cy + bo) * W64 ^ n) :
    vb W64 (seg (M.set (j + n) (subD u cy bo)) j (n + 1)) + d * vb W64 ys = vb W64 (seg L j (n + 1)) + subB u cy bo * W64 ^ (n + 1) := by
  have h1 := sub_eq hul hcy hbo
  rw [List.take_of_length_le (by omega)] at h
  rw [seg_set_succ (by omega), vb_snoc, seg_length (by omega), vb_seg_succ hj, huL, Nat.pow_succ]
  generalize W64 ^ n = P at *
  generalize vb W64 (seg M j n) = a at *
  generalize vb W64 (seg L j n) = b at *
  generalize subD u cy bo = s at *
  generalize subB u cy bo = e at *
  have h2 : P * (s + cy + bo) = P * (u + W64 * e) := by rw [h1]
  rw [Nat.mul_add, Nat.mul_add, Nat.mul_add] at h2
  rw [show e * (P * W64) = P * (W64 * e) from by rw [Nat.mul_comm e, Nat.mul_assoc]]
  rw [Nat.add_mul, Nat.mul_comm cy, Nat.mul_comm bo] at h
  omega

set_option maxRecDepth 100000 in
set_option maxHeartbeats 4000000 in
theorem takeAway_calls (w0 w : World) (g j n cu cv d : Nat) (A : Option Addr) (L ys : List Nat) (hE : Ext w0 w) (hg : w0.heap.size ≤ g) (hL : Blk w g L) (hW : WB W64 L) (hj : j + n < L.length) (hLm : L.length ≤ 35184372088832) (hv : Rd w0 A ys) (hn : ys.length = n) (hWy : WB W64 ys) (hd : d < W64) :
    Calls Tryd.prog 82 #[.slice (some ⟨g, j, none⟩) (n + 1) cu, .slice A n cv, .int .u64 (d : Int)] w fun e w' => ∃ (L' : List Nat) (bo : Nat), e = .returned (.bool (decide (0 < bo))) ∧ bo ≤ 1 ∧ Only g w w' ∧ Blk w' g L' ∧ WB W64 L' ∧ Alike L L' j (n + 1) ∧ vb W64 (seg L' j (n + 1)) + d * vb W64 ys = vb W64 (seg L j (n + 1)) + bo * W64 ^ (n + 1) := by
  have HE := Lib.hid hE; clear hE
  have HG := Lib.hid hg; clear hg
  have HL0 := Lib.hid hL; clear hL
  have HW0 := Lib.hid hW; clear hW
  have HV := Lib.hid hv; clear hv
  have HWY := Lib.hid hWy; clear hWy
  have HD := Lib.hid hd; clear hd
  have HN := Lib.hid hn
  have hn1 : ys.length ≤ n := by omega
  have hn2 : n ≤ ys.length := by omega
  clear hn
  go_enter Tryd.func82, Tryd.ntmps82
  go_wp2
  go_loopw [7, 8, 16] (fun a b c wr => ∃ (i cy bo : Nat) (M : List Nat), i ≤ n ∧ bo ≤ 1 ∧ c = .int .i64 (i : Int) ∧ a = .int .u64 (cy : Int) ∧ b = .int .u64 (bo : Int) ∧ Hid (cy < W64) ∧ Hid (Blk wr g M) ∧ M.length = L.length ∧ Hid (WB W64 M) ∧ Hid (Only g w wr) ∧ Hid (∀ k, (k < j ∨ j + i ≤ k) → M.getD k 0 = L.getD k 0) ∧ Hid (vb W64 (seg M j i) + d * vb W64 (ys.take i) = vb W64 (seg L j i) + (cy + bo) * W64 ^ i)) (fun _ _ c _ => n - (intOf c).toNat)
  case atStart => exact ⟨0, 0, 0, L, by omega, by omega, rfl, rfl, rfl, Lib.hid W64_pos, HL0, rfl, HW0, Lib.hid (Only.refl _ _), Lib.hid (fun _ _ => rfl), Lib.hid (by simp [seg, vb])⟩
  case round =>
    obtain ⟨i, cy, bo, M, hi, hbo, rfl, rfl, rfl, HC, HM, hMl, HWM, HO, HF, HEQ⟩ := hrel
    by_cases hlt : i < n
    · obtain ⟨b1, o1, hA, hc1⟩ := HV.out i (by omega)
      subst hA
      have hcy := (HO.out.ext HE.out HG.out).cell hc1
      clear hc1
      obtain ⟨y, hyy⟩ : ∃ y : Nat, y = ys.getD i 0 := ⟨_, rfl⟩
      rw [← hyy] at hcy
      have HY : Hid (y < W64) := Lib.hid (by rw [hyy]; exact HWY.out.getD W64_pos i)
      have HYY := Lib.hid hyy; clear hyy
      have hM0 := HM.out.cell (i := j + i) (by omega)
      have hMf := HM.out.frozen (j + i)
      obtain ⟨u, huu⟩ : ∃ u : Nat, u = M.getD (j + i) 0 := ⟨_, rfl⟩
      rw [← huu] at hM0
      have HU : Hid (u < W64) := Lib.hid (by rw [huu]; exact HWM.out.getD W64_pos _)
      have HUU := Lib.hid huu; clear huu
      have hs1 := add64_run (mulL d y) cy 0 (by omega)
      have hs2 := sub64_run u (addS (mulL d y) cy 0) bo hbo
      simp only [Int.natCast_zero] at hs1
      have hps := prod_step (l := 0) W64_pos HD.out HY.out HC.out
      have hmc : mulH d y + addC (mulL d y) cy 0 < W64 ∧ addS (mulL d y) cy 0 + W64 * (mulH d y + addC (mulL d y) cy 0) = d * y + cy := carry_fit HD.out HY.out HC.out
      have hw1 : IntKind.u64.wrap (((mulH d y : Nat) : Int) + ((addC (mulL d y) cy 0 : Nat) : Int)) = ((mulH d y + addC (mulL d y) cy 0 : Nat) : Int) := by rw [← Int.natCast_add]; exact wrap_nat hmc.1
      have HMC := Lib.hid hmc
      clear hmc hps
      obtain ⟨cy', hcy'⟩ : ∃ cy', cy' = mulH d y + addC (mulL d y) cy 0 := ⟨_, rfl⟩
      rw [← hcy'] at hw1
      have HCY := Lib.hid hcy'; clear hcy'
      go_wp2_with (go_at_call 64; refine (mul64_calls d y HD.out HY.out _).mono ?_; rintro e w2 ⟨rfl, rfl⟩)
      clear hs1 hs2 hM0 hMf hcy hw1
      go_roundw
      case rel =>
        refine ⟨i + 1, cy', subB u (addS (mulL d y) cy 0) bo, M.set (j + i) (subD u (addS (mulL d y) cy 0) bo), by omega, subB_le _ _ _, by go_num, rfl, rfl, Lib.hid (by rw [HCY.out]; exact HMC.out.1), HM.out.set _ _, by simpa using hMl, HWM.out.set _ (subD_lt _ _ _), HO.out.setCell _ _, ?_, ?_⟩
        · refine Lib.hid (fun k hk => ?_)
          rw [getD_set_ne _ _ _ _ (by omega)]
          exact HF.out k (by omega)
        · refine Lib.hid (take_step hMl (by omega) (by omega) HUU.out.symm ?_ HYY.out.symm HU.out (addS_lt _ _ _) hbo (by rw [HCY.out]; exact HMC.out.2) HEQ.out)
          rw [HUU.out]; exact (HF.out _ (by omega)).symm
      case measure => simp [intOf]; omega
    · have hi2 : i = n := by omega
      subst hi2
      have hM0 := HM.out.cell (i := j + i) (by omega)
      have hMf := HM.out.frozen (j + i)
      obtain ⟨u, huu⟩ : ∃ u : Nat, u = M.getD (j + i) 0 := ⟨_, rfl⟩
      rw [← huu] at hM0
      have HU : Hid (u < W64) := Lib.hid (by rw [huu]; exact HWM.out.getD W64_pos _)
      have HUU := Lib.hid huu; clear huu
      have hs2 := sub64_run u cy bo hbo
      obtain ⟨bb, hbb⟩ : ∃ bb, bb = subB u cy bo := ⟨_, rfl⟩
      rw [← hbb] at hs2
      have HBB := Lib.hid hbb; clear hbb
      go_wp2
      go_ret
      refine ⟨M.set (j + i) (subD u cy bo), bb, ?_, by rw [HBB.out]; exact subB_le _ _ _, HO.out.setCell _ _, HM.out.set _ _, HWM.out.set _ (subD_lt _ _ _), ⟨by simpa using hMl, fun k hk => ?_⟩, ?_⟩
      · first | rfl | simp
      · rw [getD_set_ne _ _ _ _ (by omega)]; exact HF.out k (by omega)
      · rw [HBB.out]
        exact take_last hMl hj HN.out HUU.out.symm (by rw [HUU.out]; exact (HF.out _ (by omega)).symm) HU.out HC.out hbo HEQ.out

/-- One place of putting back. -/
theorem put_step {L M ys : List Nat} {j i co u y : Nat} (hM : M.length = L.length) (hj : j + i < L.length)
    (huL : L.getD (j + i) 0 = u) (hy : vb W64 (ys.take (i + 1)) = vb W64 (ys.take i) + W64 ^ i * y)
    (h : vb W64 (seg M j i) + co * W64 ^ i = vb W64 (seg L j i) + vb W64 (ys.take i)) :
    vb W64 (seg (M.set (j + i) (addS u y co)) j (i + 1)) + addC u y co * W64 ^ (i + 1) = vb W64 (seg L j (i + 1)) + vb W64 (ys.take (i + 1)) := by
  have h1 := add_eq u y co
  rw [seg_set_succ (by omega), vb_snoc, seg_length (by omega), vb_seg_succ hj, huL, hy, Nat.pow_succ]
  generalize W64 ^ i = P at *
  generalize vb W64 (seg M j i) = a at *
  generalize vb W64 (seg L j i) = b at *
  generalize vb W64 (ys.take i) = c at *
  generalize addS u y co = s at *
  generalize addC u y co = e at *
  have h2 : P * (s + W64 * e) = P * (u + y + co) := by rw [h1]
  rw [Nat.mul_add, Nat.mul_add, Nat.mul_add] at h2
  rw [show e * (P * W64) = P * (W64 * e) from by rw [Nat.mul_comm e, Nat.mul_assoc]]
  rw [Nat.mul_comm co] at h
  omega

set_option maxRecDepth 100000 in
set_option maxHeartbeats 4000000 in
theorem putBack_calls (w0 w : World) (g j n cu cv : Nat) (A : Option Addr) (L ys : List Nat) (hE : Ext w0 w) (hg : w0.heap.size ≤ g) (hL : Blk w g L) (hW : WB W64 L) (hj : j + n < L.length) (hLm : L.length ≤ 35184372088832) (hv : Rd w0 A ys) (hn : ys.length = n) (hWy : WB W64 ys) :
    Calls Tryd.prog 83 #[.slice (some ⟨g, j, none⟩) (n + 1) cu, .slice A n cv] w fun e w' => ∃ (L' : List Nat) (co : Nat), e = .returned (.bool (decide (0 < co))) ∧ co ≤ 1 ∧ Only g w w' ∧ Blk w' g L' ∧ WB W64 L' ∧ Alike L L' j (n + 1) ∧ vb W64 (seg L' j (n + 1)) + co * W64 ^ (n + 1) = vb W64 (seg L j (n + 1)) + vb W64 ys := by
  have HE := Lib.hid hE; clear hE
  have HG := Lib.hid hg; clear hg
  have HL0 := Lib.hid hL; clear hL
  have HW0 := Lib.hid hW; clear hW
  have HV := Lib.hid hv; clear hv
  have HWY := Lib.hid hWy; clear hWy
  have HN := Lib.hid hn
  have hn1 : ys.length ≤ n := by omega
  have hn2 : n ≤ ys.length := by omega
  clear hn
  go_enter Tryd.func83, Tryd.ntmps83
  go_wp2
  go_loopw [5, 10] (fun b c wr => ∃ (i co : Nat) (M : List Nat), i ≤ n ∧ co ≤ 1 ∧ c = .int .i64 (i : Int) ∧ b = .int .u64 (co : Int) ∧ Hid (Blk wr g M) ∧ M.length = L.length ∧ Hid (WB W64 M) ∧ Hid (Only g w wr) ∧ Hid (∀ k, (k < j ∨ j + i ≤ k) → M.getD k 0 = L.getD k 0) ∧ Hid (vb W64 (seg M j i) + co * W64 ^ i = vb W64 (seg L j i) + vb W64 (ys.take i))) (fun _ c _ => n - (intOf c).toNat)
  case atStart => exact ⟨0, 0, L, by omega, by omega, rfl, rfl, HL0, rfl, HW0, Lib.hid (Only.refl _ _), Lib.hid (fun _ _ => rfl), Lib.hid (by simp [seg, vb])⟩
  case round =>
    obtain ⟨i, co, M, hi, hco, rfl, rfl, HM, hMl, HWM, HO, HF, HEQ⟩ := hrel
    have hM0 := HM.out.cell (i := j + i) (by omega)
    have hMf := HM.out.frozen (j + i)
    obtain ⟨u, huu⟩ : ∃ u : Nat, u = M.getD (j + i) 0 := ⟨_, rfl⟩
    rw [← huu] at hM0
    have HU : Hid (u < W64) := Lib.hid (by rw [huu]; exact HWM.out.getD W64_pos _)
    have HUU := Lib.hid huu; clear huu
    by_cases hlt : i < n
    · obtain ⟨b1, o1, hA, hc1⟩ := HV.out i (by omega)
      subst hA
      have hcy := (HO.out.ext HE.out HG.out).cell hc1
      clear hc1
      obtain ⟨y, hyy⟩ : ∃ y : Nat, y = ys.getD i 0 := ⟨_, rfl⟩
      rw [← hyy] at hcy
      have HY : Hid (y < W64) := Lib.hid (by rw [hyy]; exact HWY.out.getD W64_pos i)
      have HYY := Lib.hid hyy; clear hyy
      have hs1 := add64_run u y co hco
      go_wp2
      clear hs1 hM0 hMf hcy
      go_roundw
      case rel =>
        refine ⟨i + 1, addC u y co, M.set (j + i) (addS u y co), by omega, addC_le HU.out HY.out hco, by go_num, rfl, HM.out.set _ _, by simpa using hMl, HWM.out.set _ (addS_lt _ _ _), HO.out.setCell _ _, ?_, ?_⟩
        · refine Lib.hid (fun k hk => ?_)
          rw [getD_set_ne _ _ _ _ (by omega)]
          exact HF.out k (by omega)
        · have hv := vb_take_succ (B := W64) ys i (by omega)
          rw [← HYY.out] at hv
          refine Lib.hid (put_step hMl (by omega) ?_ hv HEQ.out)
          rw [HUU.out]; exact (HF.out _ (by omega)).symm
      case measure => simp [intOf]; omega
    · have hi2 : i = n := by omega
      subst hi2
      have hs2 := add64_run u 0 co hco
      simp only [Int.natCast_zero] at hs2
      obtain ⟨bb, hbb⟩ : ∃ bb, bb = addC u 0 co := ⟨_, rfl⟩
      rw [← hbb] at hs2
      have HBB := Lib.hid hbb; clear hbb
      go_wp2
      go_ret
      refine ⟨M.set (j + i) (addS u 0 co), bb, ?_, by rw [HBB.out]; exact addC_le HU.out W64_pos hco, HO.out.setCell _ _, HM.out.set _ _, HWM.out.set _ (addS_lt _ _ _), ⟨by simpa using hMl, fun k hk => ?_⟩, ?_⟩
      · first | rfl | simp
      · rw [getD_set_ne _ _ _ _ (by omega)]; exact HF.out k (by omega)
      · rw [HBB.out]
        have := put_step (u := u) (y := 0) hMl hj (by rw [HUU.out]; exact (HF.out _ (by omega)).symm) (take_over (ys := ys) (by omega)) HEQ.out
        rw [List.take_of_length_le (by omega)] at this
        exact this
end Go.Proofs.YtpgnlpjjpgdoiaaDoor
/- The division of long numbers: the plain facts of one step. -/
namespace Go.Proofs.YtpgnlpjjpgdoiaaDoor
set_option linter.unusedVariables false
set_option linter.unusedSimpArgs false
/-- The head of a divisor of n words, and of what is divided. -/
theorem head_two {ys : List Nat} {n : Nat} (hn : ys.length = n) (h2 : 2 ≤ n) : vb W64 ys = vb W64 (ys.take (n - 2)) + W64 ^ (n - 2) * (ys.getD (n - 1) 0 * W64 + ys.getD (n - 2) 0) := by
  obtain ⟨m, rfl⟩ : ∃ m, n = m + 2 := ⟨n - 2, by omega⟩
  have e1 := vb_take_succ (B := W64) ys m (by omega)
  have e2 := vb_take_succ (B := W64) ys (m + 1) (by omega)
  rw [show m + 1 + 1 = m + 2 by omega, List.take_of_length_le (by omega)] at e2
  rw [show m + 2 - 2 = m by omega, show m + 2 - 1 = m + 1 by omega, e2, e1, Nat.pow_succ, Nat.mul_add, Nat.mul_assoc, Nat.mul_comm W64 (ys.getD (m + 1) 0)]
  omega
theorem head_three {S : List Nat} {n : Nat} (hn : S.length = n + 1) (h2 : 2 ≤ n) : vb W64 S = vb W64 (S.take (n - 2)) + W64 ^ (n - 2) * ((S.getD n 0 * W64 + S.getD (n - 1) 0) * W64 + S.getD (n - 2) 0) := by
  obtain ⟨m, rfl⟩ : ∃ m, n = m + 2 := ⟨n - 2, by omega⟩
  have e1 := vb_take_succ (B := W64) S m (by omega)
  have e2 := vb_take_succ (B := W64) S (m + 1) (by omega)
  have e3 := vb_take_succ (B := W64) S (m + 2) (by omega)
  rw [show m + 2 + 1 = m + 2 + 1 by rfl, List.take_of_length_le (by omega), show m + 2 = m + 1 + 1 by omega, e2, e1, Nat.pow_succ W64 (m + 1), Nat.pow_succ W64 m] at e3
  rw [show m + 2 - 2 = m by omega, show m + 2 - 1 = m + 1 by omega, e3, show m + 1 + 1 = m + 2 by omega]
  generalize W64 ^ m = P
  rw [Nat.mul_add, Nat.add_mul, Nat.mul_add]
  rw [show P * W64 * S.getD (m + 1) 0 = P * (S.getD (m + 1) 0 * W64) from by rw [Nat.mul_assoc, Nat.mul_comm W64], show P * W64 * W64 * S.getD (m + 2) 0 = P * (S.getD (m + 2) 0 * W64 * W64) from by simp only [Nat.mul_assoc, Nat.mul_comm, Nat.mul_left_comm]]
  omega
/-- The true digit fits. -/
theorem true_fits {S ys : List Nat} {n d : Nat} (hS : S.length = n + 1) (hWS : WB W64 S) (hn : ys.length = n) (h2 : 2 ≤ n) (hd : d < W64) (hle : d * vb W64 ys ≤ vb W64 S) :
    Fits (S.getD n 0) (S.getD (n - 1) 0) (S.getD (n - 2) 0) (ys.getD (n - 1) 0) (ys.getD (n - 2) 0) d := by
  refine ⟨hd, ?_⟩
  rw [head_two hn h2, head_three hS h2] at hle
  have h1 := vb_lt (hWS.take (n - 2))
  rw [List.length_take, Nat.min_eq_left (by omega)] at h1
  generalize W64 ^ (n - 2) = P at *
  generalize (S.getD n 0 * W64 + S.getD (n - 1) 0) * W64 + S.getD (n - 2) 0 = U at *
  generalize ys.getD (n - 1) 0 * W64 + ys.getD (n - 2) 0 = V at *
  rcases Nat.lt_or_ge U (d * V) with h | h
  · exfalso
    have h3 : P * (U + 1) ≤ P * (d * V) := Nat.mul_le_mul_left _ h
    rw [Nat.mul_add, Nat.mul_one, show P * (d * V) = d * (P * V) from Nat.mul_left_comm _ _ _] at h3
    rw [Nat.mul_add] at hle
    omega
  · exact h
/-- The dividend's part from place j on: the word there, and above it less than the divisor. -/
theorem seg_drop {U : List Nat} {j n V : Nat} (hU : WB W64 U) (hj : j + n < U.length) (hV : V < W64 ^ n) (h : vb W64 (U.drop (j + 1)) < V) : vb W64 (seg U j (n + 1)) = vb W64 (U.drop j) ∧ vb W64 (U.drop j) < W64 * V ∧ vb W64 (U.drop (j + n + 1)) = 0 := by
  have e1 : vb W64 (U.drop (j + 1)) = vb W64 ((U.drop (j + 1)).take n) + W64 ^ n * vb W64 ((U.drop (j + 1)).drop n) := vb_take_drop _ n (by rw [List.length_drop]; omega)
  have e2 : vb W64 ((U.drop (j + 1)).drop n) = 0 := by
    rcases Nat.eq_zero_or_pos (vb W64 ((U.drop (j + 1)).drop n)) with h0 | h0
    · exact h0
    · have := Nat.le_mul_of_pos_right (W64 ^ n) h0
      omega
  have e3 : vb W64 (U.drop j) = U.getD j 0 + W64 * vb W64 (U.drop (j + 1)) := by rw [drop_getD U j (by omega)]; rfl
  have e4 : vb W64 (seg U j (n + 1)) = U.getD j 0 + W64 * vb W64 ((U.drop (j + 1)).take n) := by
    unfold seg
    rw [drop_getD U j (by omega), List.take_succ_cons]; rfl
  have e5 : (U.drop (j + 1)).drop n = U.drop (j + n + 1) := by rw [List.drop_drop]; congr 1; omega
  rw [e5] at e2 e1
  rw [e2, Nat.mul_zero] at e1
  have e6 : vb W64 (U.drop (j + 1)) = vb W64 ((U.drop (j + 1)).take n) := by omega
  refine ⟨by rw [e4, e3, ← e6], ?_, e2⟩
  have h1 := hU.getD W64_pos j
  have h2 : W64 * (vb W64 (U.drop (j + 1)) + 1) ≤ W64 * V := Nat.mul_le_mul_left _ h
  rw [Nat.mul_add] at h2
  rw [e3]; omega
/-- Behind a step: the list, by its part that was turned. -/
theorem alike_drop {L L' : List Nat} {j n : Nat} (h : Alike L L' j n) (hj : j + n ≤ L.length) : L'.take j = L.take j ∧ L'.drop (j + n) = L.drop (j + n) := by
  have hl := h.len
  constructor
  · apply List.ext_getElem (by simp [hl])
    intro i h1 h2
    have := h.out i (.inl (by simp at h1; omega))
    simp only [List.getElem_take]
    rw [List.getD_eq_getElem?_getD, List.getD_eq_getElem?_getD, List.getElem?_eq_getElem (by simp at h1; omega), List.getElem?_eq_getElem (by simp at h2; omega)] at this
    exact this
  · apply List.ext_getElem (by simp [hl])
    intro i h1 h2
    have := h.out (j + n + i) (.inr (by omega))
    simp only [List.getElem_drop]
    rw [List.getD_eq_getElem?_getD, List.getD_eq_getElem?_getD, List.getElem?_eq_getElem (by simp at h1; omega), List.getElem?_eq_getElem (by simp at h2; omega)] at this
    exact this
theorem vb_three {L : List Nat} {j n : Nat} (hj : j + n ≤ L.length) : vb W64 L = vb W64 (L.take j) + W64 ^ j * vb W64 (seg L j n) + W64 ^ (j + n) * vb W64 (L.drop (j + n)) := by
  rw [vb_take_drop L j (by omega), vb_take_drop (L.drop j) n (by rw [List.length_drop]; omega), List.drop_drop, Nat.mul_add, ← Nat.mul_assoc, ← Nat.pow_add]
  unfold seg; omega
theorem div_alg1 {U U' Q : List Nat} {j n V a d : Nat} (hj : j + n < U.length) (hal : Alike U U' j (n + 1)) (hseg : vb W64 (seg U' j (n + 1)) + d * V = vb W64 (seg U j (n + 1))) (h1 : vb W64 (Q.set j d) = vb W64 Q + W64 ^ j * d) (h : vb W64 U + V * vb W64 Q = a) :
    vb W64 U' + V * vb W64 (Q.set j d) = a := by
  obtain ⟨k1, k2⟩ := alike_drop hal (by omega)
  have h2 := vb_three (L := U') (j := j) (n := n + 1) (by rw [hal.len]; omega)
  have h3 := vb_three (L := U) (j := j) (n := n + 1) (by omega)
  rw [k1, k2] at h2
  generalize W64 ^ j = P at *
  generalize W64 ^ (j + (n + 1)) = R at *
  generalize vb W64 (U.drop (j + (n + 1))) = t1 at *
  generalize vb W64 (U.take j) = t2 at *
  generalize vb W64 (seg U' j (n + 1)) = t3 at *
  generalize vb W64 (seg U j (n + 1)) = t4 at *
  generalize vb W64 (Q.set j d) = t5 at *
  generalize vb W64 Q = t6 at *
  generalize vb W64 U' = t7 at *
  generalize vb W64 U = t8 at *
  subst h1 h2 h3 hseg h
  rw [Nat.mul_add, Nat.mul_add, show V * (P * d) = P * (d * V) from by rw [Nat.mul_comm V, Nat.mul_assoc]]
  generalize P * t3 = a1
  generalize P * (d * V) = a2
  generalize R * t1 = a3
  generalize V * t6 = a4
  clear hal hj k1 k2
  omega
theorem div_alg2 {U U' : List Nat} {j n V : Nat} (hj : j + n < U.length) (hal : Alike U U' j (n + 1)) (e3 : vb W64 (U.drop (j + n + 1)) = 0) : vb W64 (U'.drop j) = vb W64 (seg U' j (n + 1)) := by
  obtain ⟨k1, k2⟩ := alike_drop hal (by omega)
  have h := vb_take_drop (B := W64) (U'.drop j) (n + 1) (by rw [List.length_drop, hal.len]; omega)
  rw [List.drop_drop, k2, show j + (n + 1) = j + n + 1 from rfl, e3, Nat.mul_zero, Nat.add_zero] at h
  exact h
/-- A whole step: the digit is right, what is left is less than the divisor. -/
theorem div_step {U U' Q : List Nat} {j n V a d : Nat} (hU : WB W64 U) (hU' : WB W64 U') (hj : j + n < U.length) (hV : V < W64 ^ n) (hal : Alike U U' j (n + 1)) (hseg : vb W64 (seg U' j (n + 1)) + d * V = vb W64 (seg U j (n + 1))) (hlt : vb W64 (seg U' j (n + 1)) < V)
    (hdr : vb W64 (U.drop (j + 1)) < V) (hq : j < Q.length) (hq0 : Q.getD j 0 = 0) (h : vb W64 U + V * vb W64 Q = a) :
    vb W64 (U'.drop j) < V ∧ vb W64 U' + V * vb W64 (Q.set j d) = a := by
  have e := seg_drop hU hj hV hdr
  have h1 := vb_set (B := W64) Q j d hq
  rw [hq0, Nat.mul_zero, Nat.add_zero] at h1
  exact ⟨by rw [div_alg2 (V := V) hj hal e.2.2]; exact hlt, div_alg1 hj hal hseg h1 h⟩
end Go.Proofs.YtpgnlpjjpgdoiaaDoor
/- The contract of divide where the dividend is less, and where the divisor is one word. -/
namespace Go.Proofs.YtpgnlpjjpgdoiaaDoor
open Go Go.RowKit
set_option linter.unusedVariables false
set_option linter.unusedSimpArgs false
/-- What divide returns. -/
def DivPost (w : World) (q r : Nat) (e : Ending) (w' : World) : Prop := ∃ vq vr, e = .returned (.tuple #[vq, vr]) ∧ NatAt w' vq q ∧ NatAt w' vr r ∧ Ext w w'
theorem rd_cells {w : World} {b o : Nat} {xs : List Nat} (h : Rd w (some ⟨b, o, none⟩) xs) : ∀ j u, (xs.map fun (x : Nat) => Value.int .u64 (x : Int))[j]? = some u → w.cell? ((⟨b, o, none⟩ : Addr).add j) = some u := by
  intro j u hj
  rw [List.getElem?_map] at hj
  cases hx : xs[j]? with
  | none => rw [hx] at hj; simp at hj
  | some x =>
    rw [hx] at hj
    simp at hj
    subst hj
    have hlt : j < xs.length := (List.getElem?_eq_some_iff.mp hx).1
    obtain ⟨b', o', he, hc⟩ := h j hlt
    injection he with he
    injection he with h1 h2
    subst h1; subst h2
    have hc2 : w.cell? ⟨b, o + j, none⟩ = some (Value.int .u64 (x : Int)) := by
      rw [hc]; simp [List.getD_eq_getElem?_getD, hx]
    by_cases hj0 : j = 0
    · subst hj0
      simp only [Addr.add, Nat.add_zero] at hc2 ⊢
      simpa using hc2
    · simp only [Addr.add, hj0, if_false]
      simpa using hc2

set_option maxRecDepth 100000 in
set_option maxHeartbeats 4000000 in
theorem divide_less (va vb' : Value) (a b : Nat) (w : World) (ha : NatAt w va a) (hb : NatAt w vb' b) (hab : a < b) (hla : (dg W64 a).length ≤ 17592186044416) :
    Calls Tryd.prog 63 #[va, vb'] w (DivPost w (a / b) (a % b)) := by
  have HCMP := Lib.hid (fun W he => compare_calls va vb' a b W (NatAt.ext ha he) (NatAt.ext hb he) (by omega) : ∀ W, Ext w W → _)
  obtain ⟨A, c, rfl, hc, hra⟩ := ha
  obtain ⟨A', c', rfl, hc', hrb⟩ := hb
  have HA := Lib.hid hra; clear hra hrb
  have HVX := Lib.hid (vb_dg W64_two a)
  have HWX := Lib.hid (WB_dg W64_two a)
  have HLX := Lib.hid (dg_last W64_two a)
  generalize dg W64 a = xs at *
  generalize dg W64 b = ys at *
  have hcm : cmpN a b = -1 := cmpN_lt hab
  have HQ : Hid (a / b = 0 ∧ a % b = a) := Lib.hid ⟨Nat.div_eq_of_lt hab, Nat.mod_eq_of_lt hab⟩
  rw [hcm] at HCMP
  clear hcm hab
  have HX : Hid (dg W64 a = xs) := Lib.hid (by rw [← HVX.out]; exact dg_vb W64_two HWX.out HLX.out)
  by_cases h0 : xs.length = 0
  · have hz : xs = [] := List.length_eq_zero_iff.mp h0
    subst hz
    simp only [List.length_nil] at *
    have HZ : Hid (a = 0) := Lib.hid (by rw [← HVX.out]; rfl)
    clear h0
    cases A with
    | none =>
      go_enter Tryd.func63, Tryd.ntmps63
      go_wp2_with (go_at_call 42; refine (HCMP.out _ (Ext.refl _)).mono ?_; rintro e w2 ⟨rfl, n, rfl⟩)
      go_wp2
      go_ret2
      exact ⟨_, _, rfl, by rw [HQ.out.1]; exact NatAt.zero _, by rw [HQ.out.2, HZ.out]; exact NatAt.zero _, (Ext.refl _).drewN _⟩
    | some ad =>
      go_enter Tryd.func63, Tryd.ntmps63
      go_wp2_with (go_at_call 42; refine (HCMP.out _ (Ext.refl _)).mono ?_; rintro e w2 ⟨rfl, n, rfl⟩)
      go_wp2
      go_ret2
      exact ⟨_, _, rfl, by rw [HQ.out.1]; exact NatAt.zero _, by rw [HQ.out.2, HZ.out]; exact NatAt.zero _, (Ext.refl _).drewN _⟩
  · obtain ⟨b1, o1, rfl, hc1⟩ := HA.out 0 (by omega)
    obtain ⟨i0, hi, hz0, hz1, hz2⟩ := info_parts infoW
    clear hc1
    have hnil : ∀ W : World, W.ownsRow w.heap.size 76 1 (.slice none 0 0) 0 [] := fun W => World.ownsRow_nil _ _ _ _
    have HNIL := Lib.hid hnil; clear hnil
    clear h0
    go_enter Tryd.func63, Tryd.ntmps63
    go_wp2_with (first | (go_at_call 42; refine (HCMP.out _ (Ext.refl _)).mono ?_; rintro e w2 ⟨rfl, n, rfl⟩) | (at_builtin; refine wpList_append_own _ rfl _ _ _ rfl w.heap.size _ i0 _ 1 8 Tryd.underlying72 hi hz0 hz1 hz2 rfl (by decide) _ 0 [] rfl (HNIL.out _) ⟨b1, o1, none⟩ xs.length c (xs.map fun (x : Nat) => Value.int .u64 (x : Int)) rfl (by simp) (rd_cells (HA.out.ext ((Ext.refl w).drewN _))) (by intro u hu; simp at hu; obtain ⟨x, _, rfl⟩ := hu; rfl) (by unfold maxLen; omega) (by omega) (by exact Nat.le_refl _) ?_; intro v' w1 hown hgr _))
    go_ret2
    have hown' : w1.ownsRow w.heap.size 76 1 v' xs.length (xs.map fun (x : Nat) => Value.int .u64 (x : Int)) := by
      have h := hown
      rw [List.nil_append, Nat.zero_add] at h
      exact h
    refine ⟨_, _, rfl, by rw [HQ.out.1]; exact NatAt.zero _, ?_, ?_⟩
    · rw [HQ.out.2]
      unfold NatAt
      rw [HX.out]
      exact owns_slAt (c := 0) hown'
    · exact Below.grown (row := none) ((Ext.refl w).drewN n) hgr (Nat.le_refl _) (fun k hk => by simp at hk)
/-- The divisor is one word. -/
theorem divide_one (va vb' : Value) (a b : Nat) (w : World) (ha : NatAt w va a) (hb : NatAt w vb' b) (hab : ¬ a < b) (h1 : (dg W64 b).length = 1) (hla : (dg W64 a).length ≤ 17592186044416) :
    Calls Tryd.prog 63 #[va, vb'] w (DivPost w (a / b) (a % b)) := by
  obtain ⟨hb0, hbW, hbd⟩ := dg_length_one W64_two h1
  have HCMP := Lib.hid (fun W he => compare_calls va vb' a b W (NatAt.ext ha he) (NatAt.ext hb he) (by omega) : ∀ W, Ext w W → _)
  have HBY := Lib.hid (fun W he => byWord_calls va a b W (NatAt.ext ha he) (by omega) hbW (by omega) : ∀ W, Ext w W → _)
  have HWD := Lib.hid (fun W => word_calls (a % b) W (Nat.lt_trans (Nat.mod_lt _ (by omega)) hbW))
  obtain ⟨A, c, rfl, hc, hra⟩ := ha
  obtain ⟨A', c', rfl, hc', hrb⟩ := hb
  rw [hbd] at hrb hc' HCMP ⊢
  obtain ⟨b1, o1, rfl, hc1⟩ := hrb 0 (by simp)
  have HC := Lib.hid (fun W (he : Ext w W) => he.cell hc1 : ∀ W, Ext w W → _)
  simp only [List.getD_cons_zero, List.length_cons, List.length_nil, Nat.zero_add, Nat.add_zero] at HC HCMP HBY hc' ⊢
  clear hra hrb hc1 hbd h1
  generalize (dg W64 a).length = la at *
  obtain ⟨cm, hcm, hcm0⟩ : ∃ cm : Int, cm = cmpN a b ∧ decide (cm < 0) = false := ⟨_, rfl, by
    unfold cmpN
    rw [if_neg hab]
    split <;> decide⟩
  rw [← hcm] at HCMP
  clear hcm hab
  generalize a / b = Q at HBY ⊢
  generalize a % b = R at HBY HWD ⊢
  clear hb0 hbW
  have hcell := HC.out _ (Ext.refl w)
  go_enter Tryd.func63, Tryd.ntmps63
  go_wp2_with (go_at_call 42; refine (HCMP.out _ (Ext.refl _)).mono ?_; rintro e w2 ⟨rfl, n, rfl⟩)
  go_wp2_with (go_at_call 59; refine (HBY.out _ ((Ext.refl _).drewN _)).mono ?_; rintro e w2 ⟨r1, rfl, hn1, he1⟩)
  go_wp2_with (go_at_call 53; refine (HWD.out _).mono ?_; rintro e w3 ⟨r2, rfl, hn2, he2⟩)
  go_ret2
  exact ⟨_, _, rfl, hn1.ext he2, hn2, (((Ext.refl w).drewN n).trans he1).trans he2⟩
end Go.Proofs.YtpgnlpjjpgdoiaaDoor
/- The division of long numbers: the plain facts around the loop. -/
namespace Go.Proofs.YtpgnlpjjpgdoiaaDoor
open Go Go.RowKit
set_option linter.unusedVariables false
set_option linter.unusedSimpArgs false
/-- The start: what the shift does to both numbers. -/
structure DivSt (a b n m s : Nat) (ys vy us : List Nat) : Prop where
  s63 : s ≤ 63
  vlen : vy.length = n
  vtop : 0 < vy.getD (n - 1) 0
  vlt : b * 2 ^ s < W64 ^ n
  vpos : 0 < b * 2 ^ s
  alen : us.length ≤ n + m + 1
  first : a * 2 ^ s < W64 ^ (m + 1) * (b * 2 ^ s)
theorem last_pos {n b : Nat} (hn : (dg W64 b).length = n) (h0 : 0 < n) : 0 < (dg W64 b).getD (n - 1) 0 := by
  rcases dg_last W64_two b with h | h
  · rw [h] at hn; simp at hn; omega
  · rcases Nat.eq_zero_or_pos ((dg W64 b).getD (n - 1) 0) with h1 | h1
    · exfalso; apply h
      rw [List.getLast?_eq_getElem?, hn, List.getElem?_eq_getElem (by omega)]
      rw [List.getD_eq_getElem?_getD, List.getElem?_eq_getElem (by omega)] at h1
      simpa using h1
    · exact h1
theorem div_start {a b n m s : Nat} (hab : b ≤ a) (hn : (dg W64 b).length = n) (hm : (dg W64 a).length = n + m) (h2 : 2 ≤ n) (hs : s = nlz ((dg W64 b).getD (n - 1) 0)) :
    DivSt a b n m s (dg W64 b) (dg W64 (b * 2 ^ s)) (dg W64 (a * 2 ^ s)) := by
  have hy := last_pos hn (by omega)
  have hyW := (WB_dg W64_two b).getD W64_pos (n - 1)
  obtain ⟨k1, k2, k3⟩ := nlz_spec _ (by omega) hyW
  rw [← hs] at k1 k2 k3
  have hb0 : b ≠ 0 := by rintro rfl; rw [dg_zero] at hn; simp at hn; omega
  have hp : 0 < 2 ^ s := Nat.pow_pos (by omega)
  have hvb := vb_dg W64_two b
  have hsp : b = vb W64 ((dg W64 b).take (n - 1)) + W64 ^ (n - 1) * (dg W64 b).getD (n - 1) 0 := by
    have := vb_take_succ (B := W64) (dg W64 b) (n - 1) (by omega)
    rw [show n - 1 + 1 = n by omega, List.take_of_length_le (by omega), hvb] at this
    exact this
  have hlo := vb_lt ((WB_dg W64_two b).take (n - 1))
  rw [List.length_take, Nat.min_eq_left (by omega)] at hlo
  have hvlt : b * 2 ^ s < W64 ^ n := by
    have e1 : b * 2 ^ s < W64 ^ (n - 1) * ((dg W64 b).getD (n - 1) 0 + 1) * 2 ^ s := by
      refine Nat.mul_lt_mul_of_pos_right ?_ hp
      rw [Nat.mul_add]; omega
    have e2 : ((dg W64 b).getD (n - 1) 0 + 1) * 2 ^ s ≤ W64 := by
      have e3 : W64 = 2 ^ (64 - s) * 2 ^ s := by rw [← Nat.pow_add, show 64 - s + s = 64 by omega]; rfl
      rw [e3] at k2 ⊢
      exact Nat.mul_le_mul_right _ (Nat.lt_of_mul_lt_mul_right k2)
    have e4 : W64 ^ n = W64 ^ (n - 1) * W64 := by rw [← Nat.pow_succ]; congr 1; omega
    rw [e4]
    rw [Nat.mul_assoc] at e1
    exact Nat.lt_of_lt_of_le e1 (Nat.mul_le_mul_left _ e2)
  have hvl : (dg W64 (b * 2 ^ s)).length = n := by
    have h1 := dg_length_le W64_two hvlt
    have h3 : (dg W64 b).length ≤ (dg W64 (b * 2 ^ s)).length := dg_length_mono W64_two (Nat.le_mul_of_pos_right _ hp)
    omega
  have haW := lt_pow_dg W64_two a
  rw [hm] at haW
  have h2W : 2 ^ s ≤ W64 := Nat.le_of_lt (Nat.lt_of_le_of_lt (Nat.pow_le_pow_right (by omega) k1) (by decide))
  refine ⟨k1, hvl, last_pos hvl (by omega), hvlt, Nat.mul_pos (by omega) hp, ?_, ?_⟩
  · apply dg_length_le W64_two
    rw [Nat.pow_succ]
    exact Nat.lt_of_lt_of_le (Nat.mul_lt_mul_of_pos_right haW hp) (Nat.mul_le_mul_left _ h2W)
  · rw [← Nat.mul_assoc]
    refine Nat.mul_lt_mul_of_pos_right (Nat.lt_of_lt_of_le haW ?_) hp
    have e1 := pow_le_dg W64_two hb0
    rw [hn] at e1
    refine Nat.le_trans ?_ (Nat.mul_le_mul_left _ e1)
    rw [← Nat.pow_add, show m + 1 + (n - 1) = n + m by omega]
    exact Nat.le_refl _
/-- A number's upper words are less, where the number is. -/
theorem drop_lt {L : List Nat} {j V : Nat} (hL : WB W64 L) (hj : j ≤ L.length) (h : vb W64 L < W64 ^ j * V) : vb W64 (L.drop j) < V := by
  rw [vb_take_drop L j hj] at h
  exact Nat.lt_of_mul_lt_mul_left (Nat.lt_of_le_of_lt (Nat.le_add_left _ _) h)
/-- The row behind the copy. -/
theorem copy_row {w : World} {g N : Nat} {xs : List Nat} (h : w.heap[g]? = some (.cells (splice ((List.replicate N 0).map fun (x : Nat) => Value.int .u64 (x : Int)) 0 (xs.map fun (x : Nat) => Value.int .u64 (x : Int))).toArray 76 (0, 0))) : Blk w g (xs ++ List.replicate (N - xs.length) 0) := by
  unfold Blk
  rw [h]
  congr 2
  unfold rowW splice
  simp [List.map_append]
theorem copy_src {w : World} {A : Option Addr} {xs : List Nat} (h : Rd w A xs) (g : Nat) : 0 < (xs.map fun (x : Nat) => Value.int .u64 (x : Int)).length → some (⟨g, 0, none⟩ : Addr) = some ⟨g, 0, none⟩ ∧ ∃ ad, A = some ad ∧ ∀ j v, (xs.map fun (x : Nat) => Value.int .u64 (x : Int))[j]? = some v → w.cell? (ad.add j) = some v := by
  intro h0
  obtain ⟨b, o, rfl, -⟩ := h 0 (by simpa using h0)
  exact ⟨rfl, _, rfl, rd_cells h⟩
theorem pad_facts {xs : List Nat} {N : Nat} (hx : WB W64 xs) (hl : xs.length ≤ N) : (xs ++ List.replicate (N - xs.length) 0).length = N ∧ WB W64 (xs ++ List.replicate (N - xs.length) 0) ∧ vb W64 (xs ++ List.replicate (N - xs.length) 0) = vb W64 xs :=
  ⟨by simp; omega, WB.append.mpr ⟨hx, WB.zeros W64_pos _⟩, by rw [vb_append, vb_zeros]; omega⟩
/-- No borrow: the digit is the true one. -/
theorem dig_none {S S' ys : List Nat} {n d V : Nat} (hS : S.length = n + 1) (hWS : WB W64 S) (hn : ys.length = n) (h2 : 2 ≤ n) (hV : vb W64 ys = V) (hlt : vb W64 S < W64 * V)
    (hfit : ∀ c, Fits (S.getD n 0) (S.getD (n - 1) 0) (S.getD (n - 2) 0) (ys.getD (n - 1) 0) (ys.getD (n - 2) 0) c → c ≤ d)
    (h : vb W64 S' + d * V = vb W64 S) : vb W64 S' < V := by
  have hV0 : 0 < V := by
    rcases Nat.eq_zero_or_pos V with h0 | h0
    · rw [h0] at hlt; omega
    · exact h0
  have h1 : vb W64 S / V < W64 := by rw [Nat.div_lt_iff_lt_mul hV0]; exact hlt
  have h3 := hfit _ (true_fits hS hWS hn h2 h1 (by rw [hV]; exact Nat.div_mul_le_self _ _))
  have h4 := Nat.div_add_mod (vb W64 S) V
  have h5 := Nat.mod_lt (vb W64 S) hV0
  have h6 : V * (vb W64 S / V) ≤ d * V := by rw [Nat.mul_comm]; exact Nat.mul_le_mul_right _ h3
  omega
/-- One more putting back. -/
theorem put_none {t d V P S s2 : Nat} (h : t + (d + 1) * V = S + P) (h2 : s2 = t + V) (hlt : s2 < P) : 1 ≤ d ∧ s2 + (d - 1 + 1) * V = S + P := by
  have hd : 1 ≤ d := by
    rcases Nat.eq_zero_or_pos d with h0 | h0
    · subst h0; rw [Nat.zero_add, Nat.one_mul] at h; omega
    · exact h0
  refine ⟨hd, ?_⟩
  rw [Nat.sub_add_cancel hd]
  rw [Nat.add_mul, Nat.one_mul] at h
  omega
theorem put_done {t d V P S s2 : Nat} (h : t + (d + 1) * V = S + P) (h2 : s2 + P = t + V) (ht : t < P) : s2 < V ∧ s2 + d * V = S := by
  rw [Nat.add_mul, Nat.one_mul] at h
  omega
/-- The end. -/
theorem div_end {a b s U Q : Nat} (h : U + b * 2 ^ s * Q = a * 2 ^ s) (hlt : U < b * 2 ^ s) : Q = a / b ∧ U / 2 ^ s = a % b := by
  have hp : 0 < 2 ^ s := Nat.pow_pos (by omega)
  have hb : 0 < b := by
    rcases Nat.eq_zero_or_pos b with h0 | h0
    · subst h0; simp at hlt
    · exact h0
  have h1 : Q = a / b := by
    have e := Nat.mul_div_mul_right a b hp
    rw [← e, ← h, Nat.add_mul_div_left _ _ (Nat.mul_pos hb hp), Nat.div_eq_of_lt hlt]; omega
  refine ⟨h1, ?_⟩
  have e : U = (a % b) * 2 ^ s := by
    have e2 := Nat.mul_mod_mul_right (2 ^ s) a b
    rw [← e2, ← h, Nat.add_mul_mod_self_left, Nat.mod_eq_of_lt hlt]
  rw [e, Nat.mul_div_cancel _ hp]
/-- The end of a round. -/
theorem div_rel {wv w5 : World} {gu gq n m j d V a : Nat} {U U' Q : List Nat} (hne : gu ≠ gq) (hG2 : wv.heap.size ≤ gq) (hE : Ext wv w5) (hU5 : Blk w5 gu U') (hQ5 : Blk w5 gq Q) (hUl : U.length = n + m + 1) (hQl : Q.length = m + 1) (hj : j + 1 ≤ m + 1)
    (hWU : WB W64 U) (hWU' : WB W64 U') (hWQ : WB W64 Q) (hV : V < W64 ^ n) (hd : d < W64) (hal : Alike U U' j (n + 1)) (hseg : vb W64 (seg U' j (n + 1)) + d * V = vb W64 (seg U j (n + 1))) (hlt : vb W64 (seg U' j (n + 1)) < V)
    (hdr : vb W64 (U.drop (j + 1)) < V) (hz : ∀ i, i < j + 1 → Q.getD i 0 = 0) (h : vb W64 U + V * vb W64 Q = a) :
    Hid (Blk (w5.setCell ⟨gq, j, none⟩ (.int .u64 (d : Int))) gu U') ∧ U'.length = n + m + 1 ∧ Hid (WB W64 U') ∧ Hid (Blk (w5.setCell ⟨gq, j, none⟩ (.int .u64 (d : Int))) gq (Q.set j d)) ∧ (Q.set j d).length = m + 1 ∧ Hid (WB W64 (Q.set j d)) ∧ Hid (Ext wv (w5.setCell ⟨gq, j, none⟩ (.int .u64 (d : Int)))) ∧
      Hid (vb W64 U' + V * vb W64 (Q.set j d) = a) ∧ Hid (vb W64 (U'.drop j) < V) ∧ Hid (∀ i, i < j → (Q.set j d).getD i 0 = 0) := by
  have hs := div_step hWU hWU' (by omega) hV hal hseg hlt hdr (by omega) (hz j (by omega)) h
  exact ⟨Lib.hid (((Only.refl gq w5).setCell j _).blk hU5 hne), by rw [hal.len]; exact hUl, Lib.hid hWU', Lib.hid (hQ5.set j d), by rw [List.length_set]; exact hQl, Lib.hid (hWQ.set _ hd), Lib.hid (hE.setCell hG2 _), Lib.hid hs.2, Lib.hid hs.1, Lib.hid (fun i hi => by rw [getD_set_ne _ _ _ _ (by omega)]; exact hz i (by omega))⟩
theorem borrow_pos {s' s d V P : Nat} (h : s' + d * V = s + 1 * P) (hlt : s' < P) : 1 ≤ d ∧ s' + (d - 1 + 1) * V = s + P := by
  have hd : 1 ≤ d := by
    rcases Nat.eq_zero_or_pos d with h0 | h0
    · subst h0; rw [Nat.zero_mul, Nat.one_mul] at h; omega
    · exact h0
  rw [Nat.sub_add_cancel hd]
  omega
theorem seg_lt {U : List Nat} {j n : Nat} (hW : WB W64 U) (hj : j + n < U.length) : vb W64 (seg U j (n + 1)) < W64 ^ (n + 1) := by
  have h := vb_lt (WB.seg hW j (n + 1))
  rw [seg_length (by omega)] at h
  exact h
theorem Alike.trans {L M N : List Nat} {j n : Nat} (h : Alike L M j n) (k : Alike M N j n) : Alike L N j n := ⟨k.len.trans h.len, fun i hi => (k.out i hi).trans (h.out i hi)⟩
end Go.Proofs.YtpgnlpjjpgdoiaaDoor
/- The contract of divide where the divisor is two words or more. -/
namespace Go.Proofs.YtpgnlpjjpgdoiaaDoor
open Go Go.RowKit
set_option linter.unusedVariables false
set_option linter.unusedSimpArgs false
theorem sizeW : (Tryd.prog.info? 76).map (·.size) = some 1 := by kernel_rfl
set_option maxRecDepth 100000 in
set_option maxHeartbeats 1000000 in
theorem divide_many (va vb' : Value) (a b : Nat) (w : World) (ha : NatAt w va a) (hb : NatAt w vb' b) (hab : ¬ a < b) (h2 : 2 ≤ (dg W64 b).length) (hla : (dg W64 a).length < 17592186044416) :
    Calls Tryd.prog 63 #[va, vb'] w (DivPost w (a / b) (a % b)) := by
  have hlb : (dg W64 b).length ≤ (dg W64 a).length := dg_length_mono W64_two (by omega)
  obtain ⟨m, hm⟩ : ∃ m, (dg W64 a).length = (dg W64 b).length + m := ⟨(dg W64 a).length - (dg W64 b).length, by omega⟩
  obtain ⟨n, hn⟩ : ∃ n, (dg W64 b).length = n := ⟨_, rfl⟩
  obtain ⟨y1, hy1⟩ : ∃ y1, y1 = (dg W64 b).getD (n - 1) 0 := ⟨_, rfl⟩
  obtain ⟨s, hs⟩ : ∃ s, s = nlz y1 := ⟨_, rfl⟩
  have hst := div_start (a := a) (b := b) (m := m) (s := s) (by omega) hn (by rw [hm, hn]) (by omega) (by rw [hs, hy1])
  have hy1W : y1 < W64 := by rw [hy1]; exact (WB_dg W64_two b).getD W64_pos _
  have hs63 := hst.s63
  have HCMP := Lib.hid (fun W he => compare_calls va vb' a b W (NatAt.ext ha he) (NatAt.ext hb he) (by omega) : ∀ W, Ext w W → _)
  have HLZ := Lib.hid (fun W => lz_calls y1 hy1W W)
  rw [← hs] at HLZ
  have HLB := Lib.hid (fun W he => left_calls vb' b s W (NatAt.ext hb he) (by omega) (by omega) : ∀ W, Ext w W → _)
  have HLA := Lib.hid (fun W he => left_calls va a s W (NatAt.ext ha he) (by omega) (by omega) : ∀ W, Ext w W → _)
  obtain ⟨A, c, rfl, hc, hra⟩ := ha
  obtain ⟨A', c', rfl, hc', hrb⟩ := hb
  obtain ⟨b1, o1, rfl, hc1⟩ := hrb (n - 1) (by omega)
  rw [← hy1] at hc1
  have HFI := Lib.hid hst.first
  have HVL := Lib.hid hst.vlt
  have HVT := Lib.hid hst.vtop
  have HWV := Lib.hid (WB_dg W64_two (b * 2 ^ s))
  have HWA := Lib.hid (WB_dg W64_two (a * 2 ^ s))
  have HVV := Lib.hid (vb_dg W64_two (b * 2 ^ s))
  have HVA := Lib.hid (vb_dg W64_two (a * 2 ^ s))
  unfold NatAt at HLB HLA
  have hvl := hst.vlen
  have hal := hst.alen
  clear hst hra hrb hs hy1
  rw [hn] at hm hc' HCMP HLB h2 ⊢
  rw [hm] at hc HCMP HLA hla ⊢
  clear hm hlb hn
  have HEND := Lib.hid (fun U Q (h1 : U + b * 2 ^ s * Q = a * 2 ^ s) (h2 : U < b * 2 ^ s) => div_end h1 h2)
  obtain ⟨cm, hcm, hcm0⟩ : ∃ cm : Int, cm = cmpN a b ∧ decide (cm < 0) = false := ⟨_, rfl, by
    unfold cmpN
    rw [if_neg hab]
    split <;> decide⟩
  rw [← hcm] at HCMP
  clear hcm hab
  generalize a * 2 ^ s = AS at *
  generalize b * 2 ^ s = V at *
  generalize has : dg W64 AS = us at HLA HWA HVA hal
  generalize hvy : dg W64 V = vy at HLB HWV HVV hvl HVT
  clear has hvy
  generalize hQ : a / b = QQ at HEND ⊢
  generalize hR : a % b = RR at HEND ⊢
  clear hQ hR
  have t1 : (((n : Nat) : Int) == 1) = false := by rw [beq_eq_false_iff_ne]; omega
  have hn1 : ((n : Int) - 1).toNat = n - 1 := by omega
  have hs9 : ((n : Nat) : Int) + ((m : Nat) : Int) - ((n : Nat) : Int) = ((m : Nat) : Int) := by omega
  have hmk := makeW (n + m + 1) (n + m + 1) (Nat.le_refl _) (by omega)
  have hmk2 := makeW (m + 1) (m + 1) (Nat.le_refl _) (by omega)
  simp only [Int.natCast_add, Int.natCast_one] at hmk hmk2
  go_enter Tryd.func63, Tryd.ntmps63
  go_wp2_with (first
    | (go_at_call 42; refine (HCMP.out _ (Ext.refl _)).mono ?_; rintro e w2 ⟨rfl, n0, rfl⟩)
    | (go_at_call 79; refine (HLZ.out _).mono ?_; rintro e w2 ⟨rfl, rfl⟩)
    | (go_at_call 80; refine (HLB.out _ ((Ext.refl _).drewN _)).mono ?_; clear HLB; rintro e wv ⟨r1, rfl, ⟨A2, c2, rfl, hc2, hrv⟩, hev⟩; rw [hvl]; rw [hvl] at hc2; have HRV := Lib.hid hrv; have HEV := Lib.hid (((Ext.refl w).drewN n0).trans hev); clear hrv hev)
    | (go_at_call 80; refine (HLA.out _ (HEV.out.alloc _)).mono ?_; clear HLA; rintro e wu ⟨r2, rfl, ⟨A3, c3, rfl, hc3, hru⟩, heu⟩; have HRU := Lib.hid hru; have HEU := Lib.hid heu; clear hru heu)
    | (have HEU2 := HEU; (with_reducible show wpList _ _ _ _ _ _); refine wpList_copy_splice (o := ⟨some 60, _, _, _, _, _⟩) rfl (.tmp 56) (.tmp 59) _ _ rfl 76 Tryd.underlying72 sizeW _ _ _ _ _ _ rfl rfl wv.heap.size 0 ((List.replicate (n + m + 1) 0).map fun (x : Nat) => Value.int .u64 (x : Int)) 76 (Blk.ext (Blk.new wv _) HEU.out) (us.map fun (x : Nat) => Value.int .u64 (x : Int)) (by rw [List.length_map]; exact (Nat.min_eq_left hal).symm) (copy_src HRU.out _) (by simp; omega) (by intro u hu; simp at hu; obtain ⟨x, _, rfl⟩ := hu; rfl) wv.heap.size wv (((Ext.refl wv).alloc _).trans HEU.out) (Nat.le_refl _) ?_; clear HEU2; intro wc HC hbc; have HCE := Lib.hid hbc; clear hbc HEU))
  have HU0 : Hid (Blk wc wv.heap.size (us ++ List.replicate (n + m + 1 - us.length) 0)) := Lib.hid (copy_row HC.out)
  have HPF := Lib.hid (pad_facts HWA.out hal)
  clear HC HRU
  obtain ⟨gu, hgu⟩ : ∃ gu, gu = wv.heap.size := ⟨_, rfl⟩
  obtain ⟨gq, hgq⟩ : ∃ gq, gq = wc.heap.size := ⟨_, rfl⟩
  obtain ⟨w1, hw1⟩ : ∃ w1, w1 = wc.alloc (.cells (rowW (List.replicate (m + 1) 0)) 76) := ⟨_, rfl⟩
  rw [← hgu] at HU0
  have HU : Hid (Blk w1 gu (us ++ List.replicate (n + m + 1 - us.length) 0)) := Lib.hid (by rw [hw1]; exact HU0.out.ext ((Ext.refl _).alloc _))
  have HQ : Hid (Blk w1 gq (List.replicate (m + 1) 0)) := Lib.hid (by rw [hw1, hgq]; exact Blk.new _ _)
  have HE1 : Hid (Ext wv w1) := Lib.hid (by rw [hw1]; exact Ext.alloc HCE.out _)
  have HGQ : Hid (gu ≠ gq) := Lib.hid (by have := HU0.out.lt; omega)
  have HG : Hid (wv.heap.size ≤ gu) := Lib.hid (by omega)
  have HG2 : Hid (wv.heap.size ≤ gq) := Lib.hid (by have := HU0.out.lt; omega)
  rw [← hgu, ← hgq, ← hw1]
  clear hgu hgq hw1 HU0 hmk hmk2 HCE
  generalize us ++ List.replicate (n + m + 1 - us.length) 0 = U0 at HU HPF
  go_loopw [14, 15] (fun i _ wr => ∃ (k : Nat) (U Q : List Nat), k ≤ m + 1 ∧ i = .int .i64 ((k : Int) - 1) ∧ Hid (Blk wr gu U) ∧ U.length = n + m + 1 ∧ Hid (WB W64 U) ∧ Hid (Blk wr gq Q) ∧ Q.length = m + 1 ∧ Hid (WB W64 Q) ∧ Hid (Ext wv wr) ∧ Hid (vb W64 U + V * vb W64 Q = AS) ∧ Hid (vb W64 (U.drop k) < V) ∧ Hid (∀ i, i < k → Q.getD i 0 = 0)) (fun i _ _ => (intOf i + 1).toNat)
  case atStart =>
    refine ⟨m + 1, U0, _, by omega, by go_num, HU, HPF.out.1, Lib.hid HPF.out.2.1, HQ, by simp, Lib.hid (WB.zeros W64_pos _), HE1, Lib.hid (by rw [vb_zeros, HPF.out.2.2, HVA.out, Nat.mul_zero, Nat.add_zero]), Lib.hid (drop_lt HPF.out.2.1 (by rw [HPF.out.1]; omega) ?_), Lib.hid (fun i hi => zeros_getD _ _)⟩
    rw [HPF.out.2.2, HVA.out]
    exact HFI.out
  case round =>
    clear HU HQ HE1 HPF HFI
    obtain ⟨k, U, Q, hk, rfl, HU, hUl, HWU, HQ, hQl, HWQ, HE1, HEQ, HDR, HZ⟩ := hrel
    by_cases hk0 : k = 0
    · subst hk0
      have HT1 := Lib.hid (fun W he => trim_calls (.slice (some ⟨gq, 0, none⟩) (m + 1) (m + 1)) Q W ((HQ.out.ext he).slAt hQl.symm (by omega)) HWQ.out (by omega) : ∀ W, Ext wr W → _)
      have HT2 := Lib.hid (fun W he => trim_calls (.slice (some ⟨gu, 0, none⟩) (n + m + 1) (n + m + 1)) U W ((HU.out.ext he).slAt hUl.symm (by omega)) HWU.out (by omega) : ∀ W, Ext wr W → _)
      have HUL : Hid ((dg W64 (vb W64 U)).length ≤ 17592186044416) := Lib.hid (by
        have h1 := dg_length_le W64_two (vb_lt HWU.out)
        omega)
      have HTW := Lib.hid (HEND.out _ _ HEQ.out (by simpa using HDR.out))
      go_wp2_with (first
        | (go_at_call 66; refine (HT1.out _ (Ext.refl _)).mono ?_; clear HT1; rintro e w2 ⟨r1, rfl, hr1, he1⟩)
        | (go_at_call 66; refine (HT2.out _ he1).mono ?_; clear HT2; rintro e w3 ⟨r2, rfl, hr2, he2⟩)
        | (go_at_call 84; refine (right_calls r2 (vb W64 U) s _ hr2 HUL.out (by omega)).mono ?_; clear HUL; rintro e w4 ⟨r3, rfl, hr3, he3⟩))
      go_ret2
      exact ⟨_, _, rfl, by rw [← HTW.out.1]; exact (hr1.ext he2).ext he3, by rw [← HTW.out.2]; exact hr3, (((HEV.out.trans HE1.out).trans he1).trans he2).trans he3⟩
    · obtain ⟨j, rfl⟩ : ∃ j, k = j + 1 := ⟨k - 1, by omega⟩
      have hj1 : ((j + 1 : Nat) : Int) - 1 = (j : Int) := by omega
      rw [hj1]
      clear hj1 hk0
      have hc2u := HU.out.cell (i := j + n) (by omega)
      have hc1u := HU.out.cell (i := j + n - 1) (by omega)
      have hc0u := HU.out.cell (i := j + n - 2) (by omega)
      obtain ⟨b2, o2, rfl, hcv1⟩ := HRV.out (n - 1) (by omega)
      have hcv0 : wv.cell? ⟨b2, o2 + (n - 2), none⟩ = some (.int .u64 ((vy.getD (n - 2) 0 : Nat) : Int)) := by
        obtain ⟨b3, o3, he, hcv⟩ := HRV.out (n - 2) (by omega)
        injection he with he
        injection he with h1 h2
        subst h1 h2
        exact hcv
      have hcv1' := HE1.out.cell hcv1
      have hcv0' := HE1.out.cell hcv0
      clear hcv1 hcv0
      have HGS := Lib.hid (fun W => guess_calls (U.getD (j + n) 0) (U.getD (j + n - 1) 0) (U.getD (j + n - 2) 0) (vy.getD (n - 1) 0) (vy.getD (n - 2) 0) W (HWU.out.getD W64_pos _) (HWU.out.getD W64_pos _) (HWU.out.getD W64_pos _) (HWV.out.getD W64_pos _) (HWV.out.getD W64_pos _) HVT.out)
      have HSG : Hid (U.getD (j + n) 0 = (seg U j (n + 1)).getD n 0 ∧ U.getD (j + n - 1) 0 = (seg U j (n + 1)).getD (n - 1) 0 ∧ U.getD (j + n - 2) 0 = (seg U j (n + 1)).getD (n - 2) 0) := Lib.hid (by
        rw [seg_getD (by omega), seg_getD (by omega), seg_getD (by omega)]
        exact ⟨rfl, by congr 1; omega, by congr 1; omega⟩)
      generalize U.getD (j + n) 0 = u2 at hc2u HGS HSG
      generalize U.getD (j + n - 1) 0 = u1 at hc1u HGS HSG
      generalize U.getD (j + n - 2) 0 = u0 at hc0u HGS HSG
      have HVS : Hid (∃ v1 v0, v1 = vy.getD (n - 1) 0 ∧ v0 = vy.getD (n - 2) 0) := Lib.hid ⟨_, _, rfl, rfl⟩
      obtain ⟨v1, v0, hv1, hv0⟩ := HVS.out
      rw [← hv1] at hcv1' HGS
      rw [← hv0] at hcv0' HGS
      have HV1 := Lib.hid hv1
      have HV0 := Lib.hid hv0
      clear hv1 hv0 HVS
      have q1 : IntKind.i64.wrap ((j : Int) + (n : Int)) = (j : Int) + (n : Int) := by simp only [IntKind.wrap_i64]; omega
      have q2 : IntKind.i64.wrap ((j : Int) + (n : Int) - 1) = (j : Int) + (n : Int) - 1 := by simp only [IntKind.wrap_i64]; omega
      have q3 : IntKind.i64.wrap ((j : Int) + (n : Int) - 2) = (j : Int) + (n : Int) - 2 := by simp only [IntKind.wrap_i64]; omega
      have q4 : IntKind.i64.wrap ((n : Int) - 1) = (n : Int) - 1 := by simp only [IntKind.wrap_i64]; omega
      have q5 : IntKind.i64.wrap ((n : Int) - 2) = (n : Int) - 2 := by simp only [IntKind.wrap_i64]; omega
      have r1 : ((j : Int) + (n : Int)).toNat = j + n := by omega
      have r2 : ((j : Int) + (n : Int) - 1).toNat = j + n - 1 := by omega
      have r3 : ((j : Int) + (n : Int) - 2).toNat = j + n - 2 := by omega
      have r5 : ((n : Int) - 2).toNat = n - 2 := by omega
      have s1 : (0 : Int) ≤ (j : Int) + (n : Int) := by omega
      have s2 : (1 : Int) ≤ (j : Int) + (n : Int) := by omega
      have s3 : (2 : Int) ≤ (j : Int) + (n : Int) := by omega
      have s4 : (1 : Int) ≤ (n : Int) := by omega
      have s5 : (2 : Int) ≤ (n : Int) := by omega
      have s6 : 1 ≤ n := by omega
      have s7 : 0 < n := by omega
      have z1 : (j : Int) + (n : Int) < (n : Int) + (m : Int) + 1 := by omega
      have z2 : (j : Int) + (n : Int) - 1 < (n : Int) + (m : Int) + 1 := by omega
      have z3 : (j : Int) + (n : Int) - 2 < (n : Int) + (m : Int) + 1 := by omega
      have z4 : (n : Int) - 1 < (n : Int) := by omega
      have z5 : (n : Int) - 2 < (n : Int) := by omega
      go_wp2
      go_still_tail 30, (by kernel_rfl)
      change wpList _ _ _ _ _ wr.drew
      obtain ⟨w2, hw2⟩ : ∃ w2, w2 = wr.drew := ⟨_, rfl⟩
      rw [← hw2]
      have HU2 : Hid (Blk w2 gu U) := Lib.hid (by rw [hw2]; exact HU.out.ext ((Ext.refl _).drew))
      have HQ2 : Hid (Blk w2 gq Q) := Lib.hid (by rw [hw2]; exact HQ.out.ext ((Ext.refl _).drew))
      have HE2 : Hid (Ext wv w2) := Lib.hid (by rw [hw2]; exact HE1.out.drew)
      clear HU HQ HE1 hw2 q1 q2 q3 q4 q5 r1 r2 r3 r5 s1 s2 s3 s4 s5 s6 s7 z1 z2 z3 z4 z5 hc2u hc1u hc0u hcv1' hcv0'
      have hsl : j + n + 1 - j = n + 1 := by omega
      have hQc := fun W (he : Ext w2 W) => (HQ2.out.ext he).cell (i := j) (by omega)
      go_wp2_with (first
        | (go_at_call 81; refine (HGS.out _).mono ?_; clear HGS; rintro e w3 ⟨d, rfl, hd, hfit, nq, rfl⟩; have HFIT := Lib.hid hfit; have HD := Lib.hid hd; clear hfit hd)
        | (go_at_call 82; refine (takeAway_calls wv _ gu j n _ c2 d _ U vy (HE2.out.drewN _) HG.out (HU2.out.ext ((Ext.refl _).drewN _)) HWU.out (by omega) (by omega) HRV.out hvl HWV.out HD.out).mono ?_; rintro e w4 ⟨U', bo, rfl, hbo, hon, hbl, hwb, hal', heq⟩; have HON := Lib.hid hon; have HBL := Lib.hid hbl; have HWB := Lib.hid hwb; have HAL := Lib.hid hal'; have HEQ2 := Lib.hid heq; clear hon hbl hwb hal' heq; have HQ4 : Hid (Blk w4 gq Q) := Lib.hid (HON.out.blk (HQ2.out.ext ((Ext.refl _).drewN _)) HGQ.out.symm); have hqc := HQ4.out.cell (i := j) (by omega); have hqf := HQ4.out.frozen j; have HE4 : Hid (Ext wv w4) := Lib.hid (HON.out.ext (HE2.out.drewN _) HG.out); rcases (show bo = 0 ∨ bo = 1 by omega) with rfl | rfl))
      · clear hqc hqf
        rw [show (j : Int) - 1 = ((j : Nat) : Int) - 1 from rfl]
        go_roundw
        case rel =>
          have hsg : vb W64 (seg U' j (n + 1)) + d * V = vb W64 (seg U j (n + 1)) := by
            have := HEQ2.out
            rw [HVV.out] at this
            simpa using this
          have hlt := dig_none (d := d) (V := V) (seg_length (by omega)) (HWU.out.seg j (n + 1)) hvl h2 HVV.out (by
            have e := seg_drop HWU.out (by omega) HVL.out HDR.out
            rw [e.1]; exact e.2.1) (by rw [← HSG.out.1, ← HSG.out.2.1, ← HSG.out.2.2, ← HV1.out, ← HV0.out]; exact HFIT.out) hsg
          exact ⟨j, U', Q.set j d, by omega, rfl, div_rel HGQ.out HG2.out HE4.out HBL.out HQ4.out hUl hQl hk HWU.out HWB.out HWQ.out HVL.out HD.out HAL.out hsg hlt HDR.out HZ.out HEQ.out⟩
        case measure => simp [intOf]
      · clear hqc hqf
        have hsl2 := seg_lt HWB.out (show j + n < U'.length by rw [HAL.out.len]; omega)
        have hbq := HEQ2.out
        rw [HVV.out] at hbq
        have hbp := borrow_pos hbq hsl2
        obtain ⟨p, hp⟩ : ∃ p, d = p + 1 := ⟨d - 1, by omega⟩
        have hp1 : IntKind.u64.wrap ((d : Int) - 1) = ((p : Nat) : Int) := by
          rw [hp, show ((p + 1 : Nat) : Int) - 1 = ((p : Nat) : Int) by omega]
          exact wrap_nat (by have := HD.out; omega)
        have HINV : Hid (vb W64 (seg U' j (n + 1)) + (p + 1) * V = vb W64 (seg U j (n + 1)) + W64 ^ (n + 1)) := Lib.hid (by
          have h := hbp.2
          rw [hp, Nat.add_sub_cancel] at h
          exact h)
        have HP0 : Hid (p < W64) := Lib.hid (by have := HD.out; omega)
        rw [hp1]
        clear hp hp1 hbp hbq hsl2 HEQ2 HD HFIT
        clear HQ2 HE2 HU2 HON
        obtain ⟨wo, rfl⟩ : ∃ wo : World, wo = wr := ⟨_, rfl⟩
        go_loopw [15] (fun dv wr => ∃ (p : Nat) (S : List Nat), dv = .int .u64 (p : Int) ∧ Hid (p < W64) ∧ Hid (Blk wr gu S) ∧ Hid (WB W64 S) ∧ Hid (Alike U S j (n + 1)) ∧ Hid (Blk wr gq Q) ∧ Hid (Ext wv wr) ∧ Hid (vb W64 (seg S j (n + 1)) + (p + 1) * V = vb W64 (seg U j (n + 1)) + W64 ^ (n + 1))) (fun dv _ => (intOf dv).toNat)
        case atStart => exact ⟨p, U', rfl, HP0, HBL, HWB, HAL, HQ4, HE4, HINV⟩
        case round =>
          clear HBL HWB HAL HQ4 HE4 HINV HP0
          obtain ⟨p, S, rfl, HP0, HBL, HWB, HAL, HQ4, HE4, HINV⟩ := hrel
          have HSL : Hid (S.length = n + m + 1) := Lib.hid (by rw [HAL.out.len]; exact hUl)
          have HPB := Lib.hid (putBack_calls wv wr gu j n (n + m + 1 - j) c2 (some ⟨b2, o2, none⟩) S vy HE4.out HG.out HBL.out HWB.out (by rw [HSL.out]; omega) (by rw [HSL.out]; omega) HRV.out hvl HWV.out)
          go_wp2_with (go_at_call 83; refine HPB.out.mono ?_; clear HPB; rintro e w6 ⟨S', co, rfl, hco, hon, hbl, hwb, hal', heq⟩; have HON := Lib.hid hon; have HBL6 := Lib.hid hbl; have HWB6 := Lib.hid hwb; have HAL6 := Lib.hid hal'; have HEQ6 := Lib.hid heq; clear hon hbl hwb hal' heq; have HQ6 : Hid (Blk w6 gq Q) := Lib.hid (HON.out.blk HQ4.out HGQ.out.symm); have hqc := HQ6.out.cell (i := j) (by omega); have hqf := HQ6.out.frozen j; have HE6 : Hid (Ext wv w6) := Lib.hid (HON.out.ext HE4.out HG.out); rcases (show co = 0 ∨ co = 1 by omega) with rfl | rfl)
          · clear hqc hqf
            have he6 := HEQ6.out
            rw [HVV.out, Nat.zero_mul, Nat.add_zero] at he6
            have hpn := put_none HINV.out he6 (seg_lt HWB6.out (show j + n < S'.length by rw [HAL6.out.len, HSL.out]; omega))
            have hwp : IntKind.u64.wrap ((p : Int) - 1) = ((p - 1 : Nat) : Int) := by
              rw [show ((p : Nat) : Int) - 1 = ((p - 1 : Nat) : Int) by omega]
              exact wrap_nat (by have := HP0.out; omega)
            rw [hwp]
            go_roundw
            case rel => exact ⟨p - 1, S', rfl, Lib.hid (by have := HP0.out; omega), HBL6, HWB6, Lib.hid (HAL.out.trans HAL6.out), HQ6, HE6, Lib.hid hpn.2⟩
            case measure => simp [intOf]; omega
          · clear hqc hqf
            have he6 := HEQ6.out
            rw [HVV.out, Nat.one_mul] at he6
            have hpd := put_done HINV.out he6 (seg_lt HWB.out (by rw [HSL.out]; omega))
            go_roundw
            case rel => exact ⟨j, S', Q.set j p, by omega, rfl, div_rel HGQ.out HG2.out HE6.out HBL6.out HQ6.out hUl hQl hk HWU.out HWB6.out HWQ.out HVL.out HP0.out (HAL.out.trans HAL6.out) hpd.2 hpd.1 HDR.out HZ.out HEQ.out⟩
            case measure => simp [intOf]
/-- The contract of divide. -/
theorem divide_calls (va vb' : Value) (a b : Nat) (w : World) (ha : NatAt w va a) (hb : NatAt w vb' b) (hb0 : b ≠ 0) (hla : (dg W64 a).length < 17592186044416) :
    Calls Tryd.prog 63 #[va, vb'] w (DivPost w (a / b) (a % b)) := by
  by_cases hab : a < b
  · exact divide_less va vb' a b w ha hb hab (by omega)
  · have h0 : (dg W64 b).length ≠ 0 := fun h => hb0 ((dg_eq_nil W64_two).mp (List.length_eq_zero_iff.mp h))
    by_cases h1 : (dg W64 b).length = 1
    · exact divide_one va vb' a b w ha hb hab h1 (by omega)
    · exact divide_many va vb' a b w ha hb hab (by omega) hla
end Go.Proofs.YtpgnlpjjpgdoiaaDoor
/- The contract of divisor: the greatest common divisor. -/
namespace Go.Proofs.YtpgnlpjjpgdoiaaDoor
open Go Go.RowKit
set_option linter.unusedVariables false
set_option linter.unusedSimpArgs false
set_option maxRecDepth 100000 in
set_option maxHeartbeats 2000000 in
theorem divisor_calls (va vb' : Value) (a b : Nat) (w : World) (ha : NatAt w va a) (hb : NatAt w vb' b) (hla : (dg W64 a).length < 17592186044416) (hlb : (dg W64 b).length < 17592186044416) :
    Calls Tryd.prog 51 #[va, vb'] w fun e w' => ∃ r, e = .returned r ∧ NatAt w' r (Nat.gcd a b) ∧ Ext w w' := by
  have HA := Lib.hid ha
  have HB := Lib.hid hb
  have HLA := Lib.hid hla
  have HLB := Lib.hid hlb
  clear ha hb hla hlb
  go_enter Tryd.func51, Tryd.ntmps51
  go_wp2
  go_loopg [0, 1, 7, 8] b (fun g p q _ _ wr => ∃ (x y : Nat), g = y ∧ Hid (NatAt wr p x) ∧ Hid (NatAt wr q y) ∧ Hid ((dg W64 x).length < 17592186044416) ∧ Hid ((dg W64 y).length < 17592186044416) ∧ Hid (Nat.gcd x y = Nat.gcd a b) ∧ Hid (Ext w wr))
  case atStart => exact ⟨a, b, rfl, HA, HB, HLA, HLB, Lib.hid rfl, Lib.hid (Ext.refl _)⟩
  case round =>
    clear HA HB HLA HLB
    obtain ⟨x, y, hgk, HA, HB, HLA, HLB, HG, HE⟩ := hrel
    have HGK := Lib.hid hgk
    clear hgk
    have HDV := Lib.hid (fun (h0 : y ≠ 0) W he => divide_calls _ _ x y W (NatAt.ext HA.out he) (NatAt.ext HB.out he) h0 HLA.out : y ≠ 0 → ∀ W, Ext wr W → _)
    have hva := HA.out
    obtain ⟨A, c, rfl, hc, hra⟩ := hva
    have hvb := HB.out
    obtain ⟨A', c', rfl, hc', hrb⟩ := hvb
    have HRA := Lib.hid hra
    have HRB := Lib.hid hrb
    clear hra hrb
    by_cases hy0 : y = 0
    · subst hy0
      have hl0 : (dg W64 0).length = 0 := by rw [dg_zero]; rfl
      rw [hl0]
      go_wp2
      go_ret
      exact ⟨_, rfl, by rw [← HG.out, Nat.gcd_zero_right]; exact HA.out, HE.out⟩
    have hyl : 0 < (dg W64 y).length := by
      rcases Nat.eq_zero_or_pos (dg W64 y).length with h | h
      · exact absurd ((dg_eq_nil W64_two).mp (List.length_eq_zero_iff.mp h)) hy0
      · exact h
    have hla' := HLA.out
    have hlb' := HLB.out
    obtain ⟨lx, hlx⟩ : ∃ lx, lx = (dg W64 x).length := ⟨_, rfl⟩
    obtain ⟨ly, hly⟩ : ∃ ly, ly = (dg W64 y).length := ⟨_, rfl⟩
    rw [← hlx] at HDV hla' hc ⊢
    rw [← hly] at HDV hlb' hyl hc' HB ⊢
    by_cases hs : lx ≤ 1 ∧ ly ≤ 1
    · obtain ⟨hs1, hs2⟩ := hs
      obtain ⟨hy1, hyW, hyd⟩ := dg_length_one W64_two (show (dg W64 y).length = 1 by omega)
      obtain ⟨bb, ob, rfl, hcb⟩ := HRB.out 0 (by omega)
      rw [hyd] at hcb
      simp only [List.getD_cons_zero, Nat.add_zero] at hcb
      rcases (show lx = 0 ∨ lx = 1 by omega) with h0 | h1
      · have hx0 : x = 0 := (dg_eq_nil W64_two).mp (List.length_eq_zero_iff.mp (by omega))
        subst hx0
        obtain rfl : ly = 1 := by omega
        subst h0
        have hxW : (0 : Nat) < W64 := W64_pos
        clear hlx hly hyd hy1 hs1 hs2 hyl HDV HLA HLB HRA HRB HA HB
        go_wp2
        go_quiet (fail)
        go_wp2
        have HXW : Hid (0 < W64) := Lib.hid hxW
        have HYW : Hid (y < W64) := Lib.hid hyW
        clear hxW hyW
        obtain ⟨wo, rfl⟩ : ∃ wo : World, wo = wr := ⟨_, rfl⟩
        go_loopg [5, 6] y (fun g p q wr => ∃ (s t : Nat), g = t ∧ p = .int .u64 (s : Int) ∧ q = .int .u64 (t : Int) ∧ Hid (s < W64) ∧ Hid (t < W64) ∧ Hid (Nat.gcd s t = Nat.gcd a b) ∧ Hid (Ext w wr))
        case atStart => exact ⟨0, y, rfl, rfl, rfl, HXW, HYW, HG, Lib.hid (by first | exact HE.out.drewN _ | exact (HE.out.drewN _).drewN _ | exact HE.out)⟩
        case round =>
          clear HG HE HXW HYW
          obtain ⟨s, t, hgk, rfl, rfl, HS, HT, HG, HE⟩ := hrel
          have HGK := Lib.hid hgk
          clear hgk
          by_cases ht : t = 0
          · subst ht
            have HWD := Lib.hid (fun W => word_calls s W HS.out)
            go_wp2_with (go_at_call 53; refine (HWD.out _).mono ?_; rintro e w3 ⟨r2, rfl, hn2, he2⟩)
            go_ret
            exact ⟨_, rfl, by rw [← HG.out, Nat.gcd_zero_right]; exact hn2, HE.out.trans he2⟩
          · have t1 : ((t : Nat) : Int) ≠ 0 := by omega
            have t2 : (((t : Nat) : Int) == 0) = false := by rw [beq_eq_false_iff_ne]; omega
            obtain ⟨r, hr⟩ : ∃ r, r = s % t := ⟨_, rfl⟩
            have q1 : ((s : Nat) : Int).tmod ((t : Nat) : Int) = ((r : Nat) : Int) := by rw [hr]; exact (Int.ofNat_tmod s t).symm
            have hrt : r < t := by rw [hr]; exact Nat.mod_lt _ (by omega)
            have q2 : IntKind.u64.wrap ((r : Nat) : Int) = ((r : Nat) : Int) := wrap_nat (Nat.lt_trans hrt HT.out)
            have HR := Lib.hid hr
            have HRT := Lib.hid hrt
            clear hr hrt
            go_wp2
            go_quiet (fail)
            go_wp2
            go_roundg r
            case measure => rw [HGK.out]; exact HRT.out
            case rel => exact ⟨t, r, rfl, rfl, rfl, HT, Lib.hid (Nat.lt_trans HRT.out HT.out), Lib.hid (by rw [← HG.out, HR.out, Nat.gcd_comm t, ← Nat.gcd_rec, Nat.gcd_comm]), Lib.hid (HE.out.drewN _)⟩
      · obtain ⟨hx1, hxW, hxd⟩ := dg_length_one W64_two (show (dg W64 x).length = 1 by omega)
        obtain ⟨ba, oa, rfl, hca⟩ := HRA.out 0 (by omega)
        rw [hxd] at hca
        simp only [List.getD_cons_zero, Nat.add_zero] at hca
        obtain rfl : ly = 1 := by omega
        subst h1
        clear hlx hly hyd hy1 hxd hx1 hs1 hs2 hyl HDV HLA HLB HRA HRB HA HB
        go_wp2
        go_quiet (fail)
        go_wp2
        have HXW : Hid (x < W64) := Lib.hid hxW
        have HYW : Hid (y < W64) := Lib.hid hyW
        clear hxW hyW
        obtain ⟨wo, rfl⟩ : ∃ wo : World, wo = wr := ⟨_, rfl⟩
        go_loopg [5, 6] y (fun g p q wr => ∃ (s t : Nat), g = t ∧ p = .int .u64 (s : Int) ∧ q = .int .u64 (t : Int) ∧ Hid (s < W64) ∧ Hid (t < W64) ∧ Hid (Nat.gcd s t = Nat.gcd a b) ∧ Hid (Ext w wr))
        case atStart => exact ⟨x, y, rfl, rfl, rfl, HXW, HYW, HG, Lib.hid (by first | exact HE.out.drewN _ | exact (HE.out.drewN _).drewN _ | exact HE.out)⟩
        case round =>
          clear HG HE HXW HYW
          obtain ⟨s, t, hgk, rfl, rfl, HS, HT, HG, HE⟩ := hrel
          have HGK := Lib.hid hgk
          clear hgk
          by_cases ht : t = 0
          · subst ht
            have HWD := Lib.hid (fun W => word_calls s W HS.out)
            go_wp2_with (go_at_call 53; refine (HWD.out _).mono ?_; rintro e w3 ⟨r2, rfl, hn2, he2⟩)
            go_ret
            exact ⟨_, rfl, by rw [← HG.out, Nat.gcd_zero_right]; exact hn2, HE.out.trans he2⟩
          · have t1 : ((t : Nat) : Int) ≠ 0 := by omega
            have t2 : (((t : Nat) : Int) == 0) = false := by rw [beq_eq_false_iff_ne]; omega
            obtain ⟨r, hr⟩ : ∃ r, r = s % t := ⟨_, rfl⟩
            have q1 : ((s : Nat) : Int).tmod ((t : Nat) : Int) = ((r : Nat) : Int) := by rw [hr]; exact (Int.ofNat_tmod s t).symm
            have hrt : r < t := by rw [hr]; exact Nat.mod_lt _ (by omega)
            have q2 : IntKind.u64.wrap ((r : Nat) : Int) = ((r : Nat) : Int) := wrap_nat (Nat.lt_trans hrt HT.out)
            have HR := Lib.hid hr
            have HRT := Lib.hid hrt
            clear hr hrt
            go_wp2
            go_quiet (fail)
            go_wp2
            go_roundg r
            case measure => rw [HGK.out]; exact HRT.out
            case rel => exact ⟨t, r, rfl, rfl, rfl, HT, Lib.hid (Nat.lt_trans HRT.out HT.out), Lib.hid (by rw [← HG.out, HR.out, Nat.gcd_comm t, ← Nat.gcd_rec, Nat.gcd_comm]), Lib.hid (HE.out.drewN _)⟩
    · have HDV2 := Lib.hid (HDV.out hy0)
      have HRM : Hid (x % y < y) := Lib.hid (Nat.mod_lt _ (by omega))
      have HLR : Hid ((dg W64 (x % y)).length < 17592186044416) := Lib.hid (by
        have := dg_length_mono W64_two (Nat.le_of_lt HRM.out)
        omega)
      have HGS : Hid (Nat.gcd y (x % y) = Nat.gcd a b) := Lib.hid (by rw [← HG.out, Nat.gcd_comm y, ← Nat.gcd_rec, Nat.gcd_comm])
      have HLY : Hid ((dg W64 y).length < 17592186044416) := Lib.hid (by omega)
      clear hlx hly HDV HLB HLA hlb'
      by_cases h1 : lx ≤ 1
      · have h2 : ¬ ly ≤ 1 := fun h => hs ⟨h1, h⟩
        have d1 : decide ((lx : Int) ≤ 1) = true := decide_eq_true (by omega)
        have d2 : decide ((ly : Int) ≤ 1) = false := decide_eq_false (by omega)
        clear hs
        go_wp2_with (go_at_call 63; refine (HDV2.out _ (Ext.refl _)).mono ?_; rintro e w3 ⟨vq, vr, rfl, hq, hr, he⟩; have HNR := Lib.hid hr; have HE3 := Lib.hid he; have HNB := Lib.hid (NatAt.ext HB.out he); clear hq hr he)
        go_roundg (x % y)
        case measure => rw [HGK.out]; exact HRM.out
        case rel => exact ⟨y, x % y, rfl, HNB, HNR, HLY, HLR, HGS, Lib.hid (HE.out.trans HE3.out)⟩
      · have d1 : decide ((lx : Int) ≤ 1) = false := decide_eq_false (by omega)
        clear hs
        go_wp2_with (go_at_call 63; refine (HDV2.out _ (Ext.refl _)).mono ?_; rintro e w3 ⟨vq, vr, rfl, hq, hr, he⟩; have HNR := Lib.hid hr; have HE3 := Lib.hid he; have HNB := Lib.hid (NatAt.ext HB.out he); clear hq hr he)
        go_roundg (x % y)
        case measure => rw [HGK.out]; exact HRM.out
        case rel => exact ⟨y, x % y, rfl, HNB, HNR, HLY, HLR, HGS, Lib.hid (HE.out.trans HE3.out)⟩
end Go.Proofs.YtpgnlpjjpgdoiaaDoor
/- How a rational number lies in memory; the contracts that only read it. -/
namespace Go.Proofs.YtpgnlpjjpgdoiaaDoor
open Go Go.RowKit
set_option linter.unusedVariables false
set_option linter.unusedSimpArgs false
/-- A small number: its fields. -/
structure SmallR (x : Rat) (q : Int) : Prop where
  num : x.num.natAbs < 2147483648
  den : x.den < 2147483648
  q : q = x.den ∨ q = 0 ∧ x.num = 0 ∧ x.den = 1
/-- A rational number of the program. -/
inductive RatAt (w : World) (x : Rat) : Value → Prop
  | small (q : Int) : SmallR x q → RatAt w x (.agg #[.int .i64 x.num, .int .i64 q, .pointer none])
  | big (b o : Nat) (vn vd : Value) : w.cell? ⟨b, o, none⟩ = some (.bool (decide (x.num < 0))) → w.cell? ⟨b, o + 1, none⟩ = some vn → w.cell? ⟨b, o + 2, none⟩ = some vd →
      NatAt w vn x.num.natAbs → NatAt w vd x.den → (2147483648 ≤ x.num.natAbs ∨ 2147483648 ≤ x.den) → x.num ≠ 0 → RatAt w x (.agg #[.int .i64 0, .int .i64 0, .pointer (some ⟨b, o, none⟩)])
theorem RatAt.ext {w w' : World} {x : Rat} {v : Value} (h : RatAt w x v) (he : Ext w w') : RatAt w' x v := by
  cases h with
  | small q h => exact .small q h
  | big b o vn vd h0 h1 h2 hn hd hs h3 => exact .big b o vn vd (he.cell h0) (he.cell h1) (he.cell h2) (hn.ext he) (hd.ext he) hs h3
/-- low. -/
theorem low_calls (x : Rat) (q : Int) (w : World) (h : SmallR x q) :
    Calls Tryd.prog 39 #[.agg #[.int .i64 x.num, .int .i64 q, .pointer none]] w fun e w' => e = .returned (.tuple #[.int .i64 x.num, .int .i64 (x.den : Int)]) ∧ Ext w w' := by
  rcases h.q with hq | ⟨hq, hn, hd⟩
  · have t0 : (q == 0) = false := by rw [beq_eq_false_iff_ne]; have := x.den_pos; omega
    rw [← hq]
    generalize x.num = p
    clear h hq
    go_enter Tryd.func39, Tryd.ntmps39
    go_wp2
    go_quiet (fail)
    go_wp2
    go_ret2
    exact ⟨rfl, ((Ext.refl _).alloc _).drewN _⟩
  · rw [hn, hd, hq]
    clear h hq hn hd
    go_enter Tryd.func39, Tryd.ntmps39
    go_wp2
    go_ret2
    exact ⟨rfl, (Ext.refl _).alloc _⟩
/-- magnitude. -/
theorem magnitude_calls (n : Int) (w : World) (h1 : -9223372036854775808 < n) (h2 : n < 9223372036854775808) :
    Calls Tryd.prog 54 #[.int .i64 n] w fun e w' => e = .returned (.int .u64 (n.natAbs : Int)) ∧ w = w' := by
  have q3 : IntKind.u64.wrap ((n.natAbs : Nat) : Int) = ((n.natAbs : Nat) : Int) := by simp only [IntKind.wrap_u64]; omega
  by_cases h : n < 0
  · have q1 : IntKind.i64.wrap (-n) = ((n.natAbs : Nat) : Int) := by simp only [IntKind.wrap_i64]; omega
    have d1 : decide (n < 0) = true := decide_eq_true h
    obtain ⟨m, hm⟩ : ∃ m, m = n.natAbs := ⟨_, rfl⟩
    rw [← hm] at q1 q3 ⊢
    clear h h1 h2 hm
    go_enter Tryd.func54, Tryd.ntmps54
    go_wp2
    go_ret
    exact ⟨rfl, rfl⟩
  · obtain ⟨m, hm⟩ : ∃ m : Nat, n = m := ⟨n.toNat, by omega⟩
    subst hm
    have d1 : decide (((m : Nat) : Int) < 0) = false := decide_eq_false h
    rw [Int.natAbs_natCast] at q3 ⊢
    clear h h1 h2
    go_enter Tryd.func54, Tryd.ntmps54
    go_wp2
    go_ret
    exact ⟨rfl, rfl⟩
/-- Zero. -/
theorem zero_calls (v : Value) (x : Rat) (w : World) (h : RatAt w x v) :
    Calls Tryd.prog 47 #[v] w fun e w' => e = .returned (.bool (decide (x.num = 0))) ∧ Ext w w' := by
  cases h with
  | small q h =>
    by_cases h0 : x.num = 0
    · rw [h0]
      clear h0 h
      go_enter Tryd.func47, Tryd.ntmps47
      go_wp2
      go_ret
      exact ⟨rfl, (Ext.refl _).alloc _⟩
    · have t0 : (x.num == 0) = false := by rw [beq_eq_false_iff_ne]; exact h0
      have t1 : decide (x.num = 0) = false := decide_eq_false h0
      rw [t1]
      generalize x.num = p at *
      clear h0 h
      go_enter Tryd.func47, Tryd.ntmps47
      go_wp2
      go_ret
      exact ⟨rfl, (Ext.refl _).alloc _⟩
  | big b o vn vd c0 c1 c2 hn hd hs h3 =>
    rw [decide_eq_false h3]
    clear c0 c1 c2 hn hd hs h3
    go_enter Tryd.func47, Tryd.ntmps47
    go_wp2
    go_ret
    exact ⟨rfl, (Ext.refl _).alloc _⟩
/-- Sign. -/
theorem sign_calls (v : Value) (x : Rat) (w : World) (h : RatAt w x v) :
    Calls Tryd.prog 27 #[v] w fun e w' => e = .returned (.int .i64 x.num.sign) ∧ Ext w w' := by
  cases h with
  | small q h =>
    rcases Int.lt_trichotomy x.num 0 with h0 | h0 | h0
    · have d1 : decide (x.num < 0) = true := decide_eq_true h0
      rw [Int.sign_eq_neg_one_of_neg h0]
      generalize x.num = p at *
      clear h h0
      go_enter Tryd.func27, Tryd.ntmps27
      go_wp2
      go_ret
      exact ⟨rfl, (Ext.refl _).alloc _⟩
    · rw [h0]
      clear h h0
      go_enter Tryd.func27, Tryd.ntmps27
      go_wp2
      go_ret
      exact ⟨rfl, (Ext.refl _).alloc _⟩
    · have d1 : decide (x.num < 0) = false := decide_eq_false (by omega)
      have d2 : decide (0 < x.num) = true := decide_eq_true h0
      rw [Int.sign_eq_one_of_pos h0]
      generalize x.num = p at *
      clear h h0
      go_enter Tryd.func27, Tryd.ntmps27
      go_wp2
      go_ret
      exact ⟨rfl, (Ext.refl _).alloc _⟩
  | big b o vn vd c0 c1 c2 hn hd hs h3 =>
    have c0' := ((Ext.refl w).alloc (.cells #[.int .i64 0, .int .i64 0, .pointer (some ⟨b, o, none⟩)] 43)).cell c0
    by_cases h0 : x.num < 0
    · rw [Int.sign_eq_neg_one_of_neg h0]
      rw [decide_eq_true h0] at c0'
      clear c0 c1 c2 hn hd hs h3 h0
      go_enter Tryd.func27, Tryd.ntmps27
      go_wp2
      go_ret
      exact ⟨rfl, (Ext.refl _).alloc _⟩
    · rw [Int.sign_eq_one_of_pos (by omega)]
      rw [decide_eq_false h0] at c0'
      clear c0 c1 c2 hn hd hs h3 h0
      go_enter Tryd.func27, Tryd.ntmps27
      go_wp2
      go_ret
      exact ⟨rfl, (Ext.refl _).alloc _⟩
end Go.Proofs.YtpgnlpjjpgdoiaaDoor
/- parts and lowest. -/
namespace Go.Proofs.YtpgnlpjjpgdoiaaDoor
open Go Go.RowKit
set_option linter.unusedVariables false
set_option linter.unusedSimpArgs false
theorem sizeR : (Tryd.prog.info? 43).map (·.size) = some 3 := by kernel_rfl
/-- The return of a number that lies in a variable. -/
theorem ret_rat {fn : Func} {p : Tmp} (h : fn.results = #[.cell p 43]) {a : Act} {w : World} {Q : Ending → World → Prop} (g : Nat) (x y z : Value) (ha : a.tmps.getD p undef = .pointer (some ⟨g, 0, none⟩))
    (hg : w.heap[g]? = some (.cells #[x, y, z] 43 (0, 0))) (hdef : a.defers = []) (hq : Q (.returned (.agg #[x, y, z])) w) : bodyPost Tryd.prog fn Q .ret a w :=
  bodyPost_ret (results_cell_row h a.tmps w g _ #[x, y, z] _ _ ha hg Tryd.underlying43 rfl sizeR) hdef hq
/-- What parts returns. -/
def PartsPost (w : World) (x : Rat) (e : Ending) (w' : World) : Prop := ∃ vn vd, e = .returned (.tuple #[.bool (decide (x.num < 0)), vn, vd]) ∧ NatAt w' vn x.num.natAbs ∧ NatAt w' vd x.den ∧ Ext w w'
set_option maxRecDepth 100000 in
theorem parts_calls (v : Value) (x : Rat) (w : World) (h : RatAt w x v) :
    Calls Tryd.prog 44 #[v] w (PartsPost w x) := by
  cases h with
  | small q h =>
    have HSM := Lib.hid (fun W => low_calls x q W h)
    have HMG := Lib.hid (fun W => magnitude_calls x.num W (by have := h.num; omega) (by have := h.num; omega))
    have HW1 := Lib.hid (fun W => word_calls x.num.natAbs W (by have := h.num; unfold W64; omega))
    have HW2 := Lib.hid (fun W => word_calls x.den W (by have := h.den; unfold W64; omega))
    have q3 : IntKind.u64.wrap ((x.den : Nat) : Int) = ((x.den : Nat) : Int) := by have := h.den; simp only [IntKind.wrap_u64]; omega
    obtain ⟨s, hs⟩ : ∃ s : Bool, s = decide (x.num < 0) := ⟨_, rfl⟩
    unfold PartsPost
    rw [← hs]
    have hs' : decide (x.num < 0) = s := hs.symm
    generalize x.num.natAbs = m at *
    generalize x.num = p at *
    generalize x.den = d at *
    clear h hs
    go_enter Tryd.func44, Tryd.ntmps44
    go_wp2_with (first
      | (go_at_call 39; refine (HSM.out _).mono ?_; rintro e w2 ⟨rfl, he0⟩)
      | (go_at_call 54; refine (HMG.out _).mono ?_; rintro e w3 ⟨rfl, rfl⟩)
      | (go_at_call 53; refine (HW1.out _).mono ?_; clear HW1; rintro e w4 ⟨r1, rfl, hn1, he1⟩)
      | (go_at_call 53; refine (HW2.out _).mono ?_; clear HW2; rintro e w5 ⟨r2, rfl, hn2, he2⟩))
    go_ret3
    exact ⟨_, _, rfl, hn1.ext he2, hn2, (((Ext.refl _).alloc _).trans he0).trans (he1.trans he2)⟩
  | big b o vn vd c0 c1 c2 hn hd hs h3 =>
    have HN := Lib.hid hn
    have HD := Lib.hid hd
    clear hn hd hs h3
    obtain ⟨w1, hw1⟩ : ∃ w1, w1 = w.alloc (.cells #[.int .i64 0, .int .i64 0, .pointer (some ⟨b, o, none⟩)] 43) := ⟨_, rfl⟩
    have HE : Hid (Ext w w1) := Lib.hid (by rw [hw1]; exact (Ext.refl _).alloc _)
    have d0 := HE.out.cell c0
    have d1 := HE.out.cell c1
    have d2 := HE.out.cell c2
    clear c0 c1 c2
    rw [hw1] at d0 d1 d2
    obtain ⟨s, hs⟩ : ∃ s : Bool, s = decide (x.num < 0) := ⟨_, rfl⟩
    unfold PartsPost
    rw [← hs]
    rw [← hs] at d0
    have HW1 := Lib.hid hw1
    clear hw1
    generalize x.num.natAbs = m at *
    generalize x.den = d at *
    clear hs
    go_enter Tryd.func44, Tryd.ntmps44
    go_wp2
    go_quiet (fail)
    go_wp2
    go_ret3
    exact ⟨_, _, rfl, HN.out.ext (((Ext.refl _).alloc _).drewN _), HD.out.ext (((Ext.refl _).alloc _).drewN _), ((Ext.refl _).alloc _).drewN _⟩
/-- The number that lowest makes. -/
def sgn (neg : Bool) (n : Nat) : Int := if neg then -(n : Int) else n
structure IsR (x : Rat) (neg : Bool) (n d : Nat) : Prop where
  num : x.num = sgn neg n
  den : x.den = d
theorem IsR.abs {x : Rat} {neg : Bool} {n d : Nat} (h : IsR x neg n d) : x.num.natAbs = n := by
  rw [h.num]; unfold sgn; split <;> omega
theorem IsR.neg {x : Rat} {neg : Bool} {n d : Nat} (h : IsR x neg n d) (h0 : n ≠ 0) : decide (x.num < 0) = neg := by
  rw [h.num]; unfold sgn
  cases neg
  · simp
  · simp; omega
theorem big_fin {W : World} {x : Rat} {neg : Bool} {n d g : Nat} {vn vd : Value} (hx : IsR x neg n d) (hg : W.heap[g]? = some (.cells #[.bool neg, vn, vd] 74 (0, 0))) (hn : NatAt W vn n) (hd : NatAt W vd d) (h0 : n ≠ 0) (hbig : 2147483648 ≤ n ∨ 2147483648 ≤ d) :
    RatAt W x (.agg #[.int .i64 0, .int .i64 0, .pointer (some ⟨g, 0, none⟩)]) := by
  refine .big g 0 vn vd ?_ ?_ ?_ ?_ ?_ ?_ ?_
  · rw [cell_of_row W g 0 _ _ _ hg, hx.neg h0]; rfl
  · rw [cell_of_row W g (0 + 1) _ _ _ hg]; rfl
  · rw [cell_of_row W g (0 + 2) _ _ _ hg]; rfl
  · rw [hx.abs]; exact hn
  · rw [hx.den]; exact hd
  · rw [hx.abs, hx.den]; exact hbig
  · intro h; have := hx.abs; rw [h] at this; simp at this; omega
set_option maxRecDepth 100000 in
theorem lowest_big (vn vd : Value) (x : Rat) (neg : Bool) (n d : Nat) (w : World) (hx : IsR x neg n d) (hn : NatAt w vn n) (hd : NatAt w vd d) (h0 : n ≠ 0) (hbig : 2147483648 ≤ n ∨ 2147483648 ≤ d) (hln : (dg W64 n).length ≤ 17592186044416) (hld : (dg W64 d).length ≤ 17592186044416) :
    Calls Tryd.prog 52 #[.bool neg, vn, vd] w fun e w' => ∃ r, e = .returned r ∧ RatAt w' x r ∧ Ext w w' := by
  have HX := Lib.hid hx
  have H0 := Lib.hid h0
  have HB := Lib.hid hbig
  have HN := Lib.hid hn
  have HD := Lib.hid hd
  obtain ⟨A, c, rfl, hc, hra⟩ := hn
  obtain ⟨A', c', rfl, hc', hrb⟩ := hd
  have HRA := Lib.hid hra
  have HRB := Lib.hid hrb
  have hd0 : d ≠ 0 := by rw [← hx.den]; have := x.den_pos; omega
  have hl1 : (dg W64 n).length ≠ 0 := fun h => h0 ((dg_eq_nil W64_two).mp (List.length_eq_zero_iff.mp h))
  have hl2 : (dg W64 d).length ≠ 0 := fun h => hd0 ((dg_eq_nil W64_two).mp (List.length_eq_zero_iff.mp h))
  clear hra hrb hx
  have t0 : (((dg W64 n).length : Int) == 0) = false := by rw [beq_eq_false_iff_ne]; omega
  by_cases h1 : (dg W64 n).length = 1
  · by_cases h2 : (dg W64 d).length = 1
    · obtain ⟨a1, a2, a3⟩ := dg_length_one W64_two h1
      obtain ⟨b1, b2, b3⟩ := dg_length_one W64_two h2
      obtain ⟨ba, oa, rfl, hca⟩ := HRA.out 0 (by omega)
      obtain ⟨bb, ob, rfl, hcb⟩ := HRB.out 0 (by omega)
      rw [a3] at hca
      rw [b3] at hcb
      simp only [List.getD_cons_zero, Nat.add_zero] at hca hcb
      rw [h1] at HN hc ⊢
      rw [h2] at HD hc' ⊢
      have hca' := ((Ext.refl w).alloc (.cells #[.int .i64 0, .int .i64 0, .pointer none] 43)).cell hca
      have hcb' := ((Ext.refl w).alloc (.cells #[.int .i64 0, .int .i64 0, .pointer none] 43)).cell hcb
      clear t0 HRA HRB
      clear a1 a2 a3 b1 b2 b3 hl1 hl2 hd0 h1 h2 h0
      by_cases h3 : n < 2147483648
      · have d1 : decide (((n : Nat) : Int) < 2147483648) = true := decide_eq_true (by omega)
        have d2 : decide (((d : Nat) : Int) < 2147483648) = false := decide_eq_false (by omega)
        clear hbig h3
        go_enter Tryd.func52, Tryd.ntmps52
        go_wp2
        refine ret_rat rfl w.heap.size _ _ _ rfl ((Ext.refl _ |>.alloc _ : Ext (w.alloc _) _).blk (heap_alloc_new w _)) rfl ?_
        exact ⟨_, rfl, big_fin HX.out (heap_alloc2_new w _ _) (HN.out.ext (((Ext.refl w).alloc _).alloc _)) (HD.out.ext (((Ext.refl w).alloc _).alloc _)) H0.out HB.out, ((Ext.refl w).alloc _).alloc _⟩

      · have d1 : decide (((n : Nat) : Int) < 2147483648) = false := decide_eq_false (by omega)
        clear hbig h3
        go_enter Tryd.func52, Tryd.ntmps52
        go_wp2
        refine ret_rat rfl w.heap.size _ _ _ rfl ((Ext.refl _ |>.alloc _ : Ext (w.alloc _) _).blk (heap_alloc_new w _)) rfl ?_
        exact ⟨_, rfl, big_fin HX.out (heap_alloc2_new w _ _) (HN.out.ext (((Ext.refl w).alloc _).alloc _)) (HD.out.ext (((Ext.refl w).alloc _).alloc _)) H0.out HB.out, ((Ext.refl w).alloc _).alloc _⟩

    · have t2 : (((dg W64 d).length : Int) == 1) = false := by rw [beq_eq_false_iff_ne]; omega
      rw [h1] at HN hc t0 ⊢
      generalize (dg W64 d).length = ld at *
      clear hl1 hl2 hd0 h0 h1 h2 hbig
      go_enter Tryd.func52, Tryd.ntmps52
      go_wp2
      refine ret_rat rfl w.heap.size _ _ _ rfl ((Ext.refl _ |>.alloc _ : Ext (w.alloc _) _).blk (heap_alloc_new w _)) rfl ?_
      exact ⟨_, rfl, big_fin HX.out (heap_alloc2_new w _ _) (HN.out.ext (((Ext.refl w).alloc _).alloc _)) (HD.out.ext (((Ext.refl w).alloc _).alloc _)) H0.out HB.out, ((Ext.refl w).alloc _).alloc _⟩

  · have t1 : (((dg W64 n).length : Int) == 1) = false := by rw [beq_eq_false_iff_ne]; omega
    generalize (dg W64 n).length = ln at *
    generalize (dg W64 d).length = ld at *
    clear hl1 hl2 hd0 h0 h1 hbig
    go_enter Tryd.func52, Tryd.ntmps52
    go_wp2
    refine ret_rat rfl w.heap.size _ _ _ rfl ((Ext.refl _ |>.alloc _ : Ext (w.alloc _) _).blk (heap_alloc_new w _)) rfl ?_
    exact ⟨_, rfl, big_fin HX.out (heap_alloc2_new w _ _) (HN.out.ext (((Ext.refl w).alloc _).alloc _)) (HD.out.ext (((Ext.refl w).alloc _).alloc _)) H0.out HB.out, ((Ext.refl w).alloc _).alloc _⟩

theorem small_fin {W : World} {x : Rat} {neg : Bool} {n d : Nat} (hx : IsR x neg n d) (h : n < 2147483648 ∧ d < 2147483648) : RatAt W x (.agg #[.int .i64 (sgn neg n), .int .i64 (d : Int), .pointer none]) := by
  rw [← hx.num, ← hx.den]
  exact .small _ ⟨by rw [hx.abs]; exact h.1, by rw [hx.den]; exact h.2, .inl rfl⟩
set_option maxRecDepth 100000 in
theorem lowest_small (vn vd : Value) (x : Rat) (neg : Bool) (n d : Nat) (w : World) (hx : IsR x neg n d) (hn : NatAt w vn n) (hd : NatAt w vd d) (h0 : n ≠ 0) (hn1 : n < 2147483648) (hd1 : d < 2147483648) :
    Calls Tryd.prog 52 #[.bool neg, vn, vd] w fun e w' => ∃ r, e = .returned r ∧ RatAt w' x r ∧ Ext w w' := by
  have HX := Lib.hid hx
  have hd0 : d ≠ 0 := by rw [← hx.den]; have := x.den_pos; omega
  clear hx
  obtain ⟨A, c, rfl, hc, hra⟩ := hn
  obtain ⟨A', c', rfl, hc', hrb⟩ := hd
  rw [dg_small W64_two h0 (by unfold W64; omega)] at hra hc ⊢
  rw [dg_small W64_two hd0 (by unfold W64; omega)] at hrb hc' ⊢
  obtain ⟨ba, oa, rfl, hca⟩ := hra 0 (by simp)
  obtain ⟨bb, ob, rfl, hcb⟩ := hrb 0 (by simp)
  simp only [List.getD_cons_zero, Nat.add_zero, List.length_singleton] at hca hcb hc hc' ⊢
  have d1 : decide (((n : Nat) : Int) < 2147483648) = true := decide_eq_true (by omega)
  have d2 : decide (((d : Nat) : Int) < 2147483648) = true := decide_eq_true (by omega)
  have q1 : IntKind.i64.wrap ((n : Nat) : Int) = ((n : Nat) : Int) := by simp only [IntKind.wrap_i64]; omega
  have q2 : IntKind.i64.wrap ((d : Nat) : Int) = ((d : Nat) : Int) := by simp only [IntKind.wrap_i64]; omega
  have q3 : IntKind.i64.wrap (-((n : Nat) : Int)) = -((n : Nat) : Int) := by simp only [IntKind.wrap_i64]; omega
  have HS : Hid (n < 2147483648 ∧ d < 2147483648) := Lib.hid ⟨hn1, hd1⟩
  have hca' := ((Ext.refl w).alloc (.cells #[.int .i64 0, .int .i64 0, .pointer none] 43)).cell hca
  have hcb' := ((Ext.refl w).alloc (.cells #[.int .i64 0, .int .i64 0, .pointer none] 43)).cell hcb
  have hca2 := (((Ext.refl w).alloc (.cells #[.int .i64 0, .int .i64 0, .pointer none] 43)).alloc (.cells #[.int .i64 0, .int .i64 0, .pointer none] 43)).cell hca
  have hcb2 := (((Ext.refl w).alloc (.cells #[.int .i64 0, .int .i64 0, .pointer none] 43)).alloc (.cells #[.int .i64 0, .int .i64 0, .pointer none] 43)).cell hcb
  clear hra hrb h0 hd0 hn1 hd1
  cases neg
  · go_enter Tryd.func52, Tryd.ntmps52
    go_wp2
    go_region
    go_wp2
    refine ret_rat rfl w.heap.size _ _ _ rfl ((((Ext.refl _).alloc _).drew : Ext (w.alloc _) _).blk (heap_alloc_new w _)) rfl ?_
    exact ⟨_, rfl, small_fin (neg := false) HX.out HS.out, (((Ext.refl w).alloc _).alloc _).drew⟩
  · go_enter Tryd.func52, Tryd.ntmps52
    go_wp2
    go_region
    go_wp2
    refine ret_rat rfl w.heap.size _ _ _ rfl ((((Ext.refl _).alloc _).drew : Ext (w.alloc _) _).blk (heap_alloc_new w _)) rfl ?_
    exact ⟨_, rfl, small_fin (neg := true) HX.out HS.out, (((Ext.refl w).alloc _).alloc _).drew⟩
/-- The number 0. -/
theorem zero_den {x : Rat} (h : x.num = 0) : x.den = 1 := by
  have h1 := x.reduced
  rw [h] at h1
  simpa using h1
theorem zero_at {W : World} {x : Rat} (h : x.num = 0) : RatAt W x (.agg #[.int .i64 0, .int .i64 0, .pointer none]) := by
  have h1 := RatAt.small (w := W) (x := x) 0 ⟨by rw [h]; decide, by rw [zero_den h]; decide, .inr ⟨rfl, h, zero_den h⟩⟩
  rw [h] at h1
  exact h1
set_option maxRecDepth 100000 in
theorem lowest_zero (vn vd : Value) (x : Rat) (neg : Bool) (w : World) (hx : x.num = 0) (hn : NatAt w vn 0) :
    Calls Tryd.prog 52 #[.bool neg, vn, vd] w fun e w' => ∃ r, e = .returned r ∧ RatAt w' x r ∧ Ext w w' := by
  have HX := Lib.hid hx
  clear hx
  obtain ⟨A, c, rfl, hc, hra⟩ := hn
  rw [dg_zero, List.length_nil]
  clear hra hc
  go_enter Tryd.func52, Tryd.ntmps52
  go_wp2
  refine ret_rat rfl w.heap.size _ _ _ rfl (heap_alloc_new w _) rfl ?_
  exact ⟨_, rfl, zero_at HX.out, (Ext.refl w).alloc _⟩
/-- The contract of lowest. -/
theorem lowest_calls (vn vd : Value) (x : Rat) (neg : Bool) (n d : Nat) (w : World) (hx : IsR x neg n d) (hn : NatAt w vn n) (hd : NatAt w vd d) (hln : (dg W64 n).length ≤ 17592186044416) (hld : (dg W64 d).length ≤ 17592186044416) :
    Calls Tryd.prog 52 #[.bool neg, vn, vd] w fun e w' => ∃ r, e = .returned r ∧ RatAt w' x r ∧ Ext w w' := by
  by_cases h0 : n = 0
  · subst h0
    exact lowest_zero vn vd x neg w (by rw [hx.num]; unfold sgn; split <;> rfl) hn
  · by_cases h1 : n < 2147483648 ∧ d < 2147483648
    · exact lowest_small vn vd x neg n d w hx hn hd h0 h1.1 h1.2
    · exact lowest_big vn vd x neg n d w hx hn hd h0 (by omega) hln hld
end Go.Proofs.YtpgnlpjjpgdoiaaDoor
/- reduce and quotient. -/
namespace Go.Proofs.YtpgnlpjjpgdoiaaDoor
open Go Go.RowKit
set_option linter.unusedVariables false
set_option linter.unusedSimpArgs false
theorem RatAt.shape {w : World} {x : Rat} {v : Value} (h : RatAt w x v) : ∃ p q A, v = .agg #[.int .i64 p, .int .i64 q, .pointer A] := by
  cases h with
  | small q h => exact ⟨_, _, _, rfl⟩
  | big b o vn vd h0 h1 h2 hn hd hs h3 => exact ⟨_, _, _, rfl⟩
/-- A value that no variable for a number holds at the start. -/
def _root_.Go.Value.isOther : Value → Bool
  | .int .i64 _ => false
  | .pointer _ => false
  | _ => true
/-- A variable for a number: its block. -/
def VarR (w : World) (g : Nat) : Prop := w.heap[g]? = some (.cells #[.int .i64 0, .int .i64 0, .pointer none] 43 (0, 0))
theorem VarR.cells {w : World} {g : Nat} (h : VarR w g) : w.cell? ⟨g, 0, none⟩ = some (.int .i64 0) ∧ w.cell? ⟨g, 1, none⟩ = some (.int .i64 0) ∧ w.cell? ⟨g, 2, none⟩ = some (.pointer none) ∧ w.frozen? ⟨g, 0, none⟩ = false ∧ w.frozen? ⟨g, 1, none⟩ = false ∧ w.frozen? ⟨g, 2, none⟩ = false := by
  refine ⟨?_, ?_, ?_, frozen_of_row _ _ _ _ _ h, frozen_of_row _ _ _ _ _ h, frozen_of_row _ _ _ _ _ h⟩
  · rw [cell_of_row _ _ _ _ _ _ h]; rfl
  · rw [cell_of_row _ _ _ _ _ _ h]; rfl
  · rw [cell_of_row _ _ _ _ _ _ h]; rfl
theorem VarR.ext {w w' : World} {g : Nat} (h : VarR w g) (he : Ext w w') : VarR w' g := he.blk h
theorem VarR.new (w : World) : VarR (w.alloc (.cells #[.int .i64 0, .int .i64 0, .pointer none] 43)) w.heap.size := heap_alloc_new w _
theorem VarR.ne {w : World} {g b o : Nat} {v : Value} (h : VarR w g) (hc : w.cell? ⟨b, o, none⟩ = some v) (hv : v.isOther = true) : b ≠ g := by
  rintro rfl
  rw [cell_of_row _ _ _ _ _ _ h] at hc
  rcases o with _ | _ | _ | o
  · simp at hc; subst hc; simp [Value.isOther] at hv
  · simp at hc; subst hc; simp [Value.isOther] at hv
  · simp at hc; subst hc; simp [Value.isOther] at hv
  · simp at hc
theorem Only.cell {g : Nat} {w w' : World} (h : Only g w w') {b o : Nat} {v : Value} (hn : b ≠ g) (hc : w.cell? ⟨b, o, none⟩ = some v) : w'.cell? ⟨b, o, none⟩ = some v :=
  (World.cell?_of_block (a := ⟨b, o, none⟩) (h.block b (lt_of_cell hc) hn)).trans hc
theorem Rd.only {w w' : World} {g : Nat} {A : Option Addr} {xs : List Nat} (h : Rd w A xs) (hv : VarR w g) (ho : Only g w w') : Rd w' A xs := fun i hi => by
  obtain ⟨b, o, hA, hc⟩ := h i hi
  exact ⟨b, o, hA, ho.cell (hv.ne hc rfl) hc⟩
theorem NatAt.only {w w' : World} {g n : Nat} {v : Value} (h : NatAt w v n) (hv : VarR w g) (ho : Only g w w') : NatAt w' v n := by
  obtain ⟨A, c, hv', hc, hr⟩ := h; exact ⟨A, c, hv', hc, hr.only hv ho⟩
theorem RatAt.only {w w' : World} {g : Nat} {x : Rat} {v : Value} (h : RatAt w x v) (hv : VarR w g) (ho : Only g w w') : RatAt w' x v := by
  cases h with
  | small q h => exact .small q h
  | big b o vn vd h0 h1 h2 hn hd hs h3 =>
    have hb := hv.ne h0 rfl
    exact .big b o vn vd (ho.cell hb h0) (ho.cell hb h1) (ho.cell hb h2) (hn.only hv ho) (hd.only hv ho) hs h3
/-- A number put into its variable. -/
def putR (w : World) (g : Nat) (p q : Int) (A : Option Addr) : World := ((w.setCell ⟨g, 0, none⟩ (.int .i64 p)).setCell ⟨g, 1, none⟩ (.int .i64 q)).setCell ⟨g, 2, none⟩ (.pointer A)
theorem putR_only (w : World) (g : Nat) (p q : Int) (A : Option Addr) : Only g w (putR w g p q A) := (((Only.refl g w).setCell 0 _).setCell 1 _).setCell 2 _
theorem putR_row {w : World} {g : Nat} (h : VarR w g) (p q : Int) (A : Option Addr) : (putR w g p q A).heap[g]? = some (.cells #[.int .i64 p, .int .i64 q, .pointer A] 43 (0, 0)) := by
  unfold putR
  rw [heap_setCell_same _ g 2 _ _ _ (heap_setCell_same _ g 1 _ _ _ (heap_setCell_same _ g 0 _ _ _ h))]
  rfl
theorem putR_rat {w0 w : World} {g : Nat} {p q : Int} {A : Option Addr} {x : Rat} (h : VarR w g) (hx : RatAt w x (.agg #[.int .i64 p, .int .i64 q, .pointer A])) (hE : Ext w0 w) (hg : w0.heap.size ≤ g) :
    ∃ r, Ending.returned (.agg #[.int .i64 p, .int .i64 q, .pointer A]) = .returned r ∧ RatAt (putR w g p q A) x r ∧ Ext w0 (putR w g p q A) :=
  ⟨_, rfl, hx.only h (putR_only w g p q A), (putR_only w g p q A).ext hE hg⟩
theorem isR_mk {neg : Bool} {n d : Nat} (h0 : d ≠ 0) : IsR (mkRat (sgn neg n) d) neg (n / Nat.gcd n d) (d / Nat.gcd n d) := by
  have ha : (sgn neg n).natAbs = n := by unfold sgn; split <;> omega
  refine ⟨?_, ?_⟩
  · rw [Rat.num_mkRat, if_neg h0, ha, Nat.gcd_comm]
    unfold sgn
    cases neg
    · simp
    · simp only [if_true]
      rw [Int.neg_ediv_of_dvd (Int.natCast_dvd_natCast.mpr (Nat.gcd_dvd_left n d))]
      simp
  · rw [Rat.den_mkRat, if_neg h0, ha, Nat.gcd_comm]
/-- A word 1 in a row of its own. -/
theorem one_at (w : World) : NatAt (w.alloc (.cells #[.int .u64 1] 76)) (.slice (some ⟨w.heap.size, 0, none⟩) 1 1) 1 :=
  NatAt.one (x := 1) (by rw [cell_of_row _ _ _ _ _ _ (heap_alloc_new w _)]; rfl) (by decide) (by decide)
set_option maxRecDepth 100000 in
theorem reduce_pos (vn vd : Value) (neg : Bool) (n d : Nat) (w : World) (hd0 : d ≠ 0) (h0 : n ≠ 0) (hn : NatAt w vn n) (hd : NatAt w vd d) (hln : (dg W64 n).length < 17592186044416) (hld : (dg W64 d).length < 17592186044416) :
    Calls Tryd.prog 45 #[.bool neg, vn, vd] w fun e w' => ∃ r, e = .returned r ∧ RatAt w' (mkRat (sgn neg n) d) r ∧ Ext w w' := by
  obtain ⟨g, hg⟩ : ∃ g, g = Nat.gcd n d := ⟨_, rfl⟩
  have hg0 : g ≠ 0 := by rw [hg]; exact Nat.pos_iff_ne_zero.mp (Nat.gcd_pos_of_pos_left _ (by omega))
  have hgn : g ≤ n := by rw [hg]; exact Nat.gcd_le_left _ (by omega)
  have HLG : Hid ((dg W64 g).length < 17592186044416) := Lib.hid (by have := dg_length_mono W64_two hgn; omega)
  have HX : Hid (IsR (mkRat (sgn neg n) d) neg (n / g) (d / g)) := Lib.hid (by rw [hg]; exact isR_mk hd0)
  have HGC := Lib.hid (fun W he => divisor_calls vn vd n d W (NatAt.ext hn he) (NatAt.ext hd he) hln hld : ∀ W, Ext w W → _)
  have HL1 : Hid ((dg W64 (n / g)).length ≤ 17592186044416) := Lib.hid (by have := dg_length_mono W64_two (Nat.div_le_self n g); omega)
  have HL2 : Hid ((dg W64 (d / g)).length ≤ 17592186044416) := Lib.hid (by have := dg_length_mono W64_two (Nat.div_le_self d g); omega)
  have HN := Lib.hid hn
  have HD := Lib.hid hd
  have HLN := Lib.hid hln
  have HLD := Lib.hid hld
  obtain ⟨A, c, rfl, hc, hra⟩ := hn
  have hl1 : (dg W64 n).length ≠ 0 := fun h => h0 ((dg_eq_nil W64_two).mp (List.length_eq_zero_iff.mp h))
  have t0 : (((dg W64 n).length : Int) == 0) = false := by rw [beq_eq_false_iff_ne]; omega
  clear hra hd hln hld
  rw [← hg] at HGC
  generalize mkRat (sgn neg n) d = x at *
  obtain ⟨ln, hln⟩ : ∃ ln, ln = (dg W64 n).length := ⟨_, rfl⟩
  rw [← hln] at HN HGC hc t0 ⊢
  have HLN' : Hid ((dg W64 n).length < 17592186044416) := HLN
  clear hl1 hln hgn hg HLN
  by_cases h1 : g = 1
  · have hcm : cmpN g 1 = 0 := cmpN_eq h1
    rw [h1, Nat.div_one, Nat.div_one] at HX
    clear h0 hd0 hg0
    go_enter Tryd.func45, Tryd.ntmps45
    go_wp2_with (first
      | (go_at_call 51; refine (HGC.out _ ((Ext.refl _).alloc _)).mono ?_; rintro e w2 ⟨r1, rfl, hn1, he1⟩)
      | (go_at_call 42; refine (compare_calls _ _ g 1 _ (hn1.ext ((Ext.refl _).alloc _)) (one_at _) (Nat.le_of_lt (Nat.lt_trans HLG.out (by decide)))).mono ?_; rw [hcm]; rintro e w3 ⟨rfl, nq, rfl⟩)
      | (go_at_call 52; refine (lowest_calls _ _ x neg n d _ HX.out (HN.out.ext ((((Ext.refl w).alloc _).trans he1).alloc _ |>.drewN _)) (HD.out.ext ((((Ext.refl w).alloc _).trans he1).alloc _ |>.drewN _)) (Nat.le_of_lt HLN'.out) (Nat.le_of_lt HLD.out)).mono ?_; rintro e w4 ⟨r4, rfl, hr4, he4⟩; obtain ⟨p, q, Ap, rfl⟩ := hr4.shape; have HR := Lib.hid hr4; have HE4 := Lib.hid he4; have HV : Hid (VarR w4 w.heap.size) := Lib.hid ((VarR.new w).ext (he1.trans ((((Ext.refl w2).alloc _).drewN nq).trans HE4.out))); obtain ⟨k0, k1, k2, f0, f1, f2⟩ := HV.out.cells; clear hr4 he4))
    refine ret_rat rfl w.heap.size _ _ _ rfl (putR_row HV.out p q Ap) rfl ?_
    exact putR_rat HV.out HR.out ((((Ext.refl w).alloc _).trans he1).trans ((((Ext.refl w2).alloc _).drewN nq).trans HE4.out)) (Nat.le_refl _)
  · have hcm : ((cmpN g 1 : Int) == 0) = false := by unfold cmpN; rw [if_neg (by omega), if_neg (by omega)]; rfl
    obtain ⟨cm, hcm2⟩ : ∃ cm, cm = cmpN g 1 := ⟨_, rfl⟩
    rw [← hcm2] at hcm
    have HCM2 := Lib.hid hcm2
    clear h0 hd0 h1 hcm2
    have HG0 := Lib.hid hg0
    clear hg0
    go_enter Tryd.func45, Tryd.ntmps45
    go_wp2_with (first
      | (go_at_call 51; refine (HGC.out _ ((Ext.refl _).alloc _)).mono ?_; clear HGC; rintro e w2 ⟨r1, rfl, hn1, he1⟩)
      | (go_at_call 42; refine (compare_calls _ _ g 1 _ (hn1.ext ((Ext.refl _).alloc _)) (one_at _) (Nat.le_of_lt (Nat.lt_trans HLG.out (by decide)))).mono ?_; rw [← HCM2.out]; rintro e w3 ⟨rfl, nq, rfl⟩; have HE3 := Lib.hid ((((Ext.refl w).alloc _).trans he1).trans (((Ext.refl w2).alloc (.cells #[.int .u64 1] 76)).drewN nq)); have HV3 := Lib.hid ((VarR.new w).ext (he1.trans (((Ext.refl w2).alloc (.cells #[.int .u64 1] 76)).drewN nq))); have HG3 := Lib.hid (hn1.ext (((Ext.refl w2).alloc (.cells #[.int .u64 1] 76)).drewN nq)))
      | (go_at_call 63; refine (divide_calls _ _ n g _ (HN.out.ext HE3.out) HG3.out HG0.out HLN'.out).mono ?_; clear HN; rintro e w5 ⟨v5, v6, rfl, hq5, hr5, he5⟩; have HQ5 := Lib.hid hq5; have HE5 := Lib.hid he5; clear hq5 hr5 he5)
      | (go_at_call 63; refine (divide_calls _ _ d g _ (HD.out.ext (HE3.out.trans HE5.out)) (HG3.out.ext HE5.out) HG0.out HLD.out).mono ?_; rintro e w6 ⟨v7, v8, rfl, hq6, hr6, he6⟩; have HQ6 := Lib.hid hq6; have HE6 := Lib.hid he6; clear hq6 hr6 he6)
      | (go_at_call 52; refine (lowest_calls _ _ x neg (n / g) (d / g) _ HX.out (HQ5.out.ext HE6.out) HQ6.out HL1.out HL2.out).mono ?_; rintro e w4 ⟨r4, rfl, hr4, he4⟩; obtain ⟨p, q, Ap, rfl⟩ := hr4.shape; have HR := Lib.hid hr4; have HE4 := Lib.hid he4; have HV : Hid (VarR w4 w.heap.size) := Lib.hid (HV3.out.ext ((HE5.out.trans HE6.out).trans HE4.out)); obtain ⟨k0, k1, k2, f0, f1, f2⟩ := HV.out.cells; clear hr4 he4))
    refine ret_rat rfl w.heap.size _ _ _ rfl (putR_row HV.out p q Ap) rfl ?_
    exact putR_rat HV.out HR.out (((HE3.out.trans HE5.out).trans HE6.out).trans HE4.out) (Nat.le_refl _)
theorem reduce_zero (vn vd : Value) (neg : Bool) (d : Nat) (w : World) (hn : NatAt w vn 0) :
    Calls Tryd.prog 45 #[.bool neg, vn, vd] w fun e w' => ∃ r, e = .returned r ∧ RatAt w' (mkRat (sgn neg 0) d) r ∧ Ext w w' := by
  have HX : Hid ((mkRat (sgn neg 0) d).num = 0) := Lib.hid (by rw [Rat.num_mkRat]; unfold sgn; split <;> simp)
  obtain ⟨A, c, rfl, hc, hra⟩ := hn
  rw [dg_zero, List.length_nil]
  generalize mkRat (sgn neg 0) d = x at *
  clear hra hc
  go_enter Tryd.func45, Tryd.ntmps45
  go_wp2
  refine ret_rat rfl w.heap.size _ _ _ rfl (heap_alloc_new w _) rfl ?_
  exact ⟨_, rfl, zero_at HX.out, (Ext.refl w).alloc _⟩
/-- The contract of reduce. -/
theorem reduce_calls (vn vd : Value) (neg : Bool) (n d : Nat) (w : World) (hd0 : d ≠ 0) (hn : NatAt w vn n) (hd : NatAt w vd d) (hln : (dg W64 n).length < 17592186044416) (hld : (dg W64 d).length < 17592186044416) :
    Calls Tryd.prog 45 #[.bool neg, vn, vd] w fun e w' => ∃ r, e = .returned r ∧ RatAt w' (mkRat (sgn neg n) d) r ∧ Ext w w' := by
  by_cases h0 : n = 0
  · subst h0; exact reduce_zero vn vd neg d w hn
  · exact reduce_pos vn vd neg n d w hd0 h0 hn hd hln hld
end Go.Proofs.YtpgnlpjjpgdoiaaDoor
