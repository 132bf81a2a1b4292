/- Merged by program: Text, Str, OfB, OfC, Of, SurdM, RatK, SurA, SurB. -/
import Derived.Laws.IdiomStrings
import Derived.Laws.AppendOwn
import Derived.Lib.SmallJoins
import Derived.Laws.ResultCell
import Derived.Deep.RegionHeld3
import Derived.Test.YtpgnlpjjpgdoiaaDoorFc
/- text: the walk. -/
namespace Go.Proofs.YtpgnlpjjpgdoiaaDoor
open Go Go.RowKit
set_option linter.unusedVariables false
set_option linter.unusedSimpArgs false
/-- The cells of bytes. -/
def rowB (l : List UInt8) : Array Value := (l.map fun (b : UInt8) => Value.int .u8 (b.toNat : Int)).toArray
/-- An array of bytes of the call's own. -/
def BlkB (w : World) (g : Nat) (l : List UInt8) : Prop := w.heap[g]? = some (.cells (rowB l) 93 (0, 0))
theorem BlkB.cell {w : World} {g : Nat} {l : List UInt8} (h : BlkB w g l) {i : Nat} (hi : i < l.length) : w.cell? ⟨g, i, none⟩ = some (.int .u8 (l[i].toNat : Int)) := by
  unfold BlkB rowB at h
  simp [World.cell?, h, hi]
theorem BlkB.frozen {w : World} {g : Nat} {l : List UInt8} (h : BlkB w g l) (i : Nat) : w.frozen? ⟨g, i, none⟩ = false := by
  unfold BlkB at h; simp [World.frozen?, h]
theorem BlkB.set {w : World} {g : Nat} {l : List UInt8} (h : BlkB w g l) (i : Nat) (x : UInt8) (v : Int) (hv : v = (x.toNat : Int)) : BlkB (w.setCell ⟨g, i, none⟩ (.int .u8 v)) g (l.set i x) := by
  subst hv
  unfold BlkB rowB at *
  simp only [World.setCell, Array.getElem?_modify, h]
  simp [List.map_set]
theorem pad_set {l : List UInt8} {m p : Nat} (hl : l.length = 19) (hm : m < 19) (h : l.drop (m + 1) = padF (19 - (m + 1)) p) : (l.set m (dig1 (p / 10 ^ (19 - (m + 1))))).drop m = padF (19 - m) p := by
  rw [List.drop_eq_getElem_cons (by simp; omega), List.getElem_set_self, List.drop_set_of_lt (by omega), h, show 19 - m = (19 - (m + 1)) + 1 from by omega, padF]
theorem own_ext {w w' : World} {B e size n : Nat} {v : Value} {xs : List Value} (h : w.ownsRow B e size v n xs) (hb : Ext w w') : w'.ownsRow B e size v n xs := by
  refine h.kept (row := none) ⟨hb.os, hb.tape, hb.output, hb.size, fun k hk _ => hb.block k hk⟩ ?_
  cases hv : v.ownBlock with
  | none => exact .inl rfl
  | some g => exact .inr (by simp)
theorem natAt_grown {w w' : World} {g n k c : Nat} {row : Option Nat} (h : NatAt w (.slice (some ⟨g, 0, none⟩) k c) n) (hg : w.grownBy w' row) (hne : some g ≠ row) : NatAt w' (.slice (some ⟨g, 0, none⟩) k c) n := by
  obtain ⟨A, c', hv, hc, hr⟩ := h
  refine ⟨A, c', hv, hc, fun i hi => ?_⟩
  obtain ⟨b, o, hA, hcl⟩ := hr i hi
  injection hv with e1 e2 e3
  refine ⟨b, o, hA, hg.cell hcl ?_⟩
  rw [hA] at e1
  injection e1 with e1
  injection e1 with e1 e4
  show some b ≠ row
  rw [← e1]; exact hne
theorem isBuilder_ext {w w' : World} {T e : TypeId} {B b : Nat} {bs : List Value} (h : Lib.IsBuilder T e B b bs w) (he : Ext w w') : Lib.IsBuilder T e B b bs w' := by
  have key : ∀ p, Lib.BuilderAt T e B b p bs w → Lib.BuilderAt T e B b p bs w' := fun p ⟨h1, v, h2, h3, h4⟩ => ⟨h1, v, he.blk h2, own_ext h3 he, h4⟩
  rcases h with h | h
  · exact .inl (key _ h)
  · exact .inr (key _ h)
theorem byteCells_len (l : List UInt8) : (Lib.byteCells l).length = l.length := by simp [Lib.byteCells]
set_option maxRecDepth 100000 in
set_option maxHeartbeats 1000000 in
theorem text_pos (va : Value) (n : Nat) (w : World) (ha : NatAt w va n) (h0 : n ≠ 0) (hl : (dg W64 n).length ≤ 1099511627776) :
    Calls Tryd.prog 41 #[va] w fun e w' => e = .returned (.string ⟨(Lib.decDigits n).toArray⟩) ∧ Ext w w' := by
  have HL := Lib.hid hl
  have H0 := Lib.hid h0
  have HA0 := Lib.hid ha
  obtain ⟨A, c, rfl, hc, hr⟩ := ha
  obtain ⟨i0, hi, hz0, hz1, hz2⟩ := info_parts infoW
  have t0 : (((dg W64 n).length : Int) == 0) = false := by
    rw [beq_eq_false_iff_ne]
    intro e
    exact h0 ((dg_eq_nil W64_two).mp (List.eq_nil_of_length_eq_zero (by omega)))
  obtain ⟨B0, hB0⟩ : ∃ B0, B0 = w.heap.size := ⟨_, rfl⟩
  have HB0 := Lib.hid hB0
  clear h0 hl hr hc hB0
  go_enter Tryd.func41, Tryd.ntmps41
  go_wp2
  clear t0
  go_loopg [0, 3, 4] n (fun g t p r wr => ∃ (m : Nat) (P : List Nat), g = m ∧ Hid (NatAt wr t m) ∧ Hid (wr.ownsRow B0 76 1 p P.length (P.map fun (x : Nat) => Value.int .u64 (x : Int))) ∧ Hid (dg T19 n = P ++ dg T19 m) ∧ Hid (m ≤ n) ∧ Hid (Ext w wr))
  case atStart => exact ⟨n, [], rfl, HA0, Lib.hid (World.ownsRow_nil _ _ _ _), Lib.hid rfl, Lib.hid (Nat.le_refl _), Lib.hid (Ext.refl _)⟩
  case round =>
    clear HA0
    obtain ⟨m, P, hgm, HT, HP, HD, HMN, HE⟩ := hrel
    have HGM := Lib.hid hgm
    clear hgm
    have HT' := HT
    obtain ⟨A1, c1, rfl, hc1, hr1⟩ := HT.out
    clear HT hc1 hr1
    have HS := Lib.hid (owns_slAt (c := 0) HP.out)
    have HS' := HS
    obtain ⟨A2, c2, rfl, hc2, hr2⟩ := HS'.out
    clear HS' hc2 hr2
    by_cases hm : m = 0
    · have t1 : ¬ 0 < (dg W64 m).length := by rw [hm, dg_zero]; decide
      have HDP : Hid (dg T19 n = P) := Lib.hid (by have h := HD.out; rw [hm, dg_zero, List.append_nil] at h; exact h)
      have HWP : Hid (WB T19 P) := Lib.hid (by rw [← HDP.out]; exact WB_dg T19_two n)
      have HLP : Hid (∀ x, P.getLast? = some x → x ≠ 0) := Lib.hid (fun x hx => by
        rcases dg_last T19_two n with h | h
        · rw [HDP.out] at h; rw [h] at hx; simp at hx
        · rw [HDP.out, hx] at h; intro e; exact h (by rw [e]))
      have HPL : Hid (P.length ≤ 2199023255552) := Lib.hid (by
        have h1 := dg_T19_len HL.out
        rw [HDP.out] at h1
        omega)
      have hP0 : 1 ≤ P.length := by
        rcases Nat.eq_zero_or_pos P.length with h | h
        · exact absurd ((dg_eq_nil T19_two).mp (HDP.out.trans (List.eq_nil_of_length_eq_zero h))) H0.out
        · exact h
      have u1 : IntKind.i64.wrap (((P.length : Nat) : Int) - 1) = ((P.length : Nat) : Int) - 1 := by have := HPL.out; simp only [IntKind.wrap_i64]; omega
      clear hm
      go_wp2
      clear u1 t1
      obtain ⟨w3, hw3⟩ : ∃ w3, w3 = wr.alloc (.cells #[.pointer none, .slice none 0 0] 92) := ⟨_, rfl⟩
      obtain ⟨b, hb⟩ : ∃ b, b = wr.heap.size := ⟨_, rfl⟩
      have HIB : Hid (Lib.IsBuilder 92 5 b b (Lib.byteCells (outB P P.length)) w3) := Lib.hid (by unfold outB; rw [if_pos rfl, hw3, hb]; exact Lib.fresh_isBuilder _ _ _)
      have HRD : Hid (∀ i, i < P.length → ∃ bp op, A2 = some ⟨bp, op, none⟩ ∧ bp < b ∧ w3.cell? ⟨bp, op + i, none⟩ = some (.int .u64 ((P.getD i 0 : Nat) : Int))) := Lib.hid (fun i hi => by
        obtain ⟨A3, c3, he3, _, hr3⟩ := HS.out
        injection he3 with e1 e2 e3
        obtain ⟨bp, op, hA, hcl⟩ := hr3 i hi
        refine ⟨bp, op, e1.trans hA, by rw [hb]; exact lt_of_cell hcl, ?_⟩
        rw [hw3]; exact ((Ext.refl _).alloc _).cell hcl)
      have HE3 : Hid (Ext w w3) := Lib.hid (by rw [hw3]; exact HE.out.alloc _)
      have HB3 : Hid (b < w3.heap.size ∧ w.heap.size ≤ b) := Lib.hid (by rw [hw3, hb]; exact ⟨by simp, HE.out.le⟩)
      rw [← hw3, ← hb]
      clear hw3 hb HS HE HP HT'
      go_loopw [6] (fun i wr2 => ∃ k : Nat, k ≤ P.length ∧ i = .int .i64 (((k : Nat) : Int) - 1) ∧ Hid (Lib.IsBuilder 92 5 b b (Lib.byteCells (outB P k)) wr2) ∧ Hid (Below b w3 wr2)) (fun i _ => (intOf i + 1).toNat)
      case atStart => exact ⟨P.length, Nat.le_refl _, rfl, HIB, Lib.hid (Below.refl _ _)⟩
      case round =>
        clear HIB
        obtain ⟨wq, rfl⟩ : ∃ wq : World, wq = wr := ⟨_, rfl⟩
        obtain ⟨k, hk, rfl, HIB, HBE⟩ := hrel
        by_cases hk0 : k = 0
        · subst hk0
          have t2 : decide ((0 : Int) ≤ ((0 : Nat) : Int) - 1) = false := by decide
          go_wp2_with (go_at_call 62; refine (Tryd.Builder_String_any b b _ _ HIB.out (by have := HB3.out.1; have := HBE.out.size; omega)).mono ?_; rintro e w9 ⟨rfl, he9⟩)
          go_ret
          have hz := outB_zero H0.out
          rw [HDP.out] at hz
          refine ⟨by rw [hz]; rfl, ?_⟩
          have h9 := (Below.trans HBE.out he9).mono HB3.out.2
          exact Below.trans HE3.out h9
        · obtain ⟨m', rfl⟩ : ∃ m', k = m' + 1 := ⟨k - 1, by omega⟩
          clear hk0
          have em : (((m' + 1 : Nat) : Int) - 1) = (m' : Int) := by omega
          rw [em]
          clear em
          obtain ⟨bp, op, rfl, hbp, hcp⟩ := HRD.out m' (by omega)
          have hcq : wq.cell? ⟨bp, op + m', none⟩ = some (.int .u64 ((P.getD m' 0 : Nat) : Int)) := (HBE.out.cell (p := ⟨bp, op + m', none⟩) hbp).trans hcp
          have hcr := ((Ext.refl wq).alloc (.cells #[.int .u8 0, .int .u8 0, .int .u8 0, .int .u8 0, .int .u8 0, .int .u8 0, .int .u8 0, .int .u8 0, .int .u8 0, .int .u8 0, .int .u8 0, .int .u8 0, .int .u8 0, .int .u8 0, .int .u8 0, .int .u8 0, .int .u8 0, .int .u8 0, .int .u8 0] 93)).cell hcq
          obtain ⟨x, hx⟩ : ∃ x, x = P.getD m' 0 := ⟨_, rfl⟩
          have HX : Hid (x < T19) := Lib.hid (by rw [hx]; exact HWP.out.getD T19_pos m')
          have HXX := Lib.hid hx
          rw [← hx] at hcr
          have i0' : (0 : Int) ≤ (m' : Int) := by omega
          have i1' : (m' : Int) < ((P.length : Nat) : Int) := by omega
          clear hcp hcq hx hbp
          go_wp2
          clear hcr i0' i1'
          obtain ⟨w5, hw5⟩ : ∃ w5, w5 = wq.alloc (.cells #[.int .u8 0, .int .u8 0, .int .u8 0, .int .u8 0, .int .u8 0, .int .u8 0, .int .u8 0, .int .u8 0, .int .u8 0, .int .u8 0, .int .u8 0, .int .u8 0, .int .u8 0, .int .u8 0, .int .u8 0, .int .u8 0, .int .u8 0, .int .u8 0, .int .u8 0] 93) := ⟨_, rfl⟩
          obtain ⟨gd, hgd⟩ : ∃ gd, gd = wq.heap.size := ⟨_, rfl⟩
          have HBK : Hid (BlkB w5 gd (List.replicate 19 0)) := Lib.hid (by rw [hw5, hgd]; exact heap_alloc_new wq _)
          have HE5 : Hid (Ext wq w5) := Lib.hid (by rw [hw5]; exact (Ext.refl _).alloc _)
          have HGD := Lib.hid hgd
          rw [← hw5, ← hgd]
          clear hw5 hgd
          go_loopw [8, 9] (fun y i wr3 => ∃ (k2 : Nat) (L : List UInt8), k2 ≤ 19 ∧ y = .int .u64 ((x / 10 ^ (19 - k2) : Nat) : Int) ∧ i = .int .i64 (((k2 : Nat) : Int) - 1) ∧ Hid (BlkB wr3 gd L) ∧ L.length = 19 ∧ Hid (L.drop k2 = padF (19 - k2) x) ∧ Hid (Ext wq wr3)) (fun _ i _ => (intOf i + 1).toNat)
          case atStart => exact ⟨19, _, by omega, by simp, rfl, HBK, by simp, Lib.hid (by simp [padF]), HE5⟩
          case round =>
            clear HBK HE5
            obtain ⟨k2, L, hk2, rfl, rfl, HBK, hLl, HLD, HE5⟩ := hrel
            by_cases hk20 : k2 = 0
            · subst hk20
              have HLE : Hid (L = padF 19 x) := Lib.hid HLD.out
              have HCV := Lib.hid (run_convert_bytes_back wr 90 9 5 ⟨gd, 0, none⟩ 19 (padF 19 x) Tryd.underlying90 Tryd.underlying5 Tryd.underlying9 (fun j hj => by
                have h := HBK.out
                rw [HLE.out] at h
                have h2 := h.cell (i := j) hj
                rw [show (⟨gd, 0, none⟩ : Addr).add j = ⟨gd, j, none⟩ from by unfold Addr.add; by_cases h : j = 0 <;> simp [h]]
                exact h2))
              rw [padF_length] at HCV
              have hcv := HCV.out
              have HSV : Hid ((⟨(padF 19 x).toArray⟩ : ByteArray).data.toList = padF 19 x) := Lib.hid rfl
              have HSZ : Hid ((⟨(padF 19 x).toArray⟩ : ByteArray).size = 19) := Lib.hid (by show (padF 19 x).toArray.size = 19; rw [List.size_toArray, padF_length])
              generalize (⟨(padF 19 x).toArray⟩ : ByteArray) = S at *
              have HIR : Hid (Lib.IsBuilder 92 5 b b (Lib.byteCells (outB P (m' + 1))) wr) := Lib.hid (isBuilder_ext HIB.out HE5.out)
              have HBR : Hid (b ≤ wr.heap.size) := Lib.hid (by have := HB3.out.1; have := HBE.out.size; have := HE5.out.le; omega)
              have HBL : Hid ((Lib.byteCells (outB P (m' + 1))).length + 19 ≤ 140737488355328) := Lib.hid (by rw [byteCells_len]; have h := outB_len HWP.out (k := m' + 1) (by omega); have := HPL.out; omega)
              have HBW' : Hid (Below b w3 wr) := Lib.hid (HBE.out.trans (HE5.out.mono (by have := HB3.out.1; have := HBE.out.size; omega)))
              have u6 : IntKind.i64.wrap (((m' : Nat) : Int) - 1) = ((m' : Nat) : Int) - 1 := by have := HPL.out; simp only [IntKind.wrap_i64]; omega
              have u1 : IntKind.i64.wrap (((P.length : Nat) : Int) - 1) = ((P.length : Nat) : Int) - 1 := by have := HPL.out; simp only [IntKind.wrap_i64]; omega
              by_cases hlast : m' + 1 = P.length
              · have t5 : (((m' : Nat) : Int) == ((P.length : Nat) : Int) - 1) = true := by rw [beq_iff_eq]; omega
                have HO : Hid (outB P (m' + 1) = [] ∧ outB P m' = Lib.trimLeftB S.data.toList 48) := Lib.hid (by
                  refine ⟨by unfold outB; rw [if_pos hlast], ?_⟩
                  rw [outB_last hlast, HSV.out, ← HXX.out]
                  refine (trim_pad 19 x ?_ (by rw [← T19_eq]; exact HX.out)).symm
                  have h1 : P.getLast? = some x := by
                    rw [List.getLast?_eq_getElem?, show P.length - 1 = m' from by omega, HXX.out, List.getD_eq_getElem?_getD, List.getElem?_eq_getElem (by omega)]; rfl
                  have := HLP.out x h1
                  omega)
                have HTS : Hid ((⟨(Lib.trimLeftB S.data.toList 48).toArray⟩ : ByteArray).size ≤ 19) := Lib.hid (by
                  show (Lib.trimLeftB S.data.toList 48).toArray.size ≤ 19
                  rw [List.size_toArray, HSV.out]
                  unfold Lib.trimLeftB
                  have h1 := (List.dropWhile_suffix (l := padF 19 x) (· == (48 : UInt8))).length_le
                  rw [padF_length] at h1
                  exact h1)
                have HTL : Hid (∀ W, Calls Tryd.prog 60 #[.string S, .string ⟨#[48]⟩] W fun e w' => e = .returned (.string ⟨(Lib.trimLeftB S.data.toList 48).toArray⟩) ∧ w' = W) := Lib.hid (fun W => Tryd.strings_TrimLeft_one S 48 (by decide) W)
                have HSL : Hid (Lib.strCells ⟨(Lib.trimLeftB S.data.toList 48).toArray⟩ = Lib.byteCells (Lib.trimLeftB S.data.toList 48)) := Lib.hid rfl
                generalize hTT : (⟨(Lib.trimLeftB S.data.toList 48).toArray⟩ : ByteArray) = TT at *
                have HTT := Lib.hid hTT
                clear hTT hlast
                go_wp2_with (first
                  | (go_at_call 60; refine (HTL.out _).mono ?_; clear HTL; rintro e w6 ⟨rfl, rfl⟩)
                  | (go_at_call 61; refine (writeString_calls b b _ TT _ HIR.out (by have := HBL.out; have := HTS.out; omega) HBR.out).mono ?_; rintro e w8 ⟨rfl, hB8, hE8⟩; have HB8 := Lib.hid hB8; have HE8 := Lib.hid hE8; clear hB8 hE8))
                go_roundw
                case rel =>
                  refine ⟨m', by omega, rfl, Lib.hid (.inr ?_), Lib.hid (HBW'.out.trans HE8.out)⟩
                  have h := HB8.out
                  rw [HO.out.1, HSL.out] at h
                  rw [HO.out.2]
                  exact h
                case measure => simp [intOf]
              · have t5 : (((m' : Nat) : Int) == ((P.length : Nat) : Int) - 1) = false := by rw [beq_eq_false_iff_ne]; omega
                have HO : Hid (outB P m' = outB P (m' + 1) ++ S.data.toList) := Lib.hid (by rw [HSV.out, HXX.out]; exact outB_next HWP.out HLP.out (by omega))
                clear hlast
                go_wp2_with (first
                  | (go_at_call 61; refine (writeString_calls b b _ S _ HIR.out (by have := HBL.out; have := HSZ.out; omega) HBR.out).mono ?_; rintro e w8 ⟨rfl, hB8, hE8⟩; have HB8 := Lib.hid hB8; have HE8 := Lib.hid hE8; clear hB8 hE8))
                go_roundw
                case rel =>
                  refine ⟨m', by omega, rfl, Lib.hid (.inr ?_), Lib.hid (HBW'.out.trans HE8.out)⟩
                  have h := HB8.out
                  rw [Lib.strCells_eq, ← Lib.byteCells_append] at h
                  rw [HO.out]
                  exact h
                case measure => simp [intOf]
            · obtain ⟨j, rfl⟩ : ∃ j, k2 = j + 1 := ⟨k2 - 1, by omega⟩
              have em : (((j + 1 : Nat) : Int) - 1) = (j : Int) := by omega
              rw [em]
              clear em hk20
              have HPS := Lib.hid (pad_set hLl (by omega) HLD.out)
              have HYY : Hid (x / 10 ^ (19 - (j + 1)) / 10 = x / 10 ^ (19 - j)) := Lib.hid (by rw [Nat.div_div_eq_div_mul, ← Nat.pow_succ, show (19 - (j + 1)).succ = 19 - j from by omega])
              have HYX : Hid (x / 10 ^ (19 - (j + 1)) < W64) := Lib.hid (Nat.lt_of_le_of_lt (Nat.div_le_self _ _) (Nat.lt_trans HX.out T19_W64))
              generalize x / 10 ^ (19 - (j + 1)) = y at *
              have q1 : ((y : Nat) : Int).tmod 10 = ((y % 10 : Nat) : Int) := (Int.ofNat_tmod y 10).symm
              have q2 : ((y : Nat) : Int).tdiv 10 = ((y / 10 : Nat) : Int) := (Int.ofNat_tdiv y 10).symm
              have c0 := HBK.out.cell (i := j) (by omega)
              have cf := HBK.out.frozen j
              have i0 : (0 : Int) ≤ (j : Int) := by omega
              have i1 : (j : Int) < 19 := by omega
              have HY1 : Hid (y / 10 < W64) := Lib.hid (Nat.lt_of_le_of_lt (Nat.div_le_self _ _) HYX.out)
              have HYD : Hid ((dig1 y).toNat = 48 + y % 10) := Lib.hid (dig1_nat y)
              have HY10 : Hid (y % 10 < 10) := Lib.hid (Nat.mod_lt _ (by decide))
              generalize y % 10 = d at *
              generalize y / 10 = y1 at *
              have p1 : IntKind.u64.wrap (48 + ((d : Nat) : Int)) = 48 + ((d : Nat) : Int) := by have := HY10.out; simp only [IntKind.wrap_u64]; omega
              have p3 : IntKind.u64.wrap ((y1 : Nat) : Int) = ((y1 : Nat) : Int) := by have := HY1.out; unfold W64 at this; simp only [IntKind.wrap_u64]; omega
              have p2 : IntKind.u8.wrap (48 + ((d : Nat) : Int)) = 48 + ((d : Nat) : Int) := by have := HY10.out; simp only [IntKind.wrap_u8]; omega
              go_wp2
              go_roundw
              case rel =>
                refine ⟨j, L.set j (dig1 y), by omega, ?_, rfl, Lib.hid (HBK.out.set j (dig1 y) _ ?_), by simp [hLl], HPS, ?_⟩
                · rw [HYY.out]
                · rw [HYD.out]; omega
                · exact Lib.hid (HE5.out.setCell (by rw [HGD.out]; exact Nat.le_refl _) _)
              case measure => simp [intOf]
    · have t1 : 0 < (dg W64 m).length := by
        rcases Nat.eq_zero_or_pos (dg W64 m).length with h | h
        · exact absurd ((dg_eq_nil W64_two).mp (List.eq_nil_of_length_eq_zero h)) hm
        · omega
      have HLm : Hid ((dg W64 m).length ≤ 1099511627776) := Lib.hid (Nat.le_trans (dg_length_mono W64_two HMN.out) HL.out)
      have HPL : Hid (P.length + 1 ≤ 2199023255553) := Lib.hid (by
        have h1 := dg_T19_len HL.out
        rw [HD.out, List.length_append] at h1
        omega)
      have HBW := Lib.hid (fun W v (hv : NatAt W v m) => byWord_at v m T19 W hv T19_pos T19_W64 (by have := HLm.out; omega))
      have HDM : Hid (dg T19 m = (m % T19) :: dg T19 (m / T19)) := Lib.hid (dg_pos T19_two hm)
      have HQM : Hid (m / T19 < m) := Lib.hid (Nat.div_lt_self (Nat.pos_of_ne_zero hm) T19_two)
      have HCU : Hid (B0 ≤ wr.heap.size) := Lib.hid (by rw [HB0.out]; exact HE.out.le)
      generalize m % T19 = x at *
      generalize m / T19 = q at *
      clear hm
      go_wp2_with (first
        | (go_at_call 59; refine (HBW.out _ _ HT'.out).mono ?_; clear HBW; rintro e w2 ⟨k2, c2, rfl, hn2, he2⟩; have HN2 := Lib.hid hn2; have HE2 := Lib.hid he2; clear hn2 he2)
        | (at_builtin; refine wpList_append_own _ rfl _ _ 71 rfl B0 76 i0 (.int .u64 0) 1 8 Tryd.underlying71 hi hz0 hz1 hz2 rfl (by decide) _ _ _ rfl ((own_ext HP.out HE2.out).alloc _) ⟨w2.heap.size, 0, none⟩ 1 1 [.int .u64 ((x : Nat) : Int)] rfl rfl ?c1 ?c2 ?c3 ?c4 ?c5 ?_))
      case c1 =>
        intro j u hj
        match j, hj with
        | 0, hj => simp at hj; subst hj; simp [Addr.add]
      case c2 => intro u hu; simp at hu; subst hu; rfl
      case c3 => have := HPL.out; unfold maxLen; omega
      case c4 => have := HPL.out; omega
      case c5 => have := HCU.out; have := HE2.out.le; simp; omega
      intro v' w4 hown' hgrow _
      have HOW : Hid (w4.ownsRow B0 76 1 v' (P ++ [x]).length ((P ++ [x]).map fun (x : Nat) => Value.int .u64 (x : Int))) := Lib.hid (by rw [List.map_append, List.length_append]; exact hown')
      have HGR := Lib.hid hgrow
      clear hown' hgrow
      go_wp2
      go_roundg q
      case measure => rw [HGM.out]; exact HQM.out
      case rel =>
        refine ⟨q, P ++ [x], rfl, ?_, HOW, Lib.hid (by rw [HD.out, HDM.out, List.append_assoc]; rfl), Lib.hid (Nat.le_trans (Nat.le_of_lt HQM.out) HMN.out), ?_⟩
        · refine Lib.hid (natAt_grown (HN2.out.ext ((Ext.refl _).alloc _)) HGR.out ?_)
          intro e
          have := (HP.out.lt _ e.symm).2
          exact absurd this (Nat.lt_irrefl _)
        · exact Lib.hid (Below.grown ((HE.out.trans HE2.out).alloc _) HGR.out (by have := HE.out.le; have := HE2.out.le; simp; omega) (fun k hk => by rw [← HB0.out]; exact (HP.out.lt k hk).1))
set_option maxRecDepth 100000 in
theorem text_zero (va : Value) (w : World) (ha : NatAt w va 0) :
    Calls Tryd.prog 41 #[va] w fun e w' => e = .returned (.string ⟨(Lib.decDigits 0).toArray⟩) ∧ Ext w w' := by
  obtain ⟨A, c, rfl, hc, hr⟩ := ha
  have HZ : Hid (Lib.decDigits 0 = [48]) := Lib.hid (by rw [dec_small (by decide)]; rfl)
  rw [dg_zero]
  clear hc hr
  go_enter Tryd.func41, Tryd.ntmps41
  go_wp2
  go_ret
  exact ⟨by rw [HZ.out]; rfl, Ext.refl _⟩
/-- The contract of text. -/
theorem text_calls (va : Value) (n : Nat) (w : World) (ha : NatAt w va n) (hl : (dg W64 n).length ≤ 1099511627776) :
    Calls Tryd.prog 41 #[va] w fun e w' => e = .returned (.string ⟨(Lib.decDigits n).toArray⟩) ∧ Ext w w' := by
  by_cases h0 : n = 0
  · subst h0; exact text_zero va w ha
  · exact text_pos va n w ha h0 hl
end Go.Proofs.YtpgnlpjjpgdoiaaDoor
/- String: a number's text. -/
namespace Go.Proofs.YtpgnlpjjpgdoiaaDoor
open Go Go.RowKit
set_option linter.unusedVariables false
set_option linter.unusedSimpArgs false
/-- The table of powers of ten reads as it was laid. -/
def TabW (w : World) : Prop := Lib.TabIs Tryd.prog w "internal/strconv.uint64pow10" .u64 Lib.pow10Tab
theorem pow10_named : Tryd.prog.globalNamed "internal/strconv.uint64pow10" = some (Tryd.prog.globalNamed "internal/strconv.uint64pow10").get! := by kernel_rfl
theorem TabW.ext {w w' : World} (h : TabW w) (he : Ext w w') : TabW w' := Go.Joins.tab_stays pow10_named h he (Nat.le_refl _)
/-- FormatInt at base 10. -/
theorem fmt_calls (n : Int) (w : World) (ht : TabW w) (h0 : -9223372036854775808 ≤ n) (h1 : n ≤ 9223372036854775807) :
    Calls Tryd.prog 40 #[.int .i64 n, .int .i64 10] w fun e w' => e = .returned (.string ⟨(Lib.itoa n).toArray⟩) ∧ Ext w w' := by
  refine (Tryd.strconv_FormatInt_10 n h0 h1 w ht).mono ?_
  rintro e w' ⟨rfl, k, os, rfl⟩
  exact ⟨rfl, (Ext.refl w).grow k os⟩
/-- A rational number's text. -/
def textR (x : Rat) : List UInt8 := if x.den = 1 then Lib.itoa x.num else Lib.itoa x.num ++ ([47] ++ Lib.decDigits x.den)
theorem ba_append (l m : List UInt8) : (⟨l.toArray⟩ : ByteArray) ++ ⟨m.toArray⟩ = ⟨(l ++ m).toArray⟩ := by
  apply ByteArray.ext
  simp
theorem itoa_nat (n : Nat) : Lib.itoa (n : Int) = Lib.decDigits n := by
  unfold Lib.itoa; rw [if_neg (by omega), Int.toNat_natCast]
theorem dec_len : ∀ (n y : Nat), y < 10 ^ n → 0 < n → (Lib.decDigits y).length ≤ n := by
  intro n
  induction n with
  | zero => intro y h h'; omega
  | succ n ih =>
    intro y h _
    by_cases hy : y < 10
    · rw [dec_small hy]; simp
    · rw [dec_big (by omega), List.length_append]
      rcases Nat.eq_zero_or_pos n with hn | hn
      · subst hn; simp at h; omega
      · have := ih (y / 10) (by rw [Nat.pow_succ] at h; omega) hn
        simp; omega
theorem dec_len_dg {n k : Nat} (h : (dg W64 n).length ≤ k) (hk : 0 < k) : (Lib.decDigits n).length ≤ 20 * k := by
  refine dec_len _ _ ?_ (by omega)
  refine Nat.lt_of_lt_of_le (lt_pow_dg W64_two n) (Nat.le_trans (Nat.pow_le_pow_right W64_pos h) ?_)
  rw [Nat.pow_mul]
  exact Nat.pow_le_pow_left (by decide) k
theorem itoa_len {x : Int} {k : Nat} (h : (Lib.decDigits x.natAbs).length ≤ k) : (Lib.itoa x).length ≤ k + 1 := by
  unfold Lib.itoa
  split
  · simpa using h
  · rw [show x.toNat = x.natAbs from by omega]; omega
theorem size_mk (l : List UInt8) : (⟨l.toArray⟩ : ByteArray).size = l.length := List.size_toArray
/-- Two texts, one behind the other. -/
theorem cat_run (S T : ByteArray) (h : S.size + T.size ≤ 9223372036854775807) (W : World) : (Op.stringOp .add S T).run Tryd.prog W = .ok (.string (S ++ T)) W := run_string_add_sum W S T h
set_option maxRecDepth 100000 in
set_option maxHeartbeats 1000000 in
theorem string_small (x : Rat) (q : Int) (w : World) (h : SmallR x q) (ht : TabW w) :
    Calls Tryd.prog 22 #[.agg #[.int .i64 x.num, .int .i64 q, .pointer none]] w fun e w' => e = .returned (.string ⟨(textR x).toArray⟩) ∧ Ext w w' := by
  have HLW := Lib.hid (fun W => low_calls x q W h)
  have h1 := h.num
  have h2 := h.den
  have HF1 := Lib.hid (fun W (he : Ext w W) => fmt_calls x.num W (ht.ext he) (by omega) (by omega))
  have HF2 := Lib.hid (fun W (he : Ext w W) => fmt_calls (x.den : Int) W (ht.ext he) (by omega) (by omega))
  rw [itoa_nat] at HF2
  by_cases hd : x.den = 1
  · have HX : Hid (textR x = Lib.itoa x.num) := Lib.hid (by unfold textR; rw [if_pos hd])
    rw [HX.out]
    rw [hd] at HLW
    clear HX h ht h1 h2 hd HF2
    generalize (⟨(Lib.itoa x.num).toArray⟩ : ByteArray) = S at *
    generalize x.num = p at *
    go_enter Tryd.func22, Tryd.ntmps22
    go_wp2_with (first
      | (go_at_call 39; refine (HLW.out _).mono ?_; clear HLW; rintro e w2 ⟨rfl, he2⟩; have HE2 := Lib.hid he2; clear he2)
      | (go_at_call 40; refine (HF1.out _ ((Ext.one _ _).trans HE2.out)).mono ?_; clear HF1; rintro e w3 ⟨rfl, he3⟩; have HE3 := Lib.hid he3; clear he3))
    go_ret
    exact ⟨rfl, ((Ext.one _ _).trans HE2.out).trans HE3.out⟩
  · have HX : Hid ((⟨(textR x).toArray⟩ : ByteArray) = ⟨(Lib.itoa x.num).toArray⟩ ++ ⟨#[47]⟩ ++ ⟨(Lib.decDigits x.den).toArray⟩) := Lib.hid (by
      unfold textR
      rw [if_neg hd, show (⟨#[47]⟩ : ByteArray) = ⟨[47].toArray⟩ from rfl, ba_append, ba_append, List.append_assoc])
    have t1 : (((x.den : Nat) : Int) == 1) = false := by rw [beq_eq_false_iff_ne]; omega
    have hl1 : (⟨(Lib.itoa x.num).toArray⟩ : ByteArray).size ≤ 11 := by
      rw [size_mk]
      exact itoa_len (dec_len 10 _ (by omega) (by decide))
    have hl2 : (⟨(Lib.decDigits x.den).toArray⟩ : ByteArray).size ≤ 10 := by
      rw [size_mk]
      exact dec_len 10 _ (by omega) (by decide)
    have hc1 := cat_run ⟨(Lib.itoa x.num).toArray⟩ ⟨#[47]⟩ (by rw [show (⟨#[47]⟩ : ByteArray).size = 1 from rfl]; omega)
    have hc2 := cat_run (⟨(Lib.itoa x.num).toArray⟩ ++ ⟨#[47]⟩) ⟨(Lib.decDigits x.den).toArray⟩ (by rw [ByteArray.size_append, show (⟨#[47]⟩ : ByteArray).size = 1 from rfl]; omega)
    rw [← HX.out] at hc2
    clear h ht h1 h2 hd HX hl1 hl2
    generalize (⟨(textR x).toArray⟩ : ByteArray) = Z at *
    generalize (⟨(Lib.itoa x.num).toArray⟩ : ByteArray) = S at *
    generalize (⟨(Lib.decDigits x.den).toArray⟩ : ByteArray) = T at *
    generalize x.num = p at *
    generalize ((x.den : Nat) : Int) = d at *
    generalize S ++ ⟨#[47]⟩ = S1 at *
    go_enter Tryd.func22, Tryd.ntmps22
    go_wp2_with (first
      | (go_at_call 39; refine (HLW.out _).mono ?_; clear HLW; rintro e w2 ⟨rfl, he2⟩; have HE2 := Lib.hid he2; clear he2)
      | (go_at_call 40; refine (HF1.out _ ((Ext.one _ _).trans HE2.out)).mono ?_; clear HF1; rintro e w3 ⟨rfl, he3⟩; have HE3 := Lib.hid he3; clear he3)
      | (go_at_call 40; refine (HF2.out _ (((Ext.one _ _).trans HE2.out).trans HE3.out)).mono ?_; clear HF2; rintro e w4 ⟨rfl, he4⟩; have HE4 := Lib.hid he4; clear he4))
    go_ret
    exact ⟨rfl, (((Ext.one _ _).trans HE2.out).trans HE3.out).trans HE4.out⟩
set_option maxRecDepth 100000 in
set_option maxHeartbeats 2000000 in
theorem string_bigNI (x : Rat) (b o : Nat) (vn vd : Value) (k : Nat) (w : World) (c0 : w.cell? ⟨b, o, none⟩ = some (.bool true)) (c1 : w.cell? ⟨b, o + 1, none⟩ = some vn) (c2 : w.cell? ⟨b, o + 2, none⟩ = some vd)
    (hn : NatAt w vn x.num.natAbs) (hd : NatAt w vd x.den) (hneg : x.num < 0) (hden : x.den = 1) (hk : k ≤ 1099511627776) (hlx : RL k x) :
    Calls Tryd.prog 22 #[.agg #[.int .i64 0, .int .i64 0, .pointer (some ⟨b, o, none⟩)]] w fun e w' => e = .returned (.string ⟨(textR x).toArray⟩) ∧ Ext w w' := by
  have hl1 := hlx.num
  have hl2 := hlx.den
  have HTN := Lib.hid (fun W (he : Ext w W) => text_calls vn x.num.natAbs W (hn.ext he) (by omega))
  have HTD := Lib.hid (fun W (he : Ext w W) => text_calls vd x.den W (hd.ext he) (by omega))
  have HCM := Lib.hid (fun W (he : Ext w W) => compare_calls vd _ x.den 1 (W.alloc (.cells #[.int .u64 1] 76)) (hd.ext (he.alloc _)) (one_at W) (by omega))
  have hx : (⟨(textR x).toArray⟩ : ByteArray) = ((⟨#[45]⟩ : ByteArray) ++ (⟨(Lib.decDigits x.num.natAbs).toArray⟩ : ByteArray)) := by
    unfold textR
    rw [if_pos hden]
    unfold Lib.itoa
    rw [if_pos hneg]
    rw [show (⟨#[45]⟩ : ByteArray) = ⟨[45].toArray⟩ from rfl, ba_append]; rfl
  have hs1 : (⟨(Lib.decDigits x.num.natAbs).toArray⟩ : ByteArray).size ≤ 21990232555540 := by rw [size_mk]; exact dec_len_dg (k := 1099511627777) (by omega) (by decide)
  have hs2 : (⟨(Lib.decDigits x.den).toArray⟩ : ByteArray).size ≤ 21990232555540 := by rw [size_mk]; exact dec_len_dg (k := 1099511627777) (by omega) (by decide)
  have hc1 := cat_run ⟨#[45]⟩ (⟨(Lib.decDigits x.num.natAbs).toArray⟩ : ByteArray) (by rw [show (⟨#[45]⟩ : ByteArray).size = 1 from rfl]; omega)
  rw [hx]
  rw [hden, cmpN_eq rfl] at HCM
  rw [hden] at HTD
  have HC : Hid (∀ W, Ext (w.alloc (.cells #[.int .i64 0, .int .i64 0, .pointer (some ⟨b, o, none⟩)] 43)) W → W.cell? ⟨w.heap.size, 2, none⟩ = some (.pointer (some ⟨b, o, none⟩)) ∧ W.cell? ⟨b, o, none⟩ = some (.bool true) ∧ W.cell? ⟨b, o + 1, none⟩ = some vn ∧ W.cell? ⟨b, o + 2, none⟩ = some vd) := Lib.hid (fun W he => ⟨((BoxR.new w 0 0 (some ⟨b, o, none⟩)).ext he).cells.2.2, ((Ext.one _ _).trans he).cell c0, ((Ext.one _ _).trans he).cell c1, ((Ext.one _ _).trans he).cell c2⟩)
  clear hx hs1 hs2 hneg hden c0 c1 c2 hn hd hlx hl1 hl2 hk
  generalize x.num.natAbs = n at *
  generalize x.den = d at *
  generalize (⟨(Lib.decDigits n).toArray⟩ : ByteArray) = S at *
  generalize (⟨#[45]⟩ : ByteArray) ++ S = S1 at *
  obtain ⟨k3, k0, k1, k2⟩ := HC.out _ (Ext.refl _)
  go_enter Tryd.func22, Tryd.ntmps22
  go_wp2_with (first
    | (go_at_call 41; refine (HTN.out _ (Ext.one _ _)).mono ?_; clear HTN; rintro e w2 ⟨rfl, he2⟩; have HE2 := Lib.hid he2; clear he2 k3 k0 k1 k2; obtain ⟨k3, k0, k1, k2⟩ := HC.out _ HE2.out)
    | (go_at_call 42; refine (HCM.out _ ((Ext.one _ _).trans HE2.out)).mono ?_; clear HCM; rintro e w3 ⟨rfl, n3, rfl⟩; obtain ⟨wa, hwa⟩ : ∃ wa, wa = (w2.alloc (.cells #[.int .u64 1] 76)).drewN n3 := ⟨_, rfl⟩; have HE3 : Hid (Ext w2 wa) := Lib.hid (by rw [hwa]; exact ((Ext.refl _).alloc _).drewN n3); rw [← hwa]; clear hwa k3 k0 k1 k2; obtain ⟨k3, k0, k1, k2⟩ := HC.out _ (HE2.out.trans HE3.out))
    )
  go_ret
  exact ⟨rfl, ((Ext.one _ _).trans HE2.out).trans HE3.out⟩
set_option maxRecDepth 100000 in
set_option maxHeartbeats 2000000 in
theorem string_bigNF (x : Rat) (b o : Nat) (vn vd : Value) (k : Nat) (w : World) (c0 : w.cell? ⟨b, o, none⟩ = some (.bool true)) (c1 : w.cell? ⟨b, o + 1, none⟩ = some vn) (c2 : w.cell? ⟨b, o + 2, none⟩ = some vd)
    (hn : NatAt w vn x.num.natAbs) (hd : NatAt w vd x.den) (hneg : x.num < 0) (hden : ¬ x.den = 1) (hk : k ≤ 1099511627776) (hlx : RL k x) :
    Calls Tryd.prog 22 #[.agg #[.int .i64 0, .int .i64 0, .pointer (some ⟨b, o, none⟩)]] w fun e w' => e = .returned (.string ⟨(textR x).toArray⟩) ∧ Ext w w' := by
  have hl1 := hlx.num
  have hl2 := hlx.den
  have HTN := Lib.hid (fun W (he : Ext w W) => text_calls vn x.num.natAbs W (hn.ext he) (by omega))
  have HTD := Lib.hid (fun W (he : Ext w W) => text_calls vd x.den W (hd.ext he) (by omega))
  have HCM := Lib.hid (fun W (he : Ext w W) => compare_calls vd _ x.den 1 (W.alloc (.cells #[.int .u64 1] 76)) (hd.ext (he.alloc _)) (one_at W) (by omega))
  have hx : (⟨(textR x).toArray⟩ : ByteArray) = (((⟨#[45]⟩ : ByteArray) ++ (⟨(Lib.decDigits x.num.natAbs).toArray⟩ : ByteArray)) ++ ((⟨#[47]⟩ : ByteArray) ++ (⟨(Lib.decDigits x.den).toArray⟩ : ByteArray))) := by
    unfold textR
    rw [if_neg hden]
    unfold Lib.itoa
    rw [if_pos hneg]
    rw [show (⟨#[45]⟩ : ByteArray) = ⟨[45].toArray⟩ from rfl, show (⟨#[47]⟩ : ByteArray) = ⟨[47].toArray⟩ from rfl, ba_append, ba_append, ba_append]; rfl
  have hs1 : (⟨(Lib.decDigits x.num.natAbs).toArray⟩ : ByteArray).size ≤ 21990232555540 := by rw [size_mk]; exact dec_len_dg (k := 1099511627777) (by omega) (by decide)
  have hs2 : (⟨(Lib.decDigits x.den).toArray⟩ : ByteArray).size ≤ 21990232555540 := by rw [size_mk]; exact dec_len_dg (k := 1099511627777) (by omega) (by decide)
  have hc1 := cat_run ⟨#[45]⟩ (⟨(Lib.decDigits x.num.natAbs).toArray⟩ : ByteArray) (by rw [show (⟨#[45]⟩ : ByteArray).size = 1 from rfl]; omega)
  have hc2 := cat_run ⟨#[47]⟩ (⟨(Lib.decDigits x.den).toArray⟩ : ByteArray) (by rw [show (⟨#[47]⟩ : ByteArray).size = 1 from rfl]; omega)
  have hc3 := cat_run ((⟨#[45]⟩ : ByteArray) ++ (⟨(Lib.decDigits x.num.natAbs).toArray⟩ : ByteArray)) ((⟨#[47]⟩ : ByteArray) ++ (⟨(Lib.decDigits x.den).toArray⟩ : ByteArray)) (by rw [ByteArray.size_append, ByteArray.size_append, show (⟨#[47]⟩ : ByteArray).size = 1 from rfl, show (⟨#[45]⟩ : ByteArray).size = 1 from rfl]; omega)
  rw [hx]
  have hcm : ((cmpN x.den 1 : Int) == 0) = false := by unfold cmpN; split <;> simp <;> omega
  obtain ⟨cm, hcm2⟩ : ∃ cm, cm = cmpN x.den 1 := ⟨_, rfl⟩
  rw [← hcm2] at hcm HCM
  clear hcm2
  have HC : Hid (∀ W, Ext (w.alloc (.cells #[.int .i64 0, .int .i64 0, .pointer (some ⟨b, o, none⟩)] 43)) W → W.cell? ⟨w.heap.size, 2, none⟩ = some (.pointer (some ⟨b, o, none⟩)) ∧ W.cell? ⟨b, o, none⟩ = some (.bool true) ∧ W.cell? ⟨b, o + 1, none⟩ = some vn ∧ W.cell? ⟨b, o + 2, none⟩ = some vd) := Lib.hid (fun W he => ⟨((BoxR.new w 0 0 (some ⟨b, o, none⟩)).ext he).cells.2.2, ((Ext.one _ _).trans he).cell c0, ((Ext.one _ _).trans he).cell c1, ((Ext.one _ _).trans he).cell c2⟩)
  clear hx hs1 hs2 hneg hden c0 c1 c2 hn hd hlx hl1 hl2 hk
  generalize x.num.natAbs = n at *
  generalize x.den = d at *
  generalize (⟨(Lib.decDigits n).toArray⟩ : ByteArray) = S at *
  generalize (⟨(Lib.decDigits d).toArray⟩ : ByteArray) = T at *
  generalize (⟨#[45]⟩ : ByteArray) ++ S = S1 at *
  generalize (⟨#[47]⟩ : ByteArray) ++ T = T1 at *
  generalize S1 ++ T1 = Z at *
  obtain ⟨k3, k0, k1, k2⟩ := HC.out _ (Ext.refl _)
  go_enter Tryd.func22, Tryd.ntmps22
  go_wp2_with (first
    | (go_at_call 41; refine (HTN.out _ (Ext.one _ _)).mono ?_; clear HTN; rintro e w2 ⟨rfl, he2⟩; have HE2 := Lib.hid he2; clear he2 k3 k0 k1 k2; obtain ⟨k3, k0, k1, k2⟩ := HC.out _ HE2.out)
    | (go_at_call 42; refine (HCM.out _ ((Ext.one _ _).trans HE2.out)).mono ?_; clear HCM; rintro e w3 ⟨rfl, n3, rfl⟩; obtain ⟨wa, hwa⟩ : ∃ wa, wa = (w2.alloc (.cells #[.int .u64 1] 76)).drewN n3 := ⟨_, rfl⟩; have HE3 : Hid (Ext w2 wa) := Lib.hid (by rw [hwa]; exact ((Ext.refl _).alloc _).drewN n3); rw [← hwa]; clear hwa k3 k0 k1 k2; obtain ⟨k3, k0, k1, k2⟩ := HC.out _ (HE2.out.trans HE3.out))
    | (go_at_call 41; refine (HTD.out _ (((Ext.one _ _).trans HE2.out).trans HE3.out)).mono ?_; clear HTD; rintro e w4 ⟨rfl, he4⟩; have HE4 := Lib.hid he4; clear he4 k3 k0 k1 k2))
  go_ret
  exact ⟨rfl, (((Ext.one _ _).trans HE2.out).trans HE3.out).trans HE4.out⟩
set_option maxRecDepth 100000 in
set_option maxHeartbeats 2000000 in
theorem string_bigPI (x : Rat) (b o : Nat) (vn vd : Value) (k : Nat) (w : World) (c0 : w.cell? ⟨b, o, none⟩ = some (.bool false)) (c1 : w.cell? ⟨b, o + 1, none⟩ = some vn) (c2 : w.cell? ⟨b, o + 2, none⟩ = some vd)
    (hn : NatAt w vn x.num.natAbs) (hd : NatAt w vd x.den) (hneg : ¬ x.num < 0) (hden : x.den = 1) (hk : k ≤ 1099511627776) (hlx : RL k x) :
    Calls Tryd.prog 22 #[.agg #[.int .i64 0, .int .i64 0, .pointer (some ⟨b, o, none⟩)]] w fun e w' => e = .returned (.string ⟨(textR x).toArray⟩) ∧ Ext w w' := by
  have hl1 := hlx.num
  have hl2 := hlx.den
  have HTN := Lib.hid (fun W (he : Ext w W) => text_calls vn x.num.natAbs W (hn.ext he) (by omega))
  have HTD := Lib.hid (fun W (he : Ext w W) => text_calls vd x.den W (hd.ext he) (by omega))
  have HCM := Lib.hid (fun W (he : Ext w W) => compare_calls vd _ x.den 1 (W.alloc (.cells #[.int .u64 1] 76)) (hd.ext (he.alloc _)) (one_at W) (by omega))
  have hx : (⟨(textR x).toArray⟩ : ByteArray) = (⟨(Lib.decDigits x.num.natAbs).toArray⟩ : ByteArray) := by
    unfold textR
    rw [if_pos hden]
    unfold Lib.itoa
    rw [if_neg hneg, show x.num.toNat = x.num.natAbs from by omega]
  have hs1 : (⟨(Lib.decDigits x.num.natAbs).toArray⟩ : ByteArray).size ≤ 21990232555540 := by rw [size_mk]; exact dec_len_dg (k := 1099511627777) (by omega) (by decide)
  have hs2 : (⟨(Lib.decDigits x.den).toArray⟩ : ByteArray).size ≤ 21990232555540 := by rw [size_mk]; exact dec_len_dg (k := 1099511627777) (by omega) (by decide)
  skip
  rw [hx]
  rw [hden, cmpN_eq rfl] at HCM
  rw [hden] at HTD
  have HC : Hid (∀ W, Ext (w.alloc (.cells #[.int .i64 0, .int .i64 0, .pointer (some ⟨b, o, none⟩)] 43)) W → W.cell? ⟨w.heap.size, 2, none⟩ = some (.pointer (some ⟨b, o, none⟩)) ∧ W.cell? ⟨b, o, none⟩ = some (.bool false) ∧ W.cell? ⟨b, o + 1, none⟩ = some vn ∧ W.cell? ⟨b, o + 2, none⟩ = some vd) := Lib.hid (fun W he => ⟨((BoxR.new w 0 0 (some ⟨b, o, none⟩)).ext he).cells.2.2, ((Ext.one _ _).trans he).cell c0, ((Ext.one _ _).trans he).cell c1, ((Ext.one _ _).trans he).cell c2⟩)
  clear hx hs1 hs2 hneg hden c0 c1 c2 hn hd hlx hl1 hl2 hk
  generalize x.num.natAbs = n at *
  generalize x.den = d at *
  generalize (⟨(Lib.decDigits n).toArray⟩ : ByteArray) = S at *
  obtain ⟨k3, k0, k1, k2⟩ := HC.out _ (Ext.refl _)
  go_enter Tryd.func22, Tryd.ntmps22
  go_wp2_with (first
    | (go_at_call 41; refine (HTN.out _ (Ext.one _ _)).mono ?_; clear HTN; rintro e w2 ⟨rfl, he2⟩; have HE2 := Lib.hid he2; clear he2 k3 k0 k1 k2; obtain ⟨k3, k0, k1, k2⟩ := HC.out _ HE2.out)
    | (go_at_call 42; refine (HCM.out _ ((Ext.one _ _).trans HE2.out)).mono ?_; clear HCM; rintro e w3 ⟨rfl, n3, rfl⟩; obtain ⟨wa, hwa⟩ : ∃ wa, wa = (w2.alloc (.cells #[.int .u64 1] 76)).drewN n3 := ⟨_, rfl⟩; have HE3 : Hid (Ext w2 wa) := Lib.hid (by rw [hwa]; exact ((Ext.refl _).alloc _).drewN n3); rw [← hwa]; clear hwa k3 k0 k1 k2; obtain ⟨k3, k0, k1, k2⟩ := HC.out _ (HE2.out.trans HE3.out))
    )
  go_ret
  exact ⟨rfl, ((Ext.one _ _).trans HE2.out).trans HE3.out⟩
set_option maxRecDepth 100000 in
set_option maxHeartbeats 2000000 in
theorem string_bigPF (x : Rat) (b o : Nat) (vn vd : Value) (k : Nat) (w : World) (c0 : w.cell? ⟨b, o, none⟩ = some (.bool false)) (c1 : w.cell? ⟨b, o + 1, none⟩ = some vn) (c2 : w.cell? ⟨b, o + 2, none⟩ = some vd)
    (hn : NatAt w vn x.num.natAbs) (hd : NatAt w vd x.den) (hneg : ¬ x.num < 0) (hden : ¬ x.den = 1) (hk : k ≤ 1099511627776) (hlx : RL k x) :
    Calls Tryd.prog 22 #[.agg #[.int .i64 0, .int .i64 0, .pointer (some ⟨b, o, none⟩)]] w fun e w' => e = .returned (.string ⟨(textR x).toArray⟩) ∧ Ext w w' := by
  have hl1 := hlx.num
  have hl2 := hlx.den
  have HTN := Lib.hid (fun W (he : Ext w W) => text_calls vn x.num.natAbs W (hn.ext he) (by omega))
  have HTD := Lib.hid (fun W (he : Ext w W) => text_calls vd x.den W (hd.ext he) (by omega))
  have HCM := Lib.hid (fun W (he : Ext w W) => compare_calls vd _ x.den 1 (W.alloc (.cells #[.int .u64 1] 76)) (hd.ext (he.alloc _)) (one_at W) (by omega))
  have hx : (⟨(textR x).toArray⟩ : ByteArray) = ((⟨(Lib.decDigits x.num.natAbs).toArray⟩ : ByteArray) ++ ((⟨#[47]⟩ : ByteArray) ++ (⟨(Lib.decDigits x.den).toArray⟩ : ByteArray))) := by
    unfold textR
    rw [if_neg hden]
    unfold Lib.itoa
    rw [if_neg hneg, show x.num.toNat = x.num.natAbs from by omega]
    rw [show (⟨#[47]⟩ : ByteArray) = ⟨[47].toArray⟩ from rfl, ba_append, ba_append]
  have hs1 : (⟨(Lib.decDigits x.num.natAbs).toArray⟩ : ByteArray).size ≤ 21990232555540 := by rw [size_mk]; exact dec_len_dg (k := 1099511627777) (by omega) (by decide)
  have hs2 : (⟨(Lib.decDigits x.den).toArray⟩ : ByteArray).size ≤ 21990232555540 := by rw [size_mk]; exact dec_len_dg (k := 1099511627777) (by omega) (by decide)
  have hc2 := cat_run ⟨#[47]⟩ (⟨(Lib.decDigits x.den).toArray⟩ : ByteArray) (by rw [show (⟨#[47]⟩ : ByteArray).size = 1 from rfl]; omega)
  have hc3 := cat_run (⟨(Lib.decDigits x.num.natAbs).toArray⟩ : ByteArray) ((⟨#[47]⟩ : ByteArray) ++ (⟨(Lib.decDigits x.den).toArray⟩ : ByteArray)) (by rw [ByteArray.size_append, show (⟨#[47]⟩ : ByteArray).size = 1 from rfl]; omega)
  rw [hx]
  have hcm : ((cmpN x.den 1 : Int) == 0) = false := by unfold cmpN; split <;> simp <;> omega
  obtain ⟨cm, hcm2⟩ : ∃ cm, cm = cmpN x.den 1 := ⟨_, rfl⟩
  rw [← hcm2] at hcm HCM
  clear hcm2
  have HC : Hid (∀ W, Ext (w.alloc (.cells #[.int .i64 0, .int .i64 0, .pointer (some ⟨b, o, none⟩)] 43)) W → W.cell? ⟨w.heap.size, 2, none⟩ = some (.pointer (some ⟨b, o, none⟩)) ∧ W.cell? ⟨b, o, none⟩ = some (.bool false) ∧ W.cell? ⟨b, o + 1, none⟩ = some vn ∧ W.cell? ⟨b, o + 2, none⟩ = some vd) := Lib.hid (fun W he => ⟨((BoxR.new w 0 0 (some ⟨b, o, none⟩)).ext he).cells.2.2, ((Ext.one _ _).trans he).cell c0, ((Ext.one _ _).trans he).cell c1, ((Ext.one _ _).trans he).cell c2⟩)
  clear hx hs1 hs2 hneg hden c0 c1 c2 hn hd hlx hl1 hl2 hk
  generalize x.num.natAbs = n at *
  generalize x.den = d at *
  generalize (⟨(Lib.decDigits n).toArray⟩ : ByteArray) = S at *
  generalize (⟨(Lib.decDigits d).toArray⟩ : ByteArray) = T at *
  generalize (⟨#[47]⟩ : ByteArray) ++ T = T1 at *
  generalize S ++ T1 = Z at *
  obtain ⟨k3, k0, k1, k2⟩ := HC.out _ (Ext.refl _)
  go_enter Tryd.func22, Tryd.ntmps22
  go_wp2_with (first
    | (go_at_call 41; refine (HTN.out _ (Ext.one _ _)).mono ?_; clear HTN; rintro e w2 ⟨rfl, he2⟩; have HE2 := Lib.hid he2; clear he2 k3 k0 k1 k2; obtain ⟨k3, k0, k1, k2⟩ := HC.out _ HE2.out)
    | (go_at_call 42; refine (HCM.out _ ((Ext.one _ _).trans HE2.out)).mono ?_; clear HCM; rintro e w3 ⟨rfl, n3, rfl⟩; obtain ⟨wa, hwa⟩ : ∃ wa, wa = (w2.alloc (.cells #[.int .u64 1] 76)).drewN n3 := ⟨_, rfl⟩; have HE3 : Hid (Ext w2 wa) := Lib.hid (by rw [hwa]; exact ((Ext.refl _).alloc _).drewN n3); rw [← hwa]; clear hwa k3 k0 k1 k2; obtain ⟨k3, k0, k1, k2⟩ := HC.out _ (HE2.out.trans HE3.out))
    | (go_at_call 41; refine (HTD.out _ (((Ext.one _ _).trans HE2.out).trans HE3.out)).mono ?_; clear HTD; rintro e w4 ⟨rfl, he4⟩; have HE4 := Lib.hid he4; clear he4 k3 k0 k1 k2))
  go_ret
  exact ⟨rfl, (((Ext.one _ _).trans HE2.out).trans HE3.out).trans HE4.out⟩
/-- The contract of String. -/
theorem string_calls (v : Value) (x : Rat) (k : Nat) (w : World) (h : RatAt w x v) (ht : TabW w) (hk : k ≤ 1099511627776) (hlx : RL k x) :
    Calls Tryd.prog 22 #[v] w fun e w' => e = .returned (.string ⟨(textR x).toArray⟩) ∧ Ext w w' := by
  cases h with
  | small q h => exact string_small x q w h ht
  | big b o vn vd c0 c1 c2 hn hd hs h3 =>
    by_cases hneg : x.num < 0
    · rw [decide_eq_true hneg] at c0
      by_cases hden : x.den = 1
      · exact string_bigNI x b o vn vd k w c0 c1 c2 hn hd hneg hden hk hlx
      · exact string_bigNF x b o vn vd k w c0 c1 c2 hn hd hneg hden hk hlx
    · rw [decide_eq_false hneg] at c0
      by_cases hden : x.den = 1
      · exact string_bigPI x b o vn vd k w c0 c1 c2 hn hd hneg hden hk hlx
      · exact string_bigPF x b o vn vd k w c0 c1 c2 hn hd hneg hden hk hlx
end Go.Proofs.YtpgnlpjjpgdoiaaDoor
/- Of: what a text stands for (plain facts). -/
namespace Go.Proofs.YtpgnlpjjpgdoiaaDoor
open Go Go.RowKit
set_option linter.unusedVariables false
set_option linter.unusedSimpArgs false
/-- A text behind its sign. -/
def bodyB (l : List UInt8) : List UInt8 := if l.head? == some 45 then l.tail else l
/-- The part ahead of the first stroke. -/
def topB (t : List UInt8) : List UInt8 := t.takeWhile fun b => b != 47
/-- Is there a stroke? -/
def strokeB (t : List UInt8) : Bool := decide ((topB t).length < t.length)
/-- The part behind the first stroke; 1 where there is none. -/
def lowB (t : List UInt8) : List UInt8 := if strokeB t then t.drop ((topB t).length + 1) else [49]
/-- A text that is none by its form. -/
def badB (l : List UInt8) : Bool :=
  !plainB (topB (bodyB l)) || !plainB (lowB (bodyB l)) || (l.head? == some 45 && topB (bodyB l) == [48]) || (strokeB (bodyB l) && (lowB (bodyB l) == [48] || lowB (bodyB l) == [49]))
/-- The number that a canonical text stands for. -/
def ofB (l : List UInt8) : Option Rat :=
  if badB l then none
  else if strokeB (bodyB l) && Nat.gcd (valD (topB (bodyB l))) (valD (lowB (bodyB l))) != 1 then none
  else some (mkRat (sgn (l.head? == some 45) (valD (topB (bodyB l)))) (valD (lowB (bodyB l))))
theorem valD_pos {l : List UInt8} (h : l.all isD = true) (h0 : l.head? ≠ some 48) (h1 : l ≠ []) : 0 < valD l := by
  cases l with
  | nil => exact absurd rfl h1
  | cons b l =>
    rw [List.all_cons, Bool.and_eq_true] at h
    have hb := isD_bnd h.1
    rw [valD_cons]
    have h2 : b.toNat ≠ 48 := fun e => h0 (by rw [List.head?_cons]; exact congrArg some (UInt8.toNat_inj.mp e))
    have h3 : 1 * 10 ^ l.length ≤ (b.toNat - 48) * 10 ^ l.length := Nat.mul_le_mul_right _ (by omega)
    have h4 : 0 < 10 ^ l.length := Nat.pow_pos (by decide)
    omega
/-- A natural number's text that stands for 0 is "0". -/
theorem plain_zero {l : List UInt8} (h : plainB l = true) (h0 : valD l = 0) : l = [48] := by
  unfold plainB at h
  simp only [Bool.and_eq_true] at h
  obtain ⟨⟨h1, h2⟩, h3⟩ := h
  cases l with
  | nil => simp at h1
  | cons b m =>
    by_cases hb : b = 48
    · subst hb
      cases m with
      | nil => rfl
      | cons c m => simp at h2
    · have := valD_pos h3 (by rw [List.head?_cons]; intro e; injection e with e; exact hb e) (by simp)
      omega
theorem plain_all {l : List UInt8} (h : plainB l = true) : l.all isD = true := by
  unfold plainB at h
  simp only [Bool.and_eq_true] at h
  exact h.2
theorem low_pos {l : List UInt8} (h : badB l = false) : valD (lowB (bodyB l)) ≠ 0 := by
  intro h0
  unfold badB at h
  simp only [Bool.or_eq_false_iff] at h
  obtain ⟨⟨⟨h1, h2⟩, h3⟩, h4⟩ := h
  have h5 := plain_zero (by simpa using h2) h0
  rw [h5] at h4
  cases hs : strokeB (bodyB l) with
  | true => rw [hs] at h4; simp at h4
  | false => unfold lowB at h5; rw [hs] at h5; simp at h5
theorem bad_eq {l t T B : List UInt8} {F N : Bool} (ht : bodyB l = t) (h1 : topB t = T) (h2 : lowB t = B) (h3 : strokeB t = F) (h4 : (l.head? == some 45) = N) :
    badB l = (!plainB T || !plainB B || (N && T == [48]) || (F && (B == [48] || B == [49]))) := by
  unfold badB; rw [ht, h1, h2, h3, h4]
theorem of_bad {l : List UInt8} (h : badB l = true) : ofB l = none := by unfold ofB; rw [if_pos h]
theorem of_gcd {l t T B : List UInt8} {F N : Bool} (ht : bodyB l = t) (h1 : topB t = T) (h2 : lowB t = B) (h3 : strokeB t = F) (h4 : (l.head? == some 45) = N) (h : badB l = false) (hg : (F && Nat.gcd (valD T) (valD B) != 1) = true) : ofB l = none := by
  unfold ofB; rw [if_neg (by rw [h]; decide), ht, h1, h2, h3, if_pos hg]
theorem of_good {l t T B : List UInt8} {F N : Bool} (ht : bodyB l = t) (h1 : topB t = T) (h2 : lowB t = B) (h3 : strokeB t = F) (h4 : (l.head? == some 45) = N) (h : badB l = false) (hg : (F && Nat.gcd (valD T) (valD B) != 1) = false) : ofB l = some (mkRat (sgn N (valD T)) (valD B)) := by
  unfold ofB; rw [if_neg (by rw [h]; decide), ht, h1, h2, h3, if_neg (by rw [hg]; decide), h4]
/-- The return of a number that lies in a variable, and of a second result. -/
theorem ret_rat2 {fn : Func} {p u : Tmp} (h : fn.results = #[.cell p 43, .tmp u]) {a : Act} {w : World} {Q : Ending → World → Prop} (g : Nat) (x y z b : Value) (ha : a.tmps.getD p undef = .pointer (some ⟨g, 0, none⟩)) (hu : a.tmps.getD u undef = b)
    (hg : w.heap[g]? = some (.cells #[x, y, z] 43 (0, 0))) (hdef : a.defers = []) (hq : Q (.returned (.tuple #[.agg #[x, y, z], b])) w) : bodyPost Tryd.prog fn Q .ret a w := by
  refine bodyPost_ret (v := .tuple #[.agg #[x, y, z], b]) ?_ hdef hq
  rw [results_cell_tmp h, ha, hu]
  have hl := run_loadVar_row w g _ 43 #[x, y, z] _ _ hg Tryd.underlying43 rfl sizeR
  simp [asAddr, hl, Result.andThen]
end Go.Proofs.YtpgnlpjjpgdoiaaDoor
/- Of: the parts of a text; what it returns. -/
namespace Go.Proofs.YtpgnlpjjpgdoiaaDoor
open Go Go.RowKit
set_option linter.unusedVariables false
set_option linter.unusedSimpArgs false
/-- The first k bytes hold no stroke. -/
def NoStroke (t : ByteArray) (k : Nat) : Prop := (t.data.toList.take k).all (fun b => b != 47) = true
theorem take_list (T : ByteArray) (k : Nat) : (T.extract 0 k).data.toList = T.data.toList.take k := by
  rw [ByteArray.data_extract, Array.toList_extract, List.extract_eq_take_drop, List.drop_zero, Nat.sub_zero]
theorem takeWhile_take {l : List UInt8} : ∀ {k : Nat}, (l.take k).all (fun b => b != 47) = true → (k = l.length ∨ l[k]? = some 47) → l.takeWhile (fun b => b != 47) = l.take k := by
  induction l with
  | nil => intro k _ _; simp
  | cons b l ih =>
    intro k h hk
    cases k with
    | zero =>
      rcases hk with hk | hk
      · simp at hk
      · simp at hk; subst hk; simp
    | succ k =>
      rw [List.take_succ_cons, List.all_cons, Bool.and_eq_true] at h
      rw [List.takeWhile_cons, if_pos h.1, List.take_succ_cons]
      rw [ih h.2 (by rcases hk with hk | hk; · left; simpa using hk
                     · right; simpa using hk)]
theorem stroke_found {t : ByteArray} {k : Nat} (h : NoStroke t k) (hk : k < t.size) (h47 : t[k].toNat = 47) :
    topB t.data.toList = (t.extract 0 k).data.toList ∧ lowB t.data.toList = (t.extract (k + 1) t.size).data.toList ∧ strokeB t.data.toList = true := by
  have e : topB t.data.toList = t.data.toList.take k := takeWhile_take h (.inr (by
    rw [List.getElem?_eq_getElem (by rw [Array.length_toList]; exact hk), get_list t k hk]
    exact congrArg some (UInt8.toNat_inj.mp h47)))
  have hl : (t.data.toList.take k).length = k := by rw [List.length_take, Array.length_toList]; exact Nat.min_eq_left (Nat.le_of_lt hk)
  have hs : strokeB t.data.toList = true := by unfold strokeB; rw [e, hl, Array.length_toList]; exact decide_eq_true hk
  refine ⟨by rw [e, take_list], ?_, hs⟩
  unfold lowB
  rw [hs, if_pos rfl, e, hl, drop_list]
theorem stroke_none {t : ByteArray} {k : Nat} (h : NoStroke t k) (hk : k = t.size) :
    topB t.data.toList = t.data.toList ∧ lowB t.data.toList = (⟨#[49]⟩ : ByteArray).data.toList ∧ strokeB t.data.toList = false := by
  have e : topB t.data.toList = t.data.toList.take k := takeWhile_take h (.inl (by rw [Array.length_toList]; exact hk))
  rw [List.take_of_length_le (by rw [Array.length_toList, hk]; exact Nat.le_refl _)] at e
  have hs : strokeB t.data.toList = false := by unfold strokeB; rw [e]; exact decide_eq_false (Nat.lt_irrefl _)
  refine ⟨e, ?_, hs⟩
  unfold lowB
  rw [hs]; rfl
/-- What Of returns. -/
def OfPost (w : World) (l : List UInt8) (e : Ending) (w' : World) : Prop :=
  ∃ p q A, e = .returned (.tuple #[.agg #[.int .i64 p, .int .i64 q, .pointer A], .bool (ofB l).isSome]) ∧ (∀ x, ofB l = some x → RatAt w' x (.agg #[.int .i64 p, .int .i64 q, .pointer A])) ∧ (ofB l = none → p = 0 ∧ q = 0 ∧ A = none) ∧ Ext w w'
theorem of_none {w w' : World} {l : List UInt8} (h : ofB l = none) (he : Ext w w') : OfPost w l (.returned (.tuple #[.agg #[.int .i64 0, .int .i64 0, .pointer none], .bool false])) w' :=
  ⟨0, 0, none, by rw [h]; rfl, fun x hx => by rw [h] at hx; exact absurd hx (by simp), fun _ => ⟨rfl, rfl, rfl⟩, he⟩
end Go.Proofs.YtpgnlpjjpgdoiaaDoor
/- Of: the walk. -/
namespace Go.Proofs.YtpgnlpjjpgdoiaaDoor
open Go Go.RowKit
set_option linter.unusedVariables false
set_option linter.unusedSimpArgs false
theorem of_some {w w' : World} {l : List UInt8} {z : Rat} {p q : Int} {A : Option Addr} (h : ofB l = some z) (hz : RatAt w' z (.agg #[.int .i64 p, .int .i64 q, .pointer A])) (he : Ext w w') : OfPost w l (.returned (.tuple #[.agg #[.int .i64 p, .int .i64 q, .pointer A], .bool true])) w' :=
  ⟨p, q, A, by rw [h]; rfl, fun x hx => by rw [h] at hx; injection hx with hx; rw [← hx]; exact hz, fun hn => by rw [h] at hn; exact absurd hn (by simp), he⟩
set_option maxRecDepth 100000 in
set_option maxHeartbeats 1000000 in
theorem of_pos (t : ByteArray) (w : World) (hs : t.size ≤ 1099511627776) (h0 : 0 < t.size) (h45 : t[0].toNat ≠ 45) :
    Calls Tryd.prog 31 #[.string t] w (OfPost w t.data.toList) := by
  obtain ⟨l, hl⟩ : ∃ l, l = t.data.toList := ⟨_, rfl⟩
  have HNN : Hid ((l.head? == some 45) = false) := Lib.hid (by
    rw [hl, (list_cons t h0).2.1, beq_eq_false_iff_ne]
    intro h; injection h with h; rw [h] at h45; exact h45 rfl)
  have HBD : Hid (bodyB l = t.data.toList) := Lib.hid (by unfold bodyB; rw [HNN.out, hl]; rfl)
  have t0 : (((t[0].toNat : Nat) : Int) == 45) = false := by rw [beq_eq_false_iff_ne]; omega
  have HS := Lib.hid hs
  rw [← hl]
  clear h45 hl
  go_enter Tryd.func31, Tryd.ntmps31
  go_wp2
  clear t0
  go_loop [6, 7, 8, 9, 26] (fun x6 x7 x8 _ i => ∃ k : Nat, k ≤ t.size ∧ x6 = .string t ∧ x7 = .string ⟨#[49]⟩ ∧ x8 = .bool false ∧ i = .int .i64 (k : Int) ∧ Hid (NoStroke t k)) (fun _ _ _ _ i => t.size - (intOf i).toNat)
  case atStart => exact ⟨0, by omega, rfl, rfl, rfl, rfl, Lib.hid rfl⟩
  case round =>
    obtain ⟨k, hk, rfl, rfl, rfl, rfl, HA⟩ := hrel
    by_cases hlt : k < t.size
    · by_cases hd1 : t[k].toNat = 47
      · have HF := Lib.hid (stroke_found HA.out hlt hd1)
        have d1 : (((t[k].toNat : Nat) : Int) == 47) = true := by rw [beq_iff_eq]; omega
        have u1 : ((k : Nat) : Int) + 1 ≤ ((t.size : Nat) : Int) := by omega
        have u2 : IntKind.i64.wrap (((k : Nat) : Int) + 1) = ((k : Nat) : Int) + 1 := by have := HS.out; simp only [IntKind.wrap_i64]; omega
        have u3 : (((k : Nat) : Int) + 1).toNat = k + 1 := by omega
        have u4 : k + 1 ≤ t.size := by omega
        have u5 : k ≤ t.size := by omega
        clear hd1
        go_wp2
        go_quiet (fail)
        obtain ⟨w5, hw5⟩ : ∃ w5, w5 = (w.alloc (.cells #[.int .i64 0, .int .i64 0, .pointer none] 43)).drewN nq := ⟨_, rfl⟩
        rw [← hw5]
        have HE5 : Hid (Ext w w5) := Lib.hid (by rw [hw5]; exact ((Ext.refl _).alloc _).drewN _)
        have HV5 : Hid (VarR w5 w.heap.size) := Lib.hid (by rw [hw5]; exact (VarR.new w).ext ((Ext.refl _).drewN _))
        have HTZ : Hid ((t.extract 0 k).size ≤ 1099511627776) := Lib.hid (by have h := congrArg List.length (take_list t k); rw [Array.length_toList, List.length_take] at h; have h2 : (t.extract 0 k).size = (t.extract 0 k).data.size := rfl; have h3 := HS.out; omega)
        have HBZ : Hid ((t.extract (k + 1) t.size).size ≤ 1099511627776) := Lib.hid (by rw [drop_size]; have h3 := HS.out; omega)
        clear hw5 d1 u1 u2 u3 u4 u5
        generalize t.extract 0 k = T at *
        generalize t.extract (k + 1) t.size = B at *
        have HTT := Lib.hid HF.out.1
        have HLL := Lib.hid HF.out.2.1
        have HSS := Lib.hid HF.out.2.2
        have HP1 := Lib.hid (fun W => plain_calls T W HTZ.out)
        have HP2 := Lib.hid (fun W => plain_calls B W HBZ.out)
        obtain ⟨k0, k1, k2, f0, f1, f2⟩ := HV5.out.cells
        cases hp1 : plainB T.data.toList with
        | false =>
          rw [hp1] at HP1
          have HNO : Hid (ofB l = none) := Lib.hid (of_bad (by rw [bad_eq HBD.out HTT.out HLL.out HSS.out HNN.out]; simp [hp1]))
          clear hp1
          go_wp2_with (first
            | (go_at_call 49; refine (HP1.out _).mono ?_; clear HP1; rintro e w2 ⟨rfl, rfl⟩)
            | (go_at_call 49; refine (HP2.out _).mono ?_; clear HP2; rintro e w2 ⟨rfl, rfl⟩))
          refine ret_rat2 rfl w.heap.size _ _ _ _ rfl rfl (putR_row HV5.out 0 0 none) rfl ?_
          exact of_none HNO.out ((putR_only w5 w.heap.size 0 0 none).ext HE5.out (Nat.le_refl _))
        | true =>
          rw [hp1] at HP1
          cases hp2 : plainB B.data.toList with
          | false =>
            rw [hp2] at HP2
            have HNO : Hid (ofB l = none) := Lib.hid (of_bad (by rw [bad_eq HBD.out HTT.out HLL.out HSS.out HNN.out]; simp [hp1, hp2]))
            clear hp1 hp2
            go_wp2_with (first
              | (go_at_call 49; refine (HP1.out _).mono ?_; clear HP1; rintro e w2 ⟨rfl, rfl⟩)
              | (go_at_call 49; refine (HP2.out _).mono ?_; clear HP2; rintro e w2 ⟨rfl, rfl⟩))
            refine ret_rat2 rfl w.heap.size _ _ _ _ rfl rfl (putR_row HV5.out 0 0 none) rfl ?_
            exact of_none HNO.out ((putR_only w5 w.heap.size 0 0 none).ext HE5.out (Nat.le_refl _))
          | true =>
            rw [hp2] at HP2
            cases he0 : (B.toList == [48]) with
            | true =>
              have hx0 : (B.data.toList == [48]) = true := by rw [← ByteArray.toList_eq]; exact he0
              have HNO : Hid (ofB l = none) := Lib.hid (of_bad (by rw [bad_eq HBD.out HTT.out HLL.out HSS.out HNN.out]; simp [hp1, hp2, hx0]))
              clear hp1 hp2 hx0
              go_wp2_with (first
                | (go_at_call 49; refine (HP1.out _).mono ?_; clear HP1; rintro e w2 ⟨rfl, rfl⟩)
                | (go_at_call 49; refine (HP2.out _).mono ?_; clear HP2; rintro e w2 ⟨rfl, rfl⟩))
              refine ret_rat2 rfl w.heap.size _ _ _ _ rfl rfl (putR_row HV5.out 0 0 none) rfl ?_
              exact of_none HNO.out ((putR_only w5 w.heap.size 0 0 none).ext HE5.out (Nat.le_refl _))
            | false =>
              have hx0 : (B.data.toList == [48]) = false := by rw [← ByteArray.toList_eq]; exact he0
              cases he1 : (B.toList == [49]) with
              | true =>
                have hx1 : (B.data.toList == [49]) = true := by rw [← ByteArray.toList_eq]; exact he1
                have HNO : Hid (ofB l = none) := Lib.hid (of_bad (by rw [bad_eq HBD.out HTT.out HLL.out HSS.out HNN.out]; simp [hp1, hp2, hx0, hx1]))
                clear hp1 hp2 hx0 hx1
                go_wp2_with (first
                  | (go_at_call 49; refine (HP1.out _).mono ?_; clear HP1; rintro e w2 ⟨rfl, rfl⟩)
                  | (go_at_call 49; refine (HP2.out _).mono ?_; clear HP2; rintro e w2 ⟨rfl, rfl⟩))
                refine ret_rat2 rfl w.heap.size _ _ _ _ rfl rfl (putR_row HV5.out 0 0 none) rfl ?_
                exact of_none HNO.out ((putR_only w5 w.heap.size 0 0 none).ext HE5.out (Nat.le_refl _))
              | false =>
                have hx1 : (B.data.toList == [49]) = false := by rw [← ByteArray.toList_eq]; exact he1
                have HNB : Hid (badB l = false) := Lib.hid (by rw [bad_eq HBD.out HTT.out HLL.out HSS.out HNN.out, hp1, hp2, hx0, hx1]; rfl)
                have HDT := Lib.hid (fun W => digits_calls T W HTZ.out (plain_all hp1))
                have HDB := Lib.hid (fun W => digits_calls B W HBZ.out (plain_all hp2))
                have HLT : Hid ((dg W64 (valD T.data.toList)).length ≤ 1099511627776) := Lib.hid (len_of_ten (valD_lt _ (plain_all hp1)) (by rw [Array.length_toList]; exact HTZ.out))
                have HLB : Hid ((dg W64 (valD B.data.toList)).length ≤ 1099511627776) := Lib.hid (len_of_ten (valD_lt _ (plain_all hp2)) (by rw [Array.length_toList]; exact HBZ.out))
                have HB0 : Hid (valD B.data.toList ≠ 0) := Lib.hid (by have h := low_pos HNB.out; rw [HBD.out, HLL.out] at h; exact h)
                by_cases hg : Nat.gcd (valD T.data.toList) (valD B.data.toList) = 1
                · have HOK := Lib.hid (of_good HBD.out HTT.out HLL.out HSS.out HNN.out HNB.out (by first | (rw [hg]; rfl) | rfl))
                  have HIR : Hid (IsR (mkRat (sgn false (valD T.data.toList)) (valD B.data.toList)) false (valD T.data.toList) (valD B.data.toList)) := Lib.hid (by have h := isR_mk (neg := false) (n := valD T.data.toList) HB0.out; rw [hg, Nat.div_one, Nat.div_one] at h; exact h)
                  generalize mkRat (sgn false (valD T.data.toList)) (valD B.data.toList) = z at *
                  generalize valD T.data.toList = n at *
                  generalize valD B.data.toList = d at *
                  have HG := Lib.hid hg
                  clear hp1 hp2 hx0 hx1 hg
                  go_wp2_with (first
                    | (go_at_call 49; refine (HP1.out _).mono ?_; clear HP1; rintro e w2 ⟨rfl, rfl⟩)
                    | (go_at_call 49; refine (HP2.out _).mono ?_; clear HP2; rintro e w2 ⟨rfl, rfl⟩)
                    | (go_at_call 50; refine (HDT.out _).mono ?_; clear HDT; rintro e w6 ⟨r6, rfl, hr6, he6⟩; have HN6 := Lib.hid hr6; have HE6 := Lib.hid he6; clear hr6 he6)
                    | (go_at_call 50; refine (HDB.out _).mono ?_; clear HDB; rintro e w7 ⟨r7, rfl, hr7, he7⟩; have HN7 := Lib.hid hr7; have HE7 := Lib.hid he7; clear hr7 he7)
                    | (go_at_call 51; refine (divisor_calls _ _ n d _ (HN6.out.ext HE7.out) HN7.out (Nat.lt_of_le_of_lt HLT.out (by decide)) (Nat.lt_of_le_of_lt HLB.out (by decide))).mono ?_; rw [HG.out]; rintro e w8 ⟨r8, rfl, hr8, he8⟩; have HN8 := Lib.hid hr8; have HE8 := Lib.hid he8; clear hr8 he8)
                    | (go_at_call 42; refine (compare_calls _ _ 1 1 _ (HN8.out.ext ((Ext.refl _).alloc _)) (one_at _) (by rw [dg_small W64_two (by decide) (by decide)]; decide)).mono ?_; rw [cmpN_eq rfl]; rintro e w9 ⟨rfl, n9, rfl⟩; have HE9 := Lib.hid ((HE7.out.trans HE8.out).trans (((Ext.refl _).alloc (.cells #[.int .u64 1] 76)).drewN n9)))
                    | (go_at_call 52; refine (lowest_calls _ _ z false n d _ HIR.out (HN6.out.ext HE9.out) (HN7.out.ext ((HE8.out).trans (((Ext.refl _).alloc _).drewN n9))) (Nat.le_of_lt (Nat.lt_of_le_of_lt HLT.out (by decide))) (Nat.le_of_lt (Nat.lt_of_le_of_lt HLB.out (by decide)))).mono ?_; rintro e wa ⟨ra, rfl, hra, hea⟩; obtain ⟨pa, qa, Aa, rfl⟩ := hra.shape; have HRA := Lib.hid hra; have HEA := Lib.hid ((HE6.out.trans HE9.out).trans hea); have HVA := Lib.hid (HV5.out.ext HEA.out); clear hra hea k0 k1 k2 f0 f1 f2; obtain ⟨k0, k1, k2, f0, f1, f2⟩ := HVA.out.cells))
                  refine ret_rat2 rfl w.heap.size _ _ _ _ rfl rfl (putR_row HVA.out pa qa Aa) rfl ?_
                  exact of_some HOK.out (HRA.out.only HVA.out (putR_only _ _ _ _ _)) ((putR_only wa w.heap.size pa qa Aa).ext (HE5.out.trans HEA.out) (Nat.le_refl _))
                · have HNO : Hid (ofB l = none) := Lib.hid (of_gcd HBD.out HTT.out HLL.out HSS.out HNN.out HNB.out (by simp [hg]))
                  have HGE : Hid (Nat.gcd (valD T.data.toList) (valD B.data.toList) ≤ valD B.data.toList) := Lib.hid (Nat.gcd_le_right _ (by have := HB0.out; omega))
                  generalize valD T.data.toList = n at *
                  generalize valD B.data.toList = d at *
                  obtain ⟨g, hgg⟩ : ∃ g, g = Nat.gcd n d := ⟨_, rfl⟩
                  rw [← hgg] at hg HGE
                  have HG := Lib.hid hgg.symm
                  have HLG : Hid ((dg W64 g).length ≤ 9223372036854775807) := Lib.hid (by have h1 := dg_length_mono W64_two HGE.out; have h2 := HLB.out; omega)
                  have hg1 : g ≠ 0 := by rw [hgg]; exact Nat.pos_iff_ne_zero.mp (Nat.gcd_pos_of_pos_right _ (by have := HB0.out; omega))
                  have hcm : ((cmpN g 1 : Int) == 0) = false := by unfold cmpN; rw [if_neg (by omega), if_neg (by omega)]; rfl
                  obtain ⟨cm, hcm2⟩ : ∃ cm, cm = cmpN g 1 := ⟨_, rfl⟩
                  rw [← hcm2] at hcm
                  have HCM2 := Lib.hid hcm2
                  clear hp1 hp2 hx0 hx1 hg hgg hcm2 hg1
                  go_wp2_with (first
                    | (go_at_call 49; refine (HP1.out _).mono ?_; clear HP1; rintro e w2 ⟨rfl, rfl⟩)
                    | (go_at_call 49; refine (HP2.out _).mono ?_; clear HP2; rintro e w2 ⟨rfl, rfl⟩)
                    | (go_at_call 50; refine (HDT.out _).mono ?_; clear HDT; rintro e w6 ⟨r6, rfl, hr6, he6⟩; have HN6 := Lib.hid hr6; have HE6 := Lib.hid he6; clear hr6 he6)
                    | (go_at_call 50; refine (HDB.out _).mono ?_; clear HDB; rintro e w7 ⟨r7, rfl, hr7, he7⟩; have HN7 := Lib.hid hr7; have HE7 := Lib.hid he7; clear hr7 he7)
                    | (go_at_call 51; refine (divisor_calls _ _ n d _ (HN6.out.ext HE7.out) HN7.out (Nat.lt_of_le_of_lt HLT.out (by decide)) (Nat.lt_of_le_of_lt HLB.out (by decide))).mono ?_; rw [HG.out]; rintro e w8 ⟨r8, rfl, hr8, he8⟩; have HN8 := Lib.hid hr8; have HE8 := Lib.hid he8; clear hr8 he8)
                    | (go_at_call 42; refine (compare_calls _ _ g 1 _ (HN8.out.ext ((Ext.refl _).alloc _)) (one_at _) HLG.out).mono ?_; rw [← HCM2.out]; rintro e w9 ⟨rfl, n9, rfl⟩; obtain ⟨wa, hwa⟩ : ∃ wa, wa = (w8.alloc (.cells #[.int .u64 1] 76)).drewN n9 := ⟨_, rfl⟩; have HEA : Hid (Ext w5 wa) := Lib.hid (by rw [hwa]; exact ((HE6.out.trans HE7.out).trans HE8.out).trans (((Ext.refl _).alloc _).drewN n9)); rw [← hwa]; clear hwa; have HVA := Lib.hid (HV5.out.ext HEA.out); clear k0 k1 k2 f0 f1 f2; obtain ⟨k0, k1, k2, f0, f1, f2⟩ := HVA.out.cells))
                  refine ret_rat2 rfl w.heap.size _ _ _ _ rfl rfl (putR_row HVA.out 0 0 none) rfl ?_
                  exact of_none HNO.out ((putR_only wa w.heap.size 0 0 none).ext (HE5.out.trans HEA.out) (Nat.le_refl _))
      · have d1 : (((t[k].toNat : Nat) : Int) == 47) = false := by rw [beq_eq_false_iff_ne]; omega
        have HN : Hid (NoStroke t (k + 1)) := Lib.hid (by
          unfold NoStroke
          rw [List.take_succ_eq_append_getElem (by rw [Array.length_toList]; exact hlt), List.all_append, show (t.data.toList.take k).all (fun b => b != 47) = true from HA.out]
          simp only [List.all_cons, List.all_nil, Bool.and_true, Bool.true_and, get_list t k hlt]
          rw [bne_iff_ne]
          intro e; rw [e] at hd1; exact hd1 rfl)
        have u2 : IntKind.i64.wrap (((k : Nat) : Int) + 1) = ((k : Nat) : Int) + 1 := by have := HS.out; simp only [IntKind.wrap_i64]; omega
        clear hd1
        go_wp2
        go_round
        case rel => exact ⟨k + 1, by omega, rfl, rfl, rfl, by go_num, HN⟩
        case measure => simp [intOf]; omega
    · have HF := Lib.hid (stroke_none HA.out (by omega))
      have u9 : ¬ k < t.size := hlt
      obtain ⟨w5, hw5⟩ : ∃ w5, w5 = w.alloc (.cells #[.int .i64 0, .int .i64 0, .pointer none] 43) := ⟨_, rfl⟩
      have HE5 : Hid (Ext w w5) := Lib.hid (by rw [hw5]; exact (Ext.refl _).alloc _)
      have HV5 : Hid (VarR w5 w.heap.size) := Lib.hid (by rw [hw5]; exact VarR.new w)
      rw [← hw5]
      clear hw5
      have HTT := Lib.hid HF.out.1
      have HLL := Lib.hid HF.out.2.1
      have HSS := Lib.hid HF.out.2.2
      have HTZ := HS
      have HBZ : Hid ((⟨#[49]⟩ : ByteArray).size ≤ 1099511627776) := Lib.hid (by rw [show (⟨#[49]⟩ : ByteArray).size = 1 from rfl]; decide)
      have HPB : Hid (plainB (⟨#[49]⟩ : ByteArray).data.toList = true) := Lib.hid rfl
      have HB1 : Hid (valD (⟨#[49]⟩ : ByteArray).data.toList = 1) := Lib.hid rfl
      generalize (⟨#[49]⟩ : ByteArray) = B at *
      obtain ⟨T, hT⟩ : ∃ T : ByteArray, T = t := ⟨_, rfl⟩
      subst hT
      have HP1 := Lib.hid (fun W => plain_calls T W HTZ.out)
      have HP2 := Lib.hid (fun W => plain_calls B W HBZ.out)
      obtain ⟨k0, k1, k2, f0, f1, f2⟩ := HV5.out.cells
      cases hp1 : plainB T.data.toList with
      | false =>
        rw [hp1] at HP1
        have HNO : Hid (ofB l = none) := Lib.hid (of_bad (by rw [bad_eq HBD.out HTT.out HLL.out HSS.out HNN.out]; simp [hp1]))
        clear hp1
        go_wp2_with (first
          | (go_at_call 49; refine (HP1.out _).mono ?_; clear HP1; rintro e w2 ⟨rfl, rfl⟩)
          | (go_at_call 49; refine (HP2.out _).mono ?_; clear HP2; rintro e w2 ⟨rfl, rfl⟩))
        refine ret_rat2 rfl w.heap.size _ _ _ _ rfl rfl (putR_row HV5.out 0 0 none) rfl ?_
        exact of_none HNO.out ((putR_only w5 w.heap.size 0 0 none).ext HE5.out (Nat.le_refl _))
      | true =>
        rw [hp1] at HP1
        have hp2 := HPB.out
        rw [hp2] at HP2
        have HNB : Hid (badB l = false) := Lib.hid (by rw [bad_eq HBD.out HTT.out HLL.out HSS.out HNN.out, hp1, hp2]; rfl)
        have HDT := Lib.hid (fun W => digits_calls T W HTZ.out (plain_all hp1))
        have HDB := Lib.hid (fun W => digits_calls B W HBZ.out (plain_all hp2))
        have HLT : Hid ((dg W64 (valD T.data.toList)).length ≤ 1099511627776) := Lib.hid (len_of_ten (valD_lt _ (plain_all hp1)) (by rw [Array.length_toList]; exact HTZ.out))
        have HLB : Hid ((dg W64 (valD B.data.toList)).length ≤ 1099511627776) := Lib.hid (len_of_ten (valD_lt _ (plain_all hp2)) (by rw [Array.length_toList]; exact HBZ.out))
        have HB0 : Hid (valD B.data.toList ≠ 0) := Lib.hid (by have h := low_pos HNB.out; rw [HBD.out, HLL.out] at h; exact h)
        have hg : Nat.gcd (valD T.data.toList) (valD B.data.toList) = 1 := by rw [HB1.out, Nat.gcd_one_right]
        have HOK := Lib.hid (of_good HBD.out HTT.out HLL.out HSS.out HNN.out HNB.out (by first | (rw [hg]; rfl) | rfl))
        have HIR : Hid (IsR (mkRat (sgn false (valD T.data.toList)) (valD B.data.toList)) false (valD T.data.toList) (valD B.data.toList)) := Lib.hid (by have h := isR_mk (neg := false) (n := valD T.data.toList) HB0.out; rw [hg, Nat.div_one, Nat.div_one] at h; exact h)
        generalize mkRat (sgn false (valD T.data.toList)) (valD B.data.toList) = z at *
        generalize valD T.data.toList = n at *
        generalize valD B.data.toList = d at *
        have HG := Lib.hid hg
        clear hp1 hp2 hg
        go_wp2_with (first
          | (go_at_call 49; refine (HP1.out _).mono ?_; clear HP1; rintro e w2 ⟨rfl, rfl⟩)
          | (go_at_call 49; refine (HP2.out _).mono ?_; clear HP2; rintro e w2 ⟨rfl, rfl⟩)
          | (go_at_call 50; refine (HDT.out _).mono ?_; clear HDT; rintro e w6 ⟨r6, rfl, hr6, he6⟩; have HN6 := Lib.hid hr6; have HE6 := Lib.hid he6; clear hr6 he6)
          | (go_at_call 50; refine (HDB.out _).mono ?_; clear HDB; rintro e w7 ⟨r7, rfl, hr7, he7⟩; have HN7 := Lib.hid hr7; have HE7 := Lib.hid he7; clear hr7 he7)
          | (go_at_call 52; refine (lowest_calls _ _ z false n d _ HIR.out (HN6.out.ext HE7.out) (HN7.out.ext (Ext.refl _)) (Nat.le_of_lt (Nat.lt_of_le_of_lt HLT.out (by decide))) (Nat.le_of_lt (Nat.lt_of_le_of_lt HLB.out (by decide)))).mono ?_; rintro e wa ⟨ra, rfl, hra, hea⟩; obtain ⟨pa, qa, Aa, rfl⟩ := hra.shape; have HRA := Lib.hid hra; have HEA := Lib.hid ((HE6.out.trans HE7.out).trans hea); have HVA := Lib.hid (HV5.out.ext HEA.out); clear hra hea k0 k1 k2 f0 f1 f2; obtain ⟨k0, k1, k2, f0, f1, f2⟩ := HVA.out.cells))
        refine ret_rat2 rfl w.heap.size _ _ _ _ rfl rfl (putR_row HVA.out pa qa Aa) rfl ?_
        exact of_some HOK.out (HRA.out.only HVA.out (putR_only _ _ _ _ _)) ((putR_only wa w.heap.size pa qa Aa).ext (HE5.out.trans HEA.out) (Nat.le_refl _))
set_option maxRecDepth 100000 in
set_option maxHeartbeats 1000000 in
theorem of_neg (s : ByteArray) (w : World) (hs : s.size ≤ 1099511627776) (h0 : 0 < s.size) (h45 : s[0].toNat = 45) :
    Calls Tryd.prog 31 #[.string s] w (OfPost w s.data.toList) := by
  obtain ⟨l, hl⟩ : ∃ l, l = s.data.toList := ⟨_, rfl⟩
  have HNN : Hid ((l.head? == some 45) = true) := Lib.hid (by
    rw [hl, (list_cons s h0).2.1, beq_iff_eq]
    exact congrArg some (UInt8.toNat_inj.mp h45))
  have HBD : Hid (bodyB l = (s.extract 1 s.size).data.toList) := Lib.hid (by
    unfold bodyB; rw [HNN.out, hl, drop_list, if_pos rfl, List.drop_one])
  have t0 : (((s[0].toNat : Nat) : Int) == 45) = true := by rw [beq_iff_eq]; omega
  have HS : Hid ((s.extract 1 s.size).size ≤ 1099511627776) := Lib.hid (by rw [drop_size]; omega)
  have u1 : (1 : Int) ≤ ((s.size : Nat) : Int) := by omega
  have u2 : 1 ≤ s.size := h0
  rw [← hl]
  clear h45 hl hs
  go_enter Tryd.func31, Tryd.ntmps31
  go_wp2
  clear t0
  rw [← drop_size s 1]
  clear u1 u2
  generalize s.extract 1 s.size = t at *
  go_loop [6, 7, 8, 9, 26] (fun x6 x7 x8 _ i => ∃ k : Nat, k ≤ t.size ∧ x6 = .string t ∧ x7 = .string ⟨#[49]⟩ ∧ x8 = .bool false ∧ i = .int .i64 (k : Int) ∧ Hid (NoStroke t k)) (fun _ _ _ _ i => t.size - (intOf i).toNat)
  case atStart => exact ⟨0, by omega, rfl, rfl, rfl, rfl, Lib.hid rfl⟩
  case round =>
    obtain ⟨k, hk, rfl, rfl, rfl, rfl, HA⟩ := hrel
    by_cases hlt : k < t.size
    · by_cases hd1 : t[k].toNat = 47
      · have HF := Lib.hid (stroke_found HA.out hlt hd1)
        have d1 : (((t[k].toNat : Nat) : Int) == 47) = true := by rw [beq_iff_eq]; omega
        have u1 : ((k : Nat) : Int) + 1 ≤ ((t.size : Nat) : Int) := by omega
        have u2 : IntKind.i64.wrap (((k : Nat) : Int) + 1) = ((k : Nat) : Int) + 1 := by have := HS.out; simp only [IntKind.wrap_i64]; omega
        have u3 : (((k : Nat) : Int) + 1).toNat = k + 1 := by omega
        have u4 : k + 1 ≤ t.size := by omega
        have u5 : k ≤ t.size := by omega
        clear hd1
        go_wp2
        go_quiet (fail)
        obtain ⟨w5, hw5⟩ : ∃ w5, w5 = (w.alloc (.cells #[.int .i64 0, .int .i64 0, .pointer none] 43)).drewN nq := ⟨_, rfl⟩
        rw [← hw5]
        have HE5 : Hid (Ext w w5) := Lib.hid (by rw [hw5]; exact ((Ext.refl _).alloc _).drewN _)
        have HV5 : Hid (VarR w5 w.heap.size) := Lib.hid (by rw [hw5]; exact (VarR.new w).ext ((Ext.refl _).drewN _))
        have HTZ : Hid ((t.extract 0 k).size ≤ 1099511627776) := Lib.hid (by have h := congrArg List.length (take_list t k); rw [Array.length_toList, List.length_take] at h; have h2 : (t.extract 0 k).size = (t.extract 0 k).data.size := rfl; have h3 := HS.out; omega)
        have HBZ : Hid ((t.extract (k + 1) t.size).size ≤ 1099511627776) := Lib.hid (by rw [drop_size]; have h3 := HS.out; omega)
        clear hw5 d1 u1 u2 u3 u4 u5
        generalize t.extract 0 k = T at *
        generalize t.extract (k + 1) t.size = B at *
        have HTT := Lib.hid HF.out.1
        have HLL := Lib.hid HF.out.2.1
        have HSS := Lib.hid HF.out.2.2
        have HP1 := Lib.hid (fun W => plain_calls T W HTZ.out)
        have HP2 := Lib.hid (fun W => plain_calls B W HBZ.out)
        obtain ⟨k0, k1, k2, f0, f1, f2⟩ := HV5.out.cells
        cases hp1 : plainB T.data.toList with
        | false =>
          rw [hp1] at HP1
          have HNO : Hid (ofB l = none) := Lib.hid (of_bad (by rw [bad_eq HBD.out HTT.out HLL.out HSS.out HNN.out]; simp [hp1]))
          clear hp1
          go_wp2_with (first
            | (go_at_call 49; refine (HP1.out _).mono ?_; clear HP1; rintro e w2 ⟨rfl, rfl⟩)
            | (go_at_call 49; refine (HP2.out _).mono ?_; clear HP2; rintro e w2 ⟨rfl, rfl⟩))
          refine ret_rat2 rfl w.heap.size _ _ _ _ rfl rfl (putR_row HV5.out 0 0 none) rfl ?_
          exact of_none HNO.out ((putR_only w5 w.heap.size 0 0 none).ext HE5.out (Nat.le_refl _))
        | true =>
          rw [hp1] at HP1
          cases hp2 : plainB B.data.toList with
          | false =>
            rw [hp2] at HP2
            have HNO : Hid (ofB l = none) := Lib.hid (of_bad (by rw [bad_eq HBD.out HTT.out HLL.out HSS.out HNN.out]; simp [hp1, hp2]))
            clear hp1 hp2
            go_wp2_with (first
              | (go_at_call 49; refine (HP1.out _).mono ?_; clear HP1; rintro e w2 ⟨rfl, rfl⟩)
              | (go_at_call 49; refine (HP2.out _).mono ?_; clear HP2; rintro e w2 ⟨rfl, rfl⟩))
            refine ret_rat2 rfl w.heap.size _ _ _ _ rfl rfl (putR_row HV5.out 0 0 none) rfl ?_
            exact of_none HNO.out ((putR_only w5 w.heap.size 0 0 none).ext HE5.out (Nat.le_refl _))
          | true =>
            rw [hp2] at HP2
            cases heT : (T.toList == [48]) with
            | true =>
              have hxT : (T.data.toList == [48]) = true := by rw [← ByteArray.toList_eq]; exact heT
              have HNO : Hid (ofB l = none) := Lib.hid (of_bad (by rw [bad_eq HBD.out HTT.out HLL.out HSS.out HNN.out]; simp [hp1, hp2, hxT]))
              clear hp1 hp2 hxT
              go_wp2_with (first
                | (go_at_call 49; refine (HP1.out _).mono ?_; clear HP1; rintro e w2 ⟨rfl, rfl⟩)
                | (go_at_call 49; refine (HP2.out _).mono ?_; clear HP2; rintro e w2 ⟨rfl, rfl⟩))
              refine ret_rat2 rfl w.heap.size _ _ _ _ rfl rfl (putR_row HV5.out 0 0 none) rfl ?_
              exact of_none HNO.out ((putR_only w5 w.heap.size 0 0 none).ext HE5.out (Nat.le_refl _))
            | false =>
              have hxT : (T.data.toList == [48]) = false := by rw [← ByteArray.toList_eq]; exact heT
              cases he0 : (B.toList == [48]) with
              | true =>
                have hx0 : (B.data.toList == [48]) = true := by rw [← ByteArray.toList_eq]; exact he0
                have HNO : Hid (ofB l = none) := Lib.hid (of_bad (by rw [bad_eq HBD.out HTT.out HLL.out HSS.out HNN.out]; simp [hp1, hp2, hxT, hx0]))
                clear hp1 hp2 hxT hx0
                go_wp2_with (first
                  | (go_at_call 49; refine (HP1.out _).mono ?_; clear HP1; rintro e w2 ⟨rfl, rfl⟩)
                  | (go_at_call 49; refine (HP2.out _).mono ?_; clear HP2; rintro e w2 ⟨rfl, rfl⟩))
                refine ret_rat2 rfl w.heap.size _ _ _ _ rfl rfl (putR_row HV5.out 0 0 none) rfl ?_
                exact of_none HNO.out ((putR_only w5 w.heap.size 0 0 none).ext HE5.out (Nat.le_refl _))
              | false =>
                have hx0 : (B.data.toList == [48]) = false := by rw [← ByteArray.toList_eq]; exact he0
                cases he1 : (B.toList == [49]) with
                | true =>
                  have hx1 : (B.data.toList == [49]) = true := by rw [← ByteArray.toList_eq]; exact he1
                  have HNO : Hid (ofB l = none) := Lib.hid (of_bad (by rw [bad_eq HBD.out HTT.out HLL.out HSS.out HNN.out]; simp [hp1, hp2, hxT, hx0, hx1]))
                  clear hp1 hp2 hxT hx0 hx1
                  go_wp2_with (first
                    | (go_at_call 49; refine (HP1.out _).mono ?_; clear HP1; rintro e w2 ⟨rfl, rfl⟩)
                    | (go_at_call 49; refine (HP2.out _).mono ?_; clear HP2; rintro e w2 ⟨rfl, rfl⟩))
                  refine ret_rat2 rfl w.heap.size _ _ _ _ rfl rfl (putR_row HV5.out 0 0 none) rfl ?_
                  exact of_none HNO.out ((putR_only w5 w.heap.size 0 0 none).ext HE5.out (Nat.le_refl _))
                | false =>
                  have hx1 : (B.data.toList == [49]) = false := by rw [← ByteArray.toList_eq]; exact he1
                  have HNB : Hid (badB l = false) := Lib.hid (by rw [bad_eq HBD.out HTT.out HLL.out HSS.out HNN.out, hp1, hp2, hxT, hx0, hx1]; rfl)
                  have HDT := Lib.hid (fun W => digits_calls T W HTZ.out (plain_all hp1))
                  have HDB := Lib.hid (fun W => digits_calls B W HBZ.out (plain_all hp2))
                  have HLT : Hid ((dg W64 (valD T.data.toList)).length ≤ 1099511627776) := Lib.hid (len_of_ten (valD_lt _ (plain_all hp1)) (by rw [Array.length_toList]; exact HTZ.out))
                  have HLB : Hid ((dg W64 (valD B.data.toList)).length ≤ 1099511627776) := Lib.hid (len_of_ten (valD_lt _ (plain_all hp2)) (by rw [Array.length_toList]; exact HBZ.out))
                  have HB0 : Hid (valD B.data.toList ≠ 0) := Lib.hid (by have h := low_pos HNB.out; rw [HBD.out, HLL.out] at h; exact h)
                  by_cases hg : Nat.gcd (valD T.data.toList) (valD B.data.toList) = 1
                  · have HOK := Lib.hid (of_good HBD.out HTT.out HLL.out HSS.out HNN.out HNB.out (by first | (rw [hg]; rfl) | rfl))
                    have HIR : Hid (IsR (mkRat (sgn true (valD T.data.toList)) (valD B.data.toList)) true (valD T.data.toList) (valD B.data.toList)) := Lib.hid (by have h := isR_mk (neg := true) (n := valD T.data.toList) HB0.out; rw [hg, Nat.div_one, Nat.div_one] at h; exact h)
                    generalize mkRat (sgn true (valD T.data.toList)) (valD B.data.toList) = z at *
                    generalize valD T.data.toList = n at *
                    generalize valD B.data.toList = d at *
                    have HG := Lib.hid hg
                    clear hp1 hp2 hxT hx0 hx1 hg
                    go_wp2_with (first
                      | (go_at_call 49; refine (HP1.out _).mono ?_; clear HP1; rintro e w2 ⟨rfl, rfl⟩)
                      | (go_at_call 49; refine (HP2.out _).mono ?_; clear HP2; rintro e w2 ⟨rfl, rfl⟩)
                      | (go_at_call 50; refine (HDT.out _).mono ?_; clear HDT; rintro e w6 ⟨r6, rfl, hr6, he6⟩; have HN6 := Lib.hid hr6; have HE6 := Lib.hid he6; clear hr6 he6)
                      | (go_at_call 50; refine (HDB.out _).mono ?_; clear HDB; rintro e w7 ⟨r7, rfl, hr7, he7⟩; have HN7 := Lib.hid hr7; have HE7 := Lib.hid he7; clear hr7 he7)
                      | (go_at_call 51; refine (divisor_calls _ _ n d _ (HN6.out.ext HE7.out) HN7.out (Nat.lt_of_le_of_lt HLT.out (by decide)) (Nat.lt_of_le_of_lt HLB.out (by decide))).mono ?_; rw [HG.out]; rintro e w8 ⟨r8, rfl, hr8, he8⟩; have HN8 := Lib.hid hr8; have HE8 := Lib.hid he8; clear hr8 he8)
                      | (go_at_call 42; refine (compare_calls _ _ 1 1 _ (HN8.out.ext ((Ext.refl _).alloc _)) (one_at _) (by rw [dg_small W64_two (by decide) (by decide)]; decide)).mono ?_; rw [cmpN_eq rfl]; rintro e w9 ⟨rfl, n9, rfl⟩; have HE9 := Lib.hid ((HE7.out.trans HE8.out).trans (((Ext.refl _).alloc (.cells #[.int .u64 1] 76)).drewN n9)))
                      | (go_at_call 52; refine (lowest_calls _ _ z true n d _ HIR.out (HN6.out.ext HE9.out) (HN7.out.ext ((HE8.out).trans (((Ext.refl _).alloc _).drewN n9))) (Nat.le_of_lt (Nat.lt_of_le_of_lt HLT.out (by decide))) (Nat.le_of_lt (Nat.lt_of_le_of_lt HLB.out (by decide)))).mono ?_; rintro e wa ⟨ra, rfl, hra, hea⟩; obtain ⟨pa, qa, Aa, rfl⟩ := hra.shape; have HRA := Lib.hid hra; have HEA := Lib.hid ((HE6.out.trans HE9.out).trans hea); have HVA := Lib.hid (HV5.out.ext HEA.out); clear hra hea k0 k1 k2 f0 f1 f2; obtain ⟨k0, k1, k2, f0, f1, f2⟩ := HVA.out.cells))
                    refine ret_rat2 rfl w.heap.size _ _ _ _ rfl rfl (putR_row HVA.out pa qa Aa) rfl ?_
                    exact of_some HOK.out (HRA.out.only HVA.out (putR_only _ _ _ _ _)) ((putR_only wa w.heap.size pa qa Aa).ext (HE5.out.trans HEA.out) (Nat.le_refl _))
                  · have HNO : Hid (ofB l = none) := Lib.hid (of_gcd HBD.out HTT.out HLL.out HSS.out HNN.out HNB.out (by simp [hg]))
                    have HGE : Hid (Nat.gcd (valD T.data.toList) (valD B.data.toList) ≤ valD B.data.toList) := Lib.hid (Nat.gcd_le_right _ (by have := HB0.out; omega))
                    generalize valD T.data.toList = n at *
                    generalize valD B.data.toList = d at *
                    obtain ⟨g, hgg⟩ : ∃ g, g = Nat.gcd n d := ⟨_, rfl⟩
                    rw [← hgg] at hg HGE
                    have HG := Lib.hid hgg.symm
                    have HLG : Hid ((dg W64 g).length ≤ 9223372036854775807) := Lib.hid (by have h1 := dg_length_mono W64_two HGE.out; have h2 := HLB.out; omega)
                    have hg1 : g ≠ 0 := by rw [hgg]; exact Nat.pos_iff_ne_zero.mp (Nat.gcd_pos_of_pos_right _ (by have := HB0.out; omega))
                    have hcm : ((cmpN g 1 : Int) == 0) = false := by unfold cmpN; rw [if_neg (by omega), if_neg (by omega)]; rfl
                    obtain ⟨cm, hcm2⟩ : ∃ cm, cm = cmpN g 1 := ⟨_, rfl⟩
                    rw [← hcm2] at hcm
                    have HCM2 := Lib.hid hcm2
                    clear hp1 hp2 hxT hx0 hx1 hg hgg hcm2 hg1
                    go_wp2_with (first
                      | (go_at_call 49; refine (HP1.out _).mono ?_; clear HP1; rintro e w2 ⟨rfl, rfl⟩)
                      | (go_at_call 49; refine (HP2.out _).mono ?_; clear HP2; rintro e w2 ⟨rfl, rfl⟩)
                      | (go_at_call 50; refine (HDT.out _).mono ?_; clear HDT; rintro e w6 ⟨r6, rfl, hr6, he6⟩; have HN6 := Lib.hid hr6; have HE6 := Lib.hid he6; clear hr6 he6)
                      | (go_at_call 50; refine (HDB.out _).mono ?_; clear HDB; rintro e w7 ⟨r7, rfl, hr7, he7⟩; have HN7 := Lib.hid hr7; have HE7 := Lib.hid he7; clear hr7 he7)
                      | (go_at_call 51; refine (divisor_calls _ _ n d _ (HN6.out.ext HE7.out) HN7.out (Nat.lt_of_le_of_lt HLT.out (by decide)) (Nat.lt_of_le_of_lt HLB.out (by decide))).mono ?_; rw [HG.out]; rintro e w8 ⟨r8, rfl, hr8, he8⟩; have HN8 := Lib.hid hr8; have HE8 := Lib.hid he8; clear hr8 he8)
                      | (go_at_call 42; refine (compare_calls _ _ g 1 _ (HN8.out.ext ((Ext.refl _).alloc _)) (one_at _) HLG.out).mono ?_; rw [← HCM2.out]; rintro e w9 ⟨rfl, n9, rfl⟩; obtain ⟨wa, hwa⟩ : ∃ wa, wa = (w8.alloc (.cells #[.int .u64 1] 76)).drewN n9 := ⟨_, rfl⟩; have HEA : Hid (Ext w5 wa) := Lib.hid (by rw [hwa]; exact ((HE6.out.trans HE7.out).trans HE8.out).trans (((Ext.refl _).alloc _).drewN n9)); rw [← hwa]; clear hwa; have HVA := Lib.hid (HV5.out.ext HEA.out); clear k0 k1 k2 f0 f1 f2; obtain ⟨k0, k1, k2, f0, f1, f2⟩ := HVA.out.cells))
                    refine ret_rat2 rfl w.heap.size _ _ _ _ rfl rfl (putR_row HVA.out 0 0 none) rfl ?_
                    exact of_none HNO.out ((putR_only wa w.heap.size 0 0 none).ext (HE5.out.trans HEA.out) (Nat.le_refl _))
      · have d1 : (((t[k].toNat : Nat) : Int) == 47) = false := by rw [beq_eq_false_iff_ne]; omega
        have HN : Hid (NoStroke t (k + 1)) := Lib.hid (by
          unfold NoStroke
          rw [List.take_succ_eq_append_getElem (by rw [Array.length_toList]; exact hlt), List.all_append, show (t.data.toList.take k).all (fun b => b != 47) = true from HA.out]
          simp only [List.all_cons, List.all_nil, Bool.and_true, Bool.true_and, get_list t k hlt]
          rw [bne_iff_ne]
          intro e; rw [e] at hd1; exact hd1 rfl)
        have u2 : IntKind.i64.wrap (((k : Nat) : Int) + 1) = ((k : Nat) : Int) + 1 := by have := HS.out; simp only [IntKind.wrap_i64]; omega
        clear hd1
        go_wp2
        go_round
        case rel => exact ⟨k + 1, by omega, rfl, rfl, rfl, by go_num, HN⟩
        case measure => simp [intOf]; omega
    · have HF := Lib.hid (stroke_none HA.out (by omega))
      have u9 : ¬ k < t.size := hlt
      obtain ⟨w5, hw5⟩ : ∃ w5, w5 = w.alloc (.cells #[.int .i64 0, .int .i64 0, .pointer none] 43) := ⟨_, rfl⟩
      have HE5 : Hid (Ext w w5) := Lib.hid (by rw [hw5]; exact (Ext.refl _).alloc _)
      have HV5 : Hid (VarR w5 w.heap.size) := Lib.hid (by rw [hw5]; exact VarR.new w)
      rw [← hw5]
      clear hw5
      have HTT := Lib.hid HF.out.1
      have HLL := Lib.hid HF.out.2.1
      have HSS := Lib.hid HF.out.2.2
      have HTZ := HS
      have HBZ : Hid ((⟨#[49]⟩ : ByteArray).size ≤ 1099511627776) := Lib.hid (by rw [show (⟨#[49]⟩ : ByteArray).size = 1 from rfl]; decide)
      have HPB : Hid (plainB (⟨#[49]⟩ : ByteArray).data.toList = true) := Lib.hid rfl
      have HB1 : Hid (valD (⟨#[49]⟩ : ByteArray).data.toList = 1) := Lib.hid rfl
      generalize (⟨#[49]⟩ : ByteArray) = B at *
      obtain ⟨T, hT⟩ : ∃ T : ByteArray, T = t := ⟨_, rfl⟩
      subst hT
      have HP1 := Lib.hid (fun W => plain_calls T W HTZ.out)
      have HP2 := Lib.hid (fun W => plain_calls B W HBZ.out)
      obtain ⟨k0, k1, k2, f0, f1, f2⟩ := HV5.out.cells
      cases hp1 : plainB T.data.toList with
      | false =>
        rw [hp1] at HP1
        have HNO : Hid (ofB l = none) := Lib.hid (of_bad (by rw [bad_eq HBD.out HTT.out HLL.out HSS.out HNN.out]; simp [hp1]))
        clear hp1
        go_wp2_with (first
          | (go_at_call 49; refine (HP1.out _).mono ?_; clear HP1; rintro e w2 ⟨rfl, rfl⟩)
          | (go_at_call 49; refine (HP2.out _).mono ?_; clear HP2; rintro e w2 ⟨rfl, rfl⟩))
        refine ret_rat2 rfl w.heap.size _ _ _ _ rfl rfl (putR_row HV5.out 0 0 none) rfl ?_
        exact of_none HNO.out ((putR_only w5 w.heap.size 0 0 none).ext HE5.out (Nat.le_refl _))
      | true =>
        rw [hp1] at HP1
        have hp2 := HPB.out
        rw [hp2] at HP2
        cases heT : (T.toList == [48]) with
        | true =>
          have hxT : (T.data.toList == [48]) = true := by rw [← ByteArray.toList_eq]; exact heT
          have HNO : Hid (ofB l = none) := Lib.hid (of_bad (by rw [bad_eq HBD.out HTT.out HLL.out HSS.out HNN.out]; simp [hp1, hp2, hxT]))
          clear hp1 hp2 hxT
          go_wp2_with (first
            | (go_at_call 49; refine (HP1.out _).mono ?_; clear HP1; rintro e w2 ⟨rfl, rfl⟩)
            | (go_at_call 49; refine (HP2.out _).mono ?_; clear HP2; rintro e w2 ⟨rfl, rfl⟩))
          refine ret_rat2 rfl w.heap.size _ _ _ _ rfl rfl (putR_row HV5.out 0 0 none) rfl ?_
          exact of_none HNO.out ((putR_only w5 w.heap.size 0 0 none).ext HE5.out (Nat.le_refl _))
        | false =>
          have hxT : (T.data.toList == [48]) = false := by rw [← ByteArray.toList_eq]; exact heT
          have HNB : Hid (badB l = false) := Lib.hid (by rw [bad_eq HBD.out HTT.out HLL.out HSS.out HNN.out, hp1, hp2, hxT]; rfl)
          have HDT := Lib.hid (fun W => digits_calls T W HTZ.out (plain_all hp1))
          have HDB := Lib.hid (fun W => digits_calls B W HBZ.out (plain_all hp2))
          have HLT : Hid ((dg W64 (valD T.data.toList)).length ≤ 1099511627776) := Lib.hid (len_of_ten (valD_lt _ (plain_all hp1)) (by rw [Array.length_toList]; exact HTZ.out))
          have HLB : Hid ((dg W64 (valD B.data.toList)).length ≤ 1099511627776) := Lib.hid (len_of_ten (valD_lt _ (plain_all hp2)) (by rw [Array.length_toList]; exact HBZ.out))
          have HB0 : Hid (valD B.data.toList ≠ 0) := Lib.hid (by have h := low_pos HNB.out; rw [HBD.out, HLL.out] at h; exact h)
          have hg : Nat.gcd (valD T.data.toList) (valD B.data.toList) = 1 := by rw [HB1.out, Nat.gcd_one_right]
          have HOK := Lib.hid (of_good HBD.out HTT.out HLL.out HSS.out HNN.out HNB.out (by first | (rw [hg]; rfl) | rfl))
          have HIR : Hid (IsR (mkRat (sgn true (valD T.data.toList)) (valD B.data.toList)) true (valD T.data.toList) (valD B.data.toList)) := Lib.hid (by have h := isR_mk (neg := true) (n := valD T.data.toList) HB0.out; rw [hg, Nat.div_one, Nat.div_one] at h; exact h)
          generalize mkRat (sgn true (valD T.data.toList)) (valD B.data.toList) = z at *
          generalize valD T.data.toList = n at *
          generalize valD B.data.toList = d at *
          have HG := Lib.hid hg
          clear hp1 hp2 hxT hg
          go_wp2_with (first
            | (go_at_call 49; refine (HP1.out _).mono ?_; clear HP1; rintro e w2 ⟨rfl, rfl⟩)
            | (go_at_call 49; refine (HP2.out _).mono ?_; clear HP2; rintro e w2 ⟨rfl, rfl⟩)
            | (go_at_call 50; refine (HDT.out _).mono ?_; clear HDT; rintro e w6 ⟨r6, rfl, hr6, he6⟩; have HN6 := Lib.hid hr6; have HE6 := Lib.hid he6; clear hr6 he6)
            | (go_at_call 50; refine (HDB.out _).mono ?_; clear HDB; rintro e w7 ⟨r7, rfl, hr7, he7⟩; have HN7 := Lib.hid hr7; have HE7 := Lib.hid he7; clear hr7 he7)
            | (go_at_call 52; refine (lowest_calls _ _ z true n d _ HIR.out (HN6.out.ext HE7.out) (HN7.out.ext (Ext.refl _)) (Nat.le_of_lt (Nat.lt_of_le_of_lt HLT.out (by decide))) (Nat.le_of_lt (Nat.lt_of_le_of_lt HLB.out (by decide)))).mono ?_; rintro e wa ⟨ra, rfl, hra, hea⟩; obtain ⟨pa, qa, Aa, rfl⟩ := hra.shape; have HRA := Lib.hid hra; have HEA := Lib.hid ((HE6.out.trans HE7.out).trans hea); have HVA := Lib.hid (HV5.out.ext HEA.out); clear hra hea k0 k1 k2 f0 f1 f2; obtain ⟨k0, k1, k2, f0, f1, f2⟩ := HVA.out.cells))
          refine ret_rat2 rfl w.heap.size _ _ _ _ rfl rfl (putR_row HVA.out pa qa Aa) rfl ?_
          exact of_some HOK.out (HRA.out.only HVA.out (putR_only _ _ _ _ _)) ((putR_only wa w.heap.size pa qa Aa).ext (HE5.out.trans HEA.out) (Nat.le_refl _))
set_option maxRecDepth 100000 in
theorem of_empty (w : World) : Calls Tryd.prog 31 #[.string ⟨#[]⟩] w (OfPost w []) := by
  have HP := Lib.hid (fun W => plain_calls ⟨#[]⟩ W (by decide))
  have hp : plainB (⟨#[]⟩ : ByteArray).data.toList = false := rfl
  rw [hp] at HP
  clear hp
  have HV := Lib.hid (VarR.new w)
  obtain ⟨k0, k1, k2, f0, f1, f2⟩ := HV.out.cells
  go_enter Tryd.func31, Tryd.ntmps31
  go_wp2
  go_loop [6, 7, 8, 9, 26] (fun x6 x7 x8 _ i => x6 = .string ⟨#[]⟩ ∧ x7 = .string ⟨#[49]⟩ ∧ x8 = .bool false ∧ i = .int .i64 0) (fun _ _ _ _ i => 0)
  case atStart => exact ⟨rfl, rfl, rfl, rfl⟩
  case round =>
    obtain ⟨rfl, rfl, rfl, rfl⟩ := hrel
    go_wp2_with (go_at_call 49; refine (HP.out _).mono ?_; clear HP; rintro e w2 ⟨rfl, rfl⟩)
    refine ret_rat2 rfl w.heap.size _ _ _ _ rfl rfl HV.out rfl ?_
    exact of_none rfl ((Ext.refl _).alloc _)
/-- The contract of Of. -/
theorem of_calls (s : ByteArray) (w : World) (hs : s.size ≤ 1099511627776) :
    Calls Tryd.prog 31 #[.string s] w (OfPost w s.data.toList) := by
  by_cases h0 : s.size = 0
  · have he : s.data.toList = [] := List.eq_nil_of_length_eq_zero (by rw [Array.length_toList]; exact h0)
    obtain rfl : s = ⟨#[]⟩ := by
      obtain ⟨⟨l⟩⟩ := s
      exact congrArg (fun x => ByteArray.mk (Array.mk x)) he
    exact of_empty w
  · by_cases h : s[0].toNat = 45
    · exact of_neg s w hs (by omega) h
    · exact of_pos s w hs (by omega) h
end Go.Proofs.YtpgnlpjjpgdoiaaDoor
/- Quadratic surds over the rational numbers: the plain facts. -/
namespace Go.Proofs.SurdM
theorem mul_self_le {x y : Rat} (h0 : 0 ≤ x) (h : x ≤ y) : x * x ≤ y * y := by
  have h1 := Rat.mul_le_mul_of_nonneg_left h h0
  have h2 := Rat.mul_le_mul_of_nonneg_right h (Rat.le_trans h0 h)
  grind
theorem mul_lt {p q r s : Rat} (hp : 0 ≤ p) (h1 : p < q) (hr : 0 ≤ r) (h2 : r < s) : p * r < q * s := by
  have h3 : 0 < q := by grind
  have h4 : p * r ≤ q * r := Rat.mul_le_mul_of_nonneg_right (by grind) hr
  have h5 := Rat.mul_lt_mul_of_pos_left h2 h3
  grind
theorem num_pos' {x : Rat} : 0 < x.num ↔ 0 < x := by
  have h1 : x.num = 0 ↔ x = 0 := Rat.num_eq_zero
  have h2 : 0 ≤ x.num ↔ 0 ≤ x := Rat.num_nonneg
  constructor
  · intro h
    have h3 := h2.mp (by omega)
    have h4 : x ≠ 0 := fun e => by have := h1.mpr e; omega
    grind
  · intro h
    have h3 := h2.mpr (Rat.le_of_lt h)
    have h4 : x.num ≠ 0 := fun e => by have := h1.mp e; grind
    omega
theorem num_neg' {x : Rat} : x.num < 0 ↔ x < 0 := by
  have h2 : 0 ≤ x.num ↔ 0 ≤ x := Rat.num_nonneg
  rw [← Rat.not_le, ← h2, Int.not_le]
theorem rat_tri (a b : Rat) : a < b ∨ a = b ∨ b < a := by grind
theorem sq_nonneg (x : Rat) : 0 ≤ x * x := by
  rcases Rat.le_total (a := 0) (b := x) with h | h
  · exact Rat.mul_nonneg h h
  · have := Rat.mul_nonneg (a := -x) (b := -x) (by grind) (by grind); grind
theorem add_pos_sq {x y : Rat} (hx : 0 < x) (h : y * y < x * x) : 0 < x + y := by
  by_cases h1 : 0 < x + y
  · exact h1
  · have h1 := Rat.not_lt.mp h1
    have := mul_self_le (x := x) (y := -y) (by grind) (by grind); grind
/-- No square greater than 1 divides d. -/
def SqF (d : Int) : Prop := ∀ k : Int, 2 ≤ k → k * k ≤ d → d % (k * k) ≠ 0
theorem irr {d : Int} (hd : 2 ≤ d) (hs : SqF d) (r : Rat) : r * r ≠ (d : Rat) := by
  intro h
  have hn : (r.num : Rat) / ((r.den : Nat) : Rat) = r := by rw [← Rat.mkRat_eq_div]; exact Rat.mkRat_self r
  have hd0 : ((r.den : Nat) : Rat) ≠ 0 := by
    have := r.den_pos
    intro e
    have e2 : ((r.den : Int) : Rat) = ((0 : Int) : Rat) := by simpa using e
    have := Rat.intCast_inj.mp e2
    omega
  have h1 : (r.num : Rat) * (r.num : Rat) = (d : Rat) * (((r.den : Nat) : Rat) * ((r.den : Nat) : Rat)) := by
    have : (r.num : Rat) = r * ((r.den : Nat) : Rat) := by grind
    rw [this]; grind
  have h2 : r.num * r.num = d * ((r.den : Int) * (r.den : Int)) := by
    apply Rat.intCast_inj.mp
    rw [Rat.intCast_mul, Rat.intCast_mul, Rat.intCast_mul]
    rw [Rat.intCast_natCast]; exact h1
  have h3 : r.num.natAbs * r.num.natAbs = d.natAbs * (r.den * r.den) := by
    have := congrArg Int.natAbs h2
    simpa [Int.natAbs_mul] using this
  have h4 : r.den ∣ r.num.natAbs * r.num.natAbs := ⟨d.natAbs * r.den, by rw [h3]; ac_rfl⟩
  have h5 : r.den ∣ r.num.natAbs := Nat.Coprime.dvd_of_dvd_mul_left (Nat.Coprime.symm r.reduced) h4
  have h6 : r.den = 1 := by
    have h7 : r.den ∣ Nat.gcd r.num.natAbs r.den := Nat.dvd_gcd h5 (Nat.dvd_refl _)
    rw [r.reduced] at h7
    exact Nat.dvd_one.mp h7
  rw [h6] at h3
  have h7 : (r.num.natAbs : Int) * (r.num.natAbs : Int) = d := by omega
  have h8 : 2 ≤ r.num.natAbs := by
    rcases Nat.lt_or_ge r.num.natAbs 2 with h | h
    · have h9 : r.num.natAbs = 0 ∨ r.num.natAbs = 1 := by omega
      rcases h9 with h9 | h9 <;> rw [h9] at h7 <;> omega
    · exact h
  refine hs r.num.natAbs (by omega) (by omega) ?_
  rw [h7]; exact Int.emod_self
theorem norm_ne {d : Int} (hd : 2 ≤ d) (hs : SqF d) {a b : Rat} (hb : b ≠ 0) : a * a - b * b * (d : Rat) ≠ 0 := by
  intro h
  refine irr hd hs (a / b) ?_
  grind
/-- The sign of a number. -/
def sg (x : Rat) : Int := x.num.sign
theorem sg_pos {x : Rat} : sg x = 1 ↔ 0 < x := by
  unfold sg; rw [Int.sign_eq_one_iff_pos, num_pos']
theorem sg_neg {x : Rat} : sg x = -1 ↔ x < 0 := by
  unfold sg; rw [Int.sign_eq_neg_one_iff_neg, num_neg']
theorem sg_zero {x : Rat} : sg x = 0 ↔ x = 0 := by
  unfold sg; rw [Int.sign_eq_zero_iff_zero, Rat.num_eq_zero]
theorem sg_cases (x : Rat) : (sg x = 1 ∧ 0 < x) ∨ (sg x = -1 ∧ x < 0) ∨ (sg x = 0 ∧ x = 0) := by
  rcases rat_tri x 0 with h | h | h
  · exact .inr (.inl ⟨sg_neg.mpr h, h⟩)
  · exact .inr (.inr ⟨sg_zero.mpr h, h⟩)
  · exact .inl ⟨sg_pos.mpr h, h⟩
/-- A surd: a + b sqrt d. -/
structure SV where
  a : Rat
  b : Rat
  d : Int
/-- The norm. -/
def nrm (v : SV) : Rat := v.a * v.a - v.b * v.b * (v.d : Rat)
/-- With d = 1 where b is 0. -/
def norml (v : SV) : SV := if v.b = 0 then ⟨v.a, v.b, 1⟩ else v
/-- The radicand of both. -/
def tog (v w : SV) : Int := if v.d = 1 then w.d else v.d
/-- Do they belong together? -/
def togOk (v w : SV) : Bool := decide (v.d = 1) || decide (w.d = 1) || decide (v.d = w.d)
def addV (v w : SV) : SV := norml ⟨v.a + w.a, v.b + w.b, tog v w⟩
def negV (v : SV) : SV := ⟨-v.a, -v.b, v.d⟩
def subV (v w : SV) : SV := addV v (negV w)
def mulV (v w : SV) : SV := norml ⟨v.a * w.a + v.b * w.b * (tog v w : Rat), v.a * w.b + v.b * w.a, tog v w⟩
def invV (v : SV) : SV := ⟨v.a / nrm v, (-v.b) / nrm v, v.d⟩
def conjV (v : SV) : SV := ⟨v.a, -v.b, v.d⟩
def zeroV (v : SV) : Bool := decide (v.a = 0) && decide (v.b = 0)
def signV (v : SV) : Int :=
  if sg v.a = sg v.b ∨ sg v.b = 0 then sg v.a else if sg v.a = 0 then sg v.b else if 0 < sg (nrm v) then sg v.a else sg v.b
/-- The valid surds. -/
def Val (v : SV) : Prop := (v.d = 1 ∧ v.b = 0) ∨ (2 ≤ v.d ∧ v.d ≤ 1000000 ∧ v.b ≠ 0 ∧ SqF v.d)
/-- v lies in the field of D. -/
def InF (D : Int) (v : SV) : Prop := (v.b = 0 ∧ v.d = 1) ∨ (v.b ≠ 0 ∧ v.d = D)
/-- A field's radicand. -/
def Fld (D : Int) : Prop := D = 1 ∨ (2 ≤ D ∧ D ≤ 1000000 ∧ SqF D)
theorem inF_norml {D d : Int} {a b : Rat} (h : b ≠ 0 → d = D) : InF D (norml ⟨a, b, d⟩) := by
  unfold norml InF
  by_cases hb : b = 0
  · rw [if_pos hb]; exact .inl ⟨hb, rfl⟩
  · rw [if_neg hb]; exact .inr ⟨hb, h hb⟩
theorem norml_a (v : SV) : (norml v).a = v.a := by unfold norml; split <;> rfl
theorem norml_b (v : SV) : (norml v).b = v.b := by unfold norml; split <;> rfl
theorem SV.ext' {v w : SV} (h1 : v.a = w.a) (h2 : v.b = w.b) (h3 : v.d = w.d) : v = w := by
  cases v; cases w; simp at h1 h2 h3; simp [h1, h2, h3]
theorem InF.eq {D : Int} {v w : SV} (hv : InF D v) (hw : InF D w) (h1 : v.a = w.a) (h2 : v.b = w.b) : v = w := by
  refine SV.ext' h1 h2 ?_
  rcases hv with ⟨h3, h4⟩ | ⟨h3, h4⟩ <;> rcases hw with ⟨h5, h6⟩ | ⟨h5, h6⟩
  · rw [h4, h6]
  · rw [h2] at h3; exact absurd h3 h5
  · rw [h2] at h3; exact absurd h5 h3
  · rw [h4, h6]
theorem Val.inF {v : SV} (h : Val v) : InF v.d v := by
  rcases h with ⟨h1, h2⟩ | ⟨h1, h2, h3, h4⟩
  · exact .inl ⟨h2, h1⟩
  · exact .inr ⟨h3, rfl⟩
theorem Val.fld {v : SV} (h : Val v) : Fld v.d := by
  rcases h with ⟨h1, h2⟩ | ⟨h1, h2, h3, h4⟩
  · exact .inl h1
  · exact .inr ⟨h1, h2, h4⟩
theorem InF.val {D : Int} {v : SV} (hD : Fld D) (h : InF D v) (h1 : D = 1 → v.b = 0) : Val v := by
  rcases h with ⟨h2, h3⟩ | ⟨h2, h3⟩
  · exact .inl ⟨h3, h2⟩
  · rcases hD with hD | ⟨h4, h5, h6⟩
    · exact absurd (h1 hD) h2
    · rw [← h3] at h4 h5 h6; exact .inr ⟨h4, h5, h2, h6⟩
/-- A common field of surds that belong together. -/
theorem together {v w : SV} (hv : Val v) (hw : Val w) (h : togOk v w = true) : ∃ D, Fld D ∧ InF D v ∧ InF D w ∧ (D = 1 → v.b = 0 ∧ w.b = 0) := by
  have h0 : ∀ {v : SV}, Val v → v.d = 1 → v.b = 0 := by
    intro v hv h
    rcases hv with ⟨h1, h2⟩ | ⟨h1, h2, h3, h4⟩
    · exact h2
    · omega
  by_cases h1 : v.d = 1
  · exact ⟨w.d, hw.fld, .inl ⟨h0 hv h1, h1⟩, hw.inF, fun h => ⟨h0 hv h1, h0 hw h⟩⟩
  · refine ⟨v.d, hv.fld, hv.inF, ?_, fun h => absurd h h1⟩
    unfold togOk at h
    by_cases h2 : w.d = 1
    · exact .inl ⟨h0 hw h2, h2⟩
    · have h3 : v.d = w.d := by simpa [h1, h2] using h
      rw [h3]; exact hw.inF
theorem InF.tog {D : Int} {v w : SV} (hv : InF D v) (hw : InF D w) (h1 : D = 1 → v.b = 0 ∧ w.b = 0) : tog v w = D ∨ (tog v w = 1 ∧ v.b = 0 ∧ w.b = 0) := by
  unfold SurdM.tog
  rcases hv with ⟨h2, h3⟩ | ⟨h2, h3⟩
  · rw [if_pos h3]
    rcases hw with ⟨h4, h5⟩ | ⟨h4, h5⟩
    · exact .inr ⟨h5, h2, h4⟩
    · exact .inl h5
  · by_cases h4 : v.d = 1
    · exact absurd (h1 (h3.symm.trans h4)).1 h2
    · rw [if_neg h4]; exact .inl h3
theorem InF.togOk {D : Int} {v w : SV} (hv : InF D v) (hw : InF D w) : togOk v w = true := by
  unfold SurdM.togOk
  rcases hv with ⟨h2, h3⟩ | ⟨h2, h3⟩ <;> rcases hw with ⟨h4, h5⟩ | ⟨h4, h5⟩ <;> simp [h3, h5]
theorem mul_inF {D : Int} {v w : SV} (hv : InF D v) (hw : InF D w) (h1 : D = 1 → v.b = 0 ∧ w.b = 0) :
    InF D (mulV v w) ∧ (mulV v w).a = v.a * w.a + v.b * w.b * (D : Rat) ∧ (mulV v w).b = v.a * w.b + v.b * w.a := by
  unfold mulV
  rw [norml_a, norml_b]
  rcases hv.tog hw h1 with h | ⟨h, h2, h3⟩
  · refine ⟨inF_norml fun _ => h, ?_, rfl⟩
    simp only [h]
  · refine ⟨inF_norml fun hb => absurd ?_ hb, ?_, rfl⟩
    · simp only [h2, h3]; grind
    · simp only [h2, h3]; grind
theorem add_inF {D : Int} {v w : SV} (hv : InF D v) (hw : InF D w) (h1 : D = 1 → v.b = 0 ∧ w.b = 0) :
    InF D (addV v w) ∧ (addV v w).a = v.a + w.a ∧ (addV v w).b = v.b + w.b := by
  unfold addV
  rw [norml_a, norml_b]
  rcases hv.tog hw h1 with h | ⟨h, h2, h3⟩
  · exact ⟨inF_norml fun _ => h, rfl, rfl⟩
  · refine ⟨inF_norml fun hb => absurd ?_ hb, rfl, rfl⟩
    simp only [h2, h3]; grind
theorem conj_inF {D : Int} {v : SV} (hv : InF D v) : InF D (conjV v) := by
  rcases hv with ⟨h2, h3⟩ | ⟨h2, h3⟩
  · refine .inl ⟨?_, h3⟩; show -v.b = 0; grind
  · refine .inr ⟨?_, h3⟩; show -v.b ≠ 0; grind
theorem neg_inF {D : Int} {v : SV} (hv : InF D v) : InF D (negV v) := by
  rcases hv with ⟨h2, h3⟩ | ⟨h2, h3⟩
  · refine .inl ⟨?_, h3⟩; show -v.b = 0; grind
  · refine .inr ⟨?_, h3⟩; show -v.b ≠ 0; grind
theorem nrm_inF {D : Int} {v : SV} (hv : InF D v) : nrm v = v.a * v.a - v.b * v.b * (D : Rat) := by
  unfold nrm
  rcases hv with ⟨h2, h3⟩ | ⟨h2, h3⟩
  · rw [h2]; grind
  · rw [h3]
/-- The norm is multiplicative. -/
theorem nrm_mul {D : Int} {v w : SV} (hv : InF D v) (hw : InF D w) (h1 : D = 1 → v.b = 0 ∧ w.b = 0) : nrm (mulV v w) = nrm v * nrm w := by
  obtain ⟨h2, h3, h4⟩ := mul_inF hv hw h1
  rw [nrm_inF h2, nrm_inF hv, nrm_inF hw, h3, h4]; grind
theorem conj_mul {D : Int} {v w : SV} (hv : InF D v) (hw : InF D w) (h1 : D = 1 → v.b = 0 ∧ w.b = 0) : mulV (conjV v) (conjV w) = conjV (mulV v w) := by
  obtain ⟨h2, h3, h4⟩ := mul_inF hv hw h1
  have h1' : D = 1 → (conjV v).b = 0 ∧ (conjV w).b = 0 := fun h => by
    obtain ⟨h5, h6⟩ := h1 h
    exact ⟨by show -v.b = 0; grind, by show -w.b = 0; grind⟩
  obtain ⟨h5, h6, h7⟩ := mul_inF (conj_inF hv) (conj_inF hw) h1'
  refine h5.eq (conj_inF h2) ?_ ?_
  · rw [h6]; show _ = (mulV v w).a; rw [h3]; show v.a * w.a + (-v.b) * (-w.b) * _ = _; grind
  · rw [h7]; show _ = -(mulV v w).b; rw [h4]; show v.a * (-w.b) + (-v.b) * w.a = _; grind
theorem distrib {D : Int} {u v w : SV} (hu : InF D u) (hv : InF D v) (hw : InF D w) (h1 : D = 1 → u.b = 0 ∧ v.b = 0 ∧ w.b = 0) : mulV u (addV v w) = addV (mulV u v) (mulV u w) := by
  obtain ⟨a1, a2, a3⟩ := add_inF hv hw (fun h => (h1 h).2)
  obtain ⟨b1, b2, b3⟩ := mul_inF hu hv (fun h => ⟨(h1 h).1, (h1 h).2.1⟩)
  obtain ⟨c1, c2, c3⟩ := mul_inF hu hw (fun h => ⟨(h1 h).1, (h1 h).2.2⟩)
  obtain ⟨d1, d2, d3⟩ := mul_inF hu a1 (fun h => ⟨(h1 h).1, by rw [a3, (h1 h).2.1, (h1 h).2.2]; grind⟩)
  obtain ⟨e1, e2, e3⟩ := add_inF b1 c1 (fun h => ⟨by rw [b3, (h1 h).1, (h1 h).2.1]; grind, by rw [c3, (h1 h).1, (h1 h).2.2]; grind⟩)
  refine d1.eq e1 ?_ ?_
  · rw [d2, e2, b2, c2, a2, a3]; grind
  · rw [d3, e3, b3, c3, a2, a3]; grind
/-- A positive surd. -/
def Pos (D a b : Rat) : Prop := (0 < a ∧ b * b * D < a * a) ∨ (0 < b ∧ a * a < b * b * D)
theorem pos_mul {D a b c e : Rat} (hD : 0 < D) (h1 : Pos D a b) (h2 : Pos D c e) : Pos D (a * c + b * e * D) (a * e + b * c) := by
  have hb := Rat.mul_nonneg (sq_nonneg b) (Rat.le_of_lt hD)
  have he := Rat.mul_nonneg (sq_nonneg e) (Rat.le_of_lt hD)
  have hn : (a * c + b * e * D) * (a * c + b * e * D) - (a * e + b * c) * (a * e + b * c) * D = (a * a - b * b * D) * (c * c - e * e * D) := by grind
  rcases h1 with ⟨h3, h4⟩ | ⟨h3, h4⟩ <;> rcases h2 with ⟨h5, h6⟩ | ⟨h5, h6⟩
  · have h7 := mul_lt hb h4 he h6
    have h8 := add_pos_sq (x := a * c) (y := b * e * D) (Rat.mul_pos h3 h5) (by grind)
    have h9 := Rat.mul_pos (a := a * a - b * b * D) (b := c * c - e * e * D) (by grind) (by grind)
    exact .inl ⟨h8, by grind⟩
  · have h7 := mul_lt hb h4 (sq_nonneg c) h6
    have h7' : (b * c) * (b * c) * D < (a * e) * (a * e) * D := by grind
    have h7'' : (b * c) * (b * c) < (a * e) * (a * e) := Rat.lt_of_mul_lt_mul_right h7' (Rat.le_of_lt hD)
    have h8 := add_pos_sq (x := a * e) (y := b * c) (Rat.mul_pos h3 h5) h7''
    have h9 := Rat.mul_pos (a := a * a - b * b * D) (b := e * e * D - c * c) (by grind) (by grind)
    exact .inr ⟨h8, by grind⟩
  · have h7 := mul_lt (sq_nonneg a) h4 he h6
    have h7' : (a * e) * (a * e) * D < (b * c) * (b * c) * D := by grind
    have h7'' : (a * e) * (a * e) < (b * c) * (b * c) := Rat.lt_of_mul_lt_mul_right h7' (Rat.le_of_lt hD)
    have h8 := add_pos_sq (x := b * c) (y := a * e) (Rat.mul_pos h3 h5) h7''
    have h9 := Rat.mul_pos (a := b * b * D - a * a) (b := c * c - e * e * D) (by grind) (by grind)
    exact .inr ⟨by grind, by grind⟩
  · have h7 := mul_lt (sq_nonneg a) h4 (sq_nonneg c) h6
    have h8 := add_pos_sq (x := b * e * D) (y := a * c) (Rat.mul_pos (Rat.mul_pos h3 h5) hD) (by grind)
    have h9 := Rat.mul_pos (a := b * b * D - a * a) (b := e * e * D - c * c) (by grind) (by grind)
    exact .inl ⟨by grind, by grind⟩
theorem pos_not {D a b : Rat} (_hD : 0 < D) (h : Pos D a b) : ¬ Pos D (-a) (-b) ∧ ¬ (a = 0 ∧ b = 0) := by
  unfold Pos at *
  refine ⟨fun h2 => ?_, fun h2 => ?_⟩
  · rcases h with ⟨h3, h4⟩ | ⟨h3, h4⟩ <;> rcases h2 with ⟨h5, h6⟩ | ⟨h5, h6⟩ <;> grind
  · rw [h2.1, h2.2] at h; grind
theorem sign_cases {D : Int} (hD : Fld D) {v : SV} (h : InF D v) (h1 : D = 1 → v.b = 0) :
    (signV v = 1 ∧ Pos D v.a v.b) ∨ (signV v = -1 ∧ Pos D (-v.a) (-v.b)) ∨ (signV v = 0 ∧ v.a = 0 ∧ v.b = 0) := by
  have hN := nrm_inF h
  unfold signV Pos
  by_cases hb : v.b = 0
  · rw [if_pos (.inr (sg_zero.mpr hb)), hb]
    rcases sg_cases v.a with ⟨h2, h3⟩ | ⟨h2, h3⟩ | ⟨h2, h3⟩
    · have := Rat.mul_pos h3 h3
      exact .inl ⟨h2, .inl ⟨h3, by grind⟩⟩
    · have := Rat.mul_pos (a := -v.a) (b := -v.a) (by grind) (by grind)
      exact .inr (.inl ⟨h2, .inl ⟨by grind, by grind⟩⟩)
    · exact .inr (.inr ⟨h2, h3, rfl⟩)
  · have hD2 : 2 ≤ D ∧ SqF D := by
      rcases hD with hD | ⟨h4, h5, h6⟩
      · exact absurd (h1 hD) hb
      · exact ⟨h4, h6⟩
    have hne : nrm v ≠ 0 := by rw [hN]; exact norm_ne hD2.1 hD2.2 hb
    have hDp : (0 : Rat) < (D : Rat) := by
      have := Rat.intCast_lt_intCast.mpr (show (0 : Int) < D by omega); simpa using this
    have hb2 : 0 < v.b * v.b * (D : Rat) := by
      refine Rat.mul_pos ?_ hDp
      rcases rat_tri v.b 0 with h | h | h
      · have := Rat.mul_pos (a := -v.b) (b := -v.b) (by grind) (by grind); grind
      · exact absurd h hb
      · exact Rat.mul_pos h h
    rcases sg_cases v.a with ⟨h2, h3⟩ | ⟨h2, h3⟩ | ⟨h2, h3⟩ <;> rcases sg_cases v.b with ⟨h4, h5⟩ | ⟨h4, h5⟩ | ⟨h4, h5⟩ <;> rcases sg_cases (nrm v) with ⟨h6, h7⟩ | ⟨h6, h7⟩ | ⟨h6, h7⟩ <;> first
      | exact absurd h5 hb
      | exact absurd h7 hne
      | skip
    all_goals rw [h2, h4, h6]; simp
    all_goals try (have h00 : v.a * v.a = 0 := by rw [h3]; grind)
    all_goals first
      | (left; grind)
      | (right; grind)
      | grind
theorem Fld.pos {D : Int} (h : Fld D) : (0 : Rat) < (D : Rat) := by
  have h1 : (0 : Int) < D := by rcases h with h | ⟨h, _⟩ <;> omega
  have := Rat.intCast_lt_intCast.mpr h1; simpa using this
/-- The sign is multiplicative. -/
theorem sign_mul {D : Int} (hD : Fld D) {v w : SV} (hv : InF D v) (hw : InF D w) (h1 : D = 1 → v.b = 0 ∧ w.b = 0) : signV (mulV v w) = signV v * signV w := by
  obtain ⟨m1, m2, m3⟩ := mul_inF hv hw h1
  have hp := hD.pos
  have hm := sign_cases hD m1 (fun h => by rw [m3, (h1 h).1, (h1 h).2]; grind)
  rw [m2, m3] at hm
  have hvv := sign_cases hD hv (fun h => (h1 h).1)
  have hww := sign_cases hD hw (fun h => (h1 h).2)
  have key : ∀ {s : Int} {a b : Rat}, (s = 1 ∧ Pos D a b) ∨ (s = -1 ∧ Pos D (-a) (-b)) ∨ (s = 0 ∧ a = 0 ∧ b = 0) → (Pos D a b → s = 1) ∧ (Pos D (-a) (-b) → s = -1) ∧ (a = 0 ∧ b = 0 → s = 0) := by
    intro s a b h
    rcases h with ⟨h2, h3⟩ | ⟨h2, h3⟩ | ⟨h2, h3⟩
    · exact ⟨fun _ => h2, fun h => absurd h (pos_not hp h3).1, fun h => absurd h (pos_not hp h3).2⟩
    · refine ⟨fun h => absurd h3 (pos_not hp h).1, fun _ => h2, fun h => absurd ?_ (pos_not hp h3).2⟩
      rw [h.1, h.2]; exact ⟨rfl, rfl⟩
    · refine ⟨fun h => absurd h3 (pos_not hp h).2, fun h => absurd ?_ (pos_not hp h).2, fun _ => h2⟩
      rw [h3.1, h3.2]; exact ⟨rfl, rfl⟩
  obtain ⟨k1, k2, k3⟩ := key hm
  rcases hvv with ⟨h2, h3⟩ | ⟨h2, h3⟩ | ⟨h2, h3⟩ <;> rcases hww with ⟨h4, h5⟩ | ⟨h4, h5⟩ | ⟨h4, h5⟩ <;> rw [h2, h4]
  · exact k1 (pos_mul hp h3 h5)
  · refine k2 ?_
    have := pos_mul hp h3 h5
    rw [show -(v.a * w.a + v.b * w.b * (D : Rat)) = v.a * -w.a + v.b * -w.b * (D : Rat) by grind, show -(v.a * w.b + v.b * w.a) = v.a * -w.b + v.b * -w.a by grind]; exact this
  · exact k3 ⟨by rw [h5.1, h5.2]; grind, by rw [h5.1, h5.2]; grind⟩
  · refine k2 ?_
    have := pos_mul hp h3 h5
    rw [show -(v.a * w.a + v.b * w.b * (D : Rat)) = -v.a * w.a + -v.b * w.b * (D : Rat) by grind, show -(v.a * w.b + v.b * w.a) = -v.a * w.b + -v.b * w.a by grind]; exact this
  · refine k1 ?_
    have := pos_mul hp h3 h5
    rw [show (v.a * w.a + v.b * w.b * (D : Rat)) = -v.a * -w.a + -v.b * -w.b * (D : Rat) by grind, show (v.a * w.b + v.b * w.a) = -v.a * -w.b + -v.b * -w.a by grind]; exact this
  · exact k3 ⟨by rw [h5.1, h5.2]; grind, by rw [h5.1, h5.2]; grind⟩
  · exact k3 ⟨by rw [h3.1, h3.2]; grind, by rw [h3.1, h3.2]; grind⟩
  · exact k3 ⟨by rw [h3.1, h3.2]; grind, by rw [h3.1, h3.2]; grind⟩
  · exact k3 ⟨by rw [h3.1, h3.2]; grind, by rw [h3.1, h3.2]; grind⟩
theorem sign_zero {D : Int} (hD : Fld D) {v : SV} (h : InF D v) (h1 : D = 1 → v.b = 0) : signV v = 0 ↔ zeroV v = true := by
  unfold zeroV
  rcases sign_cases hD h h1 with ⟨h2, h3⟩ | ⟨h2, h3⟩ | ⟨h2, h3⟩
  · have := (pos_not hD.pos h3).2
    rw [h2]; simp; exact fun a b => this ⟨a, b⟩
  · have := (pos_not hD.pos h3).2
    rw [h2]; simp; exact fun a b => this ⟨by rw [a]; rfl, by rw [b]; rfl⟩
  · rw [h2]; simp [h3.1, h3.2]
/-- A product divided by one of its factors. -/
theorem div_mul {D : Int} (hD : Fld D) {v w : SV} (hv : InF D v) (hw : InF D w) (h1 : D = 1 → v.b = 0 ∧ w.b = 0) (h0 : zeroV w = false) : mulV (mulV v w) (invV w) = v := by
  obtain ⟨m1, m2, m3⟩ := mul_inF hv hw h1
  have hn : nrm w ≠ 0 := by
    by_cases hb : w.b = 0
    · unfold nrm; rw [hb]
      have : w.a ≠ 0 := by intro h; unfold zeroV at h0; simp [h, hb] at h0
      grind
    · rw [nrm_inF hw]
      rcases hD with hD | ⟨h4, h5, h6⟩
      · exact absurd (h1 hD).2 hb
      · exact norm_ne h4 h6 hb
  have hN := nrm_inF hw
  have hi : InF D (invV w) := by
    rcases hw with ⟨h2, h3⟩ | ⟨h2, h3⟩
    · refine .inl ⟨?_, h3⟩; show (-w.b) / nrm w = 0; grind
    · refine .inr ⟨?_, h3⟩; show (-w.b) / nrm w ≠ 0; grind
  obtain ⟨p1, p2, p3⟩ := mul_inF m1 hi (fun h => ⟨by rw [m3, (h1 h).1, (h1 h).2]; grind, by show (-w.b) / nrm w = 0; rw [(h1 h).2]; grind⟩)
  refine p1.eq hv ?_ ?_
  · rw [p2, m2, m3]; show _ * (w.a / nrm w) + _ * ((-w.b) / nrm w) * _ = _; grind
  · rw [p3, m2, m3]; show _ * ((-w.b) / nrm w) + _ * (w.a / nrm w) = _; grind
end Go.Proofs.SurdM
/- The contracts of num.Rat once more, with the sizes of the results. -/
namespace Go.Proofs.YtpgnlpjjpgdoiaaDoor
open Go Go.RowKit
set_option linter.unusedVariables false
set_option linter.unusedSimpArgs false
/-- Numerator and denominator have at most b bits. -/
structure RB (b : Nat) (x : Rat) : Prop where
  num : x.num.natAbs < 2 ^ b
  den : x.den < 2 ^ b
theorem RB.rl {b : Nat} {x : Rat} (h : RB b x) : RL b x :=
  ⟨dg_length_le W64_two (Nat.lt_of_lt_of_le h.num (Nat.pow_le_pow_left (by decide) b)), dg_length_le W64_two (Nat.lt_of_lt_of_le h.den (Nat.pow_le_pow_left (by decide) b))⟩
theorem RB.mono {b c : Nat} {x : Rat} (h : RB b x) (hbc : b ≤ c) : RB c x :=
  ⟨Nat.lt_of_lt_of_le h.num (Nat.pow_le_pow_right (by decide) hbc), Nat.lt_of_lt_of_le h.den (Nat.pow_le_pow_right (by decide) hbc)⟩
theorem mkRat_num_le (n : Int) (d : Nat) (hd : d ≠ 0) : (mkRat n d).num.natAbs ≤ n.natAbs ∧ (mkRat n d).den ≤ d := by
  rw [Rat.num_mkRat, Rat.den_mkRat, if_neg hd, if_neg hd]
  refine ⟨?_, Nat.div_le_self _ _⟩
  rw [Int.natAbs_ediv_of_dvd (by
    have h1 := Nat.gcd_dvd_right d n.natAbs
    exact Int.ofNat_dvd_left.mpr h1)]
  exact Nat.div_le_self _ _
theorem RB.mul {b c : Nat} {x y : Rat} (hx : RB b x) (hy : RB c y) : RB (b + c) (x * y) := by
  rw [Rat.mul_def']
  obtain ⟨h1, h2⟩ := mkRat_num_le (x.num * y.num) (x.den * y.den) (Nat.mul_ne_zero x.den_nz y.den_nz)
  rw [Int.natAbs_mul] at h1
  refine ⟨Nat.lt_of_le_of_lt h1 ?_, Nat.lt_of_le_of_lt h2 ?_⟩
  · rw [Nat.pow_add]; exact Nat.mul_lt_mul'' hx.num hy.num
  · rw [Nat.pow_add]; exact Nat.mul_lt_mul'' hx.den hy.den
theorem RB.add {b c : Nat} {x y : Rat} (hx : RB b x) (hy : RB c y) : RB (b + c + 1) (x + y) := by
  rw [Rat.add_def']
  obtain ⟨h1, h2⟩ := mkRat_num_le (x.num * y.den + y.num * x.den) (x.den * y.den) (Nat.mul_ne_zero x.den_nz y.den_nz)
  have h3 : (x.num * y.den + y.num * x.den).natAbs ≤ x.num.natAbs * y.den + y.num.natAbs * x.den := by
    refine Nat.le_trans (Int.natAbs_add_le _ _) ?_
    rw [Int.natAbs_mul, Int.natAbs_mul, Int.natAbs_natCast, Int.natAbs_natCast]
    exact Nat.le_refl _
  have h4 : x.num.natAbs * y.den < 2 ^ b * 2 ^ c := Nat.mul_lt_mul'' hx.num hy.den
  have h5 : y.num.natAbs * x.den < 2 ^ c * 2 ^ b := Nat.mul_lt_mul'' hy.num hx.den
  have h6 : x.den * y.den < 2 ^ b * 2 ^ c := Nat.mul_lt_mul'' hx.den hy.den
  rw [Nat.mul_comm (2 ^ c)] at h5
  have h7 : 2 ^ (b + c + 1) = 2 ^ b * 2 ^ c * 2 := by rw [Nat.pow_succ, Nat.pow_add]
  generalize 2 ^ b * 2 ^ c = P at *
  exact ⟨by rw [h7]; omega, by rw [h7]; omega⟩
theorem RB.neg {b : Nat} {x : Rat} (hx : RB b x) : RB b (-x) := ⟨by rw [Rat.neg_num, Int.natAbs_neg]; exact hx.num, by rw [Rat.neg_den]; exact hx.den⟩
theorem RB.inv {b : Nat} {x : Rat} (hx : RB b x) (h0 : x.num ≠ 0) : RB b x⁻¹ := by
  have hr := inv_isR h0
  exact ⟨by rw [hr.abs]; exact hx.den, by rw [hr.den]; exact hx.num⟩
theorem RB.zero (b : Nat) (hb : 0 < b) {x : Rat} (h : x.num = 0) : RB b x := by
  have h1 : x.den = 1 := by
    have := x.reduced; rw [h] at this; simpa [Nat.Coprime] using this
  have h2 : 2 ≤ 2 ^ b := Nat.le_trans (by decide : 2 ≤ 2 ^ 1) (Nat.pow_le_pow_right (by decide) hb)
  exact ⟨by rw [h]; exact Nat.lt_of_lt_of_le (by decide) h2, by rw [h1]; omega⟩
theorem RB.quo {b c : Nat} {x y : Rat} (hx : RB b x) (hy : RB c y) : RB (b + c + 1) (x / y) := by
  by_cases h0 : y.num = 0
  · exact RB.zero _ (by omega) (div_num_zero h0)
  · rw [Rat.div_def]; exact (hx.mul (hy.inv h0)).mono (by omega)
theorem RB.sub {b c : Nat} {x y : Rat} (hx : RB b x) (hy : RB c y) : RB (b + c + 1) (x - y) := by
  rw [Rat.sub_eq_add_neg]; exact hx.add hy.neg
theorem RB.int {n : Int} (h : n.natAbs < 2147483648) : RB 31 (n : Rat) := ⟨by rw [Rat.num_intCast]; exact h, by rw [Rat.den_intCast]; decide⟩
/-- A rational number of the program, of at most b bits. -/
def RA (b : Nat) (w : World) (x : Rat) (v : Value) : Prop := RatAt w x v ∧ RB b x
theorem RA.ext {b : Nat} {w w' : World} {x : Rat} {v : Value} (h : RA b w x v) (he : Ext w w') : RA b w' x v := ⟨h.1.ext he, h.2⟩
theorem RA.mono {b c : Nat} {w : World} {x : Rat} {v : Value} (h : RA b w x v) (hbc : b ≤ c) : RA c w x v := ⟨h.1, h.2.mono hbc⟩
/-- What a function returns whose result is one rational number. -/
def RPost (b : Nat) (w : World) (x : Rat) (e : Ending) (w' : World) : Prop :=
  ∃ p q A, e = .returned (.agg #[.int .i64 p, .int .i64 q, .pointer A]) ∧ RA b w' x (.agg #[.int .i64 p, .int .i64 q, .pointer A]) ∧ Ext w w'
theorem RPost.of {b : Nat} {w w' : World} {x : Rat} {e : Ending} (h : ∃ r, e = .returned r ∧ RatAt w' x r ∧ Ext w w') (hb : RB b x) : RPost b w x e w' := by
  obtain ⟨r, he, hr, hx⟩ := h
  obtain ⟨p, q, A, rfl⟩ := hr.shape
  exact ⟨p, q, A, he, ⟨hr, hb⟩, hx⟩
theorem mulK {vx vy : Value} {x y : Rat} {b c : Nat} {w : World} (hx : RA b w x vx) (hy : RA c w y vy) (hb : b ≤ 1099511627776) (hc : c ≤ 1099511627776) :
    Calls Tryd.prog 25 #[vx, vy] w (RPost (b + c) w (x * y)) :=
  (mul_calls vx vy x y (max b c) w hx.1 hy.1 (Nat.max_le.mpr ⟨hb, hc⟩) (hx.2.mono (Nat.le_max_left _ _)).rl (hy.2.mono (Nat.le_max_right _ _)).rl).mono fun _ _ h => RPost.of h (hx.2.mul hy.2)
theorem addK {vx vy : Value} {x y : Rat} {b c : Nat} {w : World} (hx : RA b w x vx) (hy : RA c w y vy) (hb : b ≤ 1099511627776) (hc : c ≤ 1099511627776) :
    Calls Tryd.prog 34 #[vx, vy] w (RPost (b + c + 1) w (x + y)) :=
  (add_calls vx vy x y (max b c) w hx.1 hy.1 (Nat.max_le.mpr ⟨hb, hc⟩) (hx.2.mono (Nat.le_max_left _ _)).rl (hy.2.mono (Nat.le_max_right _ _)).rl).mono fun _ _ h => RPost.of h (hx.2.add hy.2)
theorem subK {vx vy : Value} {x y : Rat} {b c : Nat} {w : World} (hx : RA b w x vx) (hy : RA c w y vy) (hb : b ≤ 1099511627776) (hc : c ≤ 1099511627776) :
    Calls Tryd.prog 38 #[vx, vy] w (RPost (b + c + 1) w (x - y)) :=
  (sub_calls vx vy x y (max b c) w hx.1 hy.1 (Nat.max_le.mpr ⟨hb, hc⟩) (hx.2.mono (Nat.le_max_left _ _)).rl (hy.2.mono (Nat.le_max_right _ _)).rl).mono fun _ _ h => RPost.of h (hx.2.sub hy.2)
theorem negK {v : Value} {x : Rat} {b : Nat} {w : World} (hx : RA b w x v) :
    Calls Tryd.prog 23 #[v] w (RPost b w (-x)) :=
  (neg_calls v x w hx.1).mono fun _ _ h => RPost.of h hx.2.neg
theorem intK (n : Int) (w : World) (h1 : -2147483648 < n) (h2 : n < 2147483648) :
    Calls Tryd.prog 33 #[.int .i64 n] w (RPost 31 w (n : Rat)) :=
  (int_calls n w h1 h2).mono fun _ _ h => RPost.of h (RB.int (by omega))
theorem quoK {vx vy : Value} {x y : Rat} {b c : Nat} {w : World} (hx : RA b w x vx) (hy : RA c w y vy) (hb : b ≤ 1099511627776) (hc : c ≤ 1099511627776) :
    Calls Tryd.prog 48 #[vx, vy] w (RPost (b + c + 1) w (x / y)) :=
  (quo_calls vx vy x y (max b c) w hx.1 hy.1 (Nat.max_le.mpr ⟨hb, hc⟩) (hx.2.mono (Nat.le_max_left _ _)).rl (hy.2.mono (Nat.le_max_right _ _)).rl).mono fun _ _ h => RPost.of h (hx.2.quo hy.2)
theorem zeroK {v : Value} {x : Rat} {b : Nat} {w : World} (hx : RA b w x v) :
    Calls Tryd.prog 47 #[v] w fun e w' => e = .returned (.bool (decide (x = 0))) ∧ Ext w w' :=
  (zero_calls v x w hx.1).mono fun _ _ h => ⟨by rw [h.1]; congr 3; exact propext Rat.num_eq_zero, h.2⟩
theorem signK {v : Value} {x : Rat} {b : Nat} {w : World} (hx : RA b w x v) :
    Calls Tryd.prog 27 #[v] w fun e w' => e = .returned (.int .i64 (SurdM.sg x)) ∧ Ext w w' := sign_calls v x w hx.1
/-- A text. -/
def strOf (l : List UInt8) : Value := .string ⟨l.toArray⟩
theorem stringK {v : Value} {x : Rat} {b : Nat} {w : World} (hx : RA b w x v) (ht : TabW w) (hb : b ≤ 1099511627776) :
    Calls Tryd.prog 22 #[v] w fun e w' => e = .returned (.string ⟨(textR x).toArray⟩) ∧ Ext w w' :=
  string_calls v x b w hx.1 ht hb hx.2.rl
/-- A block that holds no word and no truth value. -/
def NoR (w : World) (g : Nat) : Prop := ∀ o v, w.cell? ⟨g, o, none⟩ = some v → (∀ k, v ≠ .int .u64 k) ∧ ∀ b, v ≠ .bool b
theorem Rd.onlyN {w w' : World} {g : Nat} {A : Option Addr} {xs : List Nat} (h : Rd w A xs) (hv : NoR w g) (ho : Only g w w') : Rd w' A xs := fun i hi => by
  obtain ⟨b, o, hA, hc⟩ := h i hi
  exact ⟨b, o, hA, ho.cell (by rintro rfl; exact (hv _ _ hc).1 _ rfl) hc⟩
theorem NatAt.onlyN {w w' : World} {g n : Nat} {v : Value} (h : NatAt w v n) (hv : NoR w g) (ho : Only g w w') : NatAt w' v n := by
  obtain ⟨A, c, hv', hc, hr⟩ := h; exact ⟨A, c, hv', hc, hr.onlyN hv ho⟩
theorem RatAt.onlyN {w w' : World} {g : Nat} {x : Rat} {v : Value} (h : RatAt w x v) (hv : NoR w g) (ho : Only g w w') : RatAt w' x v := by
  cases h with
  | small q h => exact .small q h
  | big b o vn vd h0 h1 h2 hn hd hs h3 =>
    have hb : b ≠ g := by rintro rfl; exact (hv _ _ h0).2 _ rfl
    exact .big b o vn vd (ho.cell hb h0) (ho.cell hb h1) (ho.cell hb h2) (hn.onlyN hv ho) (hd.onlyN hv ho) hs h3
theorem RA.onlyN {b : Nat} {w w' : World} {g : Nat} {x : Rat} {v : Value} (h : RA b w x v) (hv : NoR w g) (ho : Only g w w') : RA b w' x v := ⟨h.1.onlyN hv ho, h.2⟩
theorem noR_of {w : World} {g : Nat} {cs : Array Value} {t : TypeId} {fr : Nat × Nat} (h : w.heap[g]? = some (.cells cs t fr)) (hc : ∀ v ∈ cs.toList, (∀ k, v ≠ .int .u64 k) ∧ ∀ b, v ≠ .bool b) : NoR w g := fun o v hv => by
  rw [cell_of_row _ _ _ _ _ _ h] at hv
  exact hc v (by rw [← Array.getElem?_toList] at hv; exact List.mem_of_getElem? hv)
theorem VarR.noR {w : World} {g : Nat} (h : VarR w g) : NoR w g := noR_of h (by intro v hv; simp at hv; rcases hv with rfl | rfl <;> simp)
end Go.Proofs.YtpgnlpjjpgdoiaaDoor
/- surd: how a value lies in memory. -/
namespace Go.Proofs.YtpgnlpjjpgdoiaaDoor
open Go Go.RowKit SurdM
set_option linter.unusedVariables false
set_option linter.unusedSimpArgs false
/-- A value's block. -/
def BoxV (w : World) (g : Nat) (p q : Int) (A : Option Addr) (r s : Int) (B : Option Addr) (d : Int) : Prop := w.heap[g]? = some (.cells #[.int .i64 p, .int .i64 q, .pointer A, .int .i64 r, .int .i64 s, .pointer B, .int .i64 d] 45 (0, 0))
theorem BoxV.ext {w w' : World} {g : Nat} {p q : Int} {A : Option Addr} {r s : Int} {B : Option Addr} {d : Int} (h : BoxV w g p q A r s B d) (he : Ext w w') : BoxV w' g p q A r s B d := he.blk h
theorem BoxV.cells {w : World} {g : Nat} {p q : Int} {A : Option Addr} {r s : Int} {B : Option Addr} {d : Int} (h : BoxV w g p q A r s B d) : w.cell? ⟨g, 0, none⟩ = some (.int .i64 p) ∧ w.cell? ⟨g, 1, none⟩ = some (.int .i64 q) ∧ w.cell? ⟨g, 2, none⟩ = some (.pointer A) ∧ w.cell? ⟨g, 3, none⟩ = some (.int .i64 r) ∧ w.cell? ⟨g, 4, none⟩ = some (.int .i64 s) ∧ w.cell? ⟨g, 5, none⟩ = some (.pointer B) ∧ w.cell? ⟨g, 6, none⟩ = some (.int .i64 d) := by
  refine ⟨?_, ?_, ?_, ?_, ?_, ?_, ?_⟩ <;> (rw [cell_of_row _ _ _ _ _ _ h]; rfl)
theorem BoxV.noR {w : World} {g : Nat} {p q : Int} {A : Option Addr} {r s : Int} {B : Option Addr} {d : Int} (h : BoxV w g p q A r s B d) : NoR w g := noR_of h (by
  intro v hv; simp at hv; rcases hv with rfl | rfl | rfl | rfl | rfl | rfl | rfl <;> simp)
theorem BoxV.frozen {w : World} {g : Nat} {p q : Int} {A : Option Addr} {r s : Int} {B : Option Addr} {d : Int} (h : BoxV w g p q A r s B d) : w.frozen? ⟨g, 0, none⟩ = false ∧ w.frozen? ⟨g, 1, none⟩ = false ∧ w.frozen? ⟨g, 2, none⟩ = false ∧ w.frozen? ⟨g, 3, none⟩ = false ∧ w.frozen? ⟨g, 4, none⟩ = false ∧ w.frozen? ⟨g, 5, none⟩ = false ∧ w.frozen? ⟨g, 6, none⟩ = false := by
  refine ⟨?_, ?_, ?_, ?_, ?_, ?_, ?_⟩ <;> exact frozen_of_row _ _ _ _ _ h
theorem boxV_new (w : World) (p q : Int) (A : Option Addr) (r s : Int) (B : Option Addr) (d : Int) : BoxV (w.alloc (.cells #[.int .i64 p, .int .i64 q, .pointer A, .int .i64 r, .int .i64 s, .pointer B, .int .i64 d] 45)) w.heap.size p q A r s B d := heap_alloc_new w _
theorem Only.obj {g k : Nat} {w w' : World} {o : Obj} (h : Only g w w') (hk : w.heap[k]? = some o) (hn : k ≠ g) : w'.heap[k]? = some o := by
  have hlt : k < w.heap.size := by
    rcases Nat.lt_or_ge k w.heap.size with h | h
    · exact h
    · simp [Array.getElem?_eq_none h] at hk
  rw [h.block k hlt hn]; exact hk
theorem BoxV.only {w w' : World} {g k : Nat} {p q : Int} {A : Option Addr} {r s : Int} {B : Option Addr} {d : Int} (h : BoxV w g p q A r s B d) (ho : Only k w w') (hn : g ≠ k) : BoxV w' g p q A r s B d := ho.obj h hn
/-- A value put into its variable. -/
def putV (w : World) (g : Nat) (p q : Int) (A : Option Addr) (r s : Int) (B : Option Addr) (d : Int) : World := ((((((w.setCell ⟨g, 0, none⟩ (.int .i64 p)).setCell ⟨g, 1, none⟩ (.int .i64 q)).setCell ⟨g, 2, none⟩ (.pointer A)).setCell ⟨g, 3, none⟩ (.int .i64 r)).setCell ⟨g, 4, none⟩ (.int .i64 s)).setCell ⟨g, 5, none⟩ (.pointer B)).setCell ⟨g, 6, none⟩ (.int .i64 d)
theorem putV_only (w : World) (g : Nat) (p q : Int) (A : Option Addr) (r s : Int) (B : Option Addr) (d : Int) : Only g w (putV w g p q A r s B d) := (((((((Only.refl g w).setCell 0 _).setCell 1 _).setCell 2 _).setCell 3 _).setCell 4 _).setCell 5 _).setCell 6 _
theorem putV_row {w : World} {g : Nat} {p0 q0 : Int} {A0 : Option Addr} {r0 s0 : Int} {B0 : Option Addr} {d0 : Int} (h : BoxV w g p0 q0 A0 r0 s0 B0 d0) (p q : Int) (A : Option Addr) (r s : Int) (B : Option Addr) (d : Int) : BoxV (putV w g p q A r s B d) g p q A r s B d := by
  unfold putV BoxV
  rw [heap_setCell_same _ g 6 _ _ _ (heap_setCell_same _ g 5 _ _ _ (heap_setCell_same _ g 4 _ _ _ (heap_setCell_same _ g 3 _ _ _ (heap_setCell_same _ g 2 _ _ _ (heap_setCell_same _ g 1 _ _ _ (heap_setCell_same _ g 0 _ _ _ h))))))]
  rfl
/-- What a function returns whose result is one value. -/
def VPost (b : Nat) (w : World) (v : SV) (e : Ending) (w' : World) : Prop :=
  ∃ p q A r s B, e = .returned (.agg #[.int .i64 p, .int .i64 q, .pointer A, .int .i64 r, .int .i64 s, .pointer B, .int .i64 v.d]) ∧ RA b w' v.a (.agg #[.int .i64 p, .int .i64 q, .pointer A]) ∧ RA b w' v.b (.agg #[.int .i64 r, .int .i64 s, .pointer B]) ∧ Ext w w'
theorem sizeV : (Tryd.prog.info? 45).map (·.size) = some 7 := by kernel_rfl
/-- The return of a value that lies in a variable. -/
theorem ret_val {fn : Func} {p : Tmp} (h : fn.results = #[.cell p 45]) {a : Act} {w : World} {Q : Ending → World → Prop} (g : Nat) (x0 x1 x2 x3 x4 x5 x6 : Value) (ha : a.tmps.getD p undef = .pointer (some ⟨g, 0, none⟩))
    (hg : w.heap[g]? = some (.cells #[x0, x1, x2, x3, x4, x5, x6] 45 (0, 0))) (hdef : a.defers = []) (hq : Q (.returned (.agg #[x0, x1, x2, x3, x4, x5, x6])) w) : bodyPost Tryd.prog fn Q .ret a w :=
  bodyPost_ret (results_cell_row h a.tmps w g _ #[x0, x1, x2, x3, x4, x5, x6] _ _ ha hg Tryd.underlying45 rfl sizeV) hdef hq
end Go.Proofs.YtpgnlpjjpgdoiaaDoor
/- surd: norm. -/
namespace Go.Proofs.YtpgnlpjjpgdoiaaDoor
open Go Go.RowKit SurdM
set_option linter.unusedVariables false
set_option linter.unusedSimpArgs false
set_option maxRecDepth 100000 in
set_option maxHeartbeats 1000000 in
theorem norm_calls (x y : Rat) (d : Int) (b : Nat) (p q : Int) (A : Option Addr) (r s : Int) (B : Option Addr) (w : World) (hx : RA b w x (.agg #[.int .i64 p, .int .i64 q, .pointer A])) (hy : RA b w y (.agg #[.int .i64 r, .int .i64 s, .pointer B]))
    (hd : 0 ≤ d ∧ d ≤ 1000000) (hb : b ≤ 10000000000) :
    Calls Tryd.prog 21 #[.agg #[.int .i64 p, .int .i64 q, .pointer A, .int .i64 r, .int .i64 s, .pointer B, .int .i64 d]] w (RPost (4 * b + 32) w (x * x - y * y * (d : Rat))) := by
  have HM1 := Lib.hid (fun W (he : Ext w W) => mulK (hx.ext he) (hx.ext he) (by omega) (by omega))
  have HM2 := Lib.hid (fun W (he : Ext w W) => mulK (hy.ext he) (hy.ext he) (by omega) (by omega))
  have HI := Lib.hid (fun W => intK d W (by omega) (by omega))
  have HB := Lib.hid hb
  obtain ⟨w2, hw2⟩ : ∃ w2, w2 = (w.alloc (.cells #[.int .i64 p, .int .i64 q, .pointer A, .int .i64 r, .int .i64 s, .pointer B, .int .i64 d] 45)).alloc (.cells #[.int .i64 0, .int .i64 0, .pointer none] 43) := ⟨_, rfl⟩
  have HE0 : Hid (Ext w w2) := Lib.hid (by rw [hw2]; exact Ext.two _ _ _)
  have HC : Hid (∀ W, Ext w2 W → BoxV W w.heap.size p q A r s B d) := Lib.hid (fun W he => BoxV.ext (by rw [hw2]; exact ((boxV_new w p q A r s B d).ext (Ext.one _ _))) he)
  have HV : Hid (VarR w2 (w.heap.size + 1)) := Lib.hid (by rw [hw2]; exact VarR.new2 w _)
  have HW2 := Lib.hid hw2
  clear hx hy hd hb hw2
  go_enter Tryd.func21, Tryd.ntmps21
  go_wp2
  rw [← HW2.out]
  go_region_held3 (fun W => W.cell? ⟨w.heap.size, 0, none⟩ = some (.int .i64 p) ∧ W.cell? ⟨w.heap.size, 1, none⟩ = some (.int .i64 q) ∧ W.cell? ⟨w.heap.size, 2, none⟩ = some (.pointer A) ∧ W.cell? ⟨w.heap.size, 3, none⟩ = some (.int .i64 r) ∧ W.cell? ⟨w.heap.size, 4, none⟩ = some (.int .i64 s) ∧ W.cell? ⟨w.heap.size, 5, none⟩ = some (.pointer B) ∧ W.cell? ⟨w.heap.size, 6, none⟩ = some (.int .i64 d))
    (first
      | exact (HC.out _ HE7.out).cells
      | exact (BoxV.only (HC.out _ HE7.out) (putR_only w7 (w.heap.size + 1) p7 q7 A7) (by omega)).cells
      | exact (HC.out _ HE6.out).cells
      | exact (HC.out _ HE5.out).cells
      | exact (HC.out _ HE4.out).cells
      | exact (HC.out _ HE3.out).cells
      | exact (HC.out _ (Ext.refl _)).cells
      | exact (HC.out _ (Ext.refl _).drew).cells)
    (first
      | (go_at_call 25; refine (HM1.out _ (HE0.out.trans (Ext.refl _).drew)).mono ?_; clear HM1; rintro e w3 ⟨p3, q3, A3, rfl, hr, he⟩; have HR3 := Lib.hid hr; have HE3 : Hid (Ext w2 w3) := Lib.hid (((Ext.refl _).drew).trans he); clear hr he)
      | (go_at_call 25; refine (HM2.out _ (HE0.out.trans HE3.out)).mono ?_; clear HM2; rintro e w4 ⟨p4, q4, A4, rfl, hr, he⟩; have HR4 := Lib.hid hr; have HE4 := Lib.hid (HE3.out.trans he); have HX4 := Lib.hid he; clear hr he)
      | (go_at_call 33; refine (HI.out _).mono ?_; clear HI; rintro e w5 ⟨p5, q5, A5, rfl, hr, he⟩; have HR5 := Lib.hid hr; have HE5 := Lib.hid (HE4.out.trans he); have HX5 := Lib.hid he; clear hr he)
      | (go_at_call 25; refine (mulK (HR4.out.ext HX5.out) HR5.out (by have := HB.out; omega) (by have := HB.out; omega)).mono ?_; rintro e w6 ⟨p6, q6, A6, rfl, hr, he⟩; have HR6 := Lib.hid hr; have HE6 := Lib.hid (HE5.out.trans he); have HX6 := Lib.hid he; clear hr he)
      | (go_at_call 38; refine (subK (HR3.out.ext (HX4.out.trans (HX5.out.trans HX6.out))) HR6.out (by have := HB.out; omega) (by have := HB.out; omega)).mono ?_; rintro e w7 ⟨p7, q7, A7, rfl, hr, he⟩; have HR7 := Lib.hid hr; have HE7 := Lib.hid (HE6.out.trans he); have HV7 := Lib.hid (HV.out.ext HE7.out); clear hr he; obtain ⟨k0, k1, k2, f0, f1, f2⟩ := HV7.out.cells))
  go_wp2
  refine ret_rat rfl (w.heap.size + 1) _ _ _ rfl (putR_row HV7.out p7 q7 A7) rfl ?_
  exact ⟨p7, q7, A7, rfl, (HR7.out.mono (by omega)).onlyN HV7.out.noR (putR_only _ _ _ _ _), (putR_only _ _ _ _ _).ext (HE0.out.trans HE7.out) (by omega)⟩
end Go.Proofs.YtpgnlpjjpgdoiaaDoor
