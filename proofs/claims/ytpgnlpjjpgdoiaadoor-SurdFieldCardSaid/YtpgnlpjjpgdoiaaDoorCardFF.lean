/- 'sosoptlaw11.SurdField': for every three surds the law returns true and leaves its arguments as they were; the listed tables are tied to the program's text (the tied card). -/
import Derived.Test.YtpgnlpjjpgdoiaaDoorCards
import Derived.Test.YtpgnlpjjpgdoiaaDoorTie
import Derived.WalkKit
import Derived.ProofKit
import Derived.OpenShut
import Derived.ShutString
import Derived.Deep.DeepHandedRow
import Derived.Lib.LaidTab
import Derived.Lib.SmallJoins
import Derived.Stop.LaidErr
import Derived.Test.YtpgnlpjjpgdoiaaDoorFg
namespace Go.Proofs.YtpgnlpjjpgdoiaaDoor.lawSurdField
open Go.ChangeShapes Go.WideShapes Go.ChangeAt Go.RowKit Go.Joins
set_option linter.unusedVariables false
set_option linter.unusedSimpArgs false
theorem own : ownKnob Tryd.prog.godebug = none := by kernel_rfl
theorem gTab : Tryd.prog.globalNamed "internal/strconv.uint64pow10" = some 0 := by kernel_rfl
theorem gTabType : (Tryd.prog.globals[0]?).map (·.type) = some 125 := by kernel_rfl
theorem cellsT : Tryd.prog.cellsOf 125 = 20 := by kernel_rfl
theorem cellsE : Tryd.prog.cellsOf 76 = 1 := by kernel_rfl
theorem cellsS : Tryd.prog.cellsOf 23 = 3 := by kernel_rfl
/-- What the row's list gives: the table of powers of ten. -/
theorem table {W : World} (h : laidMetH Tryd.prog Rows.surdFieldRow.laid W) : Go.Proofs.YtpgnlpjjpgdoiaaDoor.TabW W := by
  have h1 : laidMet Tryd.prog Rows.surdFieldRow.laid W := h
  have h2 := Go.laidMet.tail (Go.laidMet.tail h1)
  exact Lib.tabIs_of_head gTab gTabType Tryd.underlying125 Tryd.underlying76 cellsE cellsT h2
theorem shut_bit {H : Type} {enc : TypeId × Value → H} {W' : World} {bb : Nat} {sp : Nat → Bool} {hd : Bool} (c : Bool) : DataW.Trod enc Tryd.prog W' bb sp hd 4 (.bool c) (.lit (.bool c)) [] :=
  ⟨1, by simp [DataW.trod, Value.cells, Tryd.underlying4]⟩
set_option maxRecDepth 100000 in
theorem open_surd {H : Type} {enc : TypeId × Value → H} {W : World} {base b0 : Nat} {sp : Nat → Bool} {hd : Bool} {r : Reach} {v : Value} {d : DataW H} {p : List MemPlace} (hv : Value.okWide Tryd.prog W r b0 23 v) (h : DataW.Trod enc Tryd.prog W base sp hd 23 v d p) :
    ∃ x : SU, v = .agg #[.string x.A, .string x.B, .int .i64 x.D] ∧ d = .agg [.lit (.string x.A.data.toList), .lit (.string x.B.data.toList), .lit (.int .i64 x.D)] ∧ p = [] ∧ x.A.size ≤ maxLen ∧ x.B.size ≤ maxLen ∧ (Lit.int .i64 x.D).wf = true := by
  obtain ⟨c0, c1, c2, y0, y1, y2, m, rfl, rfl, rfl, hy0, hy1, hy2⟩ := open_agg3 Tryd.underlying23 (by kernel_rfl) cellsS hv h
  obtain ⟨s, e0, rfl, ws⟩ := DataW.trod_string Tryd.underlying9 hy0
  obtain ⟨t, e1, rfl, wt⟩ := DataW.trod_string Tryd.underlying9 hy1
  obtain ⟨n, e2, rfl, wn⟩ := DataW.trod_int Tryd.underlying3 hy2
  simp at e0 e1 e2
  subst e0 e1 e2
  exact ⟨⟨s, t, n⟩, rfl, rfl, rfl, ws, wt, wn⟩
set_option maxRecDepth 100000 in
theorem shut_surd {H : Type} {enc : TypeId × Value → H} {W' : World} {bb : Nat} {sp : Nat → Bool} {hd : Bool} (x : SU) (h1 : x.A.size ≤ maxLen) (h2 : x.B.size ≤ maxLen) (h3 : (Lit.int .i64 x.D).wf = true) :
    DataW.Trod enc Tryd.prog W' bb sp hd 23 (.agg #[.string x.A, .string x.B, .int .i64 x.D]) (.agg [.lit (.string x.A.data.toList), .lit (.string x.B.data.toList), .lit (.int .i64 x.D)]) [] :=
  shut_agg3 (y0 := (.lit (.string x.A.data.toList), [])) (y1 := (.lit (.string x.B.data.toList), [])) (y2 := (.lit (.int .i64 x.D), [])) Tryd.underlying23 (by kernel_rfl) cellsS
    ⟨1, by simp [DataW.trod, Tryd.underlying9, h1]⟩ ⟨1, by simp [DataW.trod, Tryd.underlying9, h2]⟩ ⟨1, by simp [DataW.trod, Tryd.underlying3, h3]⟩
set_option maxRecDepth 100000 in
/-- What the walk gives, for every argument and every world that holds the table. -/
theorem contract (H : Type) (enc : TypeId × Value → H) (W : World) (base : Nat) (args : Array Value) (ds gs : List (DataW H)) (before : List MemPlace)
    (hval : ∀ (j : Nat) t v, Tryd.f4.params[j]? = some t → args[j]? = some v → Value.okWide Tryd.prog W .any base t v)
    (hW : DataW.Whole enc Tryd.prog Tryd.f4.params.toList Rows.surdFieldSpec.vars false W args.toList ds gs before) (hL : laidMetH Tryd.prog Rows.surdFieldRow.laid W) :
    Calls Tryd.prog 4 args W fun e W' => ∃ v, e = .returned v ∧ Rows.surdFieldSpec.post enc Tryd.prog Tryd.f4 false true false false W args v W' := by
  have hW' := hW
  obtain ⟨p, q, hA0, hV, rfl, hfz, hnd⟩ := hW
  have hA : DataW.TrodAll enc Tryd.prog W 0 (fun _ => true) true Tryd.f4.params.toList args.toList ds p := hA0
  rw [Tryd.params4] at hA hval
  obtain ⟨v0, v1, v2, d0, d1, d2, p0, p1, p2, rfl, rfl, rfl, h0, h1, h2⟩ := trodAll_three hA
  obtain ⟨rfl, rfl⟩ := trodVars_none hV
  obtain ⟨a, rfl, rfl, rfl, wa1, wa2, wa3⟩ := open_surd (hval 0 23 v0 rfl rfl) h0
  obtain ⟨b, rfl, rfl, rfl, wb1, wb2, wb3⟩ := open_surd (hval 1 23 v1 rfl rfl) h1
  obtain ⟨c, rfl, rfl, rfl, wc1, wc2, wc3⟩ := open_surd (hval 2 23 v2 rfl rfl) h2
  clear hA0
  have walk := field_law a b c W (table hL)
  refine walk.mono fun e W' ⟨he, hg⟩ => ?_
  subst he
  refine ⟨_, rfl, _, _, _, [], [], [], hW', ?_, ?_, rfl, hg.frame _, fun h => by cases h⟩
  · exact trodAll_cons_mk (shut_bit _) trodAll_mk0
  · exact trodAll_mk3 (shut_surd a wa1 wa2 wa3) (shut_surd b wb1 wb2 wb3) (shut_surd c wc1 wc2 wc3)
/-- The cells of a datum of numbers. -/
def flat : DataW Unit → List Value
  | .lit (.int k n) => [.int k n]
  | .agg l => flats l
  | _ => []
  where flats : List (DataW Unit) → List Value
  | [] => []
  | d :: r => flat d ++ flats r
def setB (h : Array Obj) (g : Nat) (d : DataW Unit) : Array Obj := h.modify g fun
  | .cells _ t frozen => .cells (flat d).toArray t frozen
  | o => o
noncomputable def laidWorld (os : Os) : World :=
  { World.holding Tryd.prog os ⟨#[], #[], []⟩ with heap := setB (setB (setB (setB (setB (World.holding Tryd.prog os ⟨#[], #[], []⟩).heap 3 Rows.laid_math_bits_deBruijn32tab) 4 Rows.laid_math_bits_deBruijn64tab) 0 Rows.laid_internal_strconv_uint64pow10) 6 Rows.laid_unicode_utf8_acceptRanges) 5 Rows.laid_unicode_utf8_first }
def wArgs : Array Value := #[.agg #[.string ⟨#[]⟩, .string ⟨#[]⟩, .int .i64 0], .agg #[.string ⟨#[]⟩, .string ⟨#[]⟩, .int .i64 0], .agg #[.string ⟨#[]⟩, .string ⟨#[]⟩, .int .i64 0]]
theorem laid_met (os : Os) : laidMet Tryd.prog Rows.surdFieldRow.laid ((laidWorld os).forCall (fun _ _ => 0) ⟨#[], wArgs, []⟩).memory :=
  laidMet_of_run' 8 (by kernel_rfl) (by kernel_rfl)
theorem reads (os : Os) {H : Type} (enc : TypeId × Value → H) : ∃ places, DataW.whole enc Tryd.prog ((laidWorld os).forCall (fun _ _ => 0) ⟨#[], wArgs, []⟩).memory Tryd.f4.params.toList Rows.surdFieldSpec.vars false wArgs.toList 8 = some ([.agg [.lit (.string []), .lit (.string []), .lit (.int .i64 0)], .agg [.lit (.string []), .lit (.string []), .lit (.int .i64 0)], .agg [.lit (.string []), .lit (.string []), .lit (.int .i64 0)]], [], places) :=
  ⟨[], by kernel_rfl⟩
set_option maxRecDepth 100000 in
theorem lifted (os : Os) (started : os.Started) (H : Type) (enc : TypeId × Value → H) (F : Stop.Interp) :
    ReturnsInHanded {} Tryd.checked os 4 .any ((OpenSpec.ofChange Rows.surdFieldSpec).preRow enc Tryd.prog Tryd.f4 Rows.surdFieldRow.domain false Rows.surdFieldRow.laid) (((OpenSpec.ofChange Rows.surdFieldSpec).at F).post enc Tryd.prog Tryd.f4 false true false false) := by
  obtain ⟨places, hx⟩ := reads os enc
  refine returnsInHanded_of_row (C := Tryd.checked) (s := OpenSpec.ofChange Rows.surdFieldSpec) own started (by kernel_rfl) Tryd.func4
    (witness_row_at (enc := enc) (C := Tryd.checked) false (laidWorld os) wArgs rfl (by kernel_rfl) (by kernel_rfl) (by kernel_rfl)
      (OpenSpec.preRow_of_cond 8 hx (by kernel_rfl) (fun k hk => by cases hk) (by kernel_rfl) (laid_met os))) ?_
  intro W base args ds gs before hval hW _ _ _ hL _ _
  exact contract H enc W base args ds gs before hval hW hL
theorem said : Rows.SurdFieldSaid :=
  OpenClaim.holds_of_cond 4 Tryd.f4 rfl rfl rfl rfl rfl rfl rfl ⟨rfl, rfl, rfl, rfl, rfl⟩ rfl rfl rfl rfl rfl (by kernel_rfl) Tryd.func4 (by kernel_rfl)
    (of_decide_eq_true (by kernel_rfl)) (by unfold Func.isWrapper; first | (rw [if_pos (by decide +kernel)]; kernel_rfl) | (rw [if_neg (by decide +kernel)]; exact ⟨rfl, rfl⟩))
    (fun os started H enc _ F => by rw [OpenClaim.pre_eq_preRow]; exact lifted os started H enc F)
theorem plain (f : FuncId) (fn : Func) (hf : Tryd.pinned.checked.prog.funcNamed "sosopt/sosoptlaw11.SurdField" = some f) (hfn : Tryd.pinned.checked.prog.funcs[f]? = some fn) :
    false = Tryd.pinned.checked.prog.looks [] ∧ ∀ (j : Nat) t, fn.params[j]? = some t → Tryd.pinned.checked.prog.wantsStandIn t = false := by
  obtain rfl : f = 4 := Option.some.inj ((show Tryd.prog.funcNamed "sosopt/sosoptlaw11.SurdField" = some 4 by kernel_rfl).symm.trans hf) |>.symm
  obtain rfl : fn = Tryd.f4 := (Option.some.inj (Tryd.func4.symm.trans hfn)).symm
  refine ⟨by kernel_rfl, fun j t ht => ?_⟩
  rw [Tryd.params4] at ht
  obtain rfl : t = 23 := by simpa using Array.mem_of_getElem? ht
  exact (show Tryd.prog.wantsStandIn 23 = false by kernel_rfl)
/-- The card. -/
theorem card : Rows.SurdFieldCardSaid :=
  Claim7.holds_tied_plain_at .later [] _ _ _ _ said (fun _ h => by cases h) (by kernel_rfl) (fun _ h => by cases h) surdField_row_tie rfl ⟨rfl, rfl⟩ (by kernel_rfl) rfl plain (by kernel_rfl)
end Go.Proofs.YtpgnlpjjpgdoiaaDoor.lawSurdField
