/-
  DERIVED. GIVEN WITH THE SEED: THE CARDS: each row of YtpgnlpjjpgdoiaaDoorRows.lean that lists a variable, with what it lists TIED to the program's text (the seventh form; the later family's looks); each row that meets fmt, with fmt's text TOLD by the authors' own Lean function (tested against real Go, not proved from fmt's source: count such statements apart). THE CARD IS WHAT COUNTS. Prove the row's statement (the work); the ties are given (YtpgnlpjjpgdoiaaDoorTie.lean); close each card by the builder's one call (the guide's Derived/Test/ToyasCard.lean, 'card_holds'). Laid BY PROGRAM, IN A SANDBOX (cutbox-door.mjs). By AI agents, Wed Nov 11 2026. No macro, syntax, notation, axiom, sorry.
-/
import Derived.Test.YtpgnlpjjpgdoiaaDoorRows
import GoSem.ClaimSeven
namespace Go.Proofs.YtpgnlpjjpgdoiaaDoor
namespace Rows

/-- THE TIED CARD OF 'sosoptlaw11.SurdNorm'. -/
def surdNormCard : Claim7 := { stood := { row := surdNormRow, standIns := [], harness := (true, "7003fbc379cf0576cb468b3dbe2758331d737794371f1c5b058f7962bffbd30d"), looks := false }, kinds := [], alts := [], laidByText := true, laidKinds := [.data, .data, .data, .data, .pinned], laidTests := true, laidLooks := .later }
def SurdNormCardSaid : Prop := Claim7.holds Tryd.pinned (.plain (OpenSpec.ofChange surdNormSpec)) surdNormCard

/-- THE TIED CARD OF 'sosoptlaw11.SurdField'. -/
def surdFieldCard : Claim7 := { stood := { row := surdFieldRow, standIns := [], harness := (true, "7003fbc379cf0576cb468b3dbe2758331d737794371f1c5b058f7962bffbd30d"), looks := false }, kinds := [], alts := [], laidByText := true, laidKinds := [.data, .data, .data, .data, .pinned], laidTests := true, laidLooks := .later }
def SurdFieldCardSaid : Prop := Claim7.holds Tryd.pinned (.plain (OpenSpec.ofChange surdFieldSpec)) surdFieldCard

/-- THE SECOND FORM's CARD OF 'sosoptlaw11.SurdNorm'. -/
def surdNormUptoCard : Claim7 := { stood := { row := surdNormUptoRow, standIns := [], harness := (true, "7003fbc379cf0576cb468b3dbe2758331d737794371f1c5b058f7962bffbd30d"), looks := false }, kinds := [], alts := [], laidByText := true, laidKinds := [.data, .data, .data, .data, .pinned], laidTests := true, laidLooks := .later }
def SurdNormUptoCardSaid : Prop := Claim7.holds Tryd.pinned (.plain (OpenSpec.upto surdNormSpec)) surdNormUptoCard

/-- THE SECOND FORM's CARD OF 'sosoptlaw11.SurdField'. -/
def surdFieldUptoCard : Claim7 := { stood := { row := surdFieldUptoRow, standIns := [], harness := (true, "7003fbc379cf0576cb468b3dbe2758331d737794371f1c5b058f7962bffbd30d"), looks := false }, kinds := [], alts := [], laidByText := true, laidKinds := [.data, .data, .data, .data, .pinned], laidTests := true, laidLooks := .later }
def SurdFieldUptoCardSaid : Prop := Claim7.holds Tryd.pinned (.plain (OpenSpec.upto surdFieldSpec)) surdFieldUptoCard
end Rows
end Go.Proofs.YtpgnlpjjpgdoiaaDoor
