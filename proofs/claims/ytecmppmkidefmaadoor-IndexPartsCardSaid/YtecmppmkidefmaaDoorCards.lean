/-
  DERIVED. GIVEN WITH THE SEED: THE CARDS: each row of YtecmppmkidefmaaDoorRows.lean that lists a variable, with what it lists TIED to the program's text (the seventh form; the later family's looks); each row that meets fmt, with fmt's text TOLD by the authors' own Lean function (tested against real Go, not proved from fmt's source: count such statements apart). THE CARD IS WHAT COUNTS. Prove the row's statement (the work); the ties are given (YtecmppmkidefmaaDoorTie.lean); close each card by the builder's one call (the guide's Derived/Test/ToyasCard.lean, 'card_holds'). Laid BY PROGRAM, IN A SANDBOX (cutbox-door.mjs). By AI agents, Wed Nov 11 2026. No macro, syntax, notation, axiom, sorry.
-/
import Derived.Test.YtecmppmkidefmaaDoorRows
import GoSem.ClaimSeven
namespace Go.Proofs.YtecmppmkidefmaaDoor
namespace Rows

/-- THE TIED CARD OF 'liverylaw11.IndexParts'. -/
def indexPartsCard : Claim7 := { stood := { row := indexPartsRow, standIns := [], harness := (true, "e80ee3661b21c7a4a5f0f901a451d190e23a97191a79e5304f7ac58b1dfcbf5f"), looks := false }, kinds := [], alts := [], laidByText := true, laidKinds := [.data, .pinned], laidTests := true, laidLooks := .later }
def IndexPartsCardSaid : Prop := Claim7.holds Tryd.pinned (.plain (OpenSpec.ofChange indexPartsSpec)) indexPartsCard

/-- THE TIED CARD OF 'liverylaw11.IndexFinds'. -/
def indexFindsCard : Claim7 := { stood := { row := indexFindsRow, standIns := [], harness := (true, "e80ee3661b21c7a4a5f0f901a451d190e23a97191a79e5304f7ac58b1dfcbf5f"), looks := false }, kinds := [], alts := [], laidByText := true, laidKinds := [.data, .pinned], laidTests := true, laidLooks := .later }
def IndexFindsCardSaid : Prop := Claim7.holds Tryd.pinned (.plain (OpenSpec.ofChange indexFindsSpec)) indexFindsCard

/-- THE TIED CARD OF 'liverylaw11.IndexNone'. -/
def indexNoneCard : Claim7 := { stood := { row := indexNoneRow, standIns := [], harness := (true, "e80ee3661b21c7a4a5f0f901a451d190e23a97191a79e5304f7ac58b1dfcbf5f"), looks := false }, kinds := [], alts := [], laidByText := true, laidKinds := [.data, .pinned], laidTests := true, laidLooks := .later }
def IndexNoneCardSaid : Prop := Claim7.holds Tryd.pinned (.plain (OpenSpec.ofChange indexNoneSpec)) indexNoneCard

/-- THE SECOND FORM's CARD OF 'liverylaw11.IndexParts'. -/
def indexPartsUptoCard : Claim7 := { stood := { row := indexPartsUptoRow, standIns := [], harness := (true, "e80ee3661b21c7a4a5f0f901a451d190e23a97191a79e5304f7ac58b1dfcbf5f"), looks := false }, kinds := [], alts := [], laidByText := true, laidKinds := [.data, .pinned], laidTests := true, laidLooks := .later }
def IndexPartsUptoCardSaid : Prop := Claim7.holds Tryd.pinned (.plain (OpenSpec.upto indexPartsSpec)) indexPartsUptoCard

/-- THE SECOND FORM's CARD OF 'liverylaw11.IndexFinds'. -/
def indexFindsUptoCard : Claim7 := { stood := { row := indexFindsUptoRow, standIns := [], harness := (true, "e80ee3661b21c7a4a5f0f901a451d190e23a97191a79e5304f7ac58b1dfcbf5f"), looks := false }, kinds := [], alts := [], laidByText := true, laidKinds := [.data, .pinned], laidTests := true, laidLooks := .later }
def IndexFindsUptoCardSaid : Prop := Claim7.holds Tryd.pinned (.plain (OpenSpec.upto indexFindsSpec)) indexFindsUptoCard

/-- THE SECOND FORM's CARD OF 'liverylaw11.IndexNone'. -/
def indexNoneUptoCard : Claim7 := { stood := { row := indexNoneUptoRow, standIns := [], harness := (true, "e80ee3661b21c7a4a5f0f901a451d190e23a97191a79e5304f7ac58b1dfcbf5f"), looks := false }, kinds := [], alts := [], laidByText := true, laidKinds := [.data, .pinned], laidTests := true, laidLooks := .later }
def IndexNoneUptoCardSaid : Prop := Claim7.holds Tryd.pinned (.plain (OpenSpec.upto indexNoneSpec)) indexNoneUptoCard
end Rows
end Go.Proofs.YtecmppmkidefmaaDoor
