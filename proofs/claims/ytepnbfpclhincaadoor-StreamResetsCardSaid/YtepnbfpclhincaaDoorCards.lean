/-
  DERIVED. GIVEN WITH THE SEED: THE CARDS: each row of YtepnbfpclhincaaDoorRows.lean that lists a variable, with what it lists TIED to the program's text (the seventh form; the later family's looks); each row that meets fmt, with fmt's text TOLD by the authors' own Lean function (tested against real Go, not proved from fmt's source: count such statements apart). THE CARD IS WHAT COUNTS. Prove the row's statement (the work); the ties are given (YtepnbfpclhincaaDoorTie.lean); close each card by the builder's one call (the guide's Derived/Test/ToyasCard.lean, 'card_holds'). Laid BY PROGRAM, IN A SANDBOX (cutbox-door.mjs). By AI agents, Wed Nov 11 2026. No macro, syntax, notation, axiom, sorry.
-/
import Derived.Test.YtepnbfpclhincaaDoorRows
import GoSem.ClaimSeven
namespace Go.Proofs.YtepnbfpclhincaaDoor
namespace Rows

/-- THE TIED CARD OF 'precinctlaw08.StreamNil'. -/
def streamNilCard : Claim7 := { stood := { row := streamNilRow, standIns := [], harness := (true, "4433194eb4d4bf480588f2100ca49dd94c7ab27b592719077f4f0d3ef52e3c12"), looks := false }, kinds := [], alts := [], laidByText := true, laidKinds := [.data, .pinned], laidTests := true, laidLooks := .later }
def StreamNilCardSaid : Prop := Claim7.holds Tryd.pinned (.plain (OpenSpec.ofChange streamNilSpec)) streamNilCard

/-- THE TIED CARD OF 'precinctlaw08.StreamRooms'. -/
def streamRoomsCard : Claim7 := { stood := { row := streamRoomsRow, standIns := [], harness := (true, "4433194eb4d4bf480588f2100ca49dd94c7ab27b592719077f4f0d3ef52e3c12"), looks := false }, kinds := [], alts := [], laidByText := true, laidKinds := [.data, .pinned], laidTests := true, laidLooks := .later }
def StreamRoomsCardSaid : Prop := Claim7.holds Tryd.pinned (.plain (OpenSpec.ofChange streamRoomsSpec)) streamRoomsCard

/-- THE TIED CARD OF 'precinctlaw08.StreamAny'. -/
def streamAnyCard : Claim7 := { stood := { row := streamAnyRow, standIns := [], harness := (true, "4433194eb4d4bf480588f2100ca49dd94c7ab27b592719077f4f0d3ef52e3c12"), looks := false }, kinds := [], alts := [], laidByText := true, laidKinds := [.data, .pinned], laidTests := true, laidLooks := .later }
def StreamAnyCardSaid : Prop := Claim7.holds Tryd.pinned (.plain (OpenSpec.ofChange streamAnySpec)) streamAnyCard

/-- THE TIED CARD OF 'precinctlaw08.StreamLasts'. -/
def streamLastsCard : Claim7 := { stood := { row := streamLastsRow, standIns := [], harness := (true, "4433194eb4d4bf480588f2100ca49dd94c7ab27b592719077f4f0d3ef52e3c12"), looks := false }, kinds := [], alts := [], laidByText := true, laidKinds := [.data, .pinned], laidTests := true, laidLooks := .later }
def StreamLastsCardSaid : Prop := Claim7.holds Tryd.pinned (.plain (OpenSpec.ofChange streamLastsSpec)) streamLastsCard

/-- THE TIED CARD OF 'precinctlaw08.StreamResets'. -/
def streamResetsCard : Claim7 := { stood := { row := streamResetsRow, standIns := [], harness := (true, "4433194eb4d4bf480588f2100ca49dd94c7ab27b592719077f4f0d3ef52e3c12"), looks := false }, kinds := [], alts := [], laidByText := true, laidKinds := [.data, .pinned], laidTests := true, laidLooks := .later }
def StreamResetsCardSaid : Prop := Claim7.holds Tryd.pinned (.plain (OpenSpec.ofChange streamResetsSpec)) streamResetsCard

/-- THE SECOND FORM's CARD OF 'precinctlaw08.StreamNil'. -/
def streamNilUptoCard : Claim7 := { stood := { row := streamNilUptoRow, standIns := [], harness := (true, "4433194eb4d4bf480588f2100ca49dd94c7ab27b592719077f4f0d3ef52e3c12"), looks := false }, kinds := [], alts := [], laidByText := true, laidKinds := [.data, .pinned], laidTests := true, laidLooks := .later }
def StreamNilUptoCardSaid : Prop := Claim7.holds Tryd.pinned (.plain (OpenSpec.upto streamNilSpec)) streamNilUptoCard

/-- THE SECOND FORM's CARD OF 'precinctlaw08.StreamRooms'. -/
def streamRoomsUptoCard : Claim7 := { stood := { row := streamRoomsUptoRow, standIns := [], harness := (true, "4433194eb4d4bf480588f2100ca49dd94c7ab27b592719077f4f0d3ef52e3c12"), looks := false }, kinds := [], alts := [], laidByText := true, laidKinds := [.data, .pinned], laidTests := true, laidLooks := .later }
def StreamRoomsUptoCardSaid : Prop := Claim7.holds Tryd.pinned (.plain (OpenSpec.upto streamRoomsSpec)) streamRoomsUptoCard

/-- THE SECOND FORM's CARD OF 'precinctlaw08.StreamAny'. -/
def streamAnyUptoCard : Claim7 := { stood := { row := streamAnyUptoRow, standIns := [], harness := (true, "4433194eb4d4bf480588f2100ca49dd94c7ab27b592719077f4f0d3ef52e3c12"), looks := false }, kinds := [], alts := [], laidByText := true, laidKinds := [.data, .pinned], laidTests := true, laidLooks := .later }
def StreamAnyUptoCardSaid : Prop := Claim7.holds Tryd.pinned (.plain (OpenSpec.upto streamAnySpec)) streamAnyUptoCard

/-- THE SECOND FORM's CARD OF 'precinctlaw08.StreamLasts'. -/
def streamLastsUptoCard : Claim7 := { stood := { row := streamLastsUptoRow, standIns := [], harness := (true, "4433194eb4d4bf480588f2100ca49dd94c7ab27b592719077f4f0d3ef52e3c12"), looks := false }, kinds := [], alts := [], laidByText := true, laidKinds := [.data, .pinned], laidTests := true, laidLooks := .later }
def StreamLastsUptoCardSaid : Prop := Claim7.holds Tryd.pinned (.plain (OpenSpec.upto streamLastsSpec)) streamLastsUptoCard

/-- THE SECOND FORM's CARD OF 'precinctlaw08.StreamResets'. -/
def streamResetsUptoCard : Claim7 := { stood := { row := streamResetsUptoRow, standIns := [], harness := (true, "4433194eb4d4bf480588f2100ca49dd94c7ab27b592719077f4f0d3ef52e3c12"), looks := false }, kinds := [], alts := [], laidByText := true, laidKinds := [.data, .pinned], laidTests := true, laidLooks := .later }
def StreamResetsUptoCardSaid : Prop := Claim7.holds Tryd.pinned (.plain (OpenSpec.upto streamResetsSpec)) streamResetsUptoCard
end Rows
end Go.Proofs.YtepnbfpclhincaaDoor
