/-
  DERIVED. GIVEN WITH THE SEED: THE CARDS: each row of YtffkedepffjobaaDoorRows.lean that lists a variable, with what it lists TIED to the program's text (the seventh form; the later family's looks); each row that meets fmt, with fmt's text TOLD by the authors' own Lean function (tested against real Go, not proved from fmt's source: count such statements apart). THE CARD IS WHAT COUNTS. Prove the row's statement (the work); the ties are given (YtffkedepffjobaaDoorTie.lean); close each card by the builder's one call (the guide's Derived/Test/ToyasCard.lean, 'card_holds'). Laid BY PROGRAM, IN A SANDBOX (cutbox-door.mjs). By AI agents, Wed Nov 11 2026. No macro, syntax, notation, axiom, sorry.
-/
import Derived.Test.YtffkedepffjobaaDoorRows
import GoSem.ClaimSeven
namespace Go.Proofs.YtffkedepffjobaaDoor
namespace Rows

/-- THE TIED CARD OF 'zigguratlaw08.RootTells'. -/
def rootTellsCard : Claim7 := { stood := { row := rootTellsRow, standIns := [], harness := (true, "e4c6b06c98519b5c8dfe68b281d07fe7b7a84dc9b3dae642b0b4800bdb6c29d5"), looks := false }, kinds := [], alts := [], laidByText := true, laidKinds := [.data], laidTests := true, laidLooks := .later }
def RootTellsCardSaid : Prop := Claim7.holds Tryd.pinned (.plain (OpenSpec.ofChange rootTellsSpec)) rootTellsCard

/-- THE TIED CARD OF 'zigguratlaw08.RootBetween'. -/
def rootBetweenCard : Claim7 := { stood := { row := rootBetweenRow, standIns := [], harness := (true, "e4c6b06c98519b5c8dfe68b281d07fe7b7a84dc9b3dae642b0b4800bdb6c29d5"), looks := false }, kinds := [], alts := [], laidByText := true, laidKinds := [.data], laidTests := true, laidLooks := .later }
def RootBetweenCardSaid : Prop := Claim7.holds Tryd.pinned (.plain (OpenSpec.ofChange rootBetweenSpec)) rootBetweenCard

/-- THE TIED CARD OF 'zigguratlaw08.RootSquare'. -/
def rootSquareCard : Claim7 := { stood := { row := rootSquareRow, standIns := [], harness := (true, "e4c6b06c98519b5c8dfe68b281d07fe7b7a84dc9b3dae642b0b4800bdb6c29d5"), looks := false }, kinds := [], alts := [], laidByText := true, laidKinds := [.data], laidTests := true, laidLooks := .later }
def RootSquareCardSaid : Prop := Claim7.holds Tryd.pinned (.plain (OpenSpec.ofChange rootSquareSpec)) rootSquareCard

/-- THE TIED CARD OF 'zigguratlaw08.RootPowers'. -/
def rootPowersCard : Claim7 := { stood := { row := rootPowersRow, standIns := [], harness := (true, "e4c6b06c98519b5c8dfe68b281d07fe7b7a84dc9b3dae642b0b4800bdb6c29d5"), looks := false }, kinds := [], alts := [], laidByText := true, laidKinds := [.data], laidTests := true, laidLooks := .later }
def RootPowersCardSaid : Prop := Claim7.holds Tryd.pinned (.plain (OpenSpec.ofChange rootPowersSpec)) rootPowersCard

/-- THE TIED CARD OF 'zigguratlaw08.RootOfRoot'. -/
def rootOfRootCard : Claim7 := { stood := { row := rootOfRootRow, standIns := [], harness := (true, "e4c6b06c98519b5c8dfe68b281d07fe7b7a84dc9b3dae642b0b4800bdb6c29d5"), looks := false }, kinds := [], alts := [], laidByText := true, laidKinds := [.data], laidTests := true, laidLooks := .later }
def RootOfRootCardSaid : Prop := Claim7.holds Tryd.pinned (.plain (OpenSpec.ofChange rootOfRootSpec)) rootOfRootCard

/-- THE TIED CARD OF 'zigguratlaw08.RootScaled'. -/
def rootScaledCard : Claim7 := { stood := { row := rootScaledRow, standIns := [], harness := (true, "e4c6b06c98519b5c8dfe68b281d07fe7b7a84dc9b3dae642b0b4800bdb6c29d5"), looks := false }, kinds := [], alts := [], laidByText := true, laidKinds := [.data], laidTests := true, laidLooks := .later }
def RootScaledCardSaid : Prop := Claim7.holds Tryd.pinned (.plain (OpenSpec.ofChange rootScaledSpec)) rootScaledCard

/-- THE TIED CARD OF 'zigguratlaw08.RootMost'. -/
def rootMostCard : Claim7 := { stood := { row := rootMostRow, standIns := [], harness := (true, "e4c6b06c98519b5c8dfe68b281d07fe7b7a84dc9b3dae642b0b4800bdb6c29d5"), looks := false }, kinds := [], alts := [], laidByText := true, laidKinds := [.data], laidTests := true, laidLooks := .later }
def RootMostCardSaid : Prop := Claim7.holds Tryd.pinned (.plain (OpenSpec.ofChange rootMostSpec)) rootMostCard

/-- THE TIED CARD OF 'zigguratlaw08.RootIs'. -/
def rootIsCard : Claim7 := { stood := { row := rootIsRow, standIns := [], harness := (true, "e4c6b06c98519b5c8dfe68b281d07fe7b7a84dc9b3dae642b0b4800bdb6c29d5"), looks := false }, kinds := [], alts := [], laidByText := true, laidKinds := [.data], laidTests := true, laidLooks := .later }
def RootIsCardSaid : Prop := Claim7.holds Tryd.pinned (.plain (OpenSpec.ofChange rootIsSpec)) rootIsCard

/-- THE TIED CARD OF 'zigguratlaw08.RootRise'. -/
def rootRiseCard : Claim7 := { stood := { row := rootRiseRow, standIns := [], harness := (true, "e4c6b06c98519b5c8dfe68b281d07fe7b7a84dc9b3dae642b0b4800bdb6c29d5"), looks := false }, kinds := [], alts := [], laidByText := true, laidKinds := [.data], laidTests := true, laidLooks := .later }
def RootRiseCardSaid : Prop := Claim7.holds Tryd.pinned (.plain (OpenSpec.ofChange rootRiseSpec)) rootRiseCard

/-- THE SECOND FORM's CARD OF 'zigguratlaw08.RootTells'. -/
def rootTellsUptoCard : Claim7 := { stood := { row := rootTellsUptoRow, standIns := [], harness := (true, "e4c6b06c98519b5c8dfe68b281d07fe7b7a84dc9b3dae642b0b4800bdb6c29d5"), looks := false }, kinds := [], alts := [], laidByText := true, laidKinds := [.data], laidTests := true, laidLooks := .later }
def RootTellsUptoCardSaid : Prop := Claim7.holds Tryd.pinned (.plain (OpenSpec.upto rootTellsSpec)) rootTellsUptoCard

/-- THE SECOND FORM's CARD OF 'zigguratlaw08.RootBetween'. -/
def rootBetweenUptoCard : Claim7 := { stood := { row := rootBetweenUptoRow, standIns := [], harness := (true, "e4c6b06c98519b5c8dfe68b281d07fe7b7a84dc9b3dae642b0b4800bdb6c29d5"), looks := false }, kinds := [], alts := [], laidByText := true, laidKinds := [.data], laidTests := true, laidLooks := .later }
def RootBetweenUptoCardSaid : Prop := Claim7.holds Tryd.pinned (.plain (OpenSpec.upto rootBetweenSpec)) rootBetweenUptoCard

/-- THE SECOND FORM's CARD OF 'zigguratlaw08.RootSquare'. -/
def rootSquareUptoCard : Claim7 := { stood := { row := rootSquareUptoRow, standIns := [], harness := (true, "e4c6b06c98519b5c8dfe68b281d07fe7b7a84dc9b3dae642b0b4800bdb6c29d5"), looks := false }, kinds := [], alts := [], laidByText := true, laidKinds := [.data], laidTests := true, laidLooks := .later }
def RootSquareUptoCardSaid : Prop := Claim7.holds Tryd.pinned (.plain (OpenSpec.upto rootSquareSpec)) rootSquareUptoCard

/-- THE SECOND FORM's CARD OF 'zigguratlaw08.RootPowers'. -/
def rootPowersUptoCard : Claim7 := { stood := { row := rootPowersUptoRow, standIns := [], harness := (true, "e4c6b06c98519b5c8dfe68b281d07fe7b7a84dc9b3dae642b0b4800bdb6c29d5"), looks := false }, kinds := [], alts := [], laidByText := true, laidKinds := [.data], laidTests := true, laidLooks := .later }
def RootPowersUptoCardSaid : Prop := Claim7.holds Tryd.pinned (.plain (OpenSpec.upto rootPowersSpec)) rootPowersUptoCard

/-- THE SECOND FORM's CARD OF 'zigguratlaw08.RootOfRoot'. -/
def rootOfRootUptoCard : Claim7 := { stood := { row := rootOfRootUptoRow, standIns := [], harness := (true, "e4c6b06c98519b5c8dfe68b281d07fe7b7a84dc9b3dae642b0b4800bdb6c29d5"), looks := false }, kinds := [], alts := [], laidByText := true, laidKinds := [.data], laidTests := true, laidLooks := .later }
def RootOfRootUptoCardSaid : Prop := Claim7.holds Tryd.pinned (.plain (OpenSpec.upto rootOfRootSpec)) rootOfRootUptoCard

/-- THE SECOND FORM's CARD OF 'zigguratlaw08.RootScaled'. -/
def rootScaledUptoCard : Claim7 := { stood := { row := rootScaledUptoRow, standIns := [], harness := (true, "e4c6b06c98519b5c8dfe68b281d07fe7b7a84dc9b3dae642b0b4800bdb6c29d5"), looks := false }, kinds := [], alts := [], laidByText := true, laidKinds := [.data], laidTests := true, laidLooks := .later }
def RootScaledUptoCardSaid : Prop := Claim7.holds Tryd.pinned (.plain (OpenSpec.upto rootScaledSpec)) rootScaledUptoCard

/-- THE SECOND FORM's CARD OF 'zigguratlaw08.RootMost'. -/
def rootMostUptoCard : Claim7 := { stood := { row := rootMostUptoRow, standIns := [], harness := (true, "e4c6b06c98519b5c8dfe68b281d07fe7b7a84dc9b3dae642b0b4800bdb6c29d5"), looks := false }, kinds := [], alts := [], laidByText := true, laidKinds := [.data], laidTests := true, laidLooks := .later }
def RootMostUptoCardSaid : Prop := Claim7.holds Tryd.pinned (.plain (OpenSpec.upto rootMostSpec)) rootMostUptoCard

/-- THE SECOND FORM's CARD OF 'zigguratlaw08.RootIs'. -/
def rootIsUptoCard : Claim7 := { stood := { row := rootIsUptoRow, standIns := [], harness := (true, "e4c6b06c98519b5c8dfe68b281d07fe7b7a84dc9b3dae642b0b4800bdb6c29d5"), looks := false }, kinds := [], alts := [], laidByText := true, laidKinds := [.data], laidTests := true, laidLooks := .later }
def RootIsUptoCardSaid : Prop := Claim7.holds Tryd.pinned (.plain (OpenSpec.upto rootIsSpec)) rootIsUptoCard

/-- THE SECOND FORM's CARD OF 'zigguratlaw08.RootRise'. -/
def rootRiseUptoCard : Claim7 := { stood := { row := rootRiseUptoRow, standIns := [], harness := (true, "e4c6b06c98519b5c8dfe68b281d07fe7b7a84dc9b3dae642b0b4800bdb6c29d5"), looks := false }, kinds := [], alts := [], laidByText := true, laidKinds := [.data], laidTests := true, laidLooks := .later }
def RootRiseUptoCardSaid : Prop := Claim7.holds Tryd.pinned (.plain (OpenSpec.upto rootRiseSpec)) rootRiseUptoCard
end Rows
end Go.Proofs.YtffkedepffjobaaDoor
