/-
  DERIVED. GIVEN WITH THE SEED: THE CARDS: each row of YtgdbaejcbfofoaaDoorRows.lean that lists a variable, with what it lists TIED to the program's text (the seventh form; the later family's looks); each row that meets fmt, with fmt's text TOLD by the authors' own Lean function (tested against real Go, not proved from fmt's source: count such statements apart). THE CARD IS WHAT COUNTS. Prove the row's statement (the work); the ties are given (YtgdbaejcbfofoaaDoorTie.lean); close each card by the builder's one call (the guide's Derived/Test/ToyasCard.lean, 'card_holds'). Laid BY PROGRAM, IN A SANDBOX (cutbox-door.mjs). By AI agents, Wed Nov 11 2026. No macro, syntax, notation, axiom, sorry.
-/
import Derived.Test.YtgdbaejcbfofoaaDoorRows
import GoSem.ClaimSeven
namespace Go.Proofs.YtgdbaejcbfofoaaDoor
namespace Rows

/-- THE TIED CARD OF 'strongboxlaw04.AmountDust'. -/
def amountDustCard : Claim7 := { stood := { row := amountDustRow, standIns := [], harness := (true, "812ca5cb9d665199e90a73e97469644fb95386882bbf290fbf7147066bf730dd"), looks := false }, kinds := [], alts := [], laidByText := true, laidKinds := [.data, .data, .data], laidTests := true, laidLooks := .later }
def AmountDustCardSaid : Prop := Claim7.holds Tryd.pinned (.plain (OpenSpec.ofChange amountDustSpec)) amountDustCard

/-- THE TIED CARD OF 'strongboxlaw04.AmountFees'. -/
def amountFeesCard : Claim7 := { stood := { row := amountFeesRow, standIns := [], harness := (true, "812ca5cb9d665199e90a73e97469644fb95386882bbf290fbf7147066bf730dd"), looks := false }, kinds := [], alts := [], laidByText := true, laidKinds := [.data, .data, .data], laidTests := true, laidLooks := .later }
def AmountFeesCardSaid : Prop := Claim7.holds Tryd.pinned (.plain (OpenSpec.ofChange amountFeesSpec)) amountFeesCard

/-- THE TIED CARD OF 'strongboxlaw04.AmountBack'. -/
def amountBackCard : Claim7 := { stood := { row := amountBackRow, standIns := [], harness := (true, "812ca5cb9d665199e90a73e97469644fb95386882bbf290fbf7147066bf730dd"), looks := false }, kinds := [], alts := [], laidByText := true, laidKinds := [.data, .data, .data], laidTests := true, laidLooks := .later }
def AmountBackCardSaid : Prop := Claim7.holds Tryd.pinned (.plain (OpenSpec.ofChange amountBackSpec)) amountBackCard

/-- THE TIED CARD OF 'strongboxlaw04.AmountAdds'. -/
def amountAddsCard : Claim7 := { stood := { row := amountAddsRow, standIns := [], harness := (true, "812ca5cb9d665199e90a73e97469644fb95386882bbf290fbf7147066bf730dd"), looks := false }, kinds := [], alts := [], laidByText := true, laidKinds := [.data, .data, .data], laidTests := true, laidLooks := .later }
def AmountAddsCardSaid : Prop := Claim7.holds Tryd.pinned (.plain (OpenSpec.ofChange amountAddsSpec)) amountAddsCard

/-- THE SECOND FORM's CARD OF 'strongboxlaw04.AmountDust'. -/
def amountDustUptoCard : Claim7 := { stood := { row := amountDustUptoRow, standIns := [], harness := (true, "812ca5cb9d665199e90a73e97469644fb95386882bbf290fbf7147066bf730dd"), looks := false }, kinds := [], alts := [], laidByText := true, laidKinds := [.data, .data, .data], laidTests := true, laidLooks := .later }
def AmountDustUptoCardSaid : Prop := Claim7.holds Tryd.pinned (.plain (OpenSpec.upto amountDustSpec)) amountDustUptoCard

/-- THE SECOND FORM's CARD OF 'strongboxlaw04.AmountFees'. -/
def amountFeesUptoCard : Claim7 := { stood := { row := amountFeesUptoRow, standIns := [], harness := (true, "812ca5cb9d665199e90a73e97469644fb95386882bbf290fbf7147066bf730dd"), looks := false }, kinds := [], alts := [], laidByText := true, laidKinds := [.data, .data, .data], laidTests := true, laidLooks := .later }
def AmountFeesUptoCardSaid : Prop := Claim7.holds Tryd.pinned (.plain (OpenSpec.upto amountFeesSpec)) amountFeesUptoCard

/-- THE SECOND FORM's CARD OF 'strongboxlaw04.AmountBack'. -/
def amountBackUptoCard : Claim7 := { stood := { row := amountBackUptoRow, standIns := [], harness := (true, "812ca5cb9d665199e90a73e97469644fb95386882bbf290fbf7147066bf730dd"), looks := false }, kinds := [], alts := [], laidByText := true, laidKinds := [.data, .data, .data], laidTests := true, laidLooks := .later }
def AmountBackUptoCardSaid : Prop := Claim7.holds Tryd.pinned (.plain (OpenSpec.upto amountBackSpec)) amountBackUptoCard

/-- THE SECOND FORM's CARD OF 'strongboxlaw04.AmountAdds'. -/
def amountAddsUptoCard : Claim7 := { stood := { row := amountAddsUptoRow, standIns := [], harness := (true, "812ca5cb9d665199e90a73e97469644fb95386882bbf290fbf7147066bf730dd"), looks := false }, kinds := [], alts := [], laidByText := true, laidKinds := [.data, .data, .data], laidTests := true, laidLooks := .later }
def AmountAddsUptoCardSaid : Prop := Claim7.holds Tryd.pinned (.plain (OpenSpec.upto amountAddsSpec)) amountAddsUptoCard
end Rows
end Go.Proofs.YtgdbaejcbfofoaaDoor
