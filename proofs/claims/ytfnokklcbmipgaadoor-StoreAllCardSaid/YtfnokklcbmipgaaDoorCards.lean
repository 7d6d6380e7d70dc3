/-
  DERIVED. GIVEN WITH THE SEED: THE CARDS: each row of YtfnokklcbmipgaaDoorRows.lean that lists a variable, with what it lists TIED to the program's text (the seventh form; the later family's looks); each row that meets fmt, with fmt's text TOLD by the authors' own Lean function (tested against real Go, not proved from fmt's source: count such statements apart). THE CARD IS WHAT COUNTS. Prove the row's statement (the work); the ties are given (YtfnokklcbmipgaaDoorTie.lean); close each card by the builder's one call (the guide's Derived/Test/ToyasCard.lean, 'card_holds'). Laid BY PROGRAM, IN A SANDBOX (cutbox-door.mjs). By AI agents, Wed Nov 11 2026. No macro, syntax, notation, axiom, sorry.
-/
import Derived.Test.YtfnokklcbmipgaaDoorRows
import GoSem.ClaimSeven
namespace Go.Proofs.YtfnokklcbmipgaaDoor
namespace Rows

/-- THE TIED CARD OF 'linhaylaw11.ArenaBack'. -/
def arenaBackCard : Claim7 := { stood := { row := arenaBackRow, standIns := [], harness := (true, "051f33ce28d98ac143412fab6b2c6fbe4b6578926263434ed0e75212eaa4cccf"), looks := false }, kinds := [], alts := [], laidByText := true, laidKinds := [.data], laidTests := true, laidLooks := .later }
def ArenaBackCardSaid : Prop := Claim7.holds Tryd.pinned (.plain (OpenSpec.ofChange arenaBackSpec)) arenaBackCard

/-- THE TIED CARD OF 'linhaylaw11.ArenaAll'. -/
def arenaAllCard : Claim7 := { stood := { row := arenaAllRow, standIns := [], harness := (true, "051f33ce28d98ac143412fab6b2c6fbe4b6578926263434ed0e75212eaa4cccf"), looks := false }, kinds := [], alts := [], laidByText := true, laidKinds := [.data], laidTests := true, laidLooks := .later }
def ArenaAllCardSaid : Prop := Claim7.holds Tryd.pinned (.plain (OpenSpec.ofChange arenaAllSpec)) arenaAllCard

/-- THE TIED CARD OF 'linhaylaw11.ArenaRoom'. -/
def arenaRoomCard : Claim7 := { stood := { row := arenaRoomRow, standIns := [], harness := (true, "051f33ce28d98ac143412fab6b2c6fbe4b6578926263434ed0e75212eaa4cccf"), looks := false }, kinds := [], alts := [], laidByText := true, laidKinds := [.data], laidTests := true, laidLooks := .later }
def ArenaRoomCardSaid : Prop := Claim7.holds Tryd.pinned (.plain (OpenSpec.ofChange arenaRoomSpec)) arenaRoomCard

/-- THE TIED CARD OF 'linhaylaw11.ArenaFirst'. -/
def arenaFirstCard : Claim7 := { stood := { row := arenaFirstRow, standIns := [], harness := (true, "051f33ce28d98ac143412fab6b2c6fbe4b6578926263434ed0e75212eaa4cccf"), looks := false }, kinds := [], alts := [], laidByText := true, laidKinds := [.data], laidTests := true, laidLooks := .later }
def ArenaFirstCardSaid : Prop := Claim7.holds Tryd.pinned (.plain (OpenSpec.ofChange arenaFirstSpec)) arenaFirstCard

/-- THE TIED CARD OF 'linhaylaw11.ArenaTurns'. -/
def arenaTurnsCard : Claim7 := { stood := { row := arenaTurnsRow, standIns := [], harness := (true, "051f33ce28d98ac143412fab6b2c6fbe4b6578926263434ed0e75212eaa4cccf"), looks := false }, kinds := [], alts := [], laidByText := true, laidKinds := [.data], laidTests := true, laidLooks := .later }
def ArenaTurnsCardSaid : Prop := Claim7.holds Tryd.pinned (.plain (OpenSpec.ofChange arenaTurnsSpec)) arenaTurnsCard

/-- THE TIED CARD OF 'linhaylaw12.StoreBack'. -/
def storeBackCard : Claim7 := { stood := { row := storeBackRow, standIns := [], harness := (true, "051f33ce28d98ac143412fab6b2c6fbe4b6578926263434ed0e75212eaa4cccf"), looks := false }, kinds := [], alts := [], laidByText := true, laidKinds := [.data], laidTests := true, laidLooks := .later }
def StoreBackCardSaid : Prop := Claim7.holds Tryd.pinned (.plain (OpenSpec.ofChange storeBackSpec)) storeBackCard

/-- THE TIED CARD OF 'linhaylaw12.StoreNone'. -/
def storeNoneCard : Claim7 := { stood := { row := storeNoneRow, standIns := [], harness := (true, "051f33ce28d98ac143412fab6b2c6fbe4b6578926263434ed0e75212eaa4cccf"), looks := false }, kinds := [], alts := [], laidByText := true, laidKinds := [.data], laidTests := true, laidLooks := .later }
def StoreNoneCardSaid : Prop := Claim7.holds Tryd.pinned (.plain (OpenSpec.ofChange storeNoneSpec)) storeNoneCard

/-- THE TIED CARD OF 'linhaylaw12.StoreOrder'. -/
def storeOrderCard : Claim7 := { stood := { row := storeOrderRow, standIns := [], harness := (true, "051f33ce28d98ac143412fab6b2c6fbe4b6578926263434ed0e75212eaa4cccf"), looks := false }, kinds := [], alts := [], laidByText := true, laidKinds := [.data], laidTests := true, laidLooks := .later }
def StoreOrderCardSaid : Prop := Claim7.holds Tryd.pinned (.plain (OpenSpec.ofChange storeOrderSpec)) storeOrderCard

/-- THE TIED CARD OF 'linhaylaw12.StorePacks'. -/
def storePacksCard : Claim7 := { stood := { row := storePacksRow, standIns := [], harness := (true, "051f33ce28d98ac143412fab6b2c6fbe4b6578926263434ed0e75212eaa4cccf"), looks := false }, kinds := [], alts := [], laidByText := true, laidKinds := [.data], laidTests := true, laidLooks := .later }
def StorePacksCardSaid : Prop := Claim7.holds Tryd.pinned (.plain (OpenSpec.ofChange storePacksSpec)) storePacksCard

/-- THE TIED CARD OF 'linhaylaw12.StoreAll'. -/
def storeAllCard : Claim7 := { stood := { row := storeAllRow, standIns := [], harness := (true, "051f33ce28d98ac143412fab6b2c6fbe4b6578926263434ed0e75212eaa4cccf"), looks := false }, kinds := [], alts := [], laidByText := true, laidKinds := [.data], laidTests := true, laidLooks := .later }
def StoreAllCardSaid : Prop := Claim7.holds Tryd.pinned (.plain (OpenSpec.ofChange storeAllSpec)) storeAllCard

/-- THE SECOND FORM's CARD OF 'linhaylaw11.ArenaBack'. -/
def arenaBackUptoCard : Claim7 := { stood := { row := arenaBackUptoRow, standIns := [], harness := (true, "051f33ce28d98ac143412fab6b2c6fbe4b6578926263434ed0e75212eaa4cccf"), looks := false }, kinds := [], alts := [], laidByText := true, laidKinds := [.data], laidTests := true, laidLooks := .later }
def ArenaBackUptoCardSaid : Prop := Claim7.holds Tryd.pinned (.plain (OpenSpec.upto arenaBackSpec)) arenaBackUptoCard

/-- THE SECOND FORM's CARD OF 'linhaylaw11.ArenaAll'. -/
def arenaAllUptoCard : Claim7 := { stood := { row := arenaAllUptoRow, standIns := [], harness := (true, "051f33ce28d98ac143412fab6b2c6fbe4b6578926263434ed0e75212eaa4cccf"), looks := false }, kinds := [], alts := [], laidByText := true, laidKinds := [.data], laidTests := true, laidLooks := .later }
def ArenaAllUptoCardSaid : Prop := Claim7.holds Tryd.pinned (.plain (OpenSpec.upto arenaAllSpec)) arenaAllUptoCard

/-- THE SECOND FORM's CARD OF 'linhaylaw11.ArenaRoom'. -/
def arenaRoomUptoCard : Claim7 := { stood := { row := arenaRoomUptoRow, standIns := [], harness := (true, "051f33ce28d98ac143412fab6b2c6fbe4b6578926263434ed0e75212eaa4cccf"), looks := false }, kinds := [], alts := [], laidByText := true, laidKinds := [.data], laidTests := true, laidLooks := .later }
def ArenaRoomUptoCardSaid : Prop := Claim7.holds Tryd.pinned (.plain (OpenSpec.upto arenaRoomSpec)) arenaRoomUptoCard

/-- THE SECOND FORM's CARD OF 'linhaylaw11.ArenaFirst'. -/
def arenaFirstUptoCard : Claim7 := { stood := { row := arenaFirstUptoRow, standIns := [], harness := (true, "051f33ce28d98ac143412fab6b2c6fbe4b6578926263434ed0e75212eaa4cccf"), looks := false }, kinds := [], alts := [], laidByText := true, laidKinds := [.data], laidTests := true, laidLooks := .later }
def ArenaFirstUptoCardSaid : Prop := Claim7.holds Tryd.pinned (.plain (OpenSpec.upto arenaFirstSpec)) arenaFirstUptoCard

/-- THE SECOND FORM's CARD OF 'linhaylaw11.ArenaTurns'. -/
def arenaTurnsUptoCard : Claim7 := { stood := { row := arenaTurnsUptoRow, standIns := [], harness := (true, "051f33ce28d98ac143412fab6b2c6fbe4b6578926263434ed0e75212eaa4cccf"), looks := false }, kinds := [], alts := [], laidByText := true, laidKinds := [.data], laidTests := true, laidLooks := .later }
def ArenaTurnsUptoCardSaid : Prop := Claim7.holds Tryd.pinned (.plain (OpenSpec.upto arenaTurnsSpec)) arenaTurnsUptoCard

/-- THE SECOND FORM's CARD OF 'linhaylaw12.StoreBack'. -/
def storeBackUptoCard : Claim7 := { stood := { row := storeBackUptoRow, standIns := [], harness := (true, "051f33ce28d98ac143412fab6b2c6fbe4b6578926263434ed0e75212eaa4cccf"), looks := false }, kinds := [], alts := [], laidByText := true, laidKinds := [.data], laidTests := true, laidLooks := .later }
def StoreBackUptoCardSaid : Prop := Claim7.holds Tryd.pinned (.plain (OpenSpec.upto storeBackSpec)) storeBackUptoCard

/-- THE SECOND FORM's CARD OF 'linhaylaw12.StoreNone'. -/
def storeNoneUptoCard : Claim7 := { stood := { row := storeNoneUptoRow, standIns := [], harness := (true, "051f33ce28d98ac143412fab6b2c6fbe4b6578926263434ed0e75212eaa4cccf"), looks := false }, kinds := [], alts := [], laidByText := true, laidKinds := [.data], laidTests := true, laidLooks := .later }
def StoreNoneUptoCardSaid : Prop := Claim7.holds Tryd.pinned (.plain (OpenSpec.upto storeNoneSpec)) storeNoneUptoCard

/-- THE SECOND FORM's CARD OF 'linhaylaw12.StoreOrder'. -/
def storeOrderUptoCard : Claim7 := { stood := { row := storeOrderUptoRow, standIns := [], harness := (true, "051f33ce28d98ac143412fab6b2c6fbe4b6578926263434ed0e75212eaa4cccf"), looks := false }, kinds := [], alts := [], laidByText := true, laidKinds := [.data], laidTests := true, laidLooks := .later }
def StoreOrderUptoCardSaid : Prop := Claim7.holds Tryd.pinned (.plain (OpenSpec.upto storeOrderSpec)) storeOrderUptoCard

/-- THE SECOND FORM's CARD OF 'linhaylaw12.StorePacks'. -/
def storePacksUptoCard : Claim7 := { stood := { row := storePacksUptoRow, standIns := [], harness := (true, "051f33ce28d98ac143412fab6b2c6fbe4b6578926263434ed0e75212eaa4cccf"), looks := false }, kinds := [], alts := [], laidByText := true, laidKinds := [.data], laidTests := true, laidLooks := .later }
def StorePacksUptoCardSaid : Prop := Claim7.holds Tryd.pinned (.plain (OpenSpec.upto storePacksSpec)) storePacksUptoCard

/-- THE SECOND FORM's CARD OF 'linhaylaw12.StoreAll'. -/
def storeAllUptoCard : Claim7 := { stood := { row := storeAllUptoRow, standIns := [], harness := (true, "051f33ce28d98ac143412fab6b2c6fbe4b6578926263434ed0e75212eaa4cccf"), looks := false }, kinds := [], alts := [], laidByText := true, laidKinds := [.data], laidTests := true, laidLooks := .later }
def StoreAllUptoCardSaid : Prop := Claim7.holds Tryd.pinned (.plain (OpenSpec.upto storeAllSpec)) storeAllUptoCard
end Rows
end Go.Proofs.YtfnokklcbmipgaaDoor
