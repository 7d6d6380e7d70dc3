/-
  NARROWER THAN 'FOR EVERY INPUT', by the rows' own cells (each row's printed sentence says how): ArenaBack: laid · ArenaAll: laid · ArenaRoom: laid · ArenaFirst: laid · ArenaTurns: laid · StoreBack: laid · StoreNone: laid · StoreOrder: laid · StorePacks: laid · StoreAll: laid.
  DERIVED. THE GIVEN ROWS OF THIS SEAT. 10 by the template 'for every input the law returns true; each argument reads behind the call as it read before'; 0 by the template 'total and deterministic' (their statements: YtfnokklcbmipgaaDoorTotals.lean).
  GIVEN WITH THE SEED: the statements are not yours to turn. If you find one false, say at which input.
  Laid BY PROGRAM, IN A SANDBOX (cutbox-rows.mjs): the forced cells as the released guide's own fill.sh prints them over the translation 11d9d08192dc0ded… (all of the seat's roots in one cut). By AI agents, Wed Nov 11 2026. No macro, syntax, notation, axiom, sorry.
-/
import Derived.Test.YtfnokklcbmipgaaDoorChecked
import GoSem.Claim
import GoSem.ClaimJoined
import GoSem.ClaimMapViews
import Derived.JoinedTies
import Derived.KernelRfl
namespace Go.Proofs.YtfnokklcbmipgaaDoor
/- THE CELL 'sum', in the pinned program and in every row, IS THE sha256 OF THE DUMP (.gsa) THAT YtfnokklcbmipgaaDoorProg.lean LOADS. Nothing in Lean hashes anything: it is a label: what it is worth is what the hold of that sum in a sandbox is worth. -/
noncomputable def Tryd.pinned : Pinned := { name := "ytfnokklcbmipgaadoor", sum := "11d9d08192dc0dedd8485aad416c59c7c0ab8ec248efeb89f7518d3bea7b55e7", checked := Tryd.checked }
namespace Rows
def none {H : Type} : Left H := { results := [], args := [] }

/- WHAT THE LISTED PACKAGE-LEVEL VARIABLES READ AS WHEN THE CALL BEGINS. Each datum BY PROGRAM (the guide's laid-datum.mjs) off the statement by which the dump's own 'gosem.cut.vars' lays the variable. In a bare row this is a premise. The card (YtfnokklcbmipgaaDoorCards.lean) ties it to the program's text. -/
def laid_math_bits_deBruijn64tab {H : Type} : DataW H := .agg [.lit (.int .u8 0), .lit (.int .u8 1), .lit (.int .u8 56), .lit (.int .u8 2), .lit (.int .u8 57), .lit (.int .u8 49), .lit (.int .u8 28), .lit (.int .u8 3), .lit (.int .u8 61), .lit (.int .u8 58), .lit (.int .u8 42), .lit (.int .u8 50), .lit (.int .u8 38), .lit (.int .u8 29), .lit (.int .u8 17), .lit (.int .u8 4), .lit (.int .u8 62), .lit (.int .u8 47), .lit (.int .u8 59), .lit (.int .u8 36), .lit (.int .u8 45), .lit (.int .u8 43), .lit (.int .u8 51), .lit (.int .u8 22), .lit (.int .u8 53), .lit (.int .u8 39), .lit (.int .u8 33), .lit (.int .u8 30), .lit (.int .u8 24), .lit (.int .u8 18), .lit (.int .u8 12), .lit (.int .u8 5), .lit (.int .u8 63), .lit (.int .u8 55), .lit (.int .u8 48), .lit (.int .u8 27), .lit (.int .u8 60), .lit (.int .u8 41), .lit (.int .u8 37), .lit (.int .u8 16), .lit (.int .u8 46), .lit (.int .u8 35), .lit (.int .u8 44), .lit (.int .u8 21), .lit (.int .u8 52), .lit (.int .u8 32), .lit (.int .u8 23), .lit (.int .u8 11), .lit (.int .u8 54), .lit (.int .u8 26), .lit (.int .u8 40), .lit (.int .u8 15), .lit (.int .u8 34), .lit (.int .u8 20), .lit (.int .u8 31), .lit (.int .u8 10), .lit (.int .u8 25), .lit (.int .u8 14), .lit (.int .u8 19), .lit (.int .u8 9), .lit (.int .u8 13), .lit (.int .u8 8), .lit (.int .u8 7), .lit (.int .u8 6)]

/-- 'linhaylaw11.ArenaBack': WHATEVER THE INPUT: true; the input reads as it did. -/
def arenaBackSpec : ChangeSpec := { name := "arenaBack", fn := fun _ => fun
  | [d1, d2, d3] => { results := [.lit (.bool true)], args := [d1, d2, d3] }
  | _ => none }
def arenaBackRow : OpenClaim := { program := "ytfnokklcbmipgaadoor", sum := "11d9d08192dc0dedd8485aad416c59c7c0ab8ec248efeb89f7518d3bea7b55e7", func := "linhay/linhaylaw11.ArenaBack", spec := "arenaBack", unfollowed := true, recurses := true, named := ["math/bits.deBruijn64tab"], apart := false, laid := [("math/bits.deBruijn64tab", laid_math_bits_deBruijn64tab)] }
def ArenaBackSaid : Prop := arenaBackRow.holds Tryd.pinned (OpenSpec.ofChange arenaBackSpec)

/-- ITS FALSE NEIGHBOUR: 'it returns false'. Refute it at one input. -/
def arenaBackWrong : ChangeSpec := { name := "arenaBack", fn := fun _ => fun
  | [d1, d2, d3] => { results := [.lit (.bool false)], args := [d1, d2, d3] }
  | _ => none }
def ArenaBackWrongFalsely : Prop := arenaBackRow.holds Tryd.pinned (OpenSpec.ofChange arenaBackWrong)

/-- 'linhaylaw11.ArenaAll': WHATEVER THE INPUT: true; the input reads as it did. -/
def arenaAllSpec : ChangeSpec := { name := "arenaAll", fn := fun _ => fun
  | [d1, d2] => { results := [.lit (.bool true)], args := [d1, d2] }
  | _ => none }
def arenaAllRow : OpenClaim := { program := "ytfnokklcbmipgaadoor", sum := "11d9d08192dc0dedd8485aad416c59c7c0ab8ec248efeb89f7518d3bea7b55e7", func := "linhay/linhaylaw11.ArenaAll", spec := "arenaAll", unfollowed := true, recurses := true, named := ["math/bits.deBruijn64tab"], apart := false, laid := [("math/bits.deBruijn64tab", laid_math_bits_deBruijn64tab)] }
def ArenaAllSaid : Prop := arenaAllRow.holds Tryd.pinned (OpenSpec.ofChange arenaAllSpec)

/-- ITS FALSE NEIGHBOUR: 'it returns false'. Refute it at one input. -/
def arenaAllWrong : ChangeSpec := { name := "arenaAll", fn := fun _ => fun
  | [d1, d2] => { results := [.lit (.bool false)], args := [d1, d2] }
  | _ => none }
def ArenaAllWrongFalsely : Prop := arenaAllRow.holds Tryd.pinned (OpenSpec.ofChange arenaAllWrong)

/-- 'linhaylaw11.ArenaRoom': WHATEVER THE INPUT: true; the input reads as it did. -/
def arenaRoomSpec : ChangeSpec := { name := "arenaRoom", fn := fun _ => fun
  | [d1, d2] => { results := [.lit (.bool true)], args := [d1, d2] }
  | _ => none }
def arenaRoomRow : OpenClaim := { program := "ytfnokklcbmipgaadoor", sum := "11d9d08192dc0dedd8485aad416c59c7c0ab8ec248efeb89f7518d3bea7b55e7", func := "linhay/linhaylaw11.ArenaRoom", spec := "arenaRoom", unfollowed := true, recurses := true, named := ["math/bits.deBruijn64tab"], apart := false, laid := [("math/bits.deBruijn64tab", laid_math_bits_deBruijn64tab)] }
def ArenaRoomSaid : Prop := arenaRoomRow.holds Tryd.pinned (OpenSpec.ofChange arenaRoomSpec)

/-- ITS FALSE NEIGHBOUR: 'it returns false'. Refute it at one input. -/
def arenaRoomWrong : ChangeSpec := { name := "arenaRoom", fn := fun _ => fun
  | [d1, d2] => { results := [.lit (.bool false)], args := [d1, d2] }
  | _ => none }
def ArenaRoomWrongFalsely : Prop := arenaRoomRow.holds Tryd.pinned (OpenSpec.ofChange arenaRoomWrong)

/-- 'linhaylaw11.ArenaFirst': WHATEVER THE INPUT: true; the input reads as it did. -/
def arenaFirstSpec : ChangeSpec := { name := "arenaFirst", fn := fun _ => fun
  | [d1, d2] => { results := [.lit (.bool true)], args := [d1, d2] }
  | _ => none }
def arenaFirstRow : OpenClaim := { program := "ytfnokklcbmipgaadoor", sum := "11d9d08192dc0dedd8485aad416c59c7c0ab8ec248efeb89f7518d3bea7b55e7", func := "linhay/linhaylaw11.ArenaFirst", spec := "arenaFirst", unfollowed := true, recurses := true, named := ["math/bits.deBruijn64tab"], apart := false, laid := [("math/bits.deBruijn64tab", laid_math_bits_deBruijn64tab)] }
def ArenaFirstSaid : Prop := arenaFirstRow.holds Tryd.pinned (OpenSpec.ofChange arenaFirstSpec)

/-- ITS FALSE NEIGHBOUR: 'it returns false'. Refute it at one input. -/
def arenaFirstWrong : ChangeSpec := { name := "arenaFirst", fn := fun _ => fun
  | [d1, d2] => { results := [.lit (.bool false)], args := [d1, d2] }
  | _ => none }
def ArenaFirstWrongFalsely : Prop := arenaFirstRow.holds Tryd.pinned (OpenSpec.ofChange arenaFirstWrong)

/-- 'linhaylaw11.ArenaTurns': WHATEVER THE INPUT: true; the input reads as it did. -/
def arenaTurnsSpec : ChangeSpec := { name := "arenaTurns", fn := fun _ => fun
  | [d1, d2, d3] => { results := [.lit (.bool true)], args := [d1, d2, d3] }
  | _ => none }
def arenaTurnsRow : OpenClaim := { program := "ytfnokklcbmipgaadoor", sum := "11d9d08192dc0dedd8485aad416c59c7c0ab8ec248efeb89f7518d3bea7b55e7", func := "linhay/linhaylaw11.ArenaTurns", spec := "arenaTurns", unfollowed := true, recurses := true, named := ["math/bits.deBruijn64tab"], apart := false, laid := [("math/bits.deBruijn64tab", laid_math_bits_deBruijn64tab)] }
def ArenaTurnsSaid : Prop := arenaTurnsRow.holds Tryd.pinned (OpenSpec.ofChange arenaTurnsSpec)

/-- ITS FALSE NEIGHBOUR: 'it returns false'. Refute it at one input. -/
def arenaTurnsWrong : ChangeSpec := { name := "arenaTurns", fn := fun _ => fun
  | [d1, d2, d3] => { results := [.lit (.bool false)], args := [d1, d2, d3] }
  | _ => none }
def ArenaTurnsWrongFalsely : Prop := arenaTurnsRow.holds Tryd.pinned (OpenSpec.ofChange arenaTurnsWrong)

/-- 'linhaylaw12.StoreBack': WHATEVER THE INPUT: true; the input reads as it did. -/
def storeBackSpec : ChangeSpec := { name := "storeBack", fn := fun _ => fun
  | [d1, d2, d3, d4] => { results := [.lit (.bool true)], args := [d1, d2, d3, d4] }
  | _ => none }
def storeBackRow : OpenClaim := { program := "ytfnokklcbmipgaadoor", sum := "11d9d08192dc0dedd8485aad416c59c7c0ab8ec248efeb89f7518d3bea7b55e7", func := "linhay/linhaylaw12.StoreBack", spec := "storeBack", unfollowed := true, recurses := true, named := ["math/bits.deBruijn64tab"], apart := false, laid := [("math/bits.deBruijn64tab", laid_math_bits_deBruijn64tab)] }
def StoreBackSaid : Prop := storeBackRow.holds Tryd.pinned (OpenSpec.ofChange storeBackSpec)

/-- ITS FALSE NEIGHBOUR: 'it returns false'. Refute it at one input. -/
def storeBackWrong : ChangeSpec := { name := "storeBack", fn := fun _ => fun
  | [d1, d2, d3, d4] => { results := [.lit (.bool false)], args := [d1, d2, d3, d4] }
  | _ => none }
def StoreBackWrongFalsely : Prop := storeBackRow.holds Tryd.pinned (OpenSpec.ofChange storeBackWrong)

/-- 'linhaylaw12.StoreNone': WHATEVER THE INPUT: true; the input reads as it did. -/
def storeNoneSpec : ChangeSpec := { name := "storeNone", fn := fun _ => fun
  | [d1, d2, d3] => { results := [.lit (.bool true)], args := [d1, d2, d3] }
  | _ => none }
def storeNoneRow : OpenClaim := { program := "ytfnokklcbmipgaadoor", sum := "11d9d08192dc0dedd8485aad416c59c7c0ab8ec248efeb89f7518d3bea7b55e7", func := "linhay/linhaylaw12.StoreNone", spec := "storeNone", unfollowed := true, recurses := true, named := ["math/bits.deBruijn64tab"], apart := false, laid := [("math/bits.deBruijn64tab", laid_math_bits_deBruijn64tab)] }
def StoreNoneSaid : Prop := storeNoneRow.holds Tryd.pinned (OpenSpec.ofChange storeNoneSpec)

/-- ITS FALSE NEIGHBOUR: 'it returns false'. Refute it at one input. -/
def storeNoneWrong : ChangeSpec := { name := "storeNone", fn := fun _ => fun
  | [d1, d2, d3] => { results := [.lit (.bool false)], args := [d1, d2, d3] }
  | _ => none }
def StoreNoneWrongFalsely : Prop := storeNoneRow.holds Tryd.pinned (OpenSpec.ofChange storeNoneWrong)

/-- 'linhaylaw12.StoreOrder': WHATEVER THE INPUT: true; the input reads as it did. -/
def storeOrderSpec : ChangeSpec := { name := "storeOrder", fn := fun _ => fun
  | [d1, d2, d3] => { results := [.lit (.bool true)], args := [d1, d2, d3] }
  | _ => none }
def storeOrderRow : OpenClaim := { program := "ytfnokklcbmipgaadoor", sum := "11d9d08192dc0dedd8485aad416c59c7c0ab8ec248efeb89f7518d3bea7b55e7", func := "linhay/linhaylaw12.StoreOrder", spec := "storeOrder", unfollowed := true, recurses := true, named := ["math/bits.deBruijn64tab"], apart := false, laid := [("math/bits.deBruijn64tab", laid_math_bits_deBruijn64tab)] }
def StoreOrderSaid : Prop := storeOrderRow.holds Tryd.pinned (OpenSpec.ofChange storeOrderSpec)

/-- ITS FALSE NEIGHBOUR: 'it returns false'. Refute it at one input. -/
def storeOrderWrong : ChangeSpec := { name := "storeOrder", fn := fun _ => fun
  | [d1, d2, d3] => { results := [.lit (.bool false)], args := [d1, d2, d3] }
  | _ => none }
def StoreOrderWrongFalsely : Prop := storeOrderRow.holds Tryd.pinned (OpenSpec.ofChange storeOrderWrong)

/-- 'linhaylaw12.StorePacks': WHATEVER THE INPUT: true; the input reads as it did. -/
def storePacksSpec : ChangeSpec := { name := "storePacks", fn := fun _ => fun
  | [d1, d2] => { results := [.lit (.bool true)], args := [d1, d2] }
  | _ => none }
def storePacksRow : OpenClaim := { program := "ytfnokklcbmipgaadoor", sum := "11d9d08192dc0dedd8485aad416c59c7c0ab8ec248efeb89f7518d3bea7b55e7", func := "linhay/linhaylaw12.StorePacks", spec := "storePacks", unfollowed := true, recurses := true, named := ["math/bits.deBruijn64tab"], apart := false, laid := [("math/bits.deBruijn64tab", laid_math_bits_deBruijn64tab)] }
def StorePacksSaid : Prop := storePacksRow.holds Tryd.pinned (OpenSpec.ofChange storePacksSpec)

/-- ITS FALSE NEIGHBOUR: 'it returns false'. Refute it at one input. -/
def storePacksWrong : ChangeSpec := { name := "storePacks", fn := fun _ => fun
  | [d1, d2] => { results := [.lit (.bool false)], args := [d1, d2] }
  | _ => none }
def StorePacksWrongFalsely : Prop := storePacksRow.holds Tryd.pinned (OpenSpec.ofChange storePacksWrong)

/-- 'linhaylaw12.StoreAll': WHATEVER THE INPUT: true; the input reads as it did. -/
def storeAllSpec : ChangeSpec := { name := "storeAll", fn := fun _ => fun
  | [d1, d2] => { results := [.lit (.bool true)], args := [d1, d2] }
  | _ => none }
def storeAllRow : OpenClaim := { program := "ytfnokklcbmipgaadoor", sum := "11d9d08192dc0dedd8485aad416c59c7c0ab8ec248efeb89f7518d3bea7b55e7", func := "linhay/linhaylaw12.StoreAll", spec := "storeAll", unfollowed := true, recurses := true, named := ["math/bits.deBruijn64tab"], apart := false, laid := [("math/bits.deBruijn64tab", laid_math_bits_deBruijn64tab)] }
def StoreAllSaid : Prop := storeAllRow.holds Tryd.pinned (OpenSpec.ofChange storeAllSpec)

/-- ITS FALSE NEIGHBOUR: 'it returns false'. Refute it at one input. -/
def storeAllWrong : ChangeSpec := { name := "storeAll", fn := fun _ => fun
  | [d1, d2] => { results := [.lit (.bool false)], args := [d1, d2] }
  | _ => none }
def StoreAllWrongFalsely : Prop := storeAllRow.holds Tryd.pinned (OpenSpec.ofChange storeAllWrong)

/- THE SECOND FORM. 'bulk': how many values and letters a reading holds, each counted each time it is reached (what is shared counts as often as it is met; a slice's spare places count too). A statement '..UptoSaid' is the law's where the arguments, and the package variables that the reading takes, are together of bulk at most 1048576: NARROWER than '..Said'. Prove '..Said' where nothing that the law and all that it calls make is longer than what came in: it says more and counts as full. Else prove '..UptoSaid'. A law counts once. -/
mutual
def uptoBulk {H : Type} : DataW H → Nat
  | .lit (.string bytes) => bytes.length + 1
  | .lit _ => 1
  | .nil => 1
  | .ptr d => uptoBulk d + 1
  | .slice elems spare => uptoBulkAll elems + uptoBulkAll spare + 1
  | .agg parts => uptoBulkAll parts + 1
  | .iface _ d => uptoBulk d + 1
  | .map entries => uptoBulkEntries entries + 1
  | .held _ => 1
def uptoBulkAll {H : Type} : List (DataW H) → Nat
  | [] => 0
  | d :: r => uptoBulk d + uptoBulkAll r
def uptoBulkEntries {H : Type} : List (Lit × DataW H) → Nat
  | [] => 0
  | x :: r => uptoBulkEntry x + uptoBulkEntries r
def uptoBulkEntry {H : Type} : Lit × DataW H → Nat
  | (.string bytes, d) => bytes.length + uptoBulk d + 1
  | (_, d) => uptoBulk d + 1
 end
def uptoSmall : (H : Type) → List (DataW H) → Bool := fun _ ds => decide (uptoBulkAll ds ≤ 1048576)
def OpenSpec.upto (s : _root_.Go.ChangeSpec) : _root_.Go.OpenSpec := { _root_.Go.OpenSpec.ofChange s with cond := some uptoSmall }

/-- 'linhaylaw11.ArenaBack', WHERE WHAT IT READS IS OF BULK AT MOST 1048576: true; the input reads as it did. -/
def arenaBackUptoRow : OpenClaim := { program := "ytfnokklcbmipgaadoor", sum := "11d9d08192dc0dedd8485aad416c59c7c0ab8ec248efeb89f7518d3bea7b55e7", func := "linhay/linhaylaw11.ArenaBack", spec := "arenaBack", unfollowed := true, recurses := true, named := ["math/bits.deBruijn64tab"], apart := false, laid := [("math/bits.deBruijn64tab", laid_math_bits_deBruijn64tab)], narrowed := true }
def ArenaBackUptoSaid : Prop := arenaBackUptoRow.holds Tryd.pinned (OpenSpec.upto arenaBackSpec)

/-- 'linhaylaw11.ArenaAll', WHERE WHAT IT READS IS OF BULK AT MOST 1048576: true; the input reads as it did. -/
def arenaAllUptoRow : OpenClaim := { program := "ytfnokklcbmipgaadoor", sum := "11d9d08192dc0dedd8485aad416c59c7c0ab8ec248efeb89f7518d3bea7b55e7", func := "linhay/linhaylaw11.ArenaAll", spec := "arenaAll", unfollowed := true, recurses := true, named := ["math/bits.deBruijn64tab"], apart := false, laid := [("math/bits.deBruijn64tab", laid_math_bits_deBruijn64tab)], narrowed := true }
def ArenaAllUptoSaid : Prop := arenaAllUptoRow.holds Tryd.pinned (OpenSpec.upto arenaAllSpec)

/-- 'linhaylaw11.ArenaRoom', WHERE WHAT IT READS IS OF BULK AT MOST 1048576: true; the input reads as it did. -/
def arenaRoomUptoRow : OpenClaim := { program := "ytfnokklcbmipgaadoor", sum := "11d9d08192dc0dedd8485aad416c59c7c0ab8ec248efeb89f7518d3bea7b55e7", func := "linhay/linhaylaw11.ArenaRoom", spec := "arenaRoom", unfollowed := true, recurses := true, named := ["math/bits.deBruijn64tab"], apart := false, laid := [("math/bits.deBruijn64tab", laid_math_bits_deBruijn64tab)], narrowed := true }
def ArenaRoomUptoSaid : Prop := arenaRoomUptoRow.holds Tryd.pinned (OpenSpec.upto arenaRoomSpec)

/-- 'linhaylaw11.ArenaFirst', WHERE WHAT IT READS IS OF BULK AT MOST 1048576: true; the input reads as it did. -/
def arenaFirstUptoRow : OpenClaim := { program := "ytfnokklcbmipgaadoor", sum := "11d9d08192dc0dedd8485aad416c59c7c0ab8ec248efeb89f7518d3bea7b55e7", func := "linhay/linhaylaw11.ArenaFirst", spec := "arenaFirst", unfollowed := true, recurses := true, named := ["math/bits.deBruijn64tab"], apart := false, laid := [("math/bits.deBruijn64tab", laid_math_bits_deBruijn64tab)], narrowed := true }
def ArenaFirstUptoSaid : Prop := arenaFirstUptoRow.holds Tryd.pinned (OpenSpec.upto arenaFirstSpec)

/-- 'linhaylaw11.ArenaTurns', WHERE WHAT IT READS IS OF BULK AT MOST 1048576: true; the input reads as it did. -/
def arenaTurnsUptoRow : OpenClaim := { program := "ytfnokklcbmipgaadoor", sum := "11d9d08192dc0dedd8485aad416c59c7c0ab8ec248efeb89f7518d3bea7b55e7", func := "linhay/linhaylaw11.ArenaTurns", spec := "arenaTurns", unfollowed := true, recurses := true, named := ["math/bits.deBruijn64tab"], apart := false, laid := [("math/bits.deBruijn64tab", laid_math_bits_deBruijn64tab)], narrowed := true }
def ArenaTurnsUptoSaid : Prop := arenaTurnsUptoRow.holds Tryd.pinned (OpenSpec.upto arenaTurnsSpec)

/-- 'linhaylaw12.StoreBack', WHERE WHAT IT READS IS OF BULK AT MOST 1048576: true; the input reads as it did. -/
def storeBackUptoRow : OpenClaim := { program := "ytfnokklcbmipgaadoor", sum := "11d9d08192dc0dedd8485aad416c59c7c0ab8ec248efeb89f7518d3bea7b55e7", func := "linhay/linhaylaw12.StoreBack", spec := "storeBack", unfollowed := true, recurses := true, named := ["math/bits.deBruijn64tab"], apart := false, laid := [("math/bits.deBruijn64tab", laid_math_bits_deBruijn64tab)], narrowed := true }
def StoreBackUptoSaid : Prop := storeBackUptoRow.holds Tryd.pinned (OpenSpec.upto storeBackSpec)

/-- 'linhaylaw12.StoreNone', WHERE WHAT IT READS IS OF BULK AT MOST 1048576: true; the input reads as it did. -/
def storeNoneUptoRow : OpenClaim := { program := "ytfnokklcbmipgaadoor", sum := "11d9d08192dc0dedd8485aad416c59c7c0ab8ec248efeb89f7518d3bea7b55e7", func := "linhay/linhaylaw12.StoreNone", spec := "storeNone", unfollowed := true, recurses := true, named := ["math/bits.deBruijn64tab"], apart := false, laid := [("math/bits.deBruijn64tab", laid_math_bits_deBruijn64tab)], narrowed := true }
def StoreNoneUptoSaid : Prop := storeNoneUptoRow.holds Tryd.pinned (OpenSpec.upto storeNoneSpec)

/-- 'linhaylaw12.StoreOrder', WHERE WHAT IT READS IS OF BULK AT MOST 1048576: true; the input reads as it did. -/
def storeOrderUptoRow : OpenClaim := { program := "ytfnokklcbmipgaadoor", sum := "11d9d08192dc0dedd8485aad416c59c7c0ab8ec248efeb89f7518d3bea7b55e7", func := "linhay/linhaylaw12.StoreOrder", spec := "storeOrder", unfollowed := true, recurses := true, named := ["math/bits.deBruijn64tab"], apart := false, laid := [("math/bits.deBruijn64tab", laid_math_bits_deBruijn64tab)], narrowed := true }
def StoreOrderUptoSaid : Prop := storeOrderUptoRow.holds Tryd.pinned (OpenSpec.upto storeOrderSpec)

/-- 'linhaylaw12.StorePacks', WHERE WHAT IT READS IS OF BULK AT MOST 1048576: true; the input reads as it did. -/
def storePacksUptoRow : OpenClaim := { program := "ytfnokklcbmipgaadoor", sum := "11d9d08192dc0dedd8485aad416c59c7c0ab8ec248efeb89f7518d3bea7b55e7", func := "linhay/linhaylaw12.StorePacks", spec := "storePacks", unfollowed := true, recurses := true, named := ["math/bits.deBruijn64tab"], apart := false, laid := [("math/bits.deBruijn64tab", laid_math_bits_deBruijn64tab)], narrowed := true }
def StorePacksUptoSaid : Prop := storePacksUptoRow.holds Tryd.pinned (OpenSpec.upto storePacksSpec)

/-- 'linhaylaw12.StoreAll', WHERE WHAT IT READS IS OF BULK AT MOST 1048576: true; the input reads as it did. -/
def storeAllUptoRow : OpenClaim := { program := "ytfnokklcbmipgaadoor", sum := "11d9d08192dc0dedd8485aad416c59c7c0ab8ec248efeb89f7518d3bea7b55e7", func := "linhay/linhaylaw12.StoreAll", spec := "storeAll", unfollowed := true, recurses := true, named := ["math/bits.deBruijn64tab"], apart := false, laid := [("math/bits.deBruijn64tab", laid_math_bits_deBruijn64tab)], narrowed := true }
def StoreAllUptoSaid : Prop := storeAllUptoRow.holds Tryd.pinned (OpenSpec.upto storeAllSpec)

end Rows
end Go.Proofs.YtfnokklcbmipgaaDoor
