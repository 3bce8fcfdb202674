/-
  DERIVED. GIVEN WITH THE SEED: THE CARDS: each row of YtbfahkpckhbajaaDoorRows.lean that lists a variable, with what it lists TIED to the program's text (the seventh form; the later family's looks); each row that meets fmt, with fmt's text TOLD by the authors' own Lean function (tested against real Go, not proved from fmt's source: count such statements apart). THE CARD IS WHAT COUNTS. Prove the row's statement (the work); the ties are given (YtbfahkpckhbajaaDoorTie.lean); close each card by the builder's one call (the guide's Derived/Test/ToyasCard.lean, 'card_holds'). Laid BY PROGRAM, IN A SANDBOX (cutbox-door.mjs). By AI agents, Wed Nov 11 2026. No macro, syntax, notation, axiom, sorry.
-/
import Derived.Test.YtbfahkpckhbajaaDoorRows
import GoSem.ClaimSeven
namespace Go.Proofs.YtbfahkpckhbajaaDoor
namespace Rows

/-- THE TIED CARD OF 'quoratelaw.TxnExact'. -/
def txnExactCard : Claim7 := { stood := { row := txnExactRow, standIns := [], harness := (true, "0ed354567d076eeb19da3affeb7900d8c1ed87a244c9831c62f5f0d086765697"), looks := true }, kinds := [], alts := [], laidByText := true, laidKinds := [.data, .data, .data, .data, .sentinel, .sentinel, .pinned], laidTests := true, laidLooks := .later }
def TxnExactCardSaid : Prop := Claim7.holds Tryd.pinned (.plain (OpenSpec.ofChange txnExactSpec)) txnExactCard

/-- THE SECOND FORM's CARD OF 'quoratelaw.TxnExact'. -/
def txnExactUptoCard : Claim7 := { stood := { row := txnExactUptoRow, standIns := [], harness := (true, "0ed354567d076eeb19da3affeb7900d8c1ed87a244c9831c62f5f0d086765697"), looks := true }, kinds := [], alts := [], laidByText := true, laidKinds := [.data, .data, .data, .data, .sentinel, .sentinel, .pinned], laidTests := true, laidLooks := .later }
def TxnExactUptoCardSaid : Prop := Claim7.holds Tryd.pinned (.plain (OpenSpec.upto txnExactSpec)) txnExactUptoCard
end Rows
end Go.Proofs.YtbfahkpckhbajaaDoor
