/- The transaction object of package quorateref in memory. Conditions: none. -/
import Derived.Test.YtbfahkpckhbajaaDoorQNext
import Derived.Test.YtbfahkpckhbajaaDoorQDec
import Derived.Test.YtbfahkpckhbajaaDoorQHeld
namespace Go.Proofs.YtbfahkpckhbajaaDoor
open Go.RowKit
set_option linter.unusedVariables false

/-- The word of a phase. -/
def wordOf (p : Int) : ByteArray :=
  if p = 0 then ⟨#[98, 101, 103, 105, 110]⟩ else if p = 1 then ⟨#[108, 111, 111, 107]⟩ else if p = 2 then ⟨#[104, 111, 108, 100]⟩ else if p = 3 then ⟨#[97, 115, 107]⟩
  else if p = 4 then ⟨#[101, 110, 100]⟩ else if p = 5 then ⟨#[102, 114, 101, 101]⟩ else if p = 6 then ⟨#[99, 111, 109, 109, 105, 116]⟩ else if p = 7 then ⟨#[97, 98, 111, 114, 116]⟩
  else if p = 8 then ⟨#[99, 108, 101, 97, 114]⟩ else if p = 9 then ⟨#[103, 105, 118, 101]⟩ else ⟨#[]⟩

/-- The cells of quorateref's transaction T, whose field Done is dn. -/
def rxCells (T : Tx) (pb pc : Nat) (ov : Value) (dn : Bool) : Array Value :=
  #[.int .i64 T.id, .slice (some ⟨pb, 0, none⟩) T.parts.length pc, .string (wordOf T.phase), .int .i64 T.at_, ov, .int .i64 T.num, .int .i64 T.hol, .int .i64 T.nxt, .int .i64 T.version, .bool dn, .int .i64 T.state]

/-- The transaction T lies, as quorateref holds it, in block b of w, its parts in block pb, what its keys held in the row ov; dn is its field Done. -/
structure IsRx (B : Nat) (w : World) (b : Nat) (T : Tx) (pb pc : Nat) (ov : Value) (dn : Bool) : Prop where
  blk : w.heap[b]? = some (.cells (rxCells T pb pc ov dn) 45 (0, 0))
  parts : ∀ j, j < T.parts.length → w.cell? ⟨pb, j * 2, none⟩ = some (.string (T.parts.getD j (.empty, 0)).1) ∧ w.cell? ⟨pb, j * 2 + 1, none⟩ = some (.int .i64 (T.parts.getD j (.empty, 0)).2)
  old : w.ownsRow B 3 1 ov T.old.length (T.old.map (Value.int .i64))
  wf : T.Wf
  base : B ≤ b ∧ B ≤ pb ∧ pb < w.heap.size
  dj : pb ≠ b ∧ ov.ownBlock ≠ some b ∧ ov.ownBlock ≠ some pb
  dn : T.phase = 5 ∨ T.phase = 8 ∨ T.phase = 9 → dn = T.will
end Go.Proofs.YtbfahkpckhbajaaDoor
