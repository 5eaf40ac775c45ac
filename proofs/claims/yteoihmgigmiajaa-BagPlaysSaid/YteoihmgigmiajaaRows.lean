/-
  No cell of these rows narrows 'for every input' (looked for: loops, veiled, ifaces, maps, wideKeys, modest, calm, conditions, laid).
  DERIVED. THE GIVEN ROWS OF THIS SEAT. 3 by the template 'for every input the law returns true; each argument reads behind the call as it read before'; 0 by the template 'total and deterministic' (their statements: YteoihmgigmiajaaTotals.lean).
  GIVEN WITH THE SEED: the statements are not yours to turn. If you find one false, say at which input.
  Laid BY PROGRAM, IN A SANDBOX (cutbox-rows.mjs): the forced cells as the released guide's own fill.sh prints them over the translation 81d61e0243e23a69… (all of the seat's roots in one cut). By AI agents, Wed Nov 11 2026. No macro, syntax, notation, axiom, sorry.
-/
import Derived.Test.YteoihmgigmiajaaChecked
import GoSem.Claim
import GoSem.ClaimJoined
import GoSem.ClaimMapViews
import Derived.JoinedTies
import Derived.KernelRfl
namespace Go.Proofs.Yteoihmgigmiajaa
/- THE CELL 'sum', in the pinned program and in every row, IS THE sha256 OF THE DUMP (.gsa) THAT YteoihmgigmiajaaProg.lean LOADS. Nothing in Lean hashes anything: it is a label: what it is worth is what the hold of that sum in a sandbox is worth. -/
noncomputable def Try.pinned : Pinned := { name := "yteoihmgigmiajaa", sum := "81d61e0243e23a69617d8f3569778bb95a9a9e59605fa9200ed583770605db1b", checked := Try.checked }
namespace Rows
def none {H : Type} : Left H := { results := [], args := [] }

/-- 'lapstonelaw21.BagPut': WHATEVER THE INPUT: true; the input reads as it did. -/
def bagPutSpec : ChangeSpec := { name := "bagPut", fn := fun _ => fun
  | [d1, d2] => { results := [.lit (.bool true)], args := [d1, d2] }
  | _ => none }
def bagPutRow : OpenClaim := { program := "yteoihmgigmiajaa", sum := "81d61e0243e23a69617d8f3569778bb95a9a9e59605fa9200ed583770605db1b", func := "lapstone/lapstonelaw21.BagPut", spec := "bagPut", unfollowed := true, recurses := true, apart := false }
def BagPutSaid : Prop := bagPutRow.holds Try.pinned (OpenSpec.ofChange bagPutSpec)

/-- ITS FALSE NEIGHBOUR: 'it returns false'. Refute it at one input. -/
def bagPutWrong : ChangeSpec := { name := "bagPut", fn := fun _ => fun
  | [d1, d2] => { results := [.lit (.bool false)], args := [d1, d2] }
  | _ => none }
def BagPutWrongFalsely : Prop := bagPutRow.holds Try.pinned (OpenSpec.ofChange bagPutWrong)

/-- 'lapstonelaw21.BagOrder': WHATEVER THE INPUT: true; the input reads as it did. -/
def bagOrderSpec : ChangeSpec := { name := "bagOrder", fn := fun _ => fun
  | [d1, d2, d3] => { results := [.lit (.bool true)], args := [d1, d2, d3] }
  | _ => none }
def bagOrderRow : OpenClaim := { program := "yteoihmgigmiajaa", sum := "81d61e0243e23a69617d8f3569778bb95a9a9e59605fa9200ed583770605db1b", func := "lapstone/lapstonelaw21.BagOrder", spec := "bagOrder", unfollowed := true, recurses := true, apart := false }
def BagOrderSaid : Prop := bagOrderRow.holds Try.pinned (OpenSpec.ofChange bagOrderSpec)

/-- ITS FALSE NEIGHBOUR: 'it returns false'. Refute it at one input. -/
def bagOrderWrong : ChangeSpec := { name := "bagOrder", fn := fun _ => fun
  | [d1, d2, d3] => { results := [.lit (.bool false)], args := [d1, d2, d3] }
  | _ => none }
def BagOrderWrongFalsely : Prop := bagOrderRow.holds Try.pinned (OpenSpec.ofChange bagOrderWrong)

/-- 'lapstonelaw21.BagPlays': WHATEVER THE INPUT: true; the input reads as it did. -/
def bagPlaysSpec : ChangeSpec := { name := "bagPlays", fn := fun _ => fun
  | [d1, d2] => { results := [.lit (.bool true)], args := [d1, d2] }
  | _ => none }
def bagPlaysRow : OpenClaim := { program := "yteoihmgigmiajaa", sum := "81d61e0243e23a69617d8f3569778bb95a9a9e59605fa9200ed583770605db1b", func := "lapstone/lapstonelaw21.BagPlays", spec := "bagPlays", unfollowed := true, recurses := true, apart := false }
def BagPlaysSaid : Prop := bagPlaysRow.holds Try.pinned (OpenSpec.ofChange bagPlaysSpec)

/-- ITS FALSE NEIGHBOUR: 'it returns false'. Refute it at one input. -/
def bagPlaysWrong : ChangeSpec := { name := "bagPlays", fn := fun _ => fun
  | [d1, d2] => { results := [.lit (.bool false)], args := [d1, d2] }
  | _ => none }
def BagPlaysWrongFalsely : Prop := bagPlaysRow.holds Try.pinned (OpenSpec.ofChange bagPlaysWrong)

/- THE SECOND FORM. 'bulk': how many values and letters a reading holds, each counted each time it is reached (what is shared counts as often as it is met; a slice's spare places count too). A statement '..UptoSaid' is the law's where the arguments, and the package variables that the reading takes, are together of bulk at most 1048576: NARROWER than '..Said'. Prove '..Said' where nothing that the law and all that it calls make is longer than what came in: it says more and counts as full. Else prove '..UptoSaid'. A law counts once. -/
mutual
def uptoBulk {H : Type} : DataW H → Nat
  | .lit (.string bytes) => bytes.length + 1
  | .lit _ => 1
  | .nil => 1
  | .ptr d => uptoBulk d + 1
  | .slice elems spare => uptoBulkAll elems + uptoBulkAll spare + 1
  | .agg parts => uptoBulkAll parts + 1
  | .iface _ d => uptoBulk d + 1
  | .map entries => uptoBulkEntries entries + 1
  | .held _ => 1
def uptoBulkAll {H : Type} : List (DataW H) → Nat
  | [] => 0
  | d :: r => uptoBulk d + uptoBulkAll r
def uptoBulkEntries {H : Type} : List (Lit × DataW H) → Nat
  | [] => 0
  | x :: r => uptoBulkEntry x + uptoBulkEntries r
def uptoBulkEntry {H : Type} : Lit × DataW H → Nat
  | (.string bytes, d) => bytes.length + uptoBulk d + 1
  | (_, d) => uptoBulk d + 1
 end
def uptoSmall : (H : Type) → List (DataW H) → Bool := fun _ ds => decide (uptoBulkAll ds ≤ 1048576)
def OpenSpec.upto (s : _root_.Go.ChangeSpec) : _root_.Go.OpenSpec := { _root_.Go.OpenSpec.ofChange s with cond := some uptoSmall }

/-- 'lapstonelaw21.BagPut', WHERE WHAT IT READS IS OF BULK AT MOST 1048576: true; the input reads as it did. -/
def bagPutUptoRow : OpenClaim := { program := "yteoihmgigmiajaa", sum := "81d61e0243e23a69617d8f3569778bb95a9a9e59605fa9200ed583770605db1b", func := "lapstone/lapstonelaw21.BagPut", spec := "bagPut", unfollowed := true, recurses := true, apart := false, narrowed := true }
def BagPutUptoSaid : Prop := bagPutUptoRow.holds Try.pinned (OpenSpec.upto bagPutSpec)

/-- 'lapstonelaw21.BagOrder', WHERE WHAT IT READS IS OF BULK AT MOST 1048576: true; the input reads as it did. -/
def bagOrderUptoRow : OpenClaim := { program := "yteoihmgigmiajaa", sum := "81d61e0243e23a69617d8f3569778bb95a9a9e59605fa9200ed583770605db1b", func := "lapstone/lapstonelaw21.BagOrder", spec := "bagOrder", unfollowed := true, recurses := true, apart := false, narrowed := true }
def BagOrderUptoSaid : Prop := bagOrderUptoRow.holds Try.pinned (OpenSpec.upto bagOrderSpec)

/-- 'lapstonelaw21.BagPlays', WHERE WHAT IT READS IS OF BULK AT MOST 1048576: true; the input reads as it did. -/
def bagPlaysUptoRow : OpenClaim := { program := "yteoihmgigmiajaa", sum := "81d61e0243e23a69617d8f3569778bb95a9a9e59605fa9200ed583770605db1b", func := "lapstone/lapstonelaw21.BagPlays", spec := "bagPlays", unfollowed := true, recurses := true, apart := false, narrowed := true }
def BagPlaysUptoSaid : Prop := bagPlaysUptoRow.holds Try.pinned (OpenSpec.upto bagPlaysSpec)

end Rows
end Go.Proofs.Yteoihmgigmiajaa
