/-
  No cell of these rows narrows 'for every input' (looked for: loops, veiled, ifaces, maps, wideKeys, modest, calm, conditions, laid).
  DERIVED. THE GIVEN ROWS OF THIS SEAT. 5 by the template 'for every input the law returns true; each argument reads behind the call as it read before'; 0 by the template 'total and deterministic' (their statements: YtiipndbcddgjlaaTotals.lean).
  GIVEN WITH THE SEED: the statements are not yours to turn. If you find one false, say at which input.
  Laid BY PROGRAM, IN A SANDBOX (cutbox-rows.mjs): the forced cells as the released guide's own fill.sh prints them over the translation 5a475a6edf909fe8… (all of the seat's roots in one cut). By AI agents, Wed Nov 11 2026. No macro, syntax, notation, axiom, sorry.
-/
import Derived.Test.YtiipndbcddgjlaaChecked
import GoSem.Claim
import GoSem.ClaimJoined
import GoSem.ClaimMapViews
import Derived.JoinedTies
import Derived.KernelRfl
namespace Go.Proofs.Ytiipndbcddgjlaa
/- THE CELL 'sum', in the pinned program and in every row, IS THE sha256 OF THE DUMP (.gsa) THAT YtiipndbcddgjlaaProg.lean LOADS. Nothing in Lean hashes anything: it is a label: what it is worth is what the hold of that sum in a sandbox is worth. -/
noncomputable def Try.pinned : Pinned := { name := "ytiipndbcddgjlaa", sum := "5a475a6edf909fe8b204ce3df4d634d3381001d3d01029a852827d2af286bf06", checked := Try.checked }
namespace Rows
def none {H : Type} : Left H := { results := [], args := [] }

/-- 'lapstonelaw19.JudgeOnce': WHATEVER THE INPUT: true; the input reads as it did. -/
def judgeOnceSpec : ChangeSpec := { name := "judgeOnce", fn := fun _ => fun
  | [d] => { results := [.lit (.bool true)], args := [d] }
  | _ => none }
def judgeOnceRow : OpenClaim := { program := "ytiipndbcddgjlaa", sum := "5a475a6edf909fe8b204ce3df4d634d3381001d3d01029a852827d2af286bf06", func := "lapstone/lapstonelaw19.JudgeOnce", spec := "judgeOnce", unfollowed := true, recurses := true, apart := false }
def JudgeOnceSaid : Prop := judgeOnceRow.holds Try.pinned (OpenSpec.ofChange judgeOnceSpec)

/-- ITS FALSE NEIGHBOUR: 'it returns false'. Refute it at one input. -/
def judgeOnceWrong : ChangeSpec := { name := "judgeOnce", fn := fun _ => fun
  | [d] => { results := [.lit (.bool false)], args := [d] }
  | _ => none }
def JudgeOnceWrongFalsely : Prop := judgeOnceRow.holds Try.pinned (OpenSpec.ofChange judgeOnceWrong)

/-- 'lapstonelaw19.JudgeEnds': WHATEVER THE INPUT: true; the input reads as it did. -/
def judgeEndsSpec : ChangeSpec := { name := "judgeEnds", fn := fun _ => fun
  | [d1, d2] => { results := [.lit (.bool true)], args := [d1, d2] }
  | _ => none }
def judgeEndsRow : OpenClaim := { program := "ytiipndbcddgjlaa", sum := "5a475a6edf909fe8b204ce3df4d634d3381001d3d01029a852827d2af286bf06", func := "lapstone/lapstonelaw19.JudgeEnds", spec := "judgeEnds", unfollowed := true, recurses := true, apart := false }
def JudgeEndsSaid : Prop := judgeEndsRow.holds Try.pinned (OpenSpec.ofChange judgeEndsSpec)

/-- ITS FALSE NEIGHBOUR: 'it returns false'. Refute it at one input. -/
def judgeEndsWrong : ChangeSpec := { name := "judgeEnds", fn := fun _ => fun
  | [d1, d2] => { results := [.lit (.bool false)], args := [d1, d2] }
  | _ => none }
def JudgeEndsWrongFalsely : Prop := judgeEndsRow.holds Try.pinned (OpenSpec.ofChange judgeEndsWrong)

/-- 'lapstonelaw19.JudgeWins': WHATEVER THE INPUT: true; the input reads as it did. -/
def judgeWinsSpec : ChangeSpec := { name := "judgeWins", fn := fun _ => fun
  | [d] => { results := [.lit (.bool true)], args := [d] }
  | _ => none }
def judgeWinsRow : OpenClaim := { program := "ytiipndbcddgjlaa", sum := "5a475a6edf909fe8b204ce3df4d634d3381001d3d01029a852827d2af286bf06", func := "lapstone/lapstonelaw19.JudgeWins", spec := "judgeWins", unfollowed := true, recurses := true, apart := false }
def JudgeWinsSaid : Prop := judgeWinsRow.holds Try.pinned (OpenSpec.ofChange judgeWinsSpec)

/-- ITS FALSE NEIGHBOUR: 'it returns false'. Refute it at one input. -/
def judgeWinsWrong : ChangeSpec := { name := "judgeWins", fn := fun _ => fun
  | [d] => { results := [.lit (.bool false)], args := [d] }
  | _ => none }
def JudgeWinsWrongFalsely : Prop := judgeWinsRow.holds Try.pinned (OpenSpec.ofChange judgeWinsWrong)

/-- 'lapstonelaw19.JudgeLoads': WHATEVER THE INPUT: true; the input reads as it did. -/
def judgeLoadsSpec : ChangeSpec := { name := "judgeLoads", fn := fun _ => fun
  | [d1, d2] => { results := [.lit (.bool true)], args := [d1, d2] }
  | _ => none }
def judgeLoadsRow : OpenClaim := { program := "ytiipndbcddgjlaa", sum := "5a475a6edf909fe8b204ce3df4d634d3381001d3d01029a852827d2af286bf06", func := "lapstone/lapstonelaw19.JudgeLoads", spec := "judgeLoads", unfollowed := true, recurses := true, apart := false }
def JudgeLoadsSaid : Prop := judgeLoadsRow.holds Try.pinned (OpenSpec.ofChange judgeLoadsSpec)

/-- ITS FALSE NEIGHBOUR: 'it returns false'. Refute it at one input. -/
def judgeLoadsWrong : ChangeSpec := { name := "judgeLoads", fn := fun _ => fun
  | [d1, d2] => { results := [.lit (.bool false)], args := [d1, d2] }
  | _ => none }
def JudgeLoadsWrongFalsely : Prop := judgeLoadsRow.holds Try.pinned (OpenSpec.ofChange judgeLoadsWrong)

/-- 'lapstonelaw19.JudgePlays': WHATEVER THE INPUT: true; the input reads as it did. -/
def judgePlaysSpec : ChangeSpec := { name := "judgePlays", fn := fun _ => fun
  | [d1, d2, d3] => { results := [.lit (.bool true)], args := [d1, d2, d3] }
  | _ => none }
def judgePlaysRow : OpenClaim := { program := "ytiipndbcddgjlaa", sum := "5a475a6edf909fe8b204ce3df4d634d3381001d3d01029a852827d2af286bf06", func := "lapstone/lapstonelaw19.JudgePlays", spec := "judgePlays", unfollowed := true, recurses := true, apart := false }
def JudgePlaysSaid : Prop := judgePlaysRow.holds Try.pinned (OpenSpec.ofChange judgePlaysSpec)

/-- ITS FALSE NEIGHBOUR: 'it returns false'. Refute it at one input. -/
def judgePlaysWrong : ChangeSpec := { name := "judgePlays", fn := fun _ => fun
  | [d1, d2, d3] => { results := [.lit (.bool false)], args := [d1, d2, d3] }
  | _ => none }
def JudgePlaysWrongFalsely : Prop := judgePlaysRow.holds Try.pinned (OpenSpec.ofChange judgePlaysWrong)

/- THE SECOND FORM. 'bulk': how many values and letters a reading holds, each counted each time it is reached (what is shared counts as often as it is met; a slice's spare places count too). A statement '..UptoSaid' is the law's where the arguments, and the package variables that the reading takes, are together of bulk at most 1048576: NARROWER than '..Said'. Prove '..Said' where nothing that the law and all that it calls make is longer than what came in: it says more and counts as full. Else prove '..UptoSaid'. A law counts once. -/
mutual
def uptoBulk {H : Type} : DataW H → Nat
  | .lit (.string bytes) => bytes.length + 1
  | .lit _ => 1
  | .nil => 1
  | .ptr d => uptoBulk d + 1
  | .slice elems spare => uptoBulkAll elems + uptoBulkAll spare + 1
  | .agg parts => uptoBulkAll parts + 1
  | .iface _ d => uptoBulk d + 1
  | .map entries => uptoBulkEntries entries + 1
  | .held _ => 1
def uptoBulkAll {H : Type} : List (DataW H) → Nat
  | [] => 0
  | d :: r => uptoBulk d + uptoBulkAll r
def uptoBulkEntries {H : Type} : List (Lit × DataW H) → Nat
  | [] => 0
  | x :: r => uptoBulkEntry x + uptoBulkEntries r
def uptoBulkEntry {H : Type} : Lit × DataW H → Nat
  | (.string bytes, d) => bytes.length + uptoBulk d + 1
  | (_, d) => uptoBulk d + 1
 end
def uptoSmall : (H : Type) → List (DataW H) → Bool := fun _ ds => decide (uptoBulkAll ds ≤ 1048576)
def OpenSpec.upto (s : _root_.Go.ChangeSpec) : _root_.Go.OpenSpec := { _root_.Go.OpenSpec.ofChange s with cond := some uptoSmall }

/-- 'lapstonelaw19.JudgeOnce', WHERE WHAT IT READS IS OF BULK AT MOST 1048576: true; the input reads as it did. -/
def judgeOnceUptoRow : OpenClaim := { program := "ytiipndbcddgjlaa", sum := "5a475a6edf909fe8b204ce3df4d634d3381001d3d01029a852827d2af286bf06", func := "lapstone/lapstonelaw19.JudgeOnce", spec := "judgeOnce", unfollowed := true, recurses := true, apart := false, narrowed := true }
def JudgeOnceUptoSaid : Prop := judgeOnceUptoRow.holds Try.pinned (OpenSpec.upto judgeOnceSpec)

/-- 'lapstonelaw19.JudgeEnds', WHERE WHAT IT READS IS OF BULK AT MOST 1048576: true; the input reads as it did. -/
def judgeEndsUptoRow : OpenClaim := { program := "ytiipndbcddgjlaa", sum := "5a475a6edf909fe8b204ce3df4d634d3381001d3d01029a852827d2af286bf06", func := "lapstone/lapstonelaw19.JudgeEnds", spec := "judgeEnds", unfollowed := true, recurses := true, apart := false, narrowed := true }
def JudgeEndsUptoSaid : Prop := judgeEndsUptoRow.holds Try.pinned (OpenSpec.upto judgeEndsSpec)

/-- 'lapstonelaw19.JudgeWins', WHERE WHAT IT READS IS OF BULK AT MOST 1048576: true; the input reads as it did. -/
def judgeWinsUptoRow : OpenClaim := { program := "ytiipndbcddgjlaa", sum := "5a475a6edf909fe8b204ce3df4d634d3381001d3d01029a852827d2af286bf06", func := "lapstone/lapstonelaw19.JudgeWins", spec := "judgeWins", unfollowed := true, recurses := true, apart := false, narrowed := true }
def JudgeWinsUptoSaid : Prop := judgeWinsUptoRow.holds Try.pinned (OpenSpec.upto judgeWinsSpec)

/-- 'lapstonelaw19.JudgeLoads', WHERE WHAT IT READS IS OF BULK AT MOST 1048576: true; the input reads as it did. -/
def judgeLoadsUptoRow : OpenClaim := { program := "ytiipndbcddgjlaa", sum := "5a475a6edf909fe8b204ce3df4d634d3381001d3d01029a852827d2af286bf06", func := "lapstone/lapstonelaw19.JudgeLoads", spec := "judgeLoads", unfollowed := true, recurses := true, apart := false, narrowed := true }
def JudgeLoadsUptoSaid : Prop := judgeLoadsUptoRow.holds Try.pinned (OpenSpec.upto judgeLoadsSpec)

/-- 'lapstonelaw19.JudgePlays', WHERE WHAT IT READS IS OF BULK AT MOST 1048576: true; the input reads as it did. -/
def judgePlaysUptoRow : OpenClaim := { program := "ytiipndbcddgjlaa", sum := "5a475a6edf909fe8b204ce3df4d634d3381001d3d01029a852827d2af286bf06", func := "lapstone/lapstonelaw19.JudgePlays", spec := "judgePlays", unfollowed := true, recurses := true, apart := false, narrowed := true }
def JudgePlaysUptoSaid : Prop := judgePlaysUptoRow.holds Try.pinned (OpenSpec.upto judgePlaysSpec)

end Rows
end Go.Proofs.Ytiipndbcddgjlaa
