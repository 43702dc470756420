/-
  No cell of these rows narrows 'for every input' (looked for: loops, veiled, ifaces, maps, wideKeys, modest, calm, conditions, laid).
  DERIVED. THE GIVEN ROWS OF THIS SEAT. 8 by the template 'for every input the law returns true; each argument reads behind the call as it read before'; 0 by the template 'total and deterministic' (their statements: YtfoigflgglpobaaTotals.lean).
  GIVEN WITH THE SEED: the statements are not yours to turn. If you find one false, say at which input.
  Laid BY PROGRAM, IN A SANDBOX (cutbox-rows.mjs): the forced cells as the released guide's own fill.sh prints them over the translation 84c0f2e94b18e98d… (all of the seat's roots in one cut). By AI agents, Wed Nov 11 2026. No macro, syntax, notation, axiom, sorry.
-/
import Derived.Test.YtfoigflgglpobaaChecked
import GoSem.Claim
import GoSem.ClaimJoined
import GoSem.ClaimMapViews
import Derived.JoinedTies
import Derived.KernelRfl
namespace Go.Proofs.Ytfoigflgglpobaa
/- THE CELL 'sum', in the pinned program and in every row, IS THE sha256 OF THE DUMP (.gsa) THAT YtfoigflgglpobaaProg.lean LOADS. Nothing in Lean hashes anything: it is a label: what it is worth is what the hold of that sum in a sandbox is worth. -/
noncomputable def Try.pinned : Pinned := { name := "ytfoigflgglpobaa", sum := "84c0f2e94b18e98db6607556f10db377817645ffb9afcde77620352868e2a130", checked := Try.checked }
namespace Rows
def none {H : Type} : Left H := { results := [], args := [] }

/-- 'fuseelaw06.TreeSorts': WHATEVER THE INPUT: true; the input reads as it did. -/
def treeSortsSpec : ChangeSpec := { name := "treeSorts", fn := fun _ => fun
  | [d] => { results := [.lit (.bool true)], args := [d] }
  | _ => none }
def treeSortsRow : OpenClaim := { program := "ytfoigflgglpobaa", sum := "84c0f2e94b18e98db6607556f10db377817645ffb9afcde77620352868e2a130", func := "fusee/fuseelaw06.TreeSorts", spec := "treeSorts", plainKeys := false, apart := false }
def TreeSortsSaid : Prop := treeSortsRow.holds Try.pinned (OpenSpec.ofChange treeSortsSpec)

/-- ITS FALSE NEIGHBOUR: 'it returns false'. Refute it at one input. -/
def treeSortsWrong : ChangeSpec := { name := "treeSorts", fn := fun _ => fun
  | [d] => { results := [.lit (.bool false)], args := [d] }
  | _ => none }
def TreeSortsWrongFalsely : Prop := treeSortsRow.holds Try.pinned (OpenSpec.ofChange treeSortsWrong)

/-- 'fuseelaw06.TreeHandles': WHATEVER THE INPUT: true; the input reads as it did. -/
def treeHandlesSpec : ChangeSpec := { name := "treeHandles", fn := fun _ => fun
  | [d1, d2, d3] => { results := [.lit (.bool true)], args := [d1, d2, d3] }
  | _ => none }
def treeHandlesRow : OpenClaim := { program := "ytfoigflgglpobaa", sum := "84c0f2e94b18e98db6607556f10db377817645ffb9afcde77620352868e2a130", func := "fusee/fuseelaw06.TreeHandles", spec := "treeHandles", plainKeys := false, apart := false }
def TreeHandlesSaid : Prop := treeHandlesRow.holds Try.pinned (OpenSpec.ofChange treeHandlesSpec)

/-- ITS FALSE NEIGHBOUR: 'it returns false'. Refute it at one input. -/
def treeHandlesWrong : ChangeSpec := { name := "treeHandles", fn := fun _ => fun
  | [d1, d2, d3] => { results := [.lit (.bool false)], args := [d1, d2, d3] }
  | _ => none }
def TreeHandlesWrongFalsely : Prop := treeHandlesRow.holds Try.pinned (OpenSpec.ofChange treeHandlesWrong)

/-- 'fuseelaw06.TreeAt': WHATEVER THE INPUT: true; the input reads as it did. -/
def treeAtSpec : ChangeSpec := { name := "treeAt", fn := fun _ => fun
  | [d1, d2] => { results := [.lit (.bool true)], args := [d1, d2] }
  | _ => none }
def treeAtRow : OpenClaim := { program := "ytfoigflgglpobaa", sum := "84c0f2e94b18e98db6607556f10db377817645ffb9afcde77620352868e2a130", func := "fusee/fuseelaw06.TreeAt", spec := "treeAt", recurses := true, plainKeys := false, apart := false }
def TreeAtSaid : Prop := treeAtRow.holds Try.pinned (OpenSpec.ofChange treeAtSpec)

/-- ITS FALSE NEIGHBOUR: 'it returns false'. Refute it at one input. -/
def treeAtWrong : ChangeSpec := { name := "treeAt", fn := fun _ => fun
  | [d1, d2] => { results := [.lit (.bool false)], args := [d1, d2] }
  | _ => none }
def TreeAtWrongFalsely : Prop := treeAtRow.holds Try.pinned (OpenSpec.ofChange treeAtWrong)

/-- 'fuseelaw06.TreePlays': WHATEVER THE INPUT: true; the input reads as it did. -/
def treePlaysSpec : ChangeSpec := { name := "treePlays", fn := fun _ => fun
  | [d1, d2, d3] => { results := [.lit (.bool true)], args := [d1, d2, d3] }
  | _ => none }
def treePlaysRow : OpenClaim := { program := "ytfoigflgglpobaa", sum := "84c0f2e94b18e98db6607556f10db377817645ffb9afcde77620352868e2a130", func := "fusee/fuseelaw06.TreePlays", spec := "treePlays", recurses := true, plainKeys := false, apart := false }
def TreePlaysSaid : Prop := treePlaysRow.holds Try.pinned (OpenSpec.ofChange treePlaysSpec)

/-- ITS FALSE NEIGHBOUR: 'it returns false'. Refute it at one input. -/
def treePlaysWrong : ChangeSpec := { name := "treePlays", fn := fun _ => fun
  | [d1, d2, d3] => { results := [.lit (.bool false)], args := [d1, d2, d3] }
  | _ => none }
def TreePlaysWrongFalsely : Prop := treePlaysRow.holds Try.pinned (OpenSpec.ofChange treePlaysWrong)

/-- 'fuseelaw13.QueuePlays': WHATEVER THE INPUT: true; the input reads as it did. -/
def queuePlaysSpec : ChangeSpec := { name := "queuePlays", fn := fun _ => fun
  | [d] => { results := [.lit (.bool true)], args := [d] }
  | _ => none }
def queuePlaysRow : OpenClaim := { program := "ytfoigflgglpobaa", sum := "84c0f2e94b18e98db6607556f10db377817645ffb9afcde77620352868e2a130", func := "fusee/fuseelaw13.QueuePlays", spec := "queuePlays", plainKeys := false, apart := false }
def QueuePlaysSaid : Prop := queuePlaysRow.holds Try.pinned (OpenSpec.ofChange queuePlaysSpec)

/-- ITS FALSE NEIGHBOUR: 'it returns false'. Refute it at one input. -/
def queuePlaysWrong : ChangeSpec := { name := "queuePlays", fn := fun _ => fun
  | [d] => { results := [.lit (.bool false)], args := [d] }
  | _ => none }
def QueuePlaysWrongFalsely : Prop := queuePlaysRow.holds Try.pinned (OpenSpec.ofChange queuePlaysWrong)

/-- 'fuseelaw13.QueueFires': WHATEVER THE INPUT: true; the input reads as it did. -/
def queueFiresSpec : ChangeSpec := { name := "queueFires", fn := fun _ => fun
  | [d1, d2] => { results := [.lit (.bool true)], args := [d1, d2] }
  | _ => none }
def queueFiresRow : OpenClaim := { program := "ytfoigflgglpobaa", sum := "84c0f2e94b18e98db6607556f10db377817645ffb9afcde77620352868e2a130", func := "fusee/fuseelaw13.QueueFires", spec := "queueFires", plainKeys := false, apart := false }
def QueueFiresSaid : Prop := queueFiresRow.holds Try.pinned (OpenSpec.ofChange queueFiresSpec)

/-- ITS FALSE NEIGHBOUR: 'it returns false'. Refute it at one input. -/
def queueFiresWrong : ChangeSpec := { name := "queueFires", fn := fun _ => fun
  | [d1, d2] => { results := [.lit (.bool false)], args := [d1, d2] }
  | _ => none }
def QueueFiresWrongFalsely : Prop := queueFiresRow.holds Try.pinned (OpenSpec.ofChange queueFiresWrong)

/-- 'fuseelaw25.TtlEnds': WHATEVER THE INPUT: true; the input reads as it did. -/
def ttlEndsSpec : ChangeSpec := { name := "ttlEnds", fn := fun _ => fun
  | [d1, d2, d3] => { results := [.lit (.bool true)], args := [d1, d2, d3] }
  | _ => none }
def ttlEndsRow : OpenClaim := { program := "ytfoigflgglpobaa", sum := "84c0f2e94b18e98db6607556f10db377817645ffb9afcde77620352868e2a130", func := "fusee/fuseelaw25.TtlEnds", spec := "ttlEnds", plainKeys := false, apart := false }
def TtlEndsSaid : Prop := ttlEndsRow.holds Try.pinned (OpenSpec.ofChange ttlEndsSpec)

/-- ITS FALSE NEIGHBOUR: 'it returns false'. Refute it at one input. -/
def ttlEndsWrong : ChangeSpec := { name := "ttlEnds", fn := fun _ => fun
  | [d1, d2, d3] => { results := [.lit (.bool false)], args := [d1, d2, d3] }
  | _ => none }
def TtlEndsWrongFalsely : Prop := ttlEndsRow.holds Try.pinned (OpenSpec.ofChange ttlEndsWrong)

/-- 'fuseelaw25.TtlPlays': WHATEVER THE INPUT: true; the input reads as it did. -/
def ttlPlaysSpec : ChangeSpec := { name := "ttlPlays", fn := fun _ => fun
  | [d1, d2] => { results := [.lit (.bool true)], args := [d1, d2] }
  | _ => none }
def ttlPlaysRow : OpenClaim := { program := "ytfoigflgglpobaa", sum := "84c0f2e94b18e98db6607556f10db377817645ffb9afcde77620352868e2a130", func := "fusee/fuseelaw25.TtlPlays", spec := "ttlPlays", plainKeys := false, apart := false }
def TtlPlaysSaid : Prop := ttlPlaysRow.holds Try.pinned (OpenSpec.ofChange ttlPlaysSpec)

/-- ITS FALSE NEIGHBOUR: 'it returns false'. Refute it at one input. -/
def ttlPlaysWrong : ChangeSpec := { name := "ttlPlays", fn := fun _ => fun
  | [d1, d2] => { results := [.lit (.bool false)], args := [d1, d2] }
  | _ => none }
def TtlPlaysWrongFalsely : Prop := ttlPlaysRow.holds Try.pinned (OpenSpec.ofChange ttlPlaysWrong)

/- THE SECOND FORM. 'bulk': how many values and letters a reading holds, each counted each time it is reached (what is shared counts as often as it is met; a slice's spare places count too). A statement '..UptoSaid' is the law's where the arguments, and the package variables that the reading takes, are together of bulk at most 1048576: NARROWER than '..Said'. Prove '..Said' where nothing that the law and all that it calls make is longer than what came in: it says more and counts as full. Else prove '..UptoSaid'. A law counts once. -/
mutual
def uptoBulk {H : Type} : DataW H → Nat
  | .lit (.string bytes) => bytes.length + 1
  | .lit _ => 1
  | .nil => 1
  | .ptr d => uptoBulk d + 1
  | .slice elems spare => uptoBulkAll elems + uptoBulkAll spare + 1
  | .agg parts => uptoBulkAll parts + 1
  | .iface _ d => uptoBulk d + 1
  | .map entries => uptoBulkEntries entries + 1
  | .held _ => 1
def uptoBulkAll {H : Type} : List (DataW H) → Nat
  | [] => 0
  | d :: r => uptoBulk d + uptoBulkAll r
def uptoBulkEntries {H : Type} : List (Lit × DataW H) → Nat
  | [] => 0
  | x :: r => uptoBulkEntry x + uptoBulkEntries r
def uptoBulkEntry {H : Type} : Lit × DataW H → Nat
  | (.string bytes, d) => bytes.length + uptoBulk d + 1
  | (_, d) => uptoBulk d + 1
 end
def uptoSmall : (H : Type) → List (DataW H) → Bool := fun _ ds => decide (uptoBulkAll ds ≤ 1048576)
def OpenSpec.upto (s : _root_.Go.ChangeSpec) : _root_.Go.OpenSpec := { _root_.Go.OpenSpec.ofChange s with cond := some uptoSmall }

/-- 'fuseelaw06.TreeSorts', WHERE WHAT IT READS IS OF BULK AT MOST 1048576: true; the input reads as it did. -/
def treeSortsUptoRow : OpenClaim := { program := "ytfoigflgglpobaa", sum := "84c0f2e94b18e98db6607556f10db377817645ffb9afcde77620352868e2a130", func := "fusee/fuseelaw06.TreeSorts", spec := "treeSorts", plainKeys := false, apart := false, narrowed := true }
def TreeSortsUptoSaid : Prop := treeSortsUptoRow.holds Try.pinned (OpenSpec.upto treeSortsSpec)

/-- 'fuseelaw06.TreeHandles', WHERE WHAT IT READS IS OF BULK AT MOST 1048576: true; the input reads as it did. -/
def treeHandlesUptoRow : OpenClaim := { program := "ytfoigflgglpobaa", sum := "84c0f2e94b18e98db6607556f10db377817645ffb9afcde77620352868e2a130", func := "fusee/fuseelaw06.TreeHandles", spec := "treeHandles", plainKeys := false, apart := false, narrowed := true }
def TreeHandlesUptoSaid : Prop := treeHandlesUptoRow.holds Try.pinned (OpenSpec.upto treeHandlesSpec)

/-- 'fuseelaw06.TreeAt', WHERE WHAT IT READS IS OF BULK AT MOST 1048576: true; the input reads as it did. -/
def treeAtUptoRow : OpenClaim := { program := "ytfoigflgglpobaa", sum := "84c0f2e94b18e98db6607556f10db377817645ffb9afcde77620352868e2a130", func := "fusee/fuseelaw06.TreeAt", spec := "treeAt", recurses := true, plainKeys := false, apart := false, narrowed := true }
def TreeAtUptoSaid : Prop := treeAtUptoRow.holds Try.pinned (OpenSpec.upto treeAtSpec)

/-- 'fuseelaw06.TreePlays', WHERE WHAT IT READS IS OF BULK AT MOST 1048576: true; the input reads as it did. -/
def treePlaysUptoRow : OpenClaim := { program := "ytfoigflgglpobaa", sum := "84c0f2e94b18e98db6607556f10db377817645ffb9afcde77620352868e2a130", func := "fusee/fuseelaw06.TreePlays", spec := "treePlays", recurses := true, plainKeys := false, apart := false, narrowed := true }
def TreePlaysUptoSaid : Prop := treePlaysUptoRow.holds Try.pinned (OpenSpec.upto treePlaysSpec)

/-- 'fuseelaw13.QueuePlays', WHERE WHAT IT READS IS OF BULK AT MOST 1048576: true; the input reads as it did. -/
def queuePlaysUptoRow : OpenClaim := { program := "ytfoigflgglpobaa", sum := "84c0f2e94b18e98db6607556f10db377817645ffb9afcde77620352868e2a130", func := "fusee/fuseelaw13.QueuePlays", spec := "queuePlays", plainKeys := false, apart := false, narrowed := true }
def QueuePlaysUptoSaid : Prop := queuePlaysUptoRow.holds Try.pinned (OpenSpec.upto queuePlaysSpec)

/-- 'fuseelaw13.QueueFires', WHERE WHAT IT READS IS OF BULK AT MOST 1048576: true; the input reads as it did. -/
def queueFiresUptoRow : OpenClaim := { program := "ytfoigflgglpobaa", sum := "84c0f2e94b18e98db6607556f10db377817645ffb9afcde77620352868e2a130", func := "fusee/fuseelaw13.QueueFires", spec := "queueFires", plainKeys := false, apart := false, narrowed := true }
def QueueFiresUptoSaid : Prop := queueFiresUptoRow.holds Try.pinned (OpenSpec.upto queueFiresSpec)

/-- 'fuseelaw25.TtlEnds', WHERE WHAT IT READS IS OF BULK AT MOST 1048576: true; the input reads as it did. -/
def ttlEndsUptoRow : OpenClaim := { program := "ytfoigflgglpobaa", sum := "84c0f2e94b18e98db6607556f10db377817645ffb9afcde77620352868e2a130", func := "fusee/fuseelaw25.TtlEnds", spec := "ttlEnds", plainKeys := false, apart := false, narrowed := true }
def TtlEndsUptoSaid : Prop := ttlEndsUptoRow.holds Try.pinned (OpenSpec.upto ttlEndsSpec)

/-- 'fuseelaw25.TtlPlays', WHERE WHAT IT READS IS OF BULK AT MOST 1048576: true; the input reads as it did. -/
def ttlPlaysUptoRow : OpenClaim := { program := "ytfoigflgglpobaa", sum := "84c0f2e94b18e98db6607556f10db377817645ffb9afcde77620352868e2a130", func := "fusee/fuseelaw25.TtlPlays", spec := "ttlPlays", plainKeys := false, apart := false, narrowed := true }
def TtlPlaysUptoSaid : Prop := ttlPlaysUptoRow.holds Try.pinned (OpenSpec.upto ttlPlaysSpec)

end Rows
end Go.Proofs.Ytfoigflgglpobaa
