/-
  No cell of these rows narrows 'for every input' (looked for: loops, veiled, ifaces, maps, wideKeys, modest, calm, conditions, laid).
  DERIVED. THE GIVEN ROWS OF THIS SEAT. 8 by the template 'for every input the law returns true; each argument reads behind the call as it read before'; 0 by the template 'total and deterministic' (their statements: YtdplpehphjgffaaTotals.lean).
  GIVEN WITH THE SEED: the statements are not yours to turn. If you find one false, say at which input.
  Laid BY PROGRAM, IN A SANDBOX (cutbox-rows.mjs): the forced cells as the released guide's own fill.sh prints them over the translation f2ca05ea37caf113… (all of the seat's roots in one cut). By AI agents, Wed Nov 11 2026. No macro, syntax, notation, axiom, sorry.
-/
import Derived.Test.YtdplpehphjgffaaChecked
import GoSem.Claim
import GoSem.ClaimJoined
import GoSem.ClaimMapViews
import Derived.JoinedTies
import Derived.KernelRfl
namespace Go.Proofs.Ytdplpehphjgffaa
/- THE CELL 'sum', in the pinned program and in every row, IS THE sha256 OF THE DUMP (.gsa) THAT YtdplpehphjgffaaProg.lean LOADS. Nothing in Lean hashes anything: it is a label: what it is worth is what the hold of that sum in a sandbox is worth. -/
noncomputable def Try.pinned : Pinned := { name := "ytdplpehphjgffaa", sum := "f2ca05ea37caf1136141decdcd7eac7dc328a6fff1e12f6ffde883037d860a3d", checked := Try.checked }
namespace Rows
def none {H : Type} : Left H := { results := [], args := [] }

/-- 'fuseelaw26.BackoffRises': WHATEVER THE INPUT: true; the input reads as it did. -/
def backoffRisesSpec : ChangeSpec := { name := "backoffRises", fn := fun _ => fun
  | [d1, d2] => { results := [.lit (.bool true)], args := [d1, d2] }
  | _ => none }
def backoffRisesRow : OpenClaim := { program := "ytdplpehphjgffaa", sum := "f2ca05ea37caf1136141decdcd7eac7dc328a6fff1e12f6ffde883037d860a3d", func := "fusee/fuseelaw26.BackoffRises", spec := "backoffRises", unfollowed := true, recurses := true, apart := false }
def BackoffRisesSaid : Prop := backoffRisesRow.holds Try.pinned (OpenSpec.ofChange backoffRisesSpec)

/-- ITS FALSE NEIGHBOUR: 'it returns false'. Refute it at one input. -/
def backoffRisesWrong : ChangeSpec := { name := "backoffRises", fn := fun _ => fun
  | [d1, d2] => { results := [.lit (.bool false)], args := [d1, d2] }
  | _ => none }
def BackoffRisesWrongFalsely : Prop := backoffRisesRow.holds Try.pinned (OpenSpec.ofChange backoffRisesWrong)

/-- 'fuseelaw26.BackoffWaits': WHATEVER THE INPUT: true; the input reads as it did. -/
def backoffWaitsSpec : ChangeSpec := { name := "backoffWaits", fn := fun _ => fun
  | [d1, d2, d3, d4] => { results := [.lit (.bool true)], args := [d1, d2, d3, d4] }
  | _ => none }
def backoffWaitsRow : OpenClaim := { program := "ytdplpehphjgffaa", sum := "f2ca05ea37caf1136141decdcd7eac7dc328a6fff1e12f6ffde883037d860a3d", func := "fusee/fuseelaw26.BackoffWaits", spec := "backoffWaits", unfollowed := true, recurses := true, apart := false }
def BackoffWaitsSaid : Prop := backoffWaitsRow.holds Try.pinned (OpenSpec.ofChange backoffWaitsSpec)

/-- ITS FALSE NEIGHBOUR: 'it returns false'. Refute it at one input. -/
def backoffWaitsWrong : ChangeSpec := { name := "backoffWaits", fn := fun _ => fun
  | [d1, d2, d3, d4] => { results := [.lit (.bool false)], args := [d1, d2, d3, d4] }
  | _ => none }
def BackoffWaitsWrongFalsely : Prop := backoffWaitsRow.holds Try.pinned (OpenSpec.ofChange backoffWaitsWrong)

/-- 'fuseelaw26.BackoffRetries': WHATEVER THE INPUT: true; the input reads as it did. -/
def backoffRetriesSpec : ChangeSpec := { name := "backoffRetries", fn := fun _ => fun
  | [d1, d2, d3] => { results := [.lit (.bool true)], args := [d1, d2, d3] }
  | _ => none }
def backoffRetriesRow : OpenClaim := { program := "ytdplpehphjgffaa", sum := "f2ca05ea37caf1136141decdcd7eac7dc328a6fff1e12f6ffde883037d860a3d", func := "fusee/fuseelaw26.BackoffRetries", spec := "backoffRetries", unfollowed := true, recurses := true, apart := false }
def BackoffRetriesSaid : Prop := backoffRetriesRow.holds Try.pinned (OpenSpec.ofChange backoffRetriesSpec)

/-- ITS FALSE NEIGHBOUR: 'it returns false'. Refute it at one input. -/
def backoffRetriesWrong : ChangeSpec := { name := "backoffRetries", fn := fun _ => fun
  | [d1, d2, d3] => { results := [.lit (.bool false)], args := [d1, d2, d3] }
  | _ => none }
def BackoffRetriesWrongFalsely : Prop := backoffRetriesRow.holds Try.pinned (OpenSpec.ofChange backoffRetriesWrong)

/-- 'fuseelaw11.ClockPlays': WHATEVER THE INPUT: true; the input reads as it did. -/
def clockPlaysSpec : ChangeSpec := { name := "clockPlays", fn := fun _ => fun
  | [d1, d2, d3] => { results := [.lit (.bool true)], args := [d1, d2, d3] }
  | _ => none }
def clockPlaysRow : OpenClaim := { program := "ytdplpehphjgffaa", sum := "f2ca05ea37caf1136141decdcd7eac7dc328a6fff1e12f6ffde883037d860a3d", func := "fusee/fuseelaw11.ClockPlays", spec := "clockPlays", apart := false }
def ClockPlaysSaid : Prop := clockPlaysRow.holds Try.pinned (OpenSpec.ofChange clockPlaysSpec)

/-- ITS FALSE NEIGHBOUR: 'it returns false'. Refute it at one input. -/
def clockPlaysWrong : ChangeSpec := { name := "clockPlays", fn := fun _ => fun
  | [d1, d2, d3] => { results := [.lit (.bool false)], args := [d1, d2, d3] }
  | _ => none }
def ClockPlaysWrongFalsely : Prop := clockPlaysRow.holds Try.pinned (OpenSpec.ofChange clockPlaysWrong)

/-- 'fuseelaw11.ClockGoes': WHATEVER THE INPUT: true; the input reads as it did. -/
def clockGoesSpec : ChangeSpec := { name := "clockGoes", fn := fun _ => fun
  | [d] => { results := [.lit (.bool true)], args := [d] }
  | _ => none }
def clockGoesRow : OpenClaim := { program := "ytdplpehphjgffaa", sum := "f2ca05ea37caf1136141decdcd7eac7dc328a6fff1e12f6ffde883037d860a3d", func := "fusee/fuseelaw11.ClockGoes", spec := "clockGoes", apart := false }
def ClockGoesSaid : Prop := clockGoesRow.holds Try.pinned (OpenSpec.ofChange clockGoesSpec)

/-- ITS FALSE NEIGHBOUR: 'it returns false'. Refute it at one input. -/
def clockGoesWrong : ChangeSpec := { name := "clockGoes", fn := fun _ => fun
  | [d] => { results := [.lit (.bool false)], args := [d] }
  | _ => none }
def ClockGoesWrongFalsely : Prop := clockGoesRow.holds Try.pinned (OpenSpec.ofChange clockGoesWrong)

/-- 'fuseelaw17.SleepReal': WHATEVER THE INPUT: true; the input reads as it did. -/
def sleepRealSpec : ChangeSpec := { name := "sleepReal", fn := fun _ => fun
  | [d1, d2, d3, d4, d5, d6] => { results := [.lit (.bool true)], args := [d1, d2, d3, d4, d5, d6] }
  | _ => none }
def sleepRealRow : OpenClaim := { program := "ytdplpehphjgffaa", sum := "f2ca05ea37caf1136141decdcd7eac7dc328a6fff1e12f6ffde883037d860a3d", func := "fusee/fuseelaw17.SleepReal", spec := "sleepReal", apart := false }
def SleepRealSaid : Prop := sleepRealRow.holds Try.pinned (OpenSpec.ofChange sleepRealSpec)

/-- ITS FALSE NEIGHBOUR: 'it returns false'. Refute it at one input. -/
def sleepRealWrong : ChangeSpec := { name := "sleepReal", fn := fun _ => fun
  | [d1, d2, d3, d4, d5, d6] => { results := [.lit (.bool false)], args := [d1, d2, d3, d4, d5, d6] }
  | _ => none }
def SleepRealWrongFalsely : Prop := sleepRealRow.holds Try.pinned (OpenSpec.ofChange sleepRealWrong)

/-- 'fuseelaw18.PosixCounts': WHATEVER THE INPUT: true; the input reads as it did. -/
def posixCountsSpec : ChangeSpec := { name := "posixCounts", fn := fun _ => fun
  | [d1, d2, d3] => { results := [.lit (.bool true)], args := [d1, d2, d3] }
  | _ => none }
def posixCountsRow : OpenClaim := { program := "ytdplpehphjgffaa", sum := "f2ca05ea37caf1136141decdcd7eac7dc328a6fff1e12f6ffde883037d860a3d", func := "fusee/fuseelaw18.PosixCounts", spec := "posixCounts", apart := false }
def PosixCountsSaid : Prop := posixCountsRow.holds Try.pinned (OpenSpec.ofChange posixCountsSpec)

/-- ITS FALSE NEIGHBOUR: 'it returns false'. Refute it at one input. -/
def posixCountsWrong : ChangeSpec := { name := "posixCounts", fn := fun _ => fun
  | [d1, d2, d3] => { results := [.lit (.bool false)], args := [d1, d2, d3] }
  | _ => none }
def PosixCountsWrongFalsely : Prop := posixCountsRow.holds Try.pinned (OpenSpec.ofChange posixCountsWrong)

/-- 'fuseelaw18.PosixLeft': WHATEVER THE INPUT: true; the input reads as it did. -/
def posixLeftSpec : ChangeSpec := { name := "posixLeft", fn := fun _ => fun
  | [d1, d2, d3, d4] => { results := [.lit (.bool true)], args := [d1, d2, d3, d4] }
  | _ => none }
def posixLeftRow : OpenClaim := { program := "ytdplpehphjgffaa", sum := "f2ca05ea37caf1136141decdcd7eac7dc328a6fff1e12f6ffde883037d860a3d", func := "fusee/fuseelaw18.PosixLeft", spec := "posixLeft", apart := false }
def PosixLeftSaid : Prop := posixLeftRow.holds Try.pinned (OpenSpec.ofChange posixLeftSpec)

/-- ITS FALSE NEIGHBOUR: 'it returns false'. Refute it at one input. -/
def posixLeftWrong : ChangeSpec := { name := "posixLeft", fn := fun _ => fun
  | [d1, d2, d3, d4] => { results := [.lit (.bool false)], args := [d1, d2, d3, d4] }
  | _ => none }
def PosixLeftWrongFalsely : Prop := posixLeftRow.holds Try.pinned (OpenSpec.ofChange posixLeftWrong)

/- THE SECOND FORM. 'bulk': how many values and letters a reading holds, each counted each time it is reached (what is shared counts as often as it is met; a slice's spare places count too). A statement '..UptoSaid' is the law's where the arguments, and the package variables that the reading takes, are together of bulk at most 1048576: NARROWER than '..Said'. Prove '..Said' where nothing that the law and all that it calls make is longer than what came in: it says more and counts as full. Else prove '..UptoSaid'. A law counts once. -/
mutual
def uptoBulk {H : Type} : DataW H → Nat
  | .lit (.string bytes) => bytes.length + 1
  | .lit _ => 1
  | .nil => 1
  | .ptr d => uptoBulk d + 1
  | .slice elems spare => uptoBulkAll elems + uptoBulkAll spare + 1
  | .agg parts => uptoBulkAll parts + 1
  | .iface _ d => uptoBulk d + 1
  | .map entries => uptoBulkEntries entries + 1
  | .held _ => 1
def uptoBulkAll {H : Type} : List (DataW H) → Nat
  | [] => 0
  | d :: r => uptoBulk d + uptoBulkAll r
def uptoBulkEntries {H : Type} : List (Lit × DataW H) → Nat
  | [] => 0
  | x :: r => uptoBulkEntry x + uptoBulkEntries r
def uptoBulkEntry {H : Type} : Lit × DataW H → Nat
  | (.string bytes, d) => bytes.length + uptoBulk d + 1
  | (_, d) => uptoBulk d + 1
 end
def uptoSmall : (H : Type) → List (DataW H) → Bool := fun _ ds => decide (uptoBulkAll ds ≤ 1048576)
def OpenSpec.upto (s : _root_.Go.ChangeSpec) : _root_.Go.OpenSpec := { _root_.Go.OpenSpec.ofChange s with cond := some uptoSmall }

/-- 'fuseelaw26.BackoffRises', WHERE WHAT IT READS IS OF BULK AT MOST 1048576: true; the input reads as it did. -/
def backoffRisesUptoRow : OpenClaim := { program := "ytdplpehphjgffaa", sum := "f2ca05ea37caf1136141decdcd7eac7dc328a6fff1e12f6ffde883037d860a3d", func := "fusee/fuseelaw26.BackoffRises", spec := "backoffRises", unfollowed := true, recurses := true, apart := false, narrowed := true }
def BackoffRisesUptoSaid : Prop := backoffRisesUptoRow.holds Try.pinned (OpenSpec.upto backoffRisesSpec)

/-- 'fuseelaw26.BackoffWaits', WHERE WHAT IT READS IS OF BULK AT MOST 1048576: true; the input reads as it did. -/
def backoffWaitsUptoRow : OpenClaim := { program := "ytdplpehphjgffaa", sum := "f2ca05ea37caf1136141decdcd7eac7dc328a6fff1e12f6ffde883037d860a3d", func := "fusee/fuseelaw26.BackoffWaits", spec := "backoffWaits", unfollowed := true, recurses := true, apart := false, narrowed := true }
def BackoffWaitsUptoSaid : Prop := backoffWaitsUptoRow.holds Try.pinned (OpenSpec.upto backoffWaitsSpec)

/-- 'fuseelaw26.BackoffRetries', WHERE WHAT IT READS IS OF BULK AT MOST 1048576: true; the input reads as it did. -/
def backoffRetriesUptoRow : OpenClaim := { program := "ytdplpehphjgffaa", sum := "f2ca05ea37caf1136141decdcd7eac7dc328a6fff1e12f6ffde883037d860a3d", func := "fusee/fuseelaw26.BackoffRetries", spec := "backoffRetries", unfollowed := true, recurses := true, apart := false, narrowed := true }
def BackoffRetriesUptoSaid : Prop := backoffRetriesUptoRow.holds Try.pinned (OpenSpec.upto backoffRetriesSpec)

/-- 'fuseelaw11.ClockPlays', WHERE WHAT IT READS IS OF BULK AT MOST 1048576: true; the input reads as it did. -/
def clockPlaysUptoRow : OpenClaim := { program := "ytdplpehphjgffaa", sum := "f2ca05ea37caf1136141decdcd7eac7dc328a6fff1e12f6ffde883037d860a3d", func := "fusee/fuseelaw11.ClockPlays", spec := "clockPlays", apart := false, narrowed := true }
def ClockPlaysUptoSaid : Prop := clockPlaysUptoRow.holds Try.pinned (OpenSpec.upto clockPlaysSpec)

/-- 'fuseelaw11.ClockGoes', WHERE WHAT IT READS IS OF BULK AT MOST 1048576: true; the input reads as it did. -/
def clockGoesUptoRow : OpenClaim := { program := "ytdplpehphjgffaa", sum := "f2ca05ea37caf1136141decdcd7eac7dc328a6fff1e12f6ffde883037d860a3d", func := "fusee/fuseelaw11.ClockGoes", spec := "clockGoes", apart := false, narrowed := true }
def ClockGoesUptoSaid : Prop := clockGoesUptoRow.holds Try.pinned (OpenSpec.upto clockGoesSpec)

/-- 'fuseelaw17.SleepReal', WHERE WHAT IT READS IS OF BULK AT MOST 1048576: true; the input reads as it did. -/
def sleepRealUptoRow : OpenClaim := { program := "ytdplpehphjgffaa", sum := "f2ca05ea37caf1136141decdcd7eac7dc328a6fff1e12f6ffde883037d860a3d", func := "fusee/fuseelaw17.SleepReal", spec := "sleepReal", apart := false, narrowed := true }
def SleepRealUptoSaid : Prop := sleepRealUptoRow.holds Try.pinned (OpenSpec.upto sleepRealSpec)

/-- 'fuseelaw18.PosixCounts', WHERE WHAT IT READS IS OF BULK AT MOST 1048576: true; the input reads as it did. -/
def posixCountsUptoRow : OpenClaim := { program := "ytdplpehphjgffaa", sum := "f2ca05ea37caf1136141decdcd7eac7dc328a6fff1e12f6ffde883037d860a3d", func := "fusee/fuseelaw18.PosixCounts", spec := "posixCounts", apart := false, narrowed := true }
def PosixCountsUptoSaid : Prop := posixCountsUptoRow.holds Try.pinned (OpenSpec.upto posixCountsSpec)

/-- 'fuseelaw18.PosixLeft', WHERE WHAT IT READS IS OF BULK AT MOST 1048576: true; the input reads as it did. -/
def posixLeftUptoRow : OpenClaim := { program := "ytdplpehphjgffaa", sum := "f2ca05ea37caf1136141decdcd7eac7dc328a6fff1e12f6ffde883037d860a3d", func := "fusee/fuseelaw18.PosixLeft", spec := "posixLeft", apart := false, narrowed := true }
def PosixLeftUptoSaid : Prop := posixLeftUptoRow.holds Try.pinned (OpenSpec.upto posixLeftSpec)

end Rows
end Go.Proofs.Ytdplpehphjgffaa
