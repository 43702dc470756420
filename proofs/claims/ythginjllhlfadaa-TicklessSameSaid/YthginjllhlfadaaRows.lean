/-
  No cell of these rows narrows 'for every input' (looked for: loops, veiled, ifaces, maps, wideKeys, modest, calm, conditions, laid).
  DERIVED. THE GIVEN ROWS OF THIS SEAT. 10 by the template 'for every input the law returns true; each argument reads behind the call as it read before'; 0 by the template 'total and deterministic' (their statements: YthginjllhlfadaaTotals.lean).
  GIVEN WITH THE SEED: the statements are not yours to turn. If you find one false, say at which input.
  Laid BY PROGRAM, IN A SANDBOX (cutbox-rows.mjs): the forced cells as the released guide's own fill.sh prints them over the translation 52a268ef03e1dbaa… (all of the seat's roots in one cut). By AI agents, Wed Nov 11 2026. No macro, syntax, notation, axiom, sorry.
-/
import Derived.Test.YthginjllhlfadaaChecked
import GoSem.Claim
import GoSem.ClaimJoined
import GoSem.ClaimMapViews
import Derived.JoinedTies
import Derived.KernelRfl
namespace Go.Proofs.Ythginjllhlfadaa
/- THE CELL 'sum', in the pinned program and in every row, IS THE sha256 OF THE DUMP (.gsa) THAT YthginjllhlfadaaProg.lean LOADS. Nothing in Lean hashes anything: it is a label: what it is worth is what the hold of that sum in a sandbox is worth. -/
noncomputable def Try.pinned : Pinned := { name := "ythginjllhlfadaa", sum := "52a268ef03e1dbaae34f511ed64e313f98b7ee73aed3eef8889eccc8af11620b", checked := Try.checked }
namespace Rows
def none {H : Type} : Left H := { results := [], args := [] }

/-- 'fuseelaw03.ForwardTells': WHATEVER THE INPUT: true; the input reads as it did. -/
def forwardTellsSpec : ChangeSpec := { name := "forwardTells", fn := fun _ => fun
  | [d1, d2, d3] => { results := [.lit (.bool true)], args := [d1, d2, d3] }
  | _ => none }
def forwardTellsRow : OpenClaim := { program := "ythginjllhlfadaa", sum := "52a268ef03e1dbaae34f511ed64e313f98b7ee73aed3eef8889eccc8af11620b", func := "fusee/fuseelaw03.ForwardTells", spec := "forwardTells", apart := false }
def ForwardTellsSaid : Prop := forwardTellsRow.holds Try.pinned (OpenSpec.ofChange forwardTellsSpec)

/-- ITS FALSE NEIGHBOUR: 'it returns false'. Refute it at one input. -/
def forwardTellsWrong : ChangeSpec := { name := "forwardTells", fn := fun _ => fun
  | [d1, d2, d3] => { results := [.lit (.bool false)], args := [d1, d2, d3] }
  | _ => none }
def ForwardTellsWrongFalsely : Prop := forwardTellsRow.holds Try.pinned (OpenSpec.ofChange forwardTellsWrong)

/-- 'fuseelaw03.ForwardNth': WHATEVER THE INPUT: true; the input reads as it did. -/
def forwardNthSpec : ChangeSpec := { name := "forwardNth", fn := fun _ => fun
  | [d1, d2, d3] => { results := [.lit (.bool true)], args := [d1, d2, d3] }
  | _ => none }
def forwardNthRow : OpenClaim := { program := "ythginjllhlfadaa", sum := "52a268ef03e1dbaae34f511ed64e313f98b7ee73aed3eef8889eccc8af11620b", func := "fusee/fuseelaw03.ForwardNth", spec := "forwardNth", apart := false }
def ForwardNthSaid : Prop := forwardNthRow.holds Try.pinned (OpenSpec.ofChange forwardNthSpec)

/-- ITS FALSE NEIGHBOUR: 'it returns false'. Refute it at one input. -/
def forwardNthWrong : ChangeSpec := { name := "forwardNth", fn := fun _ => fun
  | [d1, d2, d3] => { results := [.lit (.bool false)], args := [d1, d2, d3] }
  | _ => none }
def ForwardNthWrongFalsely : Prop := forwardNthRow.holds Try.pinned (OpenSpec.ofChange forwardNthWrong)

/-- 'fuseelaw03.ForwardLater': WHATEVER THE INPUT: true; the input reads as it did. -/
def forwardLaterSpec : ChangeSpec := { name := "forwardLater", fn := fun _ => fun
  | [d1, d2, d3] => { results := [.lit (.bool true)], args := [d1, d2, d3] }
  | _ => none }
def forwardLaterRow : OpenClaim := { program := "ythginjllhlfadaa", sum := "52a268ef03e1dbaae34f511ed64e313f98b7ee73aed3eef8889eccc8af11620b", func := "fusee/fuseelaw03.ForwardLater", spec := "forwardLater", apart := false }
def ForwardLaterSaid : Prop := forwardLaterRow.holds Try.pinned (OpenSpec.ofChange forwardLaterSpec)

/-- ITS FALSE NEIGHBOUR: 'it returns false'. Refute it at one input. -/
def forwardLaterWrong : ChangeSpec := { name := "forwardLater", fn := fun _ => fun
  | [d1, d2, d3] => { results := [.lit (.bool false)], args := [d1, d2, d3] }
  | _ => none }
def ForwardLaterWrongFalsely : Prop := forwardLaterRow.holds Try.pinned (OpenSpec.ofChange forwardLaterWrong)

/-- 'fuseelaw12.DeviceWakes': WHATEVER THE INPUT: true; the input reads as it did. -/
def deviceWakesSpec : ChangeSpec := { name := "deviceWakes", fn := fun _ => fun
  | [d1, d2, d3, d4] => { results := [.lit (.bool true)], args := [d1, d2, d3, d4] }
  | _ => none }
def deviceWakesRow : OpenClaim := { program := "ythginjllhlfadaa", sum := "52a268ef03e1dbaae34f511ed64e313f98b7ee73aed3eef8889eccc8af11620b", func := "fusee/fuseelaw12.DeviceWakes", spec := "deviceWakes", apart := false }
def DeviceWakesSaid : Prop := deviceWakesRow.holds Try.pinned (OpenSpec.ofChange deviceWakesSpec)

/-- ITS FALSE NEIGHBOUR: 'it returns false'. Refute it at one input. -/
def deviceWakesWrong : ChangeSpec := { name := "deviceWakes", fn := fun _ => fun
  | [d1, d2, d3, d4] => { results := [.lit (.bool false)], args := [d1, d2, d3, d4] }
  | _ => none }
def DeviceWakesWrongFalsely : Prop := deviceWakesRow.holds Try.pinned (OpenSpec.ofChange deviceWakesWrong)

/-- 'fuseelaw01.KtimeTells': WHATEVER THE INPUT: true; the input reads as it did. -/
def ktimeTellsSpec : ChangeSpec := { name := "ktimeTells", fn := fun _ => fun
  | [d1, d2, d3] => { results := [.lit (.bool true)], args := [d1, d2, d3] }
  | _ => none }
def ktimeTellsRow : OpenClaim := { program := "ythginjllhlfadaa", sum := "52a268ef03e1dbaae34f511ed64e313f98b7ee73aed3eef8889eccc8af11620b", func := "fusee/fuseelaw01.KtimeTells", spec := "ktimeTells", apart := false }
def KtimeTellsSaid : Prop := ktimeTellsRow.holds Try.pinned (OpenSpec.ofChange ktimeTellsSpec)

/-- ITS FALSE NEIGHBOUR: 'it returns false'. Refute it at one input. -/
def ktimeTellsWrong : ChangeSpec := { name := "ktimeTells", fn := fun _ => fun
  | [d1, d2, d3] => { results := [.lit (.bool false)], args := [d1, d2, d3] }
  | _ => none }
def KtimeTellsWrongFalsely : Prop := ktimeTellsRow.holds Try.pinned (OpenSpec.ofChange ktimeTellsWrong)

/-- 'fuseelaw01.KtimeOrder': WHATEVER THE INPUT: true; the input reads as it did. -/
def ktimeOrderSpec : ChangeSpec := { name := "ktimeOrder", fn := fun _ => fun
  | [d1, d2, d3] => { results := [.lit (.bool true)], args := [d1, d2, d3] }
  | _ => none }
def ktimeOrderRow : OpenClaim := { program := "ythginjllhlfadaa", sum := "52a268ef03e1dbaae34f511ed64e313f98b7ee73aed3eef8889eccc8af11620b", func := "fusee/fuseelaw01.KtimeOrder", spec := "ktimeOrder", apart := false }
def KtimeOrderSaid : Prop := ktimeOrderRow.holds Try.pinned (OpenSpec.ofChange ktimeOrderSpec)

/-- ITS FALSE NEIGHBOUR: 'it returns false'. Refute it at one input. -/
def ktimeOrderWrong : ChangeSpec := { name := "ktimeOrder", fn := fun _ => fun
  | [d1, d2, d3] => { results := [.lit (.bool false)], args := [d1, d2, d3] }
  | _ => none }
def KtimeOrderWrongFalsely : Prop := ktimeOrderRow.holds Try.pinned (OpenSpec.ofChange ktimeOrderWrong)

/-- 'fuseelaw01.KtimeFirst': WHATEVER THE INPUT: true; the input reads as it did. -/
def ktimeFirstSpec : ChangeSpec := { name := "ktimeFirst", fn := fun _ => fun
  | [d] => { results := [.lit (.bool true)], args := [d] }
  | _ => none }
def ktimeFirstRow : OpenClaim := { program := "ythginjllhlfadaa", sum := "52a268ef03e1dbaae34f511ed64e313f98b7ee73aed3eef8889eccc8af11620b", func := "fusee/fuseelaw01.KtimeFirst", spec := "ktimeFirst", apart := false }
def KtimeFirstSaid : Prop := ktimeFirstRow.holds Try.pinned (OpenSpec.ofChange ktimeFirstSpec)

/-- ITS FALSE NEIGHBOUR: 'it returns false'. Refute it at one input. -/
def ktimeFirstWrong : ChangeSpec := { name := "ktimeFirst", fn := fun _ => fun
  | [d] => { results := [.lit (.bool false)], args := [d] }
  | _ => none }
def KtimeFirstWrongFalsely : Prop := ktimeFirstRow.holds Try.pinned (OpenSpec.ofChange ktimeFirstWrong)

/-- 'fuseelaw01.KtimeBack': WHATEVER THE INPUT: true; the input reads as it did. -/
def ktimeBackSpec : ChangeSpec := { name := "ktimeBack", fn := fun _ => fun
  | [d1, d2, d3] => { results := [.lit (.bool true)], args := [d1, d2, d3] }
  | _ => none }
def ktimeBackRow : OpenClaim := { program := "ythginjllhlfadaa", sum := "52a268ef03e1dbaae34f511ed64e313f98b7ee73aed3eef8889eccc8af11620b", func := "fusee/fuseelaw01.KtimeBack", spec := "ktimeBack", apart := false }
def KtimeBackSaid : Prop := ktimeBackRow.holds Try.pinned (OpenSpec.ofChange ktimeBackSpec)

/-- ITS FALSE NEIGHBOUR: 'it returns false'. Refute it at one input. -/
def ktimeBackWrong : ChangeSpec := { name := "ktimeBack", fn := fun _ => fun
  | [d1, d2, d3] => { results := [.lit (.bool false)], args := [d1, d2, d3] }
  | _ => none }
def KtimeBackWrongFalsely : Prop := ktimeBackRow.holds Try.pinned (OpenSpec.ofChange ktimeBackWrong)

/-- 'fuseelaw12.DevicePlays': WHATEVER THE INPUT: true; the input reads as it did. -/
def devicePlaysSpec : ChangeSpec := { name := "devicePlays", fn := fun _ => fun
  | [d1, d2, d3] => { results := [.lit (.bool true)], args := [d1, d2, d3] }
  | _ => none }
def devicePlaysRow : OpenClaim := { program := "ythginjllhlfadaa", sum := "52a268ef03e1dbaae34f511ed64e313f98b7ee73aed3eef8889eccc8af11620b", func := "fusee/fuseelaw12.DevicePlays", spec := "devicePlays", apart := false }
def DevicePlaysSaid : Prop := devicePlaysRow.holds Try.pinned (OpenSpec.ofChange devicePlaysSpec)

/-- ITS FALSE NEIGHBOUR: 'it returns false'. Refute it at one input. -/
def devicePlaysWrong : ChangeSpec := { name := "devicePlays", fn := fun _ => fun
  | [d1, d2, d3] => { results := [.lit (.bool false)], args := [d1, d2, d3] }
  | _ => none }
def DevicePlaysWrongFalsely : Prop := devicePlaysRow.holds Try.pinned (OpenSpec.ofChange devicePlaysWrong)

/-- 'fuseelaw19.TicklessSame': WHATEVER THE INPUT: true; the input reads as it did. -/
def ticklessSameSpec : ChangeSpec := { name := "ticklessSame", fn := fun _ => fun
  | [d1, d2, d3] => { results := [.lit (.bool true)], args := [d1, d2, d3] }
  | _ => none }
def ticklessSameRow : OpenClaim := { program := "ythginjllhlfadaa", sum := "52a268ef03e1dbaae34f511ed64e313f98b7ee73aed3eef8889eccc8af11620b", func := "fusee/fuseelaw19.TicklessSame", spec := "ticklessSame", apart := false }
def TicklessSameSaid : Prop := ticklessSameRow.holds Try.pinned (OpenSpec.ofChange ticklessSameSpec)

/-- ITS FALSE NEIGHBOUR: 'it returns false'. Refute it at one input. -/
def ticklessSameWrong : ChangeSpec := { name := "ticklessSame", fn := fun _ => fun
  | [d1, d2, d3] => { results := [.lit (.bool false)], args := [d1, d2, d3] }
  | _ => none }
def TicklessSameWrongFalsely : Prop := ticklessSameRow.holds Try.pinned (OpenSpec.ofChange ticklessSameWrong)

/- THE SECOND FORM. 'bulk': how many values and letters a reading holds, each counted each time it is reached (what is shared counts as often as it is met; a slice's spare places count too). A statement '..UptoSaid' is the law's where the arguments, and the package variables that the reading takes, are together of bulk at most 1048576: NARROWER than '..Said'. Prove '..Said' where nothing that the law and all that it calls make is longer than what came in: it says more and counts as full. Else prove '..UptoSaid'. A law counts once. -/
mutual
def uptoBulk {H : Type} : DataW H → Nat
  | .lit (.string bytes) => bytes.length + 1
  | .lit _ => 1
  | .nil => 1
  | .ptr d => uptoBulk d + 1
  | .slice elems spare => uptoBulkAll elems + uptoBulkAll spare + 1
  | .agg parts => uptoBulkAll parts + 1
  | .iface _ d => uptoBulk d + 1
  | .map entries => uptoBulkEntries entries + 1
  | .held _ => 1
def uptoBulkAll {H : Type} : List (DataW H) → Nat
  | [] => 0
  | d :: r => uptoBulk d + uptoBulkAll r
def uptoBulkEntries {H : Type} : List (Lit × DataW H) → Nat
  | [] => 0
  | x :: r => uptoBulkEntry x + uptoBulkEntries r
def uptoBulkEntry {H : Type} : Lit × DataW H → Nat
  | (.string bytes, d) => bytes.length + uptoBulk d + 1
  | (_, d) => uptoBulk d + 1
 end
def uptoSmall : (H : Type) → List (DataW H) → Bool := fun _ ds => decide (uptoBulkAll ds ≤ 1048576)
def OpenSpec.upto (s : _root_.Go.ChangeSpec) : _root_.Go.OpenSpec := { _root_.Go.OpenSpec.ofChange s with cond := some uptoSmall }

/-- 'fuseelaw03.ForwardTells', WHERE WHAT IT READS IS OF BULK AT MOST 1048576: true; the input reads as it did. -/
def forwardTellsUptoRow : OpenClaim := { program := "ythginjllhlfadaa", sum := "52a268ef03e1dbaae34f511ed64e313f98b7ee73aed3eef8889eccc8af11620b", func := "fusee/fuseelaw03.ForwardTells", spec := "forwardTells", apart := false, narrowed := true }
def ForwardTellsUptoSaid : Prop := forwardTellsUptoRow.holds Try.pinned (OpenSpec.upto forwardTellsSpec)

/-- 'fuseelaw03.ForwardNth', WHERE WHAT IT READS IS OF BULK AT MOST 1048576: true; the input reads as it did. -/
def forwardNthUptoRow : OpenClaim := { program := "ythginjllhlfadaa", sum := "52a268ef03e1dbaae34f511ed64e313f98b7ee73aed3eef8889eccc8af11620b", func := "fusee/fuseelaw03.ForwardNth", spec := "forwardNth", apart := false, narrowed := true }
def ForwardNthUptoSaid : Prop := forwardNthUptoRow.holds Try.pinned (OpenSpec.upto forwardNthSpec)

/-- 'fuseelaw03.ForwardLater', WHERE WHAT IT READS IS OF BULK AT MOST 1048576: true; the input reads as it did. -/
def forwardLaterUptoRow : OpenClaim := { program := "ythginjllhlfadaa", sum := "52a268ef03e1dbaae34f511ed64e313f98b7ee73aed3eef8889eccc8af11620b", func := "fusee/fuseelaw03.ForwardLater", spec := "forwardLater", apart := false, narrowed := true }
def ForwardLaterUptoSaid : Prop := forwardLaterUptoRow.holds Try.pinned (OpenSpec.upto forwardLaterSpec)

/-- 'fuseelaw12.DeviceWakes', WHERE WHAT IT READS IS OF BULK AT MOST 1048576: true; the input reads as it did. -/
def deviceWakesUptoRow : OpenClaim := { program := "ythginjllhlfadaa", sum := "52a268ef03e1dbaae34f511ed64e313f98b7ee73aed3eef8889eccc8af11620b", func := "fusee/fuseelaw12.DeviceWakes", spec := "deviceWakes", apart := false, narrowed := true }
def DeviceWakesUptoSaid : Prop := deviceWakesUptoRow.holds Try.pinned (OpenSpec.upto deviceWakesSpec)

/-- 'fuseelaw01.KtimeTells', WHERE WHAT IT READS IS OF BULK AT MOST 1048576: true; the input reads as it did. -/
def ktimeTellsUptoRow : OpenClaim := { program := "ythginjllhlfadaa", sum := "52a268ef03e1dbaae34f511ed64e313f98b7ee73aed3eef8889eccc8af11620b", func := "fusee/fuseelaw01.KtimeTells", spec := "ktimeTells", apart := false, narrowed := true }
def KtimeTellsUptoSaid : Prop := ktimeTellsUptoRow.holds Try.pinned (OpenSpec.upto ktimeTellsSpec)

/-- 'fuseelaw01.KtimeOrder', WHERE WHAT IT READS IS OF BULK AT MOST 1048576: true; the input reads as it did. -/
def ktimeOrderUptoRow : OpenClaim := { program := "ythginjllhlfadaa", sum := "52a268ef03e1dbaae34f511ed64e313f98b7ee73aed3eef8889eccc8af11620b", func := "fusee/fuseelaw01.KtimeOrder", spec := "ktimeOrder", apart := false, narrowed := true }
def KtimeOrderUptoSaid : Prop := ktimeOrderUptoRow.holds Try.pinned (OpenSpec.upto ktimeOrderSpec)

/-- 'fuseelaw01.KtimeFirst', WHERE WHAT IT READS IS OF BULK AT MOST 1048576: true; the input reads as it did. -/
def ktimeFirstUptoRow : OpenClaim := { program := "ythginjllhlfadaa", sum := "52a268ef03e1dbaae34f511ed64e313f98b7ee73aed3eef8889eccc8af11620b", func := "fusee/fuseelaw01.KtimeFirst", spec := "ktimeFirst", apart := false, narrowed := true }
def KtimeFirstUptoSaid : Prop := ktimeFirstUptoRow.holds Try.pinned (OpenSpec.upto ktimeFirstSpec)

/-- 'fuseelaw01.KtimeBack', WHERE WHAT IT READS IS OF BULK AT MOST 1048576: true; the input reads as it did. -/
def ktimeBackUptoRow : OpenClaim := { program := "ythginjllhlfadaa", sum := "52a268ef03e1dbaae34f511ed64e313f98b7ee73aed3eef8889eccc8af11620b", func := "fusee/fuseelaw01.KtimeBack", spec := "ktimeBack", apart := false, narrowed := true }
def KtimeBackUptoSaid : Prop := ktimeBackUptoRow.holds Try.pinned (OpenSpec.upto ktimeBackSpec)

/-- 'fuseelaw12.DevicePlays', WHERE WHAT IT READS IS OF BULK AT MOST 1048576: true; the input reads as it did. -/
def devicePlaysUptoRow : OpenClaim := { program := "ythginjllhlfadaa", sum := "52a268ef03e1dbaae34f511ed64e313f98b7ee73aed3eef8889eccc8af11620b", func := "fusee/fuseelaw12.DevicePlays", spec := "devicePlays", apart := false, narrowed := true }
def DevicePlaysUptoSaid : Prop := devicePlaysUptoRow.holds Try.pinned (OpenSpec.upto devicePlaysSpec)

/-- 'fuseelaw19.TicklessSame', WHERE WHAT IT READS IS OF BULK AT MOST 1048576: true; the input reads as it did. -/
def ticklessSameUptoRow : OpenClaim := { program := "ythginjllhlfadaa", sum := "52a268ef03e1dbaae34f511ed64e313f98b7ee73aed3eef8889eccc8af11620b", func := "fusee/fuseelaw19.TicklessSame", spec := "ticklessSame", apart := false, narrowed := true }
def TicklessSameUptoSaid : Prop := ticklessSameUptoRow.holds Try.pinned (OpenSpec.upto ticklessSameSpec)

end Rows
end Go.Proofs.Ythginjllhlfadaa
