/-
  NARROWER THAN 'FOR EVERY INPUT', by the rows' own cells (each row's printed sentence says how): SpecTimes: laid · SpecTexts: laid · SpecAdds: laid · CivilDays: laid · CivilNumbers: laid · CivilWeeks: laid · CivilGoes: laid · CivilSeconds: laid · CivilTexts: laid.
  DERIVED. THE GIVEN ROWS OF THIS SEAT. 9 by the template 'for every input the law returns true; each argument reads behind the call as it read before'; 0 by the template 'total and deterministic' (their statements: YtemellkcbbhlcaaDoorTotals.lean).
  GIVEN WITH THE SEED: the statements are not yours to turn. If you find one false, say at which input.
  Laid BY PROGRAM, IN A SANDBOX (cutbox-rows.mjs): the forced cells as the released guide's own fill.sh prints them over the translation c1e4ebdfcd3d42d1… (all of the seat's roots in one cut). By AI agents, Wed Nov 11 2026. No macro, syntax, notation, axiom, sorry.
-/
import Derived.Test.YtemellkcbbhlcaaDoorChecked
import GoSem.Claim
import GoSem.ClaimJoined
import GoSem.ClaimMapViews
import Derived.JoinedTies
import Derived.KernelRfl
namespace Go.Proofs.YtemellkcbbhlcaaDoor
/- THE CELL 'sum', in the pinned program and in every row, IS THE sha256 OF THE DUMP (.gsa) THAT YtemellkcbbhlcaaDoorProg.lean LOADS. Nothing in Lean hashes anything: it is a label: what it is worth is what the hold of that sum in a sandbox is worth. -/
noncomputable def Tryd.pinned : Pinned := { name := "ytemellkcbbhlcaadoor", sum := "c1e4ebdfcd3d42d1d39d80aaad44124f30404245a585546af66ad69a4afeddae", checked := Tryd.checked }
namespace Rows
def none {H : Type} : Left H := { results := [], args := [] }

/- WHAT THE LISTED PACKAGE-LEVEL VARIABLES READ AS WHEN THE CALL BEGINS. Each datum BY PROGRAM (the guide's laid-datum.mjs) off the statement by which the dump's own 'gosem.cut.vars' lays the variable. In a bare row this is a premise. The card (YtemellkcbbhlcaaDoorCards.lean) ties it to the program's text. -/
def laid_math_bits_deBruijn32tab {H : Type} : DataW H := .agg [.lit (.int .u8 0), .lit (.int .u8 1), .lit (.int .u8 28), .lit (.int .u8 2), .lit (.int .u8 29), .lit (.int .u8 14), .lit (.int .u8 24), .lit (.int .u8 3), .lit (.int .u8 30), .lit (.int .u8 22), .lit (.int .u8 20), .lit (.int .u8 15), .lit (.int .u8 25), .lit (.int .u8 17), .lit (.int .u8 4), .lit (.int .u8 8), .lit (.int .u8 31), .lit (.int .u8 27), .lit (.int .u8 13), .lit (.int .u8 23), .lit (.int .u8 21), .lit (.int .u8 19), .lit (.int .u8 16), .lit (.int .u8 7), .lit (.int .u8 26), .lit (.int .u8 12), .lit (.int .u8 18), .lit (.int .u8 6), .lit (.int .u8 11), .lit (.int .u8 5), .lit (.int .u8 10), .lit (.int .u8 9)]
def laid_math_bits_deBruijn64tab {H : Type} : DataW H := .agg [.lit (.int .u8 0), .lit (.int .u8 1), .lit (.int .u8 56), .lit (.int .u8 2), .lit (.int .u8 57), .lit (.int .u8 49), .lit (.int .u8 28), .lit (.int .u8 3), .lit (.int .u8 61), .lit (.int .u8 58), .lit (.int .u8 42), .lit (.int .u8 50), .lit (.int .u8 38), .lit (.int .u8 29), .lit (.int .u8 17), .lit (.int .u8 4), .lit (.int .u8 62), .lit (.int .u8 47), .lit (.int .u8 59), .lit (.int .u8 36), .lit (.int .u8 45), .lit (.int .u8 43), .lit (.int .u8 51), .lit (.int .u8 22), .lit (.int .u8 53), .lit (.int .u8 39), .lit (.int .u8 33), .lit (.int .u8 30), .lit (.int .u8 24), .lit (.int .u8 18), .lit (.int .u8 12), .lit (.int .u8 5), .lit (.int .u8 63), .lit (.int .u8 55), .lit (.int .u8 48), .lit (.int .u8 27), .lit (.int .u8 60), .lit (.int .u8 41), .lit (.int .u8 37), .lit (.int .u8 16), .lit (.int .u8 46), .lit (.int .u8 35), .lit (.int .u8 44), .lit (.int .u8 21), .lit (.int .u8 52), .lit (.int .u8 32), .lit (.int .u8 23), .lit (.int .u8 11), .lit (.int .u8 54), .lit (.int .u8 26), .lit (.int .u8 40), .lit (.int .u8 15), .lit (.int .u8 34), .lit (.int .u8 20), .lit (.int .u8 31), .lit (.int .u8 10), .lit (.int .u8 25), .lit (.int .u8 14), .lit (.int .u8 19), .lit (.int .u8 9), .lit (.int .u8 13), .lit (.int .u8 8), .lit (.int .u8 7), .lit (.int .u8 6)]
def laid_internal_strconv_uint64pow10 {H : Type} : DataW H := .agg [.lit (.int .u64 1), .lit (.int .u64 10), .lit (.int .u64 100), .lit (.int .u64 1000), .lit (.int .u64 10000), .lit (.int .u64 100000), .lit (.int .u64 1000000), .lit (.int .u64 10000000), .lit (.int .u64 100000000), .lit (.int .u64 1000000000), .lit (.int .u64 10000000000), .lit (.int .u64 100000000000), .lit (.int .u64 1000000000000), .lit (.int .u64 10000000000000), .lit (.int .u64 100000000000000), .lit (.int .u64 1000000000000000), .lit (.int .u64 10000000000000000), .lit (.int .u64 100000000000000000), .lit (.int .u64 1000000000000000000), .lit (.int .u64 10000000000000000000)]
def laid_strconv_ErrRange {H : Type} : DataW H := .iface "*errors.errorString" (.ptr (.agg [.lit (.string [118, 97, 108, 117, 101, 32, 111, 117, 116, 32, 111, 102, 32, 114, 97, 110, 103, 101])]))
def laid_strconv_ErrSyntax {H : Type} : DataW H := .iface "*errors.errorString" (.ptr (.agg [.lit (.string [105, 110, 118, 97, 108, 105, 100, 32, 115, 121, 110, 116, 97, 120])]))

/-- 'fuseelaw02.SpecTimes': WHATEVER THE INPUT: true; the input reads as it did. -/
def specTimesSpec : ChangeSpec := { name := "specTimes", fn := fun _ => fun
  | [d1, d2] => { results := [.lit (.bool true)], args := [d1, d2] }
  | _ => none }
def specTimesRow : OpenClaim := { program := "ytemellkcbbhlcaadoor", sum := "c1e4ebdfcd3d42d1d39d80aaad44124f30404245a585546af66ad69a4afeddae", func := "fusee/fuseelaw02.SpecTimes", spec := "specTimes", inPlace := ["internal/abi.NoEscape", "internal/bytealg.MakeNoZero", "internal/bytealg.IndexByteString", "internal/bytealg.IndexString"], named := ["internal/strconv.uint64pow10", "math/bits.deBruijn32tab", "math/bits.deBruijn64tab", "internal/bytealg.MaxLen"], apart := false, laid := [("math/bits.deBruijn32tab", laid_math_bits_deBruijn32tab), ("math/bits.deBruijn64tab", laid_math_bits_deBruijn64tab), ("internal/strconv.uint64pow10", laid_internal_strconv_uint64pow10)] }
def SpecTimesSaid : Prop := specTimesRow.holds Tryd.pinned (OpenSpec.ofChange specTimesSpec)

/-- ITS FALSE NEIGHBOUR: 'it returns false'. Refute it at one input. -/
def specTimesWrong : ChangeSpec := { name := "specTimes", fn := fun _ => fun
  | [d1, d2] => { results := [.lit (.bool false)], args := [d1, d2] }
  | _ => none }
def SpecTimesWrongFalsely : Prop := specTimesRow.holds Tryd.pinned (OpenSpec.ofChange specTimesWrong)

/-- 'fuseelaw02.SpecTexts': WHATEVER THE INPUT: true; the input reads as it did. -/
def specTextsSpec : ChangeSpec := { name := "specTexts", fn := fun _ => fun
  | [d1, d2] => { results := [.lit (.bool true)], args := [d1, d2] }
  | _ => none }
def specTextsRow : OpenClaim := { program := "ytemellkcbbhlcaadoor", sum := "c1e4ebdfcd3d42d1d39d80aaad44124f30404245a585546af66ad69a4afeddae", func := "fusee/fuseelaw02.SpecTexts", spec := "specTexts", inPlace := ["internal/abi.NoEscape", "internal/bytealg.MakeNoZero", "internal/bytealg.IndexByteString", "internal/bytealg.IndexString"], recurses := true, named := ["internal/strconv.uint64pow10", "math/bits.deBruijn32tab", "math/bits.deBruijn64tab", "internal/bytealg.MaxLen"], apart := false, laid := [("math/bits.deBruijn32tab", laid_math_bits_deBruijn32tab), ("math/bits.deBruijn64tab", laid_math_bits_deBruijn64tab), ("internal/strconv.uint64pow10", laid_internal_strconv_uint64pow10)] }
def SpecTextsSaid : Prop := specTextsRow.holds Tryd.pinned (OpenSpec.ofChange specTextsSpec)

/-- ITS FALSE NEIGHBOUR: 'it returns false'. Refute it at one input. -/
def specTextsWrong : ChangeSpec := { name := "specTexts", fn := fun _ => fun
  | [d1, d2] => { results := [.lit (.bool false)], args := [d1, d2] }
  | _ => none }
def SpecTextsWrongFalsely : Prop := specTextsRow.holds Tryd.pinned (OpenSpec.ofChange specTextsWrong)

/-- 'fuseelaw02.SpecAdds': WHATEVER THE INPUT: true; the input reads as it did. -/
def specAddsSpec : ChangeSpec := { name := "specAdds", fn := fun _ => fun
  | [d1, d2, d3] => { results := [.lit (.bool true)], args := [d1, d2, d3] }
  | _ => none }
def specAddsRow : OpenClaim := { program := "ytemellkcbbhlcaadoor", sum := "c1e4ebdfcd3d42d1d39d80aaad44124f30404245a585546af66ad69a4afeddae", func := "fusee/fuseelaw02.SpecAdds", spec := "specAdds", inPlace := ["internal/abi.NoEscape", "internal/bytealg.MakeNoZero", "internal/bytealg.IndexByteString", "internal/bytealg.IndexString"], named := ["internal/strconv.uint64pow10", "math/bits.deBruijn32tab", "math/bits.deBruijn64tab", "internal/bytealg.MaxLen"], apart := false, laid := [("math/bits.deBruijn32tab", laid_math_bits_deBruijn32tab), ("math/bits.deBruijn64tab", laid_math_bits_deBruijn64tab), ("internal/strconv.uint64pow10", laid_internal_strconv_uint64pow10)] }
def SpecAddsSaid : Prop := specAddsRow.holds Tryd.pinned (OpenSpec.ofChange specAddsSpec)

/-- ITS FALSE NEIGHBOUR: 'it returns false'. Refute it at one input. -/
def specAddsWrong : ChangeSpec := { name := "specAdds", fn := fun _ => fun
  | [d1, d2, d3] => { results := [.lit (.bool false)], args := [d1, d2, d3] }
  | _ => none }
def SpecAddsWrongFalsely : Prop := specAddsRow.holds Tryd.pinned (OpenSpec.ofChange specAddsWrong)

/-- 'fuseelaw07.CivilDays': WHATEVER THE INPUT: true; the input reads as it did. -/
def civilDaysSpec : ChangeSpec := { name := "civilDays", fn := fun _ => fun
  | [d1, d2, d3] => { results := [.lit (.bool true)], args := [d1, d2, d3] }
  | _ => none }
def civilDaysRow : OpenClaim := { program := "ytemellkcbbhlcaadoor", sum := "c1e4ebdfcd3d42d1d39d80aaad44124f30404245a585546af66ad69a4afeddae", func := "fusee/fuseelaw07.CivilDays", spec := "civilDays", inPlace := ["internal/abi.NoEscape", "internal/bytealg.MakeNoZero"], unfollowed := true, recurses := true, named := ["internal/strconv.uint64pow10", "math/bits.deBruijn32tab", "math/bits.deBruijn64tab", "strconv.ErrSyntax", "strconv.ErrRange"], apart := false, laid := [("math/bits.deBruijn32tab", laid_math_bits_deBruijn32tab), ("math/bits.deBruijn64tab", laid_math_bits_deBruijn64tab), ("internal/strconv.uint64pow10", laid_internal_strconv_uint64pow10), ("strconv.ErrRange", laid_strconv_ErrRange), ("strconv.ErrSyntax", laid_strconv_ErrSyntax)] }
def CivilDaysSaid : Prop := civilDaysRow.holds Tryd.pinned (OpenSpec.ofChange civilDaysSpec)

/-- ITS FALSE NEIGHBOUR: 'it returns false'. Refute it at one input. -/
def civilDaysWrong : ChangeSpec := { name := "civilDays", fn := fun _ => fun
  | [d1, d2, d3] => { results := [.lit (.bool false)], args := [d1, d2, d3] }
  | _ => none }
def CivilDaysWrongFalsely : Prop := civilDaysRow.holds Tryd.pinned (OpenSpec.ofChange civilDaysWrong)

/-- 'fuseelaw07.CivilNumbers': WHATEVER THE INPUT: true; the input reads as it did. -/
def civilNumbersSpec : ChangeSpec := { name := "civilNumbers", fn := fun _ => fun
  | [d] => { results := [.lit (.bool true)], args := [d] }
  | _ => none }
def civilNumbersRow : OpenClaim := { program := "ytemellkcbbhlcaadoor", sum := "c1e4ebdfcd3d42d1d39d80aaad44124f30404245a585546af66ad69a4afeddae", func := "fusee/fuseelaw07.CivilNumbers", spec := "civilNumbers", inPlace := ["internal/abi.NoEscape", "internal/bytealg.MakeNoZero"], unfollowed := true, recurses := true, named := ["internal/strconv.uint64pow10", "math/bits.deBruijn32tab", "math/bits.deBruijn64tab", "strconv.ErrSyntax", "strconv.ErrRange"], apart := false, laid := [("math/bits.deBruijn32tab", laid_math_bits_deBruijn32tab), ("math/bits.deBruijn64tab", laid_math_bits_deBruijn64tab), ("internal/strconv.uint64pow10", laid_internal_strconv_uint64pow10), ("strconv.ErrRange", laid_strconv_ErrRange), ("strconv.ErrSyntax", laid_strconv_ErrSyntax)] }
def CivilNumbersSaid : Prop := civilNumbersRow.holds Tryd.pinned (OpenSpec.ofChange civilNumbersSpec)

/-- ITS FALSE NEIGHBOUR: 'it returns false'. Refute it at one input. -/
def civilNumbersWrong : ChangeSpec := { name := "civilNumbers", fn := fun _ => fun
  | [d] => { results := [.lit (.bool false)], args := [d] }
  | _ => none }
def CivilNumbersWrongFalsely : Prop := civilNumbersRow.holds Tryd.pinned (OpenSpec.ofChange civilNumbersWrong)

/-- 'fuseelaw07.CivilWeeks': WHATEVER THE INPUT: true; the input reads as it did. -/
def civilWeeksSpec : ChangeSpec := { name := "civilWeeks", fn := fun _ => fun
  | [d] => { results := [.lit (.bool true)], args := [d] }
  | _ => none }
def civilWeeksRow : OpenClaim := { program := "ytemellkcbbhlcaadoor", sum := "c1e4ebdfcd3d42d1d39d80aaad44124f30404245a585546af66ad69a4afeddae", func := "fusee/fuseelaw07.CivilWeeks", spec := "civilWeeks", inPlace := ["internal/abi.NoEscape", "internal/bytealg.MakeNoZero"], unfollowed := true, recurses := true, named := ["internal/strconv.uint64pow10", "math/bits.deBruijn32tab", "math/bits.deBruijn64tab", "strconv.ErrSyntax", "strconv.ErrRange"], apart := false, laid := [("math/bits.deBruijn32tab", laid_math_bits_deBruijn32tab), ("math/bits.deBruijn64tab", laid_math_bits_deBruijn64tab), ("internal/strconv.uint64pow10", laid_internal_strconv_uint64pow10), ("strconv.ErrRange", laid_strconv_ErrRange), ("strconv.ErrSyntax", laid_strconv_ErrSyntax)] }
def CivilWeeksSaid : Prop := civilWeeksRow.holds Tryd.pinned (OpenSpec.ofChange civilWeeksSpec)

/-- ITS FALSE NEIGHBOUR: 'it returns false'. Refute it at one input. -/
def civilWeeksWrong : ChangeSpec := { name := "civilWeeks", fn := fun _ => fun
  | [d] => { results := [.lit (.bool false)], args := [d] }
  | _ => none }
def CivilWeeksWrongFalsely : Prop := civilWeeksRow.holds Tryd.pinned (OpenSpec.ofChange civilWeeksWrong)

/-- 'fuseelaw07.CivilGoes': WHATEVER THE INPUT: true; the input reads as it did. -/
def civilGoesSpec : ChangeSpec := { name := "civilGoes", fn := fun _ => fun
  | [d] => { results := [.lit (.bool true)], args := [d] }
  | _ => none }
def civilGoesRow : OpenClaim := { program := "ytemellkcbbhlcaadoor", sum := "c1e4ebdfcd3d42d1d39d80aaad44124f30404245a585546af66ad69a4afeddae", func := "fusee/fuseelaw07.CivilGoes", spec := "civilGoes", inPlace := ["internal/abi.NoEscape", "internal/bytealg.MakeNoZero"], unfollowed := true, recurses := true, named := ["internal/strconv.uint64pow10", "math/bits.deBruijn32tab", "math/bits.deBruijn64tab", "strconv.ErrSyntax", "strconv.ErrRange"], apart := false, laid := [("math/bits.deBruijn32tab", laid_math_bits_deBruijn32tab), ("math/bits.deBruijn64tab", laid_math_bits_deBruijn64tab), ("internal/strconv.uint64pow10", laid_internal_strconv_uint64pow10), ("strconv.ErrRange", laid_strconv_ErrRange), ("strconv.ErrSyntax", laid_strconv_ErrSyntax)] }
def CivilGoesSaid : Prop := civilGoesRow.holds Tryd.pinned (OpenSpec.ofChange civilGoesSpec)

/-- ITS FALSE NEIGHBOUR: 'it returns false'. Refute it at one input. -/
def civilGoesWrong : ChangeSpec := { name := "civilGoes", fn := fun _ => fun
  | [d] => { results := [.lit (.bool false)], args := [d] }
  | _ => none }
def CivilGoesWrongFalsely : Prop := civilGoesRow.holds Tryd.pinned (OpenSpec.ofChange civilGoesWrong)

/-- 'fuseelaw07.CivilSeconds': WHATEVER THE INPUT: true; the input reads as it did. -/
def civilSecondsSpec : ChangeSpec := { name := "civilSeconds", fn := fun _ => fun
  | [d1, d2] => { results := [.lit (.bool true)], args := [d1, d2] }
  | _ => none }
def civilSecondsRow : OpenClaim := { program := "ytemellkcbbhlcaadoor", sum := "c1e4ebdfcd3d42d1d39d80aaad44124f30404245a585546af66ad69a4afeddae", func := "fusee/fuseelaw07.CivilSeconds", spec := "civilSeconds", inPlace := ["internal/abi.NoEscape", "internal/bytealg.MakeNoZero"], unfollowed := true, recurses := true, named := ["internal/strconv.uint64pow10", "math/bits.deBruijn32tab", "math/bits.deBruijn64tab", "strconv.ErrSyntax", "strconv.ErrRange"], apart := false, laid := [("math/bits.deBruijn32tab", laid_math_bits_deBruijn32tab), ("math/bits.deBruijn64tab", laid_math_bits_deBruijn64tab), ("internal/strconv.uint64pow10", laid_internal_strconv_uint64pow10), ("strconv.ErrRange", laid_strconv_ErrRange), ("strconv.ErrSyntax", laid_strconv_ErrSyntax)] }
def CivilSecondsSaid : Prop := civilSecondsRow.holds Tryd.pinned (OpenSpec.ofChange civilSecondsSpec)

/-- ITS FALSE NEIGHBOUR: 'it returns false'. Refute it at one input. -/
def civilSecondsWrong : ChangeSpec := { name := "civilSeconds", fn := fun _ => fun
  | [d1, d2] => { results := [.lit (.bool false)], args := [d1, d2] }
  | _ => none }
def CivilSecondsWrongFalsely : Prop := civilSecondsRow.holds Tryd.pinned (OpenSpec.ofChange civilSecondsWrong)

/-- 'fuseelaw07.CivilTexts': WHATEVER THE INPUT: true; the input reads as it did. -/
def civilTextsSpec : ChangeSpec := { name := "civilTexts", fn := fun _ => fun
  | [d1, d2] => { results := [.lit (.bool true)], args := [d1, d2] }
  | _ => none }
def civilTextsRow : OpenClaim := { program := "ytemellkcbbhlcaadoor", sum := "c1e4ebdfcd3d42d1d39d80aaad44124f30404245a585546af66ad69a4afeddae", func := "fusee/fuseelaw07.CivilTexts", spec := "civilTexts", inPlace := ["internal/abi.NoEscape", "internal/bytealg.MakeNoZero"], unfollowed := true, recurses := true, named := ["internal/strconv.uint64pow10", "math/bits.deBruijn32tab", "math/bits.deBruijn64tab", "strconv.ErrSyntax", "strconv.ErrRange"], apart := false, laid := [("math/bits.deBruijn32tab", laid_math_bits_deBruijn32tab), ("math/bits.deBruijn64tab", laid_math_bits_deBruijn64tab), ("internal/strconv.uint64pow10", laid_internal_strconv_uint64pow10), ("strconv.ErrRange", laid_strconv_ErrRange), ("strconv.ErrSyntax", laid_strconv_ErrSyntax)] }
def CivilTextsSaid : Prop := civilTextsRow.holds Tryd.pinned (OpenSpec.ofChange civilTextsSpec)

/-- ITS FALSE NEIGHBOUR: 'it returns false'. Refute it at one input. -/
def civilTextsWrong : ChangeSpec := { name := "civilTexts", fn := fun _ => fun
  | [d1, d2] => { results := [.lit (.bool false)], args := [d1, d2] }
  | _ => none }
def CivilTextsWrongFalsely : Prop := civilTextsRow.holds Tryd.pinned (OpenSpec.ofChange civilTextsWrong)

/- THE SECOND FORM. 'bulk': how many values and letters a reading holds, each counted each time it is reached (what is shared counts as often as it is met; a slice's spare places count too). A statement '..UptoSaid' is the law's where the arguments, and the package variables that the reading takes, are together of bulk at most 1048576: NARROWER than '..Said'. Prove '..Said' where nothing that the law and all that it calls make is longer than what came in: it says more and counts as full. Else prove '..UptoSaid'. A law counts once. -/
mutual
def uptoBulk {H : Type} : DataW H → Nat
  | .lit (.string bytes) => bytes.length + 1
  | .lit _ => 1
  | .nil => 1
  | .ptr d => uptoBulk d + 1
  | .slice elems spare => uptoBulkAll elems + uptoBulkAll spare + 1
  | .agg parts => uptoBulkAll parts + 1
  | .iface _ d => uptoBulk d + 1
  | .map entries => uptoBulkEntries entries + 1
  | .held _ => 1
def uptoBulkAll {H : Type} : List (DataW H) → Nat
  | [] => 0
  | d :: r => uptoBulk d + uptoBulkAll r
def uptoBulkEntries {H : Type} : List (Lit × DataW H) → Nat
  | [] => 0
  | x :: r => uptoBulkEntry x + uptoBulkEntries r
def uptoBulkEntry {H : Type} : Lit × DataW H → Nat
  | (.string bytes, d) => bytes.length + uptoBulk d + 1
  | (_, d) => uptoBulk d + 1
 end
def uptoSmall : (H : Type) → List (DataW H) → Bool := fun _ ds => decide (uptoBulkAll ds ≤ 1048576)
def OpenSpec.upto (s : _root_.Go.ChangeSpec) : _root_.Go.OpenSpec := { _root_.Go.OpenSpec.ofChange s with cond := some uptoSmall }

/-- 'fuseelaw02.SpecTimes', WHERE WHAT IT READS IS OF BULK AT MOST 1048576: true; the input reads as it did. -/
def specTimesUptoRow : OpenClaim := { program := "ytemellkcbbhlcaadoor", sum := "c1e4ebdfcd3d42d1d39d80aaad44124f30404245a585546af66ad69a4afeddae", func := "fusee/fuseelaw02.SpecTimes", spec := "specTimes", inPlace := ["internal/abi.NoEscape", "internal/bytealg.MakeNoZero", "internal/bytealg.IndexByteString", "internal/bytealg.IndexString"], named := ["internal/strconv.uint64pow10", "math/bits.deBruijn32tab", "math/bits.deBruijn64tab", "internal/bytealg.MaxLen"], apart := false, laid := [("math/bits.deBruijn32tab", laid_math_bits_deBruijn32tab), ("math/bits.deBruijn64tab", laid_math_bits_deBruijn64tab), ("internal/strconv.uint64pow10", laid_internal_strconv_uint64pow10)], narrowed := true }
def SpecTimesUptoSaid : Prop := specTimesUptoRow.holds Tryd.pinned (OpenSpec.upto specTimesSpec)

/-- 'fuseelaw02.SpecTexts', WHERE WHAT IT READS IS OF BULK AT MOST 1048576: true; the input reads as it did. -/
def specTextsUptoRow : OpenClaim := { program := "ytemellkcbbhlcaadoor", sum := "c1e4ebdfcd3d42d1d39d80aaad44124f30404245a585546af66ad69a4afeddae", func := "fusee/fuseelaw02.SpecTexts", spec := "specTexts", inPlace := ["internal/abi.NoEscape", "internal/bytealg.MakeNoZero", "internal/bytealg.IndexByteString", "internal/bytealg.IndexString"], recurses := true, named := ["internal/strconv.uint64pow10", "math/bits.deBruijn32tab", "math/bits.deBruijn64tab", "internal/bytealg.MaxLen"], apart := false, laid := [("math/bits.deBruijn32tab", laid_math_bits_deBruijn32tab), ("math/bits.deBruijn64tab", laid_math_bits_deBruijn64tab), ("internal/strconv.uint64pow10", laid_internal_strconv_uint64pow10)], narrowed := true }
def SpecTextsUptoSaid : Prop := specTextsUptoRow.holds Tryd.pinned (OpenSpec.upto specTextsSpec)

/-- 'fuseelaw02.SpecAdds', WHERE WHAT IT READS IS OF BULK AT MOST 1048576: true; the input reads as it did. -/
def specAddsUptoRow : OpenClaim := { program := "ytemellkcbbhlcaadoor", sum := "c1e4ebdfcd3d42d1d39d80aaad44124f30404245a585546af66ad69a4afeddae", func := "fusee/fuseelaw02.SpecAdds", spec := "specAdds", inPlace := ["internal/abi.NoEscape", "internal/bytealg.MakeNoZero", "internal/bytealg.IndexByteString", "internal/bytealg.IndexString"], named := ["internal/strconv.uint64pow10", "math/bits.deBruijn32tab", "math/bits.deBruijn64tab", "internal/bytealg.MaxLen"], apart := false, laid := [("math/bits.deBruijn32tab", laid_math_bits_deBruijn32tab), ("math/bits.deBruijn64tab", laid_math_bits_deBruijn64tab), ("internal/strconv.uint64pow10", laid_internal_strconv_uint64pow10)], narrowed := true }
def SpecAddsUptoSaid : Prop := specAddsUptoRow.holds Tryd.pinned (OpenSpec.upto specAddsSpec)

/-- 'fuseelaw07.CivilDays', WHERE WHAT IT READS IS OF BULK AT MOST 1048576: true; the input reads as it did. -/
def civilDaysUptoRow : OpenClaim := { program := "ytemellkcbbhlcaadoor", sum := "c1e4ebdfcd3d42d1d39d80aaad44124f30404245a585546af66ad69a4afeddae", func := "fusee/fuseelaw07.CivilDays", spec := "civilDays", inPlace := ["internal/abi.NoEscape", "internal/bytealg.MakeNoZero"], unfollowed := true, recurses := true, named := ["internal/strconv.uint64pow10", "math/bits.deBruijn32tab", "math/bits.deBruijn64tab", "strconv.ErrSyntax", "strconv.ErrRange"], apart := false, laid := [("math/bits.deBruijn32tab", laid_math_bits_deBruijn32tab), ("math/bits.deBruijn64tab", laid_math_bits_deBruijn64tab), ("internal/strconv.uint64pow10", laid_internal_strconv_uint64pow10), ("strconv.ErrRange", laid_strconv_ErrRange), ("strconv.ErrSyntax", laid_strconv_ErrSyntax)], narrowed := true }
def CivilDaysUptoSaid : Prop := civilDaysUptoRow.holds Tryd.pinned (OpenSpec.upto civilDaysSpec)

/-- 'fuseelaw07.CivilNumbers', WHERE WHAT IT READS IS OF BULK AT MOST 1048576: true; the input reads as it did. -/
def civilNumbersUptoRow : OpenClaim := { program := "ytemellkcbbhlcaadoor", sum := "c1e4ebdfcd3d42d1d39d80aaad44124f30404245a585546af66ad69a4afeddae", func := "fusee/fuseelaw07.CivilNumbers", spec := "civilNumbers", inPlace := ["internal/abi.NoEscape", "internal/bytealg.MakeNoZero"], unfollowed := true, recurses := true, named := ["internal/strconv.uint64pow10", "math/bits.deBruijn32tab", "math/bits.deBruijn64tab", "strconv.ErrSyntax", "strconv.ErrRange"], apart := false, laid := [("math/bits.deBruijn32tab", laid_math_bits_deBruijn32tab), ("math/bits.deBruijn64tab", laid_math_bits_deBruijn64tab), ("internal/strconv.uint64pow10", laid_internal_strconv_uint64pow10), ("strconv.ErrRange", laid_strconv_ErrRange), ("strconv.ErrSyntax", laid_strconv_ErrSyntax)], narrowed := true }
def CivilNumbersUptoSaid : Prop := civilNumbersUptoRow.holds Tryd.pinned (OpenSpec.upto civilNumbersSpec)

/-- 'fuseelaw07.CivilWeeks', WHERE WHAT IT READS IS OF BULK AT MOST 1048576: true; the input reads as it did. -/
def civilWeeksUptoRow : OpenClaim := { program := "ytemellkcbbhlcaadoor", sum := "c1e4ebdfcd3d42d1d39d80aaad44124f30404245a585546af66ad69a4afeddae", func := "fusee/fuseelaw07.CivilWeeks", spec := "civilWeeks", inPlace := ["internal/abi.NoEscape", "internal/bytealg.MakeNoZero"], unfollowed := true, recurses := true, named := ["internal/strconv.uint64pow10", "math/bits.deBruijn32tab", "math/bits.deBruijn64tab", "strconv.ErrSyntax", "strconv.ErrRange"], apart := false, laid := [("math/bits.deBruijn32tab", laid_math_bits_deBruijn32tab), ("math/bits.deBruijn64tab", laid_math_bits_deBruijn64tab), ("internal/strconv.uint64pow10", laid_internal_strconv_uint64pow10), ("strconv.ErrRange", laid_strconv_ErrRange), ("strconv.ErrSyntax", laid_strconv_ErrSyntax)], narrowed := true }
def CivilWeeksUptoSaid : Prop := civilWeeksUptoRow.holds Tryd.pinned (OpenSpec.upto civilWeeksSpec)

/-- 'fuseelaw07.CivilGoes', WHERE WHAT IT READS IS OF BULK AT MOST 1048576: true; the input reads as it did. -/
def civilGoesUptoRow : OpenClaim := { program := "ytemellkcbbhlcaadoor", sum := "c1e4ebdfcd3d42d1d39d80aaad44124f30404245a585546af66ad69a4afeddae", func := "fusee/fuseelaw07.CivilGoes", spec := "civilGoes", inPlace := ["internal/abi.NoEscape", "internal/bytealg.MakeNoZero"], unfollowed := true, recurses := true, named := ["internal/strconv.uint64pow10", "math/bits.deBruijn32tab", "math/bits.deBruijn64tab", "strconv.ErrSyntax", "strconv.ErrRange"], apart := false, laid := [("math/bits.deBruijn32tab", laid_math_bits_deBruijn32tab), ("math/bits.deBruijn64tab", laid_math_bits_deBruijn64tab), ("internal/strconv.uint64pow10", laid_internal_strconv_uint64pow10), ("strconv.ErrRange", laid_strconv_ErrRange), ("strconv.ErrSyntax", laid_strconv_ErrSyntax)], narrowed := true }
def CivilGoesUptoSaid : Prop := civilGoesUptoRow.holds Tryd.pinned (OpenSpec.upto civilGoesSpec)

/-- 'fuseelaw07.CivilSeconds', WHERE WHAT IT READS IS OF BULK AT MOST 1048576: true; the input reads as it did. -/
def civilSecondsUptoRow : OpenClaim := { program := "ytemellkcbbhlcaadoor", sum := "c1e4ebdfcd3d42d1d39d80aaad44124f30404245a585546af66ad69a4afeddae", func := "fusee/fuseelaw07.CivilSeconds", spec := "civilSeconds", inPlace := ["internal/abi.NoEscape", "internal/bytealg.MakeNoZero"], unfollowed := true, recurses := true, named := ["internal/strconv.uint64pow10", "math/bits.deBruijn32tab", "math/bits.deBruijn64tab", "strconv.ErrSyntax", "strconv.ErrRange"], apart := false, laid := [("math/bits.deBruijn32tab", laid_math_bits_deBruijn32tab), ("math/bits.deBruijn64tab", laid_math_bits_deBruijn64tab), ("internal/strconv.uint64pow10", laid_internal_strconv_uint64pow10), ("strconv.ErrRange", laid_strconv_ErrRange), ("strconv.ErrSyntax", laid_strconv_ErrSyntax)], narrowed := true }
def CivilSecondsUptoSaid : Prop := civilSecondsUptoRow.holds Tryd.pinned (OpenSpec.upto civilSecondsSpec)

/-- 'fuseelaw07.CivilTexts', WHERE WHAT IT READS IS OF BULK AT MOST 1048576: true; the input reads as it did. -/
def civilTextsUptoRow : OpenClaim := { program := "ytemellkcbbhlcaadoor", sum := "c1e4ebdfcd3d42d1d39d80aaad44124f30404245a585546af66ad69a4afeddae", func := "fusee/fuseelaw07.CivilTexts", spec := "civilTexts", inPlace := ["internal/abi.NoEscape", "internal/bytealg.MakeNoZero"], unfollowed := true, recurses := true, named := ["internal/strconv.uint64pow10", "math/bits.deBruijn32tab", "math/bits.deBruijn64tab", "strconv.ErrSyntax", "strconv.ErrRange"], apart := false, laid := [("math/bits.deBruijn32tab", laid_math_bits_deBruijn32tab), ("math/bits.deBruijn64tab", laid_math_bits_deBruijn64tab), ("internal/strconv.uint64pow10", laid_internal_strconv_uint64pow10), ("strconv.ErrRange", laid_strconv_ErrRange), ("strconv.ErrSyntax", laid_strconv_ErrSyntax)], narrowed := true }
def CivilTextsUptoSaid : Prop := civilTextsUptoRow.holds Tryd.pinned (OpenSpec.upto civilTextsSpec)

end Rows
end Go.Proofs.YtemellkcbbhlcaaDoor
