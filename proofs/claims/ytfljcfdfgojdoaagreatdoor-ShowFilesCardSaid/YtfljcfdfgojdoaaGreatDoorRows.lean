/-
  NARROWER THAN 'FOR EVERY INPUT', by the rows' own cells (each row's printed sentence says how): ShowFiles: loops, laid · ShowBack: loops, laid · ShowAgain: laid · CheckFinds: loops, laid · CheckOpens: loops, laid · CheckClosed: loops, laid · CheckOrder: loops, laid · CheckUses: loops, laid.
  DERIVED. THE GIVEN ROWS OF THIS SEAT. 8 by the template 'for every input the law returns true; each argument reads behind the call as it read before'; 0 by the template 'total and deterministic' (their statements: YtfljcfdfgojdoaaGreatDoorTotals.lean).
  GIVEN WITH THE SEED: the statements are not yours to turn. If you find one false, say at which input.
  Laid BY PROGRAM, IN A SANDBOX (cutbox-rows.mjs): the forced cells as the released guide's own fill.sh prints them over the translation ad92e7dc3d2fd07c… (all of the seat's roots in one cut). By AI agents, Wed Nov 11 2026. No macro, syntax, notation, axiom, sorry.
-/
import Derived.Test.YtfljcfdfgojdoaaGreatDoorChecked
import GoSem.Claim
import GoSem.ClaimJoined
import GoSem.ClaimMapViews
import Derived.JoinedTies
import Derived.KernelRfl
namespace Go.Proofs.YtfljcfdfgojdoaaGreatDoor
/- THE CELL 'sum', in the pinned program and in every row, IS THE sha256 OF THE DUMP (.gsa) THAT YtfljcfdfgojdoaaGreatDoorProg.lean LOADS. Nothing in Lean hashes anything: it is a label: what it is worth is what the hold of that sum in a sandbox is worth. -/
noncomputable def Tryz.pinned : Pinned := { name := "ytfljcfdfgojdoaagreatdoor", sum := "ad92e7dc3d2fd07c4b99d8440664b8567d9e0af98baea0b80f979bbce8217454", checked := Tryz.checked }
namespace Rows
def none {H : Type} : Left H := { results := [], args := [] }

/- WHAT THE LISTED PACKAGE-LEVEL VARIABLES READ AS WHEN THE CALL BEGINS. Each datum BY PROGRAM (the guide's laid-datum.mjs) off the statement by which the dump's own 'gosem.cut.vars' lays the variable. In a bare row this is a premise. The card (YtfljcfdfgojdoaaGreatDoorCards.lean) ties it to the program's text. -/
def laid_math_bits_deBruijn32tab {H : Type} : DataW H := .agg [.lit (.int .u8 0), .lit (.int .u8 1), .lit (.int .u8 28), .lit (.int .u8 2), .lit (.int .u8 29), .lit (.int .u8 14), .lit (.int .u8 24), .lit (.int .u8 3), .lit (.int .u8 30), .lit (.int .u8 22), .lit (.int .u8 20), .lit (.int .u8 15), .lit (.int .u8 25), .lit (.int .u8 17), .lit (.int .u8 4), .lit (.int .u8 8), .lit (.int .u8 31), .lit (.int .u8 27), .lit (.int .u8 13), .lit (.int .u8 23), .lit (.int .u8 21), .lit (.int .u8 19), .lit (.int .u8 16), .lit (.int .u8 7), .lit (.int .u8 26), .lit (.int .u8 12), .lit (.int .u8 18), .lit (.int .u8 6), .lit (.int .u8 11), .lit (.int .u8 5), .lit (.int .u8 10), .lit (.int .u8 9)]
def laid_math_bits_deBruijn64tab {H : Type} : DataW H := .agg [.lit (.int .u8 0), .lit (.int .u8 1), .lit (.int .u8 56), .lit (.int .u8 2), .lit (.int .u8 57), .lit (.int .u8 49), .lit (.int .u8 28), .lit (.int .u8 3), .lit (.int .u8 61), .lit (.int .u8 58), .lit (.int .u8 42), .lit (.int .u8 50), .lit (.int .u8 38), .lit (.int .u8 29), .lit (.int .u8 17), .lit (.int .u8 4), .lit (.int .u8 62), .lit (.int .u8 47), .lit (.int .u8 59), .lit (.int .u8 36), .lit (.int .u8 45), .lit (.int .u8 43), .lit (.int .u8 51), .lit (.int .u8 22), .lit (.int .u8 53), .lit (.int .u8 39), .lit (.int .u8 33), .lit (.int .u8 30), .lit (.int .u8 24), .lit (.int .u8 18), .lit (.int .u8 12), .lit (.int .u8 5), .lit (.int .u8 63), .lit (.int .u8 55), .lit (.int .u8 48), .lit (.int .u8 27), .lit (.int .u8 60), .lit (.int .u8 41), .lit (.int .u8 37), .lit (.int .u8 16), .lit (.int .u8 46), .lit (.int .u8 35), .lit (.int .u8 44), .lit (.int .u8 21), .lit (.int .u8 52), .lit (.int .u8 32), .lit (.int .u8 23), .lit (.int .u8 11), .lit (.int .u8 54), .lit (.int .u8 26), .lit (.int .u8 40), .lit (.int .u8 15), .lit (.int .u8 34), .lit (.int .u8 20), .lit (.int .u8 31), .lit (.int .u8 10), .lit (.int .u8 25), .lit (.int .u8 14), .lit (.int .u8 19), .lit (.int .u8 9), .lit (.int .u8 13), .lit (.int .u8 8), .lit (.int .u8 7), .lit (.int .u8 6)]
def laid_internal_strconv_uint64pow10 {H : Type} : DataW H := .agg [.lit (.int .u64 1), .lit (.int .u64 10), .lit (.int .u64 100), .lit (.int .u64 1000), .lit (.int .u64 10000), .lit (.int .u64 100000), .lit (.int .u64 1000000), .lit (.int .u64 10000000), .lit (.int .u64 100000000), .lit (.int .u64 1000000000), .lit (.int .u64 10000000000), .lit (.int .u64 100000000000), .lit (.int .u64 1000000000000), .lit (.int .u64 10000000000000), .lit (.int .u64 100000000000000), .lit (.int .u64 1000000000000000), .lit (.int .u64 10000000000000000), .lit (.int .u64 100000000000000000), .lit (.int .u64 1000000000000000000), .lit (.int .u64 10000000000000000000)]

/-- 'whittlelaw08.ShowFiles': WHATEVER THE INPUT: true; the input reads as it did. -/
def showFilesSpec : ChangeSpec := { name := "showFiles", fn := fun _ => fun
  | [d] => { results := [.lit (.bool true)], args := [d] }
  | _ => none }
def showFilesRow : OpenClaim := { program := "ytfljcfdfgojdoaagreatdoor", sum := "ad92e7dc3d2fd07c4b99d8440664b8567d9e0af98baea0b80f979bbce8217454", func := "whittle/whittlelaw08.ShowFiles", spec := "showFiles", inPlace := ["internal/bytealg.IndexByteString"], unfollowed := true, recurses := true, named := ["internal/strconv.uint64pow10", "math/bits.deBruijn32tab", "math/bits.deBruijn64tab"], loops := true, plainKeys := false, apart := false, laid := [("math/bits.deBruijn32tab", laid_math_bits_deBruijn32tab), ("math/bits.deBruijn64tab", laid_math_bits_deBruijn64tab), ("internal/strconv.uint64pow10", laid_internal_strconv_uint64pow10)] }
def ShowFilesSaid : Prop := showFilesRow.holds Tryz.pinned (OpenSpec.ofChange showFilesSpec)

/-- ITS FALSE NEIGHBOUR: 'it returns false'. Refute it at one input. -/
def showFilesWrong : ChangeSpec := { name := "showFiles", fn := fun _ => fun
  | [d] => { results := [.lit (.bool false)], args := [d] }
  | _ => none }
def ShowFilesWrongFalsely : Prop := showFilesRow.holds Tryz.pinned (OpenSpec.ofChange showFilesWrong)

/-- 'whittlelaw08.ShowBack': WHATEVER THE INPUT: true; the input reads as it did. -/
def showBackSpec : ChangeSpec := { name := "showBack", fn := fun _ => fun
  | [d1, d2] => { results := [.lit (.bool true)], args := [d1, d2] }
  | _ => none }
def showBackRow : OpenClaim := { program := "ytfljcfdfgojdoaagreatdoor", sum := "ad92e7dc3d2fd07c4b99d8440664b8567d9e0af98baea0b80f979bbce8217454", func := "whittle/whittlelaw08.ShowBack", spec := "showBack", inPlace := ["internal/bytealg.IndexByteString"], unfollowed := true, recurses := true, named := ["internal/strconv.uint64pow10", "math/bits.deBruijn32tab", "math/bits.deBruijn64tab"], loops := true, plainKeys := false, apart := false, laid := [("math/bits.deBruijn32tab", laid_math_bits_deBruijn32tab), ("math/bits.deBruijn64tab", laid_math_bits_deBruijn64tab), ("internal/strconv.uint64pow10", laid_internal_strconv_uint64pow10)] }
def ShowBackSaid : Prop := showBackRow.holds Tryz.pinned (OpenSpec.ofChange showBackSpec)

/-- ITS FALSE NEIGHBOUR: 'it returns false'. Refute it at one input. -/
def showBackWrong : ChangeSpec := { name := "showBack", fn := fun _ => fun
  | [d1, d2] => { results := [.lit (.bool false)], args := [d1, d2] }
  | _ => none }
def ShowBackWrongFalsely : Prop := showBackRow.holds Tryz.pinned (OpenSpec.ofChange showBackWrong)

/-- 'whittlelaw08.ShowAgain': WHATEVER THE INPUT: true; the input reads as it did. -/
def showAgainSpec : ChangeSpec := { name := "showAgain", fn := fun _ => fun
  | [d] => { results := [.lit (.bool true)], args := [d] }
  | _ => none }
def showAgainRow : OpenClaim := { program := "ytfljcfdfgojdoaagreatdoor", sum := "ad92e7dc3d2fd07c4b99d8440664b8567d9e0af98baea0b80f979bbce8217454", func := "whittle/whittlelaw08.ShowAgain", spec := "showAgain", inPlace := ["internal/bytealg.IndexByteString"], unfollowed := true, recurses := true, named := ["internal/strconv.uint64pow10", "math/bits.deBruijn32tab", "math/bits.deBruijn64tab"], plainKeys := false, apart := false, laid := [("math/bits.deBruijn32tab", laid_math_bits_deBruijn32tab), ("math/bits.deBruijn64tab", laid_math_bits_deBruijn64tab), ("internal/strconv.uint64pow10", laid_internal_strconv_uint64pow10)] }
def ShowAgainSaid : Prop := showAgainRow.holds Tryz.pinned (OpenSpec.ofChange showAgainSpec)

/-- ITS FALSE NEIGHBOUR: 'it returns false'. Refute it at one input. -/
def showAgainWrong : ChangeSpec := { name := "showAgain", fn := fun _ => fun
  | [d] => { results := [.lit (.bool false)], args := [d] }
  | _ => none }
def ShowAgainWrongFalsely : Prop := showAgainRow.holds Tryz.pinned (OpenSpec.ofChange showAgainWrong)

/-- 'whittlelaw09.CheckFinds': WHATEVER THE INPUT: true; the input reads as it did. -/
def checkFindsSpec : ChangeSpec := { name := "checkFinds", fn := fun _ => fun
  | [d] => { results := [.lit (.bool true)], args := [d] }
  | _ => none }
def checkFindsRow : OpenClaim := { program := "ytfljcfdfgojdoaagreatdoor", sum := "ad92e7dc3d2fd07c4b99d8440664b8567d9e0af98baea0b80f979bbce8217454", func := "whittle/whittlelaw09.CheckFinds", spec := "checkFinds", inPlace := ["internal/bytealg.IndexByteString"], unfollowed := true, recurses := true, named := ["internal/strconv.uint64pow10", "math/bits.deBruijn32tab", "math/bits.deBruijn64tab"], loops := true, plainKeys := false, apart := false, laid := [("math/bits.deBruijn32tab", laid_math_bits_deBruijn32tab), ("math/bits.deBruijn64tab", laid_math_bits_deBruijn64tab), ("internal/strconv.uint64pow10", laid_internal_strconv_uint64pow10)] }
def CheckFindsSaid : Prop := checkFindsRow.holds Tryz.pinned (OpenSpec.ofChange checkFindsSpec)

/-- ITS FALSE NEIGHBOUR: 'it returns false'. Refute it at one input. -/
def checkFindsWrong : ChangeSpec := { name := "checkFinds", fn := fun _ => fun
  | [d] => { results := [.lit (.bool false)], args := [d] }
  | _ => none }
def CheckFindsWrongFalsely : Prop := checkFindsRow.holds Tryz.pinned (OpenSpec.ofChange checkFindsWrong)

/-- 'whittlelaw09.CheckOpens': WHATEVER THE INPUT: true; the input reads as it did. -/
def checkOpensSpec : ChangeSpec := { name := "checkOpens", fn := fun _ => fun
  | [d1, d2] => { results := [.lit (.bool true)], args := [d1, d2] }
  | _ => none }
def checkOpensRow : OpenClaim := { program := "ytfljcfdfgojdoaagreatdoor", sum := "ad92e7dc3d2fd07c4b99d8440664b8567d9e0af98baea0b80f979bbce8217454", func := "whittle/whittlelaw09.CheckOpens", spec := "checkOpens", inPlace := ["internal/bytealg.IndexByteString"], unfollowed := true, recurses := true, named := ["internal/strconv.uint64pow10", "math/bits.deBruijn32tab", "math/bits.deBruijn64tab"], loops := true, plainKeys := false, apart := false, laid := [("math/bits.deBruijn32tab", laid_math_bits_deBruijn32tab), ("math/bits.deBruijn64tab", laid_math_bits_deBruijn64tab), ("internal/strconv.uint64pow10", laid_internal_strconv_uint64pow10)] }
def CheckOpensSaid : Prop := checkOpensRow.holds Tryz.pinned (OpenSpec.ofChange checkOpensSpec)

/-- ITS FALSE NEIGHBOUR: 'it returns false'. Refute it at one input. -/
def checkOpensWrong : ChangeSpec := { name := "checkOpens", fn := fun _ => fun
  | [d1, d2] => { results := [.lit (.bool false)], args := [d1, d2] }
  | _ => none }
def CheckOpensWrongFalsely : Prop := checkOpensRow.holds Tryz.pinned (OpenSpec.ofChange checkOpensWrong)

/-- 'whittlelaw09.CheckClosed': WHATEVER THE INPUT: true; the input reads as it did. -/
def checkClosedSpec : ChangeSpec := { name := "checkClosed", fn := fun _ => fun
  | [d1, d2, d3] => { results := [.lit (.bool true)], args := [d1, d2, d3] }
  | _ => none }
def checkClosedRow : OpenClaim := { program := "ytfljcfdfgojdoaagreatdoor", sum := "ad92e7dc3d2fd07c4b99d8440664b8567d9e0af98baea0b80f979bbce8217454", func := "whittle/whittlelaw09.CheckClosed", spec := "checkClosed", inPlace := ["internal/bytealg.IndexByteString"], unfollowed := true, recurses := true, named := ["internal/strconv.uint64pow10", "math/bits.deBruijn32tab", "math/bits.deBruijn64tab"], loops := true, plainKeys := false, apart := false, laid := [("math/bits.deBruijn32tab", laid_math_bits_deBruijn32tab), ("math/bits.deBruijn64tab", laid_math_bits_deBruijn64tab), ("internal/strconv.uint64pow10", laid_internal_strconv_uint64pow10)] }
def CheckClosedSaid : Prop := checkClosedRow.holds Tryz.pinned (OpenSpec.ofChange checkClosedSpec)

/-- ITS FALSE NEIGHBOUR: 'it returns false'. Refute it at one input. -/
def checkClosedWrong : ChangeSpec := { name := "checkClosed", fn := fun _ => fun
  | [d1, d2, d3] => { results := [.lit (.bool false)], args := [d1, d2, d3] }
  | _ => none }
def CheckClosedWrongFalsely : Prop := checkClosedRow.holds Tryz.pinned (OpenSpec.ofChange checkClosedWrong)

/-- 'whittlelaw09.CheckOrder': WHATEVER THE INPUT: true; the input reads as it did. -/
def checkOrderSpec : ChangeSpec := { name := "checkOrder", fn := fun _ => fun
  | [d] => { results := [.lit (.bool true)], args := [d] }
  | _ => none }
def checkOrderRow : OpenClaim := { program := "ytfljcfdfgojdoaagreatdoor", sum := "ad92e7dc3d2fd07c4b99d8440664b8567d9e0af98baea0b80f979bbce8217454", func := "whittle/whittlelaw09.CheckOrder", spec := "checkOrder", inPlace := ["internal/bytealg.IndexByteString"], unfollowed := true, recurses := true, named := ["internal/strconv.uint64pow10", "math/bits.deBruijn32tab", "math/bits.deBruijn64tab"], loops := true, plainKeys := false, apart := false, laid := [("math/bits.deBruijn32tab", laid_math_bits_deBruijn32tab), ("math/bits.deBruijn64tab", laid_math_bits_deBruijn64tab), ("internal/strconv.uint64pow10", laid_internal_strconv_uint64pow10)] }
def CheckOrderSaid : Prop := checkOrderRow.holds Tryz.pinned (OpenSpec.ofChange checkOrderSpec)

/-- ITS FALSE NEIGHBOUR: 'it returns false'. Refute it at one input. -/
def checkOrderWrong : ChangeSpec := { name := "checkOrder", fn := fun _ => fun
  | [d] => { results := [.lit (.bool false)], args := [d] }
  | _ => none }
def CheckOrderWrongFalsely : Prop := checkOrderRow.holds Tryz.pinned (OpenSpec.ofChange checkOrderWrong)

/-- 'whittlelaw09.CheckUses': WHATEVER THE INPUT: true; the input reads as it did. -/
def checkUsesSpec : ChangeSpec := { name := "checkUses", fn := fun _ => fun
  | [d1, d2] => { results := [.lit (.bool true)], args := [d1, d2] }
  | _ => none }
def checkUsesRow : OpenClaim := { program := "ytfljcfdfgojdoaagreatdoor", sum := "ad92e7dc3d2fd07c4b99d8440664b8567d9e0af98baea0b80f979bbce8217454", func := "whittle/whittlelaw09.CheckUses", spec := "checkUses", inPlace := ["internal/bytealg.IndexByteString"], unfollowed := true, recurses := true, named := ["internal/strconv.uint64pow10", "math/bits.deBruijn32tab", "math/bits.deBruijn64tab"], loops := true, plainKeys := false, apart := false, laid := [("math/bits.deBruijn32tab", laid_math_bits_deBruijn32tab), ("math/bits.deBruijn64tab", laid_math_bits_deBruijn64tab), ("internal/strconv.uint64pow10", laid_internal_strconv_uint64pow10)] }
def CheckUsesSaid : Prop := checkUsesRow.holds Tryz.pinned (OpenSpec.ofChange checkUsesSpec)

/-- ITS FALSE NEIGHBOUR: 'it returns false'. Refute it at one input. -/
def checkUsesWrong : ChangeSpec := { name := "checkUses", fn := fun _ => fun
  | [d1, d2] => { results := [.lit (.bool false)], args := [d1, d2] }
  | _ => none }
def CheckUsesWrongFalsely : Prop := checkUsesRow.holds Tryz.pinned (OpenSpec.ofChange checkUsesWrong)

/- THE SECOND FORM. 'bulk': how many values and letters a reading holds, each counted each time it is reached (what is shared counts as often as it is met; a slice's spare places count too). A statement '..UptoSaid' is the law's where the arguments, and the package variables that the reading takes, are together of bulk at most 1048576: NARROWER than '..Said'. Prove '..Said' where nothing that the law and all that it calls make is longer than what came in: it says more and counts as full. Else prove '..UptoSaid'. A law counts once. -/
mutual
def uptoBulk {H : Type} : DataW H → Nat
  | .lit (.string bytes) => bytes.length + 1
  | .lit _ => 1
  | .nil => 1
  | .ptr d => uptoBulk d + 1
  | .slice elems spare => uptoBulkAll elems + uptoBulkAll spare + 1
  | .agg parts => uptoBulkAll parts + 1
  | .iface _ d => uptoBulk d + 1
  | .map entries => uptoBulkEntries entries + 1
  | .held _ => 1
def uptoBulkAll {H : Type} : List (DataW H) → Nat
  | [] => 0
  | d :: r => uptoBulk d + uptoBulkAll r
def uptoBulkEntries {H : Type} : List (Lit × DataW H) → Nat
  | [] => 0
  | x :: r => uptoBulkEntry x + uptoBulkEntries r
def uptoBulkEntry {H : Type} : Lit × DataW H → Nat
  | (.string bytes, d) => bytes.length + uptoBulk d + 1
  | (_, d) => uptoBulk d + 1
 end
def uptoSmall : (H : Type) → List (DataW H) → Bool := fun _ ds => decide (uptoBulkAll ds ≤ 1048576)
def OpenSpec.upto (s : _root_.Go.ChangeSpec) : _root_.Go.OpenSpec := { _root_.Go.OpenSpec.ofChange s with cond := some uptoSmall }

/-- 'whittlelaw08.ShowFiles', WHERE WHAT IT READS IS OF BULK AT MOST 1048576: true; the input reads as it did. -/
def showFilesUptoRow : OpenClaim := { program := "ytfljcfdfgojdoaagreatdoor", sum := "ad92e7dc3d2fd07c4b99d8440664b8567d9e0af98baea0b80f979bbce8217454", func := "whittle/whittlelaw08.ShowFiles", spec := "showFiles", inPlace := ["internal/bytealg.IndexByteString"], unfollowed := true, recurses := true, named := ["internal/strconv.uint64pow10", "math/bits.deBruijn32tab", "math/bits.deBruijn64tab"], loops := true, plainKeys := false, apart := false, laid := [("math/bits.deBruijn32tab", laid_math_bits_deBruijn32tab), ("math/bits.deBruijn64tab", laid_math_bits_deBruijn64tab), ("internal/strconv.uint64pow10", laid_internal_strconv_uint64pow10)], narrowed := true }
def ShowFilesUptoSaid : Prop := showFilesUptoRow.holds Tryz.pinned (OpenSpec.upto showFilesSpec)

/-- 'whittlelaw08.ShowBack', WHERE WHAT IT READS IS OF BULK AT MOST 1048576: true; the input reads as it did. -/
def showBackUptoRow : OpenClaim := { program := "ytfljcfdfgojdoaagreatdoor", sum := "ad92e7dc3d2fd07c4b99d8440664b8567d9e0af98baea0b80f979bbce8217454", func := "whittle/whittlelaw08.ShowBack", spec := "showBack", inPlace := ["internal/bytealg.IndexByteString"], unfollowed := true, recurses := true, named := ["internal/strconv.uint64pow10", "math/bits.deBruijn32tab", "math/bits.deBruijn64tab"], loops := true, plainKeys := false, apart := false, laid := [("math/bits.deBruijn32tab", laid_math_bits_deBruijn32tab), ("math/bits.deBruijn64tab", laid_math_bits_deBruijn64tab), ("internal/strconv.uint64pow10", laid_internal_strconv_uint64pow10)], narrowed := true }
def ShowBackUptoSaid : Prop := showBackUptoRow.holds Tryz.pinned (OpenSpec.upto showBackSpec)

/-- 'whittlelaw08.ShowAgain', WHERE WHAT IT READS IS OF BULK AT MOST 1048576: true; the input reads as it did. -/
def showAgainUptoRow : OpenClaim := { program := "ytfljcfdfgojdoaagreatdoor", sum := "ad92e7dc3d2fd07c4b99d8440664b8567d9e0af98baea0b80f979bbce8217454", func := "whittle/whittlelaw08.ShowAgain", spec := "showAgain", inPlace := ["internal/bytealg.IndexByteString"], unfollowed := true, recurses := true, named := ["internal/strconv.uint64pow10", "math/bits.deBruijn32tab", "math/bits.deBruijn64tab"], plainKeys := false, apart := false, laid := [("math/bits.deBruijn32tab", laid_math_bits_deBruijn32tab), ("math/bits.deBruijn64tab", laid_math_bits_deBruijn64tab), ("internal/strconv.uint64pow10", laid_internal_strconv_uint64pow10)], narrowed := true }
def ShowAgainUptoSaid : Prop := showAgainUptoRow.holds Tryz.pinned (OpenSpec.upto showAgainSpec)

/-- 'whittlelaw09.CheckFinds', WHERE WHAT IT READS IS OF BULK AT MOST 1048576: true; the input reads as it did. -/
def checkFindsUptoRow : OpenClaim := { program := "ytfljcfdfgojdoaagreatdoor", sum := "ad92e7dc3d2fd07c4b99d8440664b8567d9e0af98baea0b80f979bbce8217454", func := "whittle/whittlelaw09.CheckFinds", spec := "checkFinds", inPlace := ["internal/bytealg.IndexByteString"], unfollowed := true, recurses := true, named := ["internal/strconv.uint64pow10", "math/bits.deBruijn32tab", "math/bits.deBruijn64tab"], loops := true, plainKeys := false, apart := false, laid := [("math/bits.deBruijn32tab", laid_math_bits_deBruijn32tab), ("math/bits.deBruijn64tab", laid_math_bits_deBruijn64tab), ("internal/strconv.uint64pow10", laid_internal_strconv_uint64pow10)], narrowed := true }
def CheckFindsUptoSaid : Prop := checkFindsUptoRow.holds Tryz.pinned (OpenSpec.upto checkFindsSpec)

/-- 'whittlelaw09.CheckOpens', WHERE WHAT IT READS IS OF BULK AT MOST 1048576: true; the input reads as it did. -/
def checkOpensUptoRow : OpenClaim := { program := "ytfljcfdfgojdoaagreatdoor", sum := "ad92e7dc3d2fd07c4b99d8440664b8567d9e0af98baea0b80f979bbce8217454", func := "whittle/whittlelaw09.CheckOpens", spec := "checkOpens", inPlace := ["internal/bytealg.IndexByteString"], unfollowed := true, recurses := true, named := ["internal/strconv.uint64pow10", "math/bits.deBruijn32tab", "math/bits.deBruijn64tab"], loops := true, plainKeys := false, apart := false, laid := [("math/bits.deBruijn32tab", laid_math_bits_deBruijn32tab), ("math/bits.deBruijn64tab", laid_math_bits_deBruijn64tab), ("internal/strconv.uint64pow10", laid_internal_strconv_uint64pow10)], narrowed := true }
def CheckOpensUptoSaid : Prop := checkOpensUptoRow.holds Tryz.pinned (OpenSpec.upto checkOpensSpec)

/-- 'whittlelaw09.CheckClosed', WHERE WHAT IT READS IS OF BULK AT MOST 1048576: true; the input reads as it did. -/
def checkClosedUptoRow : OpenClaim := { program := "ytfljcfdfgojdoaagreatdoor", sum := "ad92e7dc3d2fd07c4b99d8440664b8567d9e0af98baea0b80f979bbce8217454", func := "whittle/whittlelaw09.CheckClosed", spec := "checkClosed", inPlace := ["internal/bytealg.IndexByteString"], unfollowed := true, recurses := true, named := ["internal/strconv.uint64pow10", "math/bits.deBruijn32tab", "math/bits.deBruijn64tab"], loops := true, plainKeys := false, apart := false, laid := [("math/bits.deBruijn32tab", laid_math_bits_deBruijn32tab), ("math/bits.deBruijn64tab", laid_math_bits_deBruijn64tab), ("internal/strconv.uint64pow10", laid_internal_strconv_uint64pow10)], narrowed := true }
def CheckClosedUptoSaid : Prop := checkClosedUptoRow.holds Tryz.pinned (OpenSpec.upto checkClosedSpec)

/-- 'whittlelaw09.CheckOrder', WHERE WHAT IT READS IS OF BULK AT MOST 1048576: true; the input reads as it did. -/
def checkOrderUptoRow : OpenClaim := { program := "ytfljcfdfgojdoaagreatdoor", sum := "ad92e7dc3d2fd07c4b99d8440664b8567d9e0af98baea0b80f979bbce8217454", func := "whittle/whittlelaw09.CheckOrder", spec := "checkOrder", inPlace := ["internal/bytealg.IndexByteString"], unfollowed := true, recurses := true, named := ["internal/strconv.uint64pow10", "math/bits.deBruijn32tab", "math/bits.deBruijn64tab"], loops := true, plainKeys := false, apart := false, laid := [("math/bits.deBruijn32tab", laid_math_bits_deBruijn32tab), ("math/bits.deBruijn64tab", laid_math_bits_deBruijn64tab), ("internal/strconv.uint64pow10", laid_internal_strconv_uint64pow10)], narrowed := true }
def CheckOrderUptoSaid : Prop := checkOrderUptoRow.holds Tryz.pinned (OpenSpec.upto checkOrderSpec)

/-- 'whittlelaw09.CheckUses', WHERE WHAT IT READS IS OF BULK AT MOST 1048576: true; the input reads as it did. -/
def checkUsesUptoRow : OpenClaim := { program := "ytfljcfdfgojdoaagreatdoor", sum := "ad92e7dc3d2fd07c4b99d8440664b8567d9e0af98baea0b80f979bbce8217454", func := "whittle/whittlelaw09.CheckUses", spec := "checkUses", inPlace := ["internal/bytealg.IndexByteString"], unfollowed := true, recurses := true, named := ["internal/strconv.uint64pow10", "math/bits.deBruijn32tab", "math/bits.deBruijn64tab"], loops := true, plainKeys := false, apart := false, laid := [("math/bits.deBruijn32tab", laid_math_bits_deBruijn32tab), ("math/bits.deBruijn64tab", laid_math_bits_deBruijn64tab), ("internal/strconv.uint64pow10", laid_internal_strconv_uint64pow10)], narrowed := true }
def CheckUsesUptoSaid : Prop := checkUsesUptoRow.holds Tryz.pinned (OpenSpec.upto checkUsesSpec)

end Rows
end Go.Proofs.YtfljcfdfgojdoaaGreatDoor
