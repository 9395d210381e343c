/-
  NARROWER THAN 'FOR EVERY INPUT', by the rows' own cells (each row's printed sentence says how): DfaMakes: laid · DfaParts: laid · DfaRuns: laid · DfaTakes: laid · DfaBack: laid · BoolsJoin: laid · BoolsTake: laid · BoolsSelf: laid · BoolsMorgan: laid.
  DERIVED. THE GIVEN ROWS OF THIS SEAT. 9 by the template 'for every input the law returns true; each argument reads behind the call as it read before'; 0 by the template 'total and deterministic' (their statements: YtfjomnhdmkbkiaaDoorTotals.lean).
  GIVEN WITH THE SEED: the statements are not yours to turn. If you find one false, say at which input.
  Laid BY PROGRAM, IN A SANDBOX (cutbox-rows.mjs): the forced cells as the released guide's own fill.sh prints them over the translation 80be913a379fadd5… (all of the seat's roots in one cut). By AI agents, Wed Nov 11 2026. No macro, syntax, notation, axiom, sorry.
-/
import Derived.Test.YtfjomnhdmkbkiaaDoorChecked
import GoSem.Claim
import GoSem.ClaimJoined
import GoSem.ClaimMapViews
import Derived.JoinedTies
import Derived.KernelRfl
namespace Go.Proofs.YtfjomnhdmkbkiaaDoor
/- THE CELL 'sum', in the pinned program and in every row, IS THE sha256 OF THE DUMP (.gsa) THAT YtfjomnhdmkbkiaaDoorProg.lean LOADS. Nothing in Lean hashes anything: it is a label: what it is worth is what the hold of that sum in a sandbox is worth. -/
noncomputable def Tryd.pinned : Pinned := { name := "ytfjomnhdmkbkiaadoor", sum := "80be913a379fadd50b71c75f5ccda297427b3d149d5df552d56ed59f3fdab638", checked := Tryd.checked }
namespace Rows
def none {H : Type} : Left H := { results := [], args := [] }

/- WHAT THE LISTED PACKAGE-LEVEL VARIABLES READ AS WHEN THE CALL BEGINS. Each datum BY PROGRAM (the guide's laid-datum.mjs) off the statement by which the dump's own 'gosem.cut.vars' lays the variable. In a bare row this is a premise. The card (YtfjomnhdmkbkiaaDoorCards.lean) ties it to the program's text. -/
def laid_math_bits_deBruijn64tab {H : Type} : DataW H := .agg [.lit (.int .u8 0), .lit (.int .u8 1), .lit (.int .u8 56), .lit (.int .u8 2), .lit (.int .u8 57), .lit (.int .u8 49), .lit (.int .u8 28), .lit (.int .u8 3), .lit (.int .u8 61), .lit (.int .u8 58), .lit (.int .u8 42), .lit (.int .u8 50), .lit (.int .u8 38), .lit (.int .u8 29), .lit (.int .u8 17), .lit (.int .u8 4), .lit (.int .u8 62), .lit (.int .u8 47), .lit (.int .u8 59), .lit (.int .u8 36), .lit (.int .u8 45), .lit (.int .u8 43), .lit (.int .u8 51), .lit (.int .u8 22), .lit (.int .u8 53), .lit (.int .u8 39), .lit (.int .u8 33), .lit (.int .u8 30), .lit (.int .u8 24), .lit (.int .u8 18), .lit (.int .u8 12), .lit (.int .u8 5), .lit (.int .u8 63), .lit (.int .u8 55), .lit (.int .u8 48), .lit (.int .u8 27), .lit (.int .u8 60), .lit (.int .u8 41), .lit (.int .u8 37), .lit (.int .u8 16), .lit (.int .u8 46), .lit (.int .u8 35), .lit (.int .u8 44), .lit (.int .u8 21), .lit (.int .u8 52), .lit (.int .u8 32), .lit (.int .u8 23), .lit (.int .u8 11), .lit (.int .u8 54), .lit (.int .u8 26), .lit (.int .u8 40), .lit (.int .u8 15), .lit (.int .u8 34), .lit (.int .u8 20), .lit (.int .u8 31), .lit (.int .u8 10), .lit (.int .u8 25), .lit (.int .u8 14), .lit (.int .u8 19), .lit (.int .u8 9), .lit (.int .u8 13), .lit (.int .u8 8), .lit (.int .u8 7), .lit (.int .u8 6)]

/-- 'whittlelaw11.DfaMakes': WHATEVER THE INPUT: true; the input reads as it did. -/
def dfaMakesSpec : ChangeSpec := { name := "dfaMakes", fn := fun _ => fun
  | [d] => { results := [.lit (.bool true)], args := [d] }
  | _ => none }
def dfaMakesRow : OpenClaim := { program := "ytfjomnhdmkbkiaadoor", sum := "80be913a379fadd50b71c75f5ccda297427b3d149d5df552d56ed59f3fdab638", func := "whittle/whittlelaw11.DfaMakes", spec := "dfaMakes", unfollowed := true, recurses := true, named := ["math/bits.deBruijn64tab"], plainKeys := false, apart := false, laid := [("math/bits.deBruijn64tab", laid_math_bits_deBruijn64tab)] }
def DfaMakesSaid : Prop := dfaMakesRow.holds Tryd.pinned (OpenSpec.ofChange dfaMakesSpec)

/-- ITS FALSE NEIGHBOUR: 'it returns false'. Refute it at one input. -/
def dfaMakesWrong : ChangeSpec := { name := "dfaMakes", fn := fun _ => fun
  | [d] => { results := [.lit (.bool false)], args := [d] }
  | _ => none }
def DfaMakesWrongFalsely : Prop := dfaMakesRow.holds Tryd.pinned (OpenSpec.ofChange dfaMakesWrong)

/-- 'whittlelaw11.DfaParts': WHATEVER THE INPUT: true; the input reads as it did. -/
def dfaPartsSpec : ChangeSpec := { name := "dfaParts", fn := fun _ => fun
  | [d1, d2, d3, d4] => { results := [.lit (.bool true)], args := [d1, d2, d3, d4] }
  | _ => none }
def dfaPartsRow : OpenClaim := { program := "ytfjomnhdmkbkiaadoor", sum := "80be913a379fadd50b71c75f5ccda297427b3d149d5df552d56ed59f3fdab638", func := "whittle/whittlelaw11.DfaParts", spec := "dfaParts", unfollowed := true, recurses := true, named := ["math/bits.deBruijn64tab"], plainKeys := false, apart := false, laid := [("math/bits.deBruijn64tab", laid_math_bits_deBruijn64tab)] }
def DfaPartsSaid : Prop := dfaPartsRow.holds Tryd.pinned (OpenSpec.ofChange dfaPartsSpec)

/-- ITS FALSE NEIGHBOUR: 'it returns false'. Refute it at one input. -/
def dfaPartsWrong : ChangeSpec := { name := "dfaParts", fn := fun _ => fun
  | [d1, d2, d3, d4] => { results := [.lit (.bool false)], args := [d1, d2, d3, d4] }
  | _ => none }
def DfaPartsWrongFalsely : Prop := dfaPartsRow.holds Tryd.pinned (OpenSpec.ofChange dfaPartsWrong)

/-- 'whittlelaw11.DfaRuns': WHATEVER THE INPUT: true; the input reads as it did. -/
def dfaRunsSpec : ChangeSpec := { name := "dfaRuns", fn := fun _ => fun
  | [d1, d2, d3] => { results := [.lit (.bool true)], args := [d1, d2, d3] }
  | _ => none }
def dfaRunsRow : OpenClaim := { program := "ytfjomnhdmkbkiaadoor", sum := "80be913a379fadd50b71c75f5ccda297427b3d149d5df552d56ed59f3fdab638", func := "whittle/whittlelaw11.DfaRuns", spec := "dfaRuns", unfollowed := true, recurses := true, named := ["math/bits.deBruijn64tab"], plainKeys := false, apart := false, laid := [("math/bits.deBruijn64tab", laid_math_bits_deBruijn64tab)] }
def DfaRunsSaid : Prop := dfaRunsRow.holds Tryd.pinned (OpenSpec.ofChange dfaRunsSpec)

/-- ITS FALSE NEIGHBOUR: 'it returns false'. Refute it at one input. -/
def dfaRunsWrong : ChangeSpec := { name := "dfaRuns", fn := fun _ => fun
  | [d1, d2, d3] => { results := [.lit (.bool false)], args := [d1, d2, d3] }
  | _ => none }
def DfaRunsWrongFalsely : Prop := dfaRunsRow.holds Tryd.pinned (OpenSpec.ofChange dfaRunsWrong)

/-- 'whittlelaw11.DfaTakes': WHATEVER THE INPUT: true; the input reads as it did. -/
def dfaTakesSpec : ChangeSpec := { name := "dfaTakes", fn := fun _ => fun
  | [d1, d2] => { results := [.lit (.bool true)], args := [d1, d2] }
  | _ => none }
def dfaTakesRow : OpenClaim := { program := "ytfjomnhdmkbkiaadoor", sum := "80be913a379fadd50b71c75f5ccda297427b3d149d5df552d56ed59f3fdab638", func := "whittle/whittlelaw11.DfaTakes", spec := "dfaTakes", unfollowed := true, recurses := true, named := ["math/bits.deBruijn64tab"], plainKeys := false, apart := false, laid := [("math/bits.deBruijn64tab", laid_math_bits_deBruijn64tab)] }
def DfaTakesSaid : Prop := dfaTakesRow.holds Tryd.pinned (OpenSpec.ofChange dfaTakesSpec)

/-- ITS FALSE NEIGHBOUR: 'it returns false'. Refute it at one input. -/
def dfaTakesWrong : ChangeSpec := { name := "dfaTakes", fn := fun _ => fun
  | [d1, d2] => { results := [.lit (.bool false)], args := [d1, d2] }
  | _ => none }
def DfaTakesWrongFalsely : Prop := dfaTakesRow.holds Tryd.pinned (OpenSpec.ofChange dfaTakesWrong)

/-- 'whittlelaw11.DfaBack': WHATEVER THE INPUT: true; the input reads as it did. -/
def dfaBackSpec : ChangeSpec := { name := "dfaBack", fn := fun _ => fun
  | [d1, d2] => { results := [.lit (.bool true)], args := [d1, d2] }
  | _ => none }
def dfaBackRow : OpenClaim := { program := "ytfjomnhdmkbkiaadoor", sum := "80be913a379fadd50b71c75f5ccda297427b3d149d5df552d56ed59f3fdab638", func := "whittle/whittlelaw11.DfaBack", spec := "dfaBack", unfollowed := true, recurses := true, named := ["math/bits.deBruijn64tab"], plainKeys := false, apart := false, laid := [("math/bits.deBruijn64tab", laid_math_bits_deBruijn64tab)] }
def DfaBackSaid : Prop := dfaBackRow.holds Tryd.pinned (OpenSpec.ofChange dfaBackSpec)

/-- ITS FALSE NEIGHBOUR: 'it returns false'. Refute it at one input. -/
def dfaBackWrong : ChangeSpec := { name := "dfaBack", fn := fun _ => fun
  | [d1, d2] => { results := [.lit (.bool false)], args := [d1, d2] }
  | _ => none }
def DfaBackWrongFalsely : Prop := dfaBackRow.holds Tryd.pinned (OpenSpec.ofChange dfaBackWrong)

/-- 'whittlelaw12.BoolsJoin': WHATEVER THE INPUT: true; the input reads as it did. -/
def boolsJoinSpec : ChangeSpec := { name := "boolsJoin", fn := fun _ => fun
  | [d1, d2] => { results := [.lit (.bool true)], args := [d1, d2] }
  | _ => none }
def boolsJoinRow : OpenClaim := { program := "ytfjomnhdmkbkiaadoor", sum := "80be913a379fadd50b71c75f5ccda297427b3d149d5df552d56ed59f3fdab638", func := "whittle/whittlelaw12.BoolsJoin", spec := "boolsJoin", unfollowed := true, recurses := true, named := ["math/bits.deBruijn64tab"], plainKeys := false, apart := false, laid := [("math/bits.deBruijn64tab", laid_math_bits_deBruijn64tab)] }
def BoolsJoinSaid : Prop := boolsJoinRow.holds Tryd.pinned (OpenSpec.ofChange boolsJoinSpec)

/-- ITS FALSE NEIGHBOUR: 'it returns false'. Refute it at one input. -/
def boolsJoinWrong : ChangeSpec := { name := "boolsJoin", fn := fun _ => fun
  | [d1, d2] => { results := [.lit (.bool false)], args := [d1, d2] }
  | _ => none }
def BoolsJoinWrongFalsely : Prop := boolsJoinRow.holds Tryd.pinned (OpenSpec.ofChange boolsJoinWrong)

/-- 'whittlelaw12.BoolsTake': WHATEVER THE INPUT: true; the input reads as it did. -/
def boolsTakeSpec : ChangeSpec := { name := "boolsTake", fn := fun _ => fun
  | [d1, d2, d3] => { results := [.lit (.bool true)], args := [d1, d2, d3] }
  | _ => none }
def boolsTakeRow : OpenClaim := { program := "ytfjomnhdmkbkiaadoor", sum := "80be913a379fadd50b71c75f5ccda297427b3d149d5df552d56ed59f3fdab638", func := "whittle/whittlelaw12.BoolsTake", spec := "boolsTake", unfollowed := true, recurses := true, named := ["math/bits.deBruijn64tab"], plainKeys := false, apart := false, laid := [("math/bits.deBruijn64tab", laid_math_bits_deBruijn64tab)] }
def BoolsTakeSaid : Prop := boolsTakeRow.holds Tryd.pinned (OpenSpec.ofChange boolsTakeSpec)

/-- ITS FALSE NEIGHBOUR: 'it returns false'. Refute it at one input. -/
def boolsTakeWrong : ChangeSpec := { name := "boolsTake", fn := fun _ => fun
  | [d1, d2, d3] => { results := [.lit (.bool false)], args := [d1, d2, d3] }
  | _ => none }
def BoolsTakeWrongFalsely : Prop := boolsTakeRow.holds Tryd.pinned (OpenSpec.ofChange boolsTakeWrong)

/-- 'whittlelaw12.BoolsSelf': WHATEVER THE INPUT: true; the input reads as it did. -/
def boolsSelfSpec : ChangeSpec := { name := "boolsSelf", fn := fun _ => fun
  | [d1, d2] => { results := [.lit (.bool true)], args := [d1, d2] }
  | _ => none }
def boolsSelfRow : OpenClaim := { program := "ytfjomnhdmkbkiaadoor", sum := "80be913a379fadd50b71c75f5ccda297427b3d149d5df552d56ed59f3fdab638", func := "whittle/whittlelaw12.BoolsSelf", spec := "boolsSelf", unfollowed := true, recurses := true, named := ["math/bits.deBruijn64tab"], plainKeys := false, apart := false, laid := [("math/bits.deBruijn64tab", laid_math_bits_deBruijn64tab)] }
def BoolsSelfSaid : Prop := boolsSelfRow.holds Tryd.pinned (OpenSpec.ofChange boolsSelfSpec)

/-- ITS FALSE NEIGHBOUR: 'it returns false'. Refute it at one input. -/
def boolsSelfWrong : ChangeSpec := { name := "boolsSelf", fn := fun _ => fun
  | [d1, d2] => { results := [.lit (.bool false)], args := [d1, d2] }
  | _ => none }
def BoolsSelfWrongFalsely : Prop := boolsSelfRow.holds Tryd.pinned (OpenSpec.ofChange boolsSelfWrong)

/-- 'whittlelaw12.BoolsMorgan': WHATEVER THE INPUT: true; the input reads as it did. -/
def boolsMorganSpec : ChangeSpec := { name := "boolsMorgan", fn := fun _ => fun
  | [d1, d2, d3] => { results := [.lit (.bool true)], args := [d1, d2, d3] }
  | _ => none }
def boolsMorganRow : OpenClaim := { program := "ytfjomnhdmkbkiaadoor", sum := "80be913a379fadd50b71c75f5ccda297427b3d149d5df552d56ed59f3fdab638", func := "whittle/whittlelaw12.BoolsMorgan", spec := "boolsMorgan", unfollowed := true, recurses := true, named := ["math/bits.deBruijn64tab"], plainKeys := false, apart := false, laid := [("math/bits.deBruijn64tab", laid_math_bits_deBruijn64tab)] }
def BoolsMorganSaid : Prop := boolsMorganRow.holds Tryd.pinned (OpenSpec.ofChange boolsMorganSpec)

/-- ITS FALSE NEIGHBOUR: 'it returns false'. Refute it at one input. -/
def boolsMorganWrong : ChangeSpec := { name := "boolsMorgan", fn := fun _ => fun
  | [d1, d2, d3] => { results := [.lit (.bool false)], args := [d1, d2, d3] }
  | _ => none }
def BoolsMorganWrongFalsely : Prop := boolsMorganRow.holds Tryd.pinned (OpenSpec.ofChange boolsMorganWrong)

/- THE SECOND FORM. 'bulk': how many values and letters a reading holds, each counted each time it is reached (what is shared counts as often as it is met; a slice's spare places count too). A statement '..UptoSaid' is the law's where the arguments, and the package variables that the reading takes, are together of bulk at most 1048576: NARROWER than '..Said'. Prove '..Said' where nothing that the law and all that it calls make is longer than what came in: it says more and counts as full. Else prove '..UptoSaid'. A law counts once. -/
mutual
def uptoBulk {H : Type} : DataW H → Nat
  | .lit (.string bytes) => bytes.length + 1
  | .lit _ => 1
  | .nil => 1
  | .ptr d => uptoBulk d + 1
  | .slice elems spare => uptoBulkAll elems + uptoBulkAll spare + 1
  | .agg parts => uptoBulkAll parts + 1
  | .iface _ d => uptoBulk d + 1
  | .map entries => uptoBulkEntries entries + 1
  | .held _ => 1
def uptoBulkAll {H : Type} : List (DataW H) → Nat
  | [] => 0
  | d :: r => uptoBulk d + uptoBulkAll r
def uptoBulkEntries {H : Type} : List (Lit × DataW H) → Nat
  | [] => 0
  | x :: r => uptoBulkEntry x + uptoBulkEntries r
def uptoBulkEntry {H : Type} : Lit × DataW H → Nat
  | (.string bytes, d) => bytes.length + uptoBulk d + 1
  | (_, d) => uptoBulk d + 1
 end
def uptoSmall : (H : Type) → List (DataW H) → Bool := fun _ ds => decide (uptoBulkAll ds ≤ 1048576)
def OpenSpec.upto (s : _root_.Go.ChangeSpec) : _root_.Go.OpenSpec := { _root_.Go.OpenSpec.ofChange s with cond := some uptoSmall }

/-- 'whittlelaw11.DfaMakes', WHERE WHAT IT READS IS OF BULK AT MOST 1048576: true; the input reads as it did. -/
def dfaMakesUptoRow : OpenClaim := { program := "ytfjomnhdmkbkiaadoor", sum := "80be913a379fadd50b71c75f5ccda297427b3d149d5df552d56ed59f3fdab638", func := "whittle/whittlelaw11.DfaMakes", spec := "dfaMakes", unfollowed := true, recurses := true, named := ["math/bits.deBruijn64tab"], plainKeys := false, apart := false, laid := [("math/bits.deBruijn64tab", laid_math_bits_deBruijn64tab)], narrowed := true }
def DfaMakesUptoSaid : Prop := dfaMakesUptoRow.holds Tryd.pinned (OpenSpec.upto dfaMakesSpec)

/-- 'whittlelaw11.DfaParts', WHERE WHAT IT READS IS OF BULK AT MOST 1048576: true; the input reads as it did. -/
def dfaPartsUptoRow : OpenClaim := { program := "ytfjomnhdmkbkiaadoor", sum := "80be913a379fadd50b71c75f5ccda297427b3d149d5df552d56ed59f3fdab638", func := "whittle/whittlelaw11.DfaParts", spec := "dfaParts", unfollowed := true, recurses := true, named := ["math/bits.deBruijn64tab"], plainKeys := false, apart := false, laid := [("math/bits.deBruijn64tab", laid_math_bits_deBruijn64tab)], narrowed := true }
def DfaPartsUptoSaid : Prop := dfaPartsUptoRow.holds Tryd.pinned (OpenSpec.upto dfaPartsSpec)

/-- 'whittlelaw11.DfaRuns', WHERE WHAT IT READS IS OF BULK AT MOST 1048576: true; the input reads as it did. -/
def dfaRunsUptoRow : OpenClaim := { program := "ytfjomnhdmkbkiaadoor", sum := "80be913a379fadd50b71c75f5ccda297427b3d149d5df552d56ed59f3fdab638", func := "whittle/whittlelaw11.DfaRuns", spec := "dfaRuns", unfollowed := true, recurses := true, named := ["math/bits.deBruijn64tab"], plainKeys := false, apart := false, laid := [("math/bits.deBruijn64tab", laid_math_bits_deBruijn64tab)], narrowed := true }
def DfaRunsUptoSaid : Prop := dfaRunsUptoRow.holds Tryd.pinned (OpenSpec.upto dfaRunsSpec)

/-- 'whittlelaw11.DfaTakes', WHERE WHAT IT READS IS OF BULK AT MOST 1048576: true; the input reads as it did. -/
def dfaTakesUptoRow : OpenClaim := { program := "ytfjomnhdmkbkiaadoor", sum := "80be913a379fadd50b71c75f5ccda297427b3d149d5df552d56ed59f3fdab638", func := "whittle/whittlelaw11.DfaTakes", spec := "dfaTakes", unfollowed := true, recurses := true, named := ["math/bits.deBruijn64tab"], plainKeys := false, apart := false, laid := [("math/bits.deBruijn64tab", laid_math_bits_deBruijn64tab)], narrowed := true }
def DfaTakesUptoSaid : Prop := dfaTakesUptoRow.holds Tryd.pinned (OpenSpec.upto dfaTakesSpec)

/-- 'whittlelaw11.DfaBack', WHERE WHAT IT READS IS OF BULK AT MOST 1048576: true; the input reads as it did. -/
def dfaBackUptoRow : OpenClaim := { program := "ytfjomnhdmkbkiaadoor", sum := "80be913a379fadd50b71c75f5ccda297427b3d149d5df552d56ed59f3fdab638", func := "whittle/whittlelaw11.DfaBack", spec := "dfaBack", unfollowed := true, recurses := true, named := ["math/bits.deBruijn64tab"], plainKeys := false, apart := false, laid := [("math/bits.deBruijn64tab", laid_math_bits_deBruijn64tab)], narrowed := true }
def DfaBackUptoSaid : Prop := dfaBackUptoRow.holds Tryd.pinned (OpenSpec.upto dfaBackSpec)

/-- 'whittlelaw12.BoolsJoin', WHERE WHAT IT READS IS OF BULK AT MOST 1048576: true; the input reads as it did. -/
def boolsJoinUptoRow : OpenClaim := { program := "ytfjomnhdmkbkiaadoor", sum := "80be913a379fadd50b71c75f5ccda297427b3d149d5df552d56ed59f3fdab638", func := "whittle/whittlelaw12.BoolsJoin", spec := "boolsJoin", unfollowed := true, recurses := true, named := ["math/bits.deBruijn64tab"], plainKeys := false, apart := false, laid := [("math/bits.deBruijn64tab", laid_math_bits_deBruijn64tab)], narrowed := true }
def BoolsJoinUptoSaid : Prop := boolsJoinUptoRow.holds Tryd.pinned (OpenSpec.upto boolsJoinSpec)

/-- 'whittlelaw12.BoolsTake', WHERE WHAT IT READS IS OF BULK AT MOST 1048576: true; the input reads as it did. -/
def boolsTakeUptoRow : OpenClaim := { program := "ytfjomnhdmkbkiaadoor", sum := "80be913a379fadd50b71c75f5ccda297427b3d149d5df552d56ed59f3fdab638", func := "whittle/whittlelaw12.BoolsTake", spec := "boolsTake", unfollowed := true, recurses := true, named := ["math/bits.deBruijn64tab"], plainKeys := false, apart := false, laid := [("math/bits.deBruijn64tab", laid_math_bits_deBruijn64tab)], narrowed := true }
def BoolsTakeUptoSaid : Prop := boolsTakeUptoRow.holds Tryd.pinned (OpenSpec.upto boolsTakeSpec)

/-- 'whittlelaw12.BoolsSelf', WHERE WHAT IT READS IS OF BULK AT MOST 1048576: true; the input reads as it did. -/
def boolsSelfUptoRow : OpenClaim := { program := "ytfjomnhdmkbkiaadoor", sum := "80be913a379fadd50b71c75f5ccda297427b3d149d5df552d56ed59f3fdab638", func := "whittle/whittlelaw12.BoolsSelf", spec := "boolsSelf", unfollowed := true, recurses := true, named := ["math/bits.deBruijn64tab"], plainKeys := false, apart := false, laid := [("math/bits.deBruijn64tab", laid_math_bits_deBruijn64tab)], narrowed := true }
def BoolsSelfUptoSaid : Prop := boolsSelfUptoRow.holds Tryd.pinned (OpenSpec.upto boolsSelfSpec)

/-- 'whittlelaw12.BoolsMorgan', WHERE WHAT IT READS IS OF BULK AT MOST 1048576: true; the input reads as it did. -/
def boolsMorganUptoRow : OpenClaim := { program := "ytfjomnhdmkbkiaadoor", sum := "80be913a379fadd50b71c75f5ccda297427b3d149d5df552d56ed59f3fdab638", func := "whittle/whittlelaw12.BoolsMorgan", spec := "boolsMorgan", unfollowed := true, recurses := true, named := ["math/bits.deBruijn64tab"], plainKeys := false, apart := false, laid := [("math/bits.deBruijn64tab", laid_math_bits_deBruijn64tab)], narrowed := true }
def BoolsMorganUptoSaid : Prop := boolsMorganUptoRow.holds Tryd.pinned (OpenSpec.upto boolsMorganSpec)

end Rows
end Go.Proofs.YtfjomnhdmkbkiaaDoor
