/-
  No cell of these rows narrows 'for every input' (looked for: loops, veiled, ifaces, maps, wideKeys, modest, calm, conditions, laid).
  DERIVED. THE GIVEN ROWS OF THIS SEAT. 5 by the template 'for every input the law returns true; each argument reads behind the call as it read before'; 0 by the template 'total and deterministic' (their statements: YtdokeelodcckoaaTotals.lean).
  GIVEN WITH THE SEED: the statements are not yours to turn. If you find one false, say at which input.
  Laid BY PROGRAM, IN A SANDBOX (cutbox-rows.mjs): the forced cells as the released guide's own fill.sh prints them over the translation c6ddff71db13c0cb… (all of the seat's roots in one cut). By AI agents, Wed Nov 11 2026. No macro, syntax, notation, axiom, sorry.
-/
import Derived.Test.YtdokeelodcckoaaChecked
import GoSem.Claim
import GoSem.ClaimJoined
import GoSem.ClaimMapViews
import Derived.JoinedTies
import Derived.KernelRfl
namespace Go.Proofs.Ytdokeelodcckoaa
/- THE CELL 'sum', in the pinned program and in every row, IS THE sha256 OF THE DUMP (.gsa) THAT YtdokeelodcckoaaProg.lean LOADS. Nothing in Lean hashes anything: it is a label: what it is worth is what the hold of that sum in a sandbox is worth. -/
noncomputable def Try.pinned : Pinned := { name := "ytdokeelodcckoaa", sum := "c6ddff71db13c0cb3139e25260b0ec83ff4052eeb63d36d445ea89eb8c5211ee", checked := Try.checked }
namespace Rows
def none {H : Type} : Left H := { results := [], args := [] }

/-- 'whittlelaw27.ImageWrites': WHATEVER THE INPUT: true; the input reads as it did. -/
def imageWritesSpec : ChangeSpec := { name := "imageWrites", fn := fun _ => fun
  | [d1, d2] => { results := [.lit (.bool true)], args := [d1, d2] }
  | _ => none }
def imageWritesRow : OpenClaim := { program := "ytdokeelodcckoaa", sum := "c6ddff71db13c0cb3139e25260b0ec83ff4052eeb63d36d445ea89eb8c5211ee", func := "whittle/whittlelaw27.ImageWrites", spec := "imageWrites", inPlace := ["internal/bytealg.IndexByteString"], recurses := true, apart := false }
def ImageWritesSaid : Prop := imageWritesRow.holds Try.pinned (OpenSpec.ofChange imageWritesSpec)

/-- ITS FALSE NEIGHBOUR: 'it returns false'. Refute it at one input. -/
def imageWritesWrong : ChangeSpec := { name := "imageWrites", fn := fun _ => fun
  | [d1, d2] => { results := [.lit (.bool false)], args := [d1, d2] }
  | _ => none }
def ImageWritesWrongFalsely : Prop := imageWritesRow.holds Try.pinned (OpenSpec.ofChange imageWritesWrong)

/-- 'whittlelaw27.ImageReads': WHATEVER THE INPUT: true; the input reads as it did. -/
def imageReadsSpec : ChangeSpec := { name := "imageReads", fn := fun _ => fun
  | [d] => { results := [.lit (.bool true)], args := [d] }
  | _ => none }
def imageReadsRow : OpenClaim := { program := "ytdokeelodcckoaa", sum := "c6ddff71db13c0cb3139e25260b0ec83ff4052eeb63d36d445ea89eb8c5211ee", func := "whittle/whittlelaw27.ImageReads", spec := "imageReads", inPlace := ["internal/bytealg.IndexByteString"], recurses := true, apart := false }
def ImageReadsSaid : Prop := imageReadsRow.holds Try.pinned (OpenSpec.ofChange imageReadsSpec)

/-- ITS FALSE NEIGHBOUR: 'it returns false'. Refute it at one input. -/
def imageReadsWrong : ChangeSpec := { name := "imageReads", fn := fun _ => fun
  | [d] => { results := [.lit (.bool false)], args := [d] }
  | _ => none }
def ImageReadsWrongFalsely : Prop := imageReadsRow.holds Try.pinned (OpenSpec.ofChange imageReadsWrong)

/-- 'whittlelaw27.ImageBack': WHATEVER THE INPUT: true; the input reads as it did. -/
def imageBackSpec : ChangeSpec := { name := "imageBack", fn := fun _ => fun
  | [d1, d2, d3] => { results := [.lit (.bool true)], args := [d1, d2, d3] }
  | _ => none }
def imageBackRow : OpenClaim := { program := "ytdokeelodcckoaa", sum := "c6ddff71db13c0cb3139e25260b0ec83ff4052eeb63d36d445ea89eb8c5211ee", func := "whittle/whittlelaw27.ImageBack", spec := "imageBack", inPlace := ["internal/bytealg.IndexByteString"], recurses := true, apart := false }
def ImageBackSaid : Prop := imageBackRow.holds Try.pinned (OpenSpec.ofChange imageBackSpec)

/-- ITS FALSE NEIGHBOUR: 'it returns false'. Refute it at one input. -/
def imageBackWrong : ChangeSpec := { name := "imageBack", fn := fun _ => fun
  | [d1, d2, d3] => { results := [.lit (.bool false)], args := [d1, d2, d3] }
  | _ => none }
def ImageBackWrongFalsely : Prop := imageBackRow.holds Try.pinned (OpenSpec.ofChange imageBackWrong)

/-- 'whittlelaw27.ImageSums': WHATEVER THE INPUT: true; the input reads as it did. -/
def imageSumsSpec : ChangeSpec := { name := "imageSums", fn := fun _ => fun
  | [d1, d2, d3] => { results := [.lit (.bool true)], args := [d1, d2, d3] }
  | _ => none }
def imageSumsRow : OpenClaim := { program := "ytdokeelodcckoaa", sum := "c6ddff71db13c0cb3139e25260b0ec83ff4052eeb63d36d445ea89eb8c5211ee", func := "whittle/whittlelaw27.ImageSums", spec := "imageSums", inPlace := ["internal/bytealg.IndexByteString"], recurses := true, apart := false }
def ImageSumsSaid : Prop := imageSumsRow.holds Try.pinned (OpenSpec.ofChange imageSumsSpec)

/-- ITS FALSE NEIGHBOUR: 'it returns false'. Refute it at one input. -/
def imageSumsWrong : ChangeSpec := { name := "imageSums", fn := fun _ => fun
  | [d1, d2, d3] => { results := [.lit (.bool false)], args := [d1, d2, d3] }
  | _ => none }
def ImageSumsWrongFalsely : Prop := imageSumsRow.holds Try.pinned (OpenSpec.ofChange imageSumsWrong)

/-- 'whittlelaw27.ImageSame': WHATEVER THE INPUT: true; the input reads as it did. -/
def imageSameSpec : ChangeSpec := { name := "imageSame", fn := fun _ => fun
  | [d1, d2] => { results := [.lit (.bool true)], args := [d1, d2] }
  | _ => none }
def imageSameRow : OpenClaim := { program := "ytdokeelodcckoaa", sum := "c6ddff71db13c0cb3139e25260b0ec83ff4052eeb63d36d445ea89eb8c5211ee", func := "whittle/whittlelaw27.ImageSame", spec := "imageSame", inPlace := ["internal/bytealg.IndexByteString"], recurses := true, apart := false }
def ImageSameSaid : Prop := imageSameRow.holds Try.pinned (OpenSpec.ofChange imageSameSpec)

/-- ITS FALSE NEIGHBOUR: 'it returns false'. Refute it at one input. -/
def imageSameWrong : ChangeSpec := { name := "imageSame", fn := fun _ => fun
  | [d1, d2] => { results := [.lit (.bool false)], args := [d1, d2] }
  | _ => none }
def ImageSameWrongFalsely : Prop := imageSameRow.holds Try.pinned (OpenSpec.ofChange imageSameWrong)

/- THE SECOND FORM. 'bulk': how many values and letters a reading holds, each counted each time it is reached (what is shared counts as often as it is met; a slice's spare places count too). A statement '..UptoSaid' is the law's where the arguments, and the package variables that the reading takes, are together of bulk at most 1048576: NARROWER than '..Said'. Prove '..Said' where nothing that the law and all that it calls make is longer than what came in: it says more and counts as full. Else prove '..UptoSaid'. A law counts once. -/
mutual
def uptoBulk {H : Type} : DataW H → Nat
  | .lit (.string bytes) => bytes.length + 1
  | .lit _ => 1
  | .nil => 1
  | .ptr d => uptoBulk d + 1
  | .slice elems spare => uptoBulkAll elems + uptoBulkAll spare + 1
  | .agg parts => uptoBulkAll parts + 1
  | .iface _ d => uptoBulk d + 1
  | .map entries => uptoBulkEntries entries + 1
  | .held _ => 1
def uptoBulkAll {H : Type} : List (DataW H) → Nat
  | [] => 0
  | d :: r => uptoBulk d + uptoBulkAll r
def uptoBulkEntries {H : Type} : List (Lit × DataW H) → Nat
  | [] => 0
  | x :: r => uptoBulkEntry x + uptoBulkEntries r
def uptoBulkEntry {H : Type} : Lit × DataW H → Nat
  | (.string bytes, d) => bytes.length + uptoBulk d + 1
  | (_, d) => uptoBulk d + 1
 end
def uptoSmall : (H : Type) → List (DataW H) → Bool := fun _ ds => decide (uptoBulkAll ds ≤ 1048576)
def OpenSpec.upto (s : _root_.Go.ChangeSpec) : _root_.Go.OpenSpec := { _root_.Go.OpenSpec.ofChange s with cond := some uptoSmall }

/-- 'whittlelaw27.ImageWrites', WHERE WHAT IT READS IS OF BULK AT MOST 1048576: true; the input reads as it did. -/
def imageWritesUptoRow : OpenClaim := { program := "ytdokeelodcckoaa", sum := "c6ddff71db13c0cb3139e25260b0ec83ff4052eeb63d36d445ea89eb8c5211ee", func := "whittle/whittlelaw27.ImageWrites", spec := "imageWrites", inPlace := ["internal/bytealg.IndexByteString"], recurses := true, apart := false, narrowed := true }
def ImageWritesUptoSaid : Prop := imageWritesUptoRow.holds Try.pinned (OpenSpec.upto imageWritesSpec)

/-- 'whittlelaw27.ImageReads', WHERE WHAT IT READS IS OF BULK AT MOST 1048576: true; the input reads as it did. -/
def imageReadsUptoRow : OpenClaim := { program := "ytdokeelodcckoaa", sum := "c6ddff71db13c0cb3139e25260b0ec83ff4052eeb63d36d445ea89eb8c5211ee", func := "whittle/whittlelaw27.ImageReads", spec := "imageReads", inPlace := ["internal/bytealg.IndexByteString"], recurses := true, apart := false, narrowed := true }
def ImageReadsUptoSaid : Prop := imageReadsUptoRow.holds Try.pinned (OpenSpec.upto imageReadsSpec)

/-- 'whittlelaw27.ImageBack', WHERE WHAT IT READS IS OF BULK AT MOST 1048576: true; the input reads as it did. -/
def imageBackUptoRow : OpenClaim := { program := "ytdokeelodcckoaa", sum := "c6ddff71db13c0cb3139e25260b0ec83ff4052eeb63d36d445ea89eb8c5211ee", func := "whittle/whittlelaw27.ImageBack", spec := "imageBack", inPlace := ["internal/bytealg.IndexByteString"], recurses := true, apart := false, narrowed := true }
def ImageBackUptoSaid : Prop := imageBackUptoRow.holds Try.pinned (OpenSpec.upto imageBackSpec)

/-- 'whittlelaw27.ImageSums', WHERE WHAT IT READS IS OF BULK AT MOST 1048576: true; the input reads as it did. -/
def imageSumsUptoRow : OpenClaim := { program := "ytdokeelodcckoaa", sum := "c6ddff71db13c0cb3139e25260b0ec83ff4052eeb63d36d445ea89eb8c5211ee", func := "whittle/whittlelaw27.ImageSums", spec := "imageSums", inPlace := ["internal/bytealg.IndexByteString"], recurses := true, apart := false, narrowed := true }
def ImageSumsUptoSaid : Prop := imageSumsUptoRow.holds Try.pinned (OpenSpec.upto imageSumsSpec)

/-- 'whittlelaw27.ImageSame', WHERE WHAT IT READS IS OF BULK AT MOST 1048576: true; the input reads as it did. -/
def imageSameUptoRow : OpenClaim := { program := "ytdokeelodcckoaa", sum := "c6ddff71db13c0cb3139e25260b0ec83ff4052eeb63d36d445ea89eb8c5211ee", func := "whittle/whittlelaw27.ImageSame", spec := "imageSame", inPlace := ["internal/bytealg.IndexByteString"], recurses := true, apart := false, narrowed := true }
def ImageSameUptoSaid : Prop := imageSameUptoRow.holds Try.pinned (OpenSpec.upto imageSameSpec)

end Rows
end Go.Proofs.Ytdokeelodcckoaa
