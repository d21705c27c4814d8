/-
  No cell of these rows narrows 'for every input' (looked for: loops, veiled, ifaces, maps, wideKeys, modest, calm, conditions, laid).
  DERIVED. THE GIVEN ROWS OF THIS SEAT. 13 by the template 'for every input the law returns true; each argument reads behind the call as it read before'; 0 by the template 'total and deterministic' (their statements: YtkokagbmmlngjaaTotals.lean).
  GIVEN WITH THE SEED: the statements are not yours to turn. If you find one false, say at which input.
  Laid BY PROGRAM, IN A SANDBOX (cutbox-rows.mjs): the forced cells as the released guide's own fill.sh prints them over the translation f38799afbe614528… (all of the seat's roots in one cut). By AI agents, Wed Nov 11 2026. No macro, syntax, notation, axiom, sorry.
-/
import Derived.Test.YtkokagbmmlngjaaChecked
import GoSem.Claim
import GoSem.ClaimJoined
import GoSem.ClaimMapViews
import Derived.JoinedTies
import Derived.KernelRfl
namespace Go.Proofs.Ytkokagbmmlngjaa
/- THE CELL 'sum', in the pinned program and in every row, IS THE sha256 OF THE DUMP (.gsa) THAT YtkokagbmmlngjaaProg.lean LOADS. Nothing in Lean hashes anything: it is a label: what it is worth is what the hold of that sum in a sandbox is worth. -/
noncomputable def Try.pinned : Pinned := { name := "ytkokagbmmlngjaa", sum := "f38799afbe61452871230af0bac8843a623524f7f5bd4733390b739d97a8ca0d", checked := Try.checked }
namespace Rows
def none {H : Type} : Left H := { results := [], args := [] }

/-- 'massiflaw10.ForestRow': WHATEVER THE INPUT: true; the input reads as it did. -/
def forestRowSpec : ChangeSpec := { name := "forestRow", fn := fun _ => fun
  | [d1, d2] => { results := [.lit (.bool true)], args := [d1, d2] }
  | _ => none }
def forestRowRow : OpenClaim := { program := "ytkokagbmmlngjaa", sum := "f38799afbe61452871230af0bac8843a623524f7f5bd4733390b739d97a8ca0d", func := "massif/massiflaw10.ForestRow", spec := "forestRow", plainKeys := false, apart := false }
def ForestRowSaid : Prop := forestRowRow.holds Try.pinned (OpenSpec.ofChange forestRowSpec)

/-- ITS FALSE NEIGHBOUR: 'it returns false'. Refute it at one input. -/
def forestRowWrong : ChangeSpec := { name := "forestRow", fn := fun _ => fun
  | [d1, d2] => { results := [.lit (.bool false)], args := [d1, d2] }
  | _ => none }
def ForestRowWrongFalsely : Prop := forestRowRow.holds Try.pinned (OpenSpec.ofChange forestRowWrong)

/-- 'massiflaw10.ForestFresh': WHATEVER THE INPUT: true; the input reads as it did. -/
def forestFreshSpec : ChangeSpec := { name := "forestFresh", fn := fun _ => fun
  | [d1, d2] => { results := [.lit (.bool true)], args := [d1, d2] }
  | _ => none }
def forestFreshRow : OpenClaim := { program := "ytkokagbmmlngjaa", sum := "f38799afbe61452871230af0bac8843a623524f7f5bd4733390b739d97a8ca0d", func := "massif/massiflaw10.ForestFresh", spec := "forestFresh", plainKeys := false, apart := false }
def ForestFreshSaid : Prop := forestFreshRow.holds Try.pinned (OpenSpec.ofChange forestFreshSpec)

/-- ITS FALSE NEIGHBOUR: 'it returns false'. Refute it at one input. -/
def forestFreshWrong : ChangeSpec := { name := "forestFresh", fn := fun _ => fun
  | [d1, d2] => { results := [.lit (.bool false)], args := [d1, d2] }
  | _ => none }
def ForestFreshWrongFalsely : Prop := forestFreshRow.holds Try.pinned (OpenSpec.ofChange forestFreshWrong)

/-- 'massiflaw10.ForestLong': WHATEVER THE INPUT: true; the input reads as it did. -/
def forestLongSpec : ChangeSpec := { name := "forestLong", fn := fun _ => fun
  | [d1, d2, d3] => { results := [.lit (.bool true)], args := [d1, d2, d3] }
  | _ => none }
def forestLongRow : OpenClaim := { program := "ytkokagbmmlngjaa", sum := "f38799afbe61452871230af0bac8843a623524f7f5bd4733390b739d97a8ca0d", func := "massif/massiflaw10.ForestLong", spec := "forestLong", plainKeys := false, apart := false }
def ForestLongSaid : Prop := forestLongRow.holds Try.pinned (OpenSpec.ofChange forestLongSpec)

/-- ITS FALSE NEIGHBOUR: 'it returns false'. Refute it at one input. -/
def forestLongWrong : ChangeSpec := { name := "forestLong", fn := fun _ => fun
  | [d1, d2, d3] => { results := [.lit (.bool false)], args := [d1, d2, d3] }
  | _ => none }
def ForestLongWrongFalsely : Prop := forestLongRow.holds Try.pinned (OpenSpec.ofChange forestLongWrong)

/-- 'massiflaw09.PeaksList': WHATEVER THE INPUT: true; the input reads as it did. -/
def peaksListSpec : ChangeSpec := { name := "peaksList", fn := fun _ => fun
  | [d1, d2] => { results := [.lit (.bool true)], args := [d1, d2] }
  | _ => none }
def peaksListRow : OpenClaim := { program := "ytkokagbmmlngjaa", sum := "f38799afbe61452871230af0bac8843a623524f7f5bd4733390b739d97a8ca0d", func := "massif/massiflaw09.PeaksList", spec := "peaksList", unfollowed := true, recurses := true, plainKeys := false, apart := false }
def PeaksListSaid : Prop := peaksListRow.holds Try.pinned (OpenSpec.ofChange peaksListSpec)

/-- ITS FALSE NEIGHBOUR: 'it returns false'. Refute it at one input. -/
def peaksListWrong : ChangeSpec := { name := "peaksList", fn := fun _ => fun
  | [d1, d2] => { results := [.lit (.bool false)], args := [d1, d2] }
  | _ => none }
def PeaksListWrongFalsely : Prop := peaksListRow.holds Try.pinned (OpenSpec.ofChange peaksListWrong)

/-- 'massiflaw10.ForestPlain': WHATEVER THE INPUT: true; the input reads as it did. -/
def forestPlainSpec : ChangeSpec := { name := "forestPlain", fn := fun _ => fun
  | [d1, d2, d3] => { results := [.lit (.bool true)], args := [d1, d2, d3] }
  | _ => none }
def forestPlainRow : OpenClaim := { program := "ytkokagbmmlngjaa", sum := "f38799afbe61452871230af0bac8843a623524f7f5bd4733390b739d97a8ca0d", func := "massif/massiflaw10.ForestPlain", spec := "forestPlain", recurses := true, plainKeys := false, apart := false }
def ForestPlainSaid : Prop := forestPlainRow.holds Try.pinned (OpenSpec.ofChange forestPlainSpec)

/-- ITS FALSE NEIGHBOUR: 'it returns false'. Refute it at one input. -/
def forestPlainWrong : ChangeSpec := { name := "forestPlain", fn := fun _ => fun
  | [d1, d2, d3] => { results := [.lit (.bool false)], args := [d1, d2, d3] }
  | _ => none }
def ForestPlainWrongFalsely : Prop := forestPlainRow.holds Try.pinned (OpenSpec.ofChange forestPlainWrong)

/-- 'massiflaw13.KinComplete': WHATEVER THE INPUT: true; the input reads as it did. -/
def kinCompleteSpec : ChangeSpec := { name := "kinComplete", fn := fun _ => fun
  | [d1, d2, d3] => { results := [.lit (.bool true)], args := [d1, d2, d3] }
  | _ => none }
def kinCompleteRow : OpenClaim := { program := "ytkokagbmmlngjaa", sum := "f38799afbe61452871230af0bac8843a623524f7f5bd4733390b739d97a8ca0d", func := "massif/massiflaw13.KinComplete", spec := "kinComplete", unfollowed := true, recurses := true, plainKeys := false, apart := false }
def KinCompleteSaid : Prop := kinCompleteRow.holds Try.pinned (OpenSpec.ofChange kinCompleteSpec)

/-- ITS FALSE NEIGHBOUR: 'it returns false'. Refute it at one input. -/
def kinCompleteWrong : ChangeSpec := { name := "kinComplete", fn := fun _ => fun
  | [d1, d2, d3] => { results := [.lit (.bool false)], args := [d1, d2, d3] }
  | _ => none }
def KinCompleteWrongFalsely : Prop := kinCompleteRow.holds Try.pinned (OpenSpec.ofChange kinCompleteWrong)

/-- 'massiflaw13.KinTurned': WHATEVER THE INPUT: true; the input reads as it did. -/
def kinTurnedSpec : ChangeSpec := { name := "kinTurned", fn := fun _ => fun
  | [d1, d2, d3] => { results := [.lit (.bool true)], args := [d1, d2, d3] }
  | _ => none }
def kinTurnedRow : OpenClaim := { program := "ytkokagbmmlngjaa", sum := "f38799afbe61452871230af0bac8843a623524f7f5bd4733390b739d97a8ca0d", func := "massif/massiflaw13.KinTurned", spec := "kinTurned", unfollowed := true, recurses := true, plainKeys := false, apart := false }
def KinTurnedSaid : Prop := kinTurnedRow.holds Try.pinned (OpenSpec.ofChange kinTurnedSpec)

/-- ITS FALSE NEIGHBOUR: 'it returns false'. Refute it at one input. -/
def kinTurnedWrong : ChangeSpec := { name := "kinTurned", fn := fun _ => fun
  | [d1, d2, d3] => { results := [.lit (.bool false)], args := [d1, d2, d3] }
  | _ => none }
def KinTurnedWrongFalsely : Prop := kinTurnedRow.holds Try.pinned (OpenSpec.ofChange kinTurnedWrong)

/-- 'massiflaw13.KinFresh': WHATEVER THE INPUT: true; the input reads as it did. -/
def kinFreshSpec : ChangeSpec := { name := "kinFresh", fn := fun _ => fun
  | [d1, d2, d3] => { results := [.lit (.bool true)], args := [d1, d2, d3] }
  | _ => none }
def kinFreshRow : OpenClaim := { program := "ytkokagbmmlngjaa", sum := "f38799afbe61452871230af0bac8843a623524f7f5bd4733390b739d97a8ca0d", func := "massif/massiflaw13.KinFresh", spec := "kinFresh", unfollowed := true, recurses := true, plainKeys := false, apart := false }
def KinFreshSaid : Prop := kinFreshRow.holds Try.pinned (OpenSpec.ofChange kinFreshSpec)

/-- ITS FALSE NEIGHBOUR: 'it returns false'. Refute it at one input. -/
def kinFreshWrong : ChangeSpec := { name := "kinFresh", fn := fun _ => fun
  | [d1, d2, d3] => { results := [.lit (.bool false)], args := [d1, d2, d3] }
  | _ => none }
def KinFreshWrongFalsely : Prop := kinFreshRow.holds Try.pinned (OpenSpec.ofChange kinFreshWrong)

/-- 'massiflaw14.CodecWrites': WHATEVER THE INPUT: true; the input reads as it did. -/
def codecWritesSpec : ChangeSpec := { name := "codecWrites", fn := fun _ => fun
  | [d] => { results := [.lit (.bool true)], args := [d] }
  | _ => none }
def codecWritesRow : OpenClaim := { program := "ytkokagbmmlngjaa", sum := "f38799afbe61452871230af0bac8843a623524f7f5bd4733390b739d97a8ca0d", func := "massif/massiflaw14.CodecWrites", spec := "codecWrites", inPlace := ["internal/abi.NoEscape"], unfollowed := true, recurses := true, plainKeys := false, apart := false }
def CodecWritesSaid : Prop := codecWritesRow.holds Try.pinned (OpenSpec.ofChange codecWritesSpec)

/-- ITS FALSE NEIGHBOUR: 'it returns false'. Refute it at one input. -/
def codecWritesWrong : ChangeSpec := { name := "codecWrites", fn := fun _ => fun
  | [d] => { results := [.lit (.bool false)], args := [d] }
  | _ => none }
def CodecWritesWrongFalsely : Prop := codecWritesRow.holds Try.pinned (OpenSpec.ofChange codecWritesWrong)

/-- 'massiflaw14.CodecReads': WHATEVER THE INPUT: true; the input reads as it did. -/
def codecReadsSpec : ChangeSpec := { name := "codecReads", fn := fun _ => fun
  | [d] => { results := [.lit (.bool true)], args := [d] }
  | _ => none }
def codecReadsRow : OpenClaim := { program := "ytkokagbmmlngjaa", sum := "f38799afbe61452871230af0bac8843a623524f7f5bd4733390b739d97a8ca0d", func := "massif/massiflaw14.CodecReads", spec := "codecReads", inPlace := ["internal/abi.NoEscape"], unfollowed := true, recurses := true, plainKeys := false, apart := false }
def CodecReadsSaid : Prop := codecReadsRow.holds Try.pinned (OpenSpec.ofChange codecReadsSpec)

/-- ITS FALSE NEIGHBOUR: 'it returns false'. Refute it at one input. -/
def codecReadsWrong : ChangeSpec := { name := "codecReads", fn := fun _ => fun
  | [d] => { results := [.lit (.bool false)], args := [d] }
  | _ => none }
def CodecReadsWrongFalsely : Prop := codecReadsRow.holds Try.pinned (OpenSpec.ofChange codecReadsWrong)

/-- 'massiflaw14.CodecBack': WHATEVER THE INPUT: true; the input reads as it did. -/
def codecBackSpec : ChangeSpec := { name := "codecBack", fn := fun _ => fun
  | [d1, d2, d3] => { results := [.lit (.bool true)], args := [d1, d2, d3] }
  | _ => none }
def codecBackRow : OpenClaim := { program := "ytkokagbmmlngjaa", sum := "f38799afbe61452871230af0bac8843a623524f7f5bd4733390b739d97a8ca0d", func := "massif/massiflaw14.CodecBack", spec := "codecBack", inPlace := ["internal/abi.NoEscape"], unfollowed := true, recurses := true, plainKeys := false, apart := false }
def CodecBackSaid : Prop := codecBackRow.holds Try.pinned (OpenSpec.ofChange codecBackSpec)

/-- ITS FALSE NEIGHBOUR: 'it returns false'. Refute it at one input. -/
def codecBackWrong : ChangeSpec := { name := "codecBack", fn := fun _ => fun
  | [d1, d2, d3] => { results := [.lit (.bool false)], args := [d1, d2, d3] }
  | _ => none }
def CodecBackWrongFalsely : Prop := codecBackRow.holds Try.pinned (OpenSpec.ofChange codecBackWrong)

/-- 'massiflaw14.CodecKeeps': WHATEVER THE INPUT: true; the input reads as it did. -/
def codecKeepsSpec : ChangeSpec := { name := "codecKeeps", fn := fun _ => fun
  | [d1, d2] => { results := [.lit (.bool true)], args := [d1, d2] }
  | _ => none }
def codecKeepsRow : OpenClaim := { program := "ytkokagbmmlngjaa", sum := "f38799afbe61452871230af0bac8843a623524f7f5bd4733390b739d97a8ca0d", func := "massif/massiflaw14.CodecKeeps", spec := "codecKeeps", inPlace := ["internal/abi.NoEscape"], unfollowed := true, recurses := true, plainKeys := false, apart := false }
def CodecKeepsSaid : Prop := codecKeepsRow.holds Try.pinned (OpenSpec.ofChange codecKeepsSpec)

/-- ITS FALSE NEIGHBOUR: 'it returns false'. Refute it at one input. -/
def codecKeepsWrong : ChangeSpec := { name := "codecKeeps", fn := fun _ => fun
  | [d1, d2] => { results := [.lit (.bool false)], args := [d1, d2] }
  | _ => none }
def CodecKeepsWrongFalsely : Prop := codecKeepsRow.holds Try.pinned (OpenSpec.ofChange codecKeepsWrong)

/-- 'massiftop.WholeSmall': WHATEVER THE INPUT: true; the input reads as it did. -/
def wholeSmallSpec : ChangeSpec := { name := "wholeSmall", fn := fun _ => fun
  | [d1, d2, d3] => { results := [.lit (.bool true)], args := [d1, d2, d3] }
  | _ => none }
def wholeSmallRow : OpenClaim := { program := "ytkokagbmmlngjaa", sum := "f38799afbe61452871230af0bac8843a623524f7f5bd4733390b739d97a8ca0d", func := "massif/massiftop.WholeSmall", spec := "wholeSmall", inPlace := ["internal/abi.NoEscape"], unfollowed := true, recurses := true, plainKeys := false, apart := false }
def WholeSmallSaid : Prop := wholeSmallRow.holds Try.pinned (OpenSpec.ofChange wholeSmallSpec)

/-- ITS FALSE NEIGHBOUR: 'it returns false'. Refute it at one input. -/
def wholeSmallWrong : ChangeSpec := { name := "wholeSmall", fn := fun _ => fun
  | [d1, d2, d3] => { results := [.lit (.bool false)], args := [d1, d2, d3] }
  | _ => none }
def WholeSmallWrongFalsely : Prop := wholeSmallRow.holds Try.pinned (OpenSpec.ofChange wholeSmallWrong)

/- THE SECOND FORM. 'bulk': how many values and letters a reading holds, each counted each time it is reached (what is shared counts as often as it is met; a slice's spare places count too). A statement '..UptoSaid' is the law's where the arguments, and the package variables that the reading takes, are together of bulk at most 1048576: NARROWER than '..Said'. Prove '..Said' where nothing that the law and all that it calls make is longer than what came in: it says more and counts as full. Else prove '..UptoSaid'. A law counts once. -/
mutual
def uptoBulk {H : Type} : DataW H → Nat
  | .lit (.string bytes) => bytes.length + 1
  | .lit _ => 1
  | .nil => 1
  | .ptr d => uptoBulk d + 1
  | .slice elems spare => uptoBulkAll elems + uptoBulkAll spare + 1
  | .agg parts => uptoBulkAll parts + 1
  | .iface _ d => uptoBulk d + 1
  | .map entries => uptoBulkEntries entries + 1
  | .held _ => 1
def uptoBulkAll {H : Type} : List (DataW H) → Nat
  | [] => 0
  | d :: r => uptoBulk d + uptoBulkAll r
def uptoBulkEntries {H : Type} : List (Lit × DataW H) → Nat
  | [] => 0
  | x :: r => uptoBulkEntry x + uptoBulkEntries r
def uptoBulkEntry {H : Type} : Lit × DataW H → Nat
  | (.string bytes, d) => bytes.length + uptoBulk d + 1
  | (_, d) => uptoBulk d + 1
 end
def uptoSmall : (H : Type) → List (DataW H) → Bool := fun _ ds => decide (uptoBulkAll ds ≤ 1048576)
def OpenSpec.upto (s : _root_.Go.ChangeSpec) : _root_.Go.OpenSpec := { _root_.Go.OpenSpec.ofChange s with cond := some uptoSmall }

/-- 'massiflaw10.ForestRow', WHERE WHAT IT READS IS OF BULK AT MOST 1048576: true; the input reads as it did. -/
def forestRowUptoRow : OpenClaim := { program := "ytkokagbmmlngjaa", sum := "f38799afbe61452871230af0bac8843a623524f7f5bd4733390b739d97a8ca0d", func := "massif/massiflaw10.ForestRow", spec := "forestRow", plainKeys := false, apart := false, narrowed := true }
def ForestRowUptoSaid : Prop := forestRowUptoRow.holds Try.pinned (OpenSpec.upto forestRowSpec)

/-- 'massiflaw10.ForestFresh', WHERE WHAT IT READS IS OF BULK AT MOST 1048576: true; the input reads as it did. -/
def forestFreshUptoRow : OpenClaim := { program := "ytkokagbmmlngjaa", sum := "f38799afbe61452871230af0bac8843a623524f7f5bd4733390b739d97a8ca0d", func := "massif/massiflaw10.ForestFresh", spec := "forestFresh", plainKeys := false, apart := false, narrowed := true }
def ForestFreshUptoSaid : Prop := forestFreshUptoRow.holds Try.pinned (OpenSpec.upto forestFreshSpec)

/-- 'massiflaw10.ForestLong', WHERE WHAT IT READS IS OF BULK AT MOST 1048576: true; the input reads as it did. -/
def forestLongUptoRow : OpenClaim := { program := "ytkokagbmmlngjaa", sum := "f38799afbe61452871230af0bac8843a623524f7f5bd4733390b739d97a8ca0d", func := "massif/massiflaw10.ForestLong", spec := "forestLong", plainKeys := false, apart := false, narrowed := true }
def ForestLongUptoSaid : Prop := forestLongUptoRow.holds Try.pinned (OpenSpec.upto forestLongSpec)

/-- 'massiflaw09.PeaksList', WHERE WHAT IT READS IS OF BULK AT MOST 1048576: true; the input reads as it did. -/
def peaksListUptoRow : OpenClaim := { program := "ytkokagbmmlngjaa", sum := "f38799afbe61452871230af0bac8843a623524f7f5bd4733390b739d97a8ca0d", func := "massif/massiflaw09.PeaksList", spec := "peaksList", unfollowed := true, recurses := true, plainKeys := false, apart := false, narrowed := true }
def PeaksListUptoSaid : Prop := peaksListUptoRow.holds Try.pinned (OpenSpec.upto peaksListSpec)

/-- 'massiflaw10.ForestPlain', WHERE WHAT IT READS IS OF BULK AT MOST 1048576: true; the input reads as it did. -/
def forestPlainUptoRow : OpenClaim := { program := "ytkokagbmmlngjaa", sum := "f38799afbe61452871230af0bac8843a623524f7f5bd4733390b739d97a8ca0d", func := "massif/massiflaw10.ForestPlain", spec := "forestPlain", recurses := true, plainKeys := false, apart := false, narrowed := true }
def ForestPlainUptoSaid : Prop := forestPlainUptoRow.holds Try.pinned (OpenSpec.upto forestPlainSpec)

/-- 'massiflaw13.KinComplete', WHERE WHAT IT READS IS OF BULK AT MOST 1048576: true; the input reads as it did. -/
def kinCompleteUptoRow : OpenClaim := { program := "ytkokagbmmlngjaa", sum := "f38799afbe61452871230af0bac8843a623524f7f5bd4733390b739d97a8ca0d", func := "massif/massiflaw13.KinComplete", spec := "kinComplete", unfollowed := true, recurses := true, plainKeys := false, apart := false, narrowed := true }
def KinCompleteUptoSaid : Prop := kinCompleteUptoRow.holds Try.pinned (OpenSpec.upto kinCompleteSpec)

/-- 'massiflaw13.KinTurned', WHERE WHAT IT READS IS OF BULK AT MOST 1048576: true; the input reads as it did. -/
def kinTurnedUptoRow : OpenClaim := { program := "ytkokagbmmlngjaa", sum := "f38799afbe61452871230af0bac8843a623524f7f5bd4733390b739d97a8ca0d", func := "massif/massiflaw13.KinTurned", spec := "kinTurned", unfollowed := true, recurses := true, plainKeys := false, apart := false, narrowed := true }
def KinTurnedUptoSaid : Prop := kinTurnedUptoRow.holds Try.pinned (OpenSpec.upto kinTurnedSpec)

/-- 'massiflaw13.KinFresh', WHERE WHAT IT READS IS OF BULK AT MOST 1048576: true; the input reads as it did. -/
def kinFreshUptoRow : OpenClaim := { program := "ytkokagbmmlngjaa", sum := "f38799afbe61452871230af0bac8843a623524f7f5bd4733390b739d97a8ca0d", func := "massif/massiflaw13.KinFresh", spec := "kinFresh", unfollowed := true, recurses := true, plainKeys := false, apart := false, narrowed := true }
def KinFreshUptoSaid : Prop := kinFreshUptoRow.holds Try.pinned (OpenSpec.upto kinFreshSpec)

/-- 'massiflaw14.CodecWrites', WHERE WHAT IT READS IS OF BULK AT MOST 1048576: true; the input reads as it did. -/
def codecWritesUptoRow : OpenClaim := { program := "ytkokagbmmlngjaa", sum := "f38799afbe61452871230af0bac8843a623524f7f5bd4733390b739d97a8ca0d", func := "massif/massiflaw14.CodecWrites", spec := "codecWrites", inPlace := ["internal/abi.NoEscape"], unfollowed := true, recurses := true, plainKeys := false, apart := false, narrowed := true }
def CodecWritesUptoSaid : Prop := codecWritesUptoRow.holds Try.pinned (OpenSpec.upto codecWritesSpec)

/-- 'massiflaw14.CodecReads', WHERE WHAT IT READS IS OF BULK AT MOST 1048576: true; the input reads as it did. -/
def codecReadsUptoRow : OpenClaim := { program := "ytkokagbmmlngjaa", sum := "f38799afbe61452871230af0bac8843a623524f7f5bd4733390b739d97a8ca0d", func := "massif/massiflaw14.CodecReads", spec := "codecReads", inPlace := ["internal/abi.NoEscape"], unfollowed := true, recurses := true, plainKeys := false, apart := false, narrowed := true }
def CodecReadsUptoSaid : Prop := codecReadsUptoRow.holds Try.pinned (OpenSpec.upto codecReadsSpec)

/-- 'massiflaw14.CodecBack', WHERE WHAT IT READS IS OF BULK AT MOST 1048576: true; the input reads as it did. -/
def codecBackUptoRow : OpenClaim := { program := "ytkokagbmmlngjaa", sum := "f38799afbe61452871230af0bac8843a623524f7f5bd4733390b739d97a8ca0d", func := "massif/massiflaw14.CodecBack", spec := "codecBack", inPlace := ["internal/abi.NoEscape"], unfollowed := true, recurses := true, plainKeys := false, apart := false, narrowed := true }
def CodecBackUptoSaid : Prop := codecBackUptoRow.holds Try.pinned (OpenSpec.upto codecBackSpec)

/-- 'massiflaw14.CodecKeeps', WHERE WHAT IT READS IS OF BULK AT MOST 1048576: true; the input reads as it did. -/
def codecKeepsUptoRow : OpenClaim := { program := "ytkokagbmmlngjaa", sum := "f38799afbe61452871230af0bac8843a623524f7f5bd4733390b739d97a8ca0d", func := "massif/massiflaw14.CodecKeeps", spec := "codecKeeps", inPlace := ["internal/abi.NoEscape"], unfollowed := true, recurses := true, plainKeys := false, apart := false, narrowed := true }
def CodecKeepsUptoSaid : Prop := codecKeepsUptoRow.holds Try.pinned (OpenSpec.upto codecKeepsSpec)

/-- 'massiftop.WholeSmall', WHERE WHAT IT READS IS OF BULK AT MOST 1048576: true; the input reads as it did. -/
def wholeSmallUptoRow : OpenClaim := { program := "ytkokagbmmlngjaa", sum := "f38799afbe61452871230af0bac8843a623524f7f5bd4733390b739d97a8ca0d", func := "massif/massiftop.WholeSmall", spec := "wholeSmall", inPlace := ["internal/abi.NoEscape"], unfollowed := true, recurses := true, plainKeys := false, apart := false, narrowed := true }
def WholeSmallUptoSaid : Prop := wholeSmallUptoRow.holds Try.pinned (OpenSpec.upto wholeSmallSpec)

end Rows
end Go.Proofs.Ytkokagbmmlngjaa
