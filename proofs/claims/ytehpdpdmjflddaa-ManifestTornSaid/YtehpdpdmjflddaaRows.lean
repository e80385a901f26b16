/-
  No cell of these rows narrows 'for every input' (looked for: loops, veiled, ifaces, maps, wideKeys, modest, calm, conditions, laid).
  DERIVED. THE GIVEN ROWS OF THIS SEAT. 10 by the template 'for every input the law returns true; each argument reads behind the call as it read before'; 0 by the template 'total and deterministic' (their statements: YtehpdpdmjflddaaTotals.lean).
  GIVEN WITH THE SEED: the statements are not yours to turn. If you find one false, say at which input.
  Laid BY PROGRAM, IN A SANDBOX (cutbox-rows.mjs): the forced cells as the released guide's own fill.sh prints them over the translation 51993ccaf0dc5f1a… (all of the seat's roots in one cut). By AI agents, Wed Nov 11 2026. No macro, syntax, notation, axiom, sorry.
-/
import Derived.Test.YtehpdpdmjflddaaChecked
import GoSem.Claim
import GoSem.ClaimJoined
import GoSem.ClaimMapViews
import Derived.JoinedTies
import Derived.KernelRfl
namespace Go.Proofs.Ytehpdpdmjflddaa
/- THE CELL 'sum', in the pinned program and in every row, IS THE sha256 OF THE DUMP (.gsa) THAT YtehpdpdmjflddaaProg.lean LOADS. Nothing in Lean hashes anything: it is a label: what it is worth is what the hold of that sum in a sandbox is worth. -/
noncomputable def Try.pinned : Pinned := { name := "ytehpdpdmjflddaa", sum := "51993ccaf0dc5f1a4d2c05e7376121c3c688a4b80ba91dcd00d86eb979b96c57", checked := Try.checked }
namespace Rows
def none {H : Type} : Left H := { results := [], args := [] }

/-- 'hayloftlaw05.DiskTorn': WHATEVER THE INPUT: true; the input reads as it did. -/
def diskTornSpec : ChangeSpec := { name := "diskTorn", fn := fun _ => fun
  | [d1, d2] => { results := [.lit (.bool true)], args := [d1, d2] }
  | _ => none }
def diskTornRow : OpenClaim := { program := "ytehpdpdmjflddaa", sum := "51993ccaf0dc5f1a4d2c05e7376121c3c688a4b80ba91dcd00d86eb979b96c57", func := "hayloft/hayloftlaw05.DiskTorn", spec := "diskTorn", apart := false }
def DiskTornSaid : Prop := diskTornRow.holds Try.pinned (OpenSpec.ofChange diskTornSpec)

/-- ITS FALSE NEIGHBOUR: 'it returns false'. Refute it at one input. -/
def diskTornWrong : ChangeSpec := { name := "diskTorn", fn := fun _ => fun
  | [d1, d2] => { results := [.lit (.bool false)], args := [d1, d2] }
  | _ => none }
def DiskTornWrongFalsely : Prop := diskTornRow.holds Try.pinned (OpenSpec.ofChange diskTornWrong)

/-- 'hayloftlaw05.DiskArmed': WHATEVER THE INPUT: true; the input reads as it did. -/
def diskArmedSpec : ChangeSpec := { name := "diskArmed", fn := fun _ => fun
  | [d1, d2, d3] => { results := [.lit (.bool true)], args := [d1, d2, d3] }
  | _ => none }
def diskArmedRow : OpenClaim := { program := "ytehpdpdmjflddaa", sum := "51993ccaf0dc5f1a4d2c05e7376121c3c688a4b80ba91dcd00d86eb979b96c57", func := "hayloft/hayloftlaw05.DiskArmed", spec := "diskArmed", apart := false }
def DiskArmedSaid : Prop := diskArmedRow.holds Try.pinned (OpenSpec.ofChange diskArmedSpec)

/-- ITS FALSE NEIGHBOUR: 'it returns false'. Refute it at one input. -/
def diskArmedWrong : ChangeSpec := { name := "diskArmed", fn := fun _ => fun
  | [d1, d2, d3] => { results := [.lit (.bool false)], args := [d1, d2, d3] }
  | _ => none }
def DiskArmedWrongFalsely : Prop := diskArmedRow.holds Try.pinned (OpenSpec.ofChange diskArmedWrong)

/-- 'hayloftlaw05.DiskFlushed': WHATEVER THE INPUT: true; the input reads as it did. -/
def diskFlushedSpec : ChangeSpec := { name := "diskFlushed", fn := fun _ => fun
  | [d1, d2, d3] => { results := [.lit (.bool true)], args := [d1, d2, d3] }
  | _ => none }
def diskFlushedRow : OpenClaim := { program := "ytehpdpdmjflddaa", sum := "51993ccaf0dc5f1a4d2c05e7376121c3c688a4b80ba91dcd00d86eb979b96c57", func := "hayloft/hayloftlaw05.DiskFlushed", spec := "diskFlushed", apart := false }
def DiskFlushedSaid : Prop := diskFlushedRow.holds Try.pinned (OpenSpec.ofChange diskFlushedSpec)

/-- ITS FALSE NEIGHBOUR: 'it returns false'. Refute it at one input. -/
def diskFlushedWrong : ChangeSpec := { name := "diskFlushed", fn := fun _ => fun
  | [d1, d2, d3] => { results := [.lit (.bool false)], args := [d1, d2, d3] }
  | _ => none }
def DiskFlushedWrongFalsely : Prop := diskFlushedRow.holds Try.pinned (OpenSpec.ofChange diskFlushedWrong)

/-- 'hayloftlaw05.DiskMakes': WHATEVER THE INPUT: true; the input reads as it did. -/
def diskMakesSpec : ChangeSpec := { name := "diskMakes", fn := fun _ => fun
  | [d1, d2] => { results := [.lit (.bool true)], args := [d1, d2] }
  | _ => none }
def diskMakesRow : OpenClaim := { program := "ytehpdpdmjflddaa", sum := "51993ccaf0dc5f1a4d2c05e7376121c3c688a4b80ba91dcd00d86eb979b96c57", func := "hayloft/hayloftlaw05.DiskMakes", spec := "diskMakes", apart := false }
def DiskMakesSaid : Prop := diskMakesRow.holds Try.pinned (OpenSpec.ofChange diskMakesSpec)

/-- ITS FALSE NEIGHBOUR: 'it returns false'. Refute it at one input. -/
def diskMakesWrong : ChangeSpec := { name := "diskMakes", fn := fun _ => fun
  | [d1, d2] => { results := [.lit (.bool false)], args := [d1, d2] }
  | _ => none }
def DiskMakesWrongFalsely : Prop := diskMakesRow.holds Try.pinned (OpenSpec.ofChange diskMakesWrong)

/-- 'hayloftlaw05.DiskPlays': WHATEVER THE INPUT: true; the input reads as it did. -/
def diskPlaysSpec : ChangeSpec := { name := "diskPlays", fn := fun _ => fun
  | [d1, d2] => { results := [.lit (.bool true)], args := [d1, d2] }
  | _ => none }
def diskPlaysRow : OpenClaim := { program := "ytehpdpdmjflddaa", sum := "51993ccaf0dc5f1a4d2c05e7376121c3c688a4b80ba91dcd00d86eb979b96c57", func := "hayloft/hayloftlaw05.DiskPlays", spec := "diskPlays", apart := false }
def DiskPlaysSaid : Prop := diskPlaysRow.holds Try.pinned (OpenSpec.ofChange diskPlaysSpec)

/-- ITS FALSE NEIGHBOUR: 'it returns false'. Refute it at one input. -/
def diskPlaysWrong : ChangeSpec := { name := "diskPlays", fn := fun _ => fun
  | [d1, d2] => { results := [.lit (.bool false)], args := [d1, d2] }
  | _ => none }
def DiskPlaysWrongFalsely : Prop := diskPlaysRow.holds Try.pinned (OpenSpec.ofChange diskPlaysWrong)

/-- 'hayloftlaw05.DiskNil': WHATEVER THE INPUT: true; the input reads as it did. -/
def diskNilSpec : ChangeSpec := { name := "diskNil", fn := fun _ => fun
  | [d1, d2, d3] => { results := [.lit (.bool true)], args := [d1, d2, d3] }
  | _ => none }
def diskNilRow : OpenClaim := { program := "ytehpdpdmjflddaa", sum := "51993ccaf0dc5f1a4d2c05e7376121c3c688a4b80ba91dcd00d86eb979b96c57", func := "hayloft/hayloftlaw05.DiskNil", spec := "diskNil", apart := false }
def DiskNilSaid : Prop := diskNilRow.holds Try.pinned (OpenSpec.ofChange diskNilSpec)

/-- ITS FALSE NEIGHBOUR: 'it returns false'. Refute it at one input. -/
def diskNilWrong : ChangeSpec := { name := "diskNil", fn := fun _ => fun
  | [d1, d2, d3] => { results := [.lit (.bool false)], args := [d1, d2, d3] }
  | _ => none }
def DiskNilWrongFalsely : Prop := diskNilRow.holds Try.pinned (OpenSpec.ofChange diskNilWrong)

/-- 'hayloftlaw21.ManifestWrites': WHATEVER THE INPUT: true; the input reads as it did. -/
def manifestWritesSpec : ChangeSpec := { name := "manifestWrites", fn := fun _ => fun
  | [d1, d2, d3] => { results := [.lit (.bool true)], args := [d1, d2, d3] }
  | _ => none }
def manifestWritesRow : OpenClaim := { program := "ytehpdpdmjflddaa", sum := "51993ccaf0dc5f1a4d2c05e7376121c3c688a4b80ba91dcd00d86eb979b96c57", func := "hayloft/hayloftlaw21.ManifestWrites", spec := "manifestWrites", apart := false }
def ManifestWritesSaid : Prop := manifestWritesRow.holds Try.pinned (OpenSpec.ofChange manifestWritesSpec)

/-- ITS FALSE NEIGHBOUR: 'it returns false'. Refute it at one input. -/
def manifestWritesWrong : ChangeSpec := { name := "manifestWrites", fn := fun _ => fun
  | [d1, d2, d3] => { results := [.lit (.bool false)], args := [d1, d2, d3] }
  | _ => none }
def ManifestWritesWrongFalsely : Prop := manifestWritesRow.holds Try.pinned (OpenSpec.ofChange manifestWritesWrong)

/-- 'hayloftlaw21.ManifestReads': WHATEVER THE INPUT: true; the input reads as it did. -/
def manifestReadsSpec : ChangeSpec := { name := "manifestReads", fn := fun _ => fun
  | [d] => { results := [.lit (.bool true)], args := [d] }
  | _ => none }
def manifestReadsRow : OpenClaim := { program := "ytehpdpdmjflddaa", sum := "51993ccaf0dc5f1a4d2c05e7376121c3c688a4b80ba91dcd00d86eb979b96c57", func := "hayloft/hayloftlaw21.ManifestReads", spec := "manifestReads", apart := false }
def ManifestReadsSaid : Prop := manifestReadsRow.holds Try.pinned (OpenSpec.ofChange manifestReadsSpec)

/-- ITS FALSE NEIGHBOUR: 'it returns false'. Refute it at one input. -/
def manifestReadsWrong : ChangeSpec := { name := "manifestReads", fn := fun _ => fun
  | [d] => { results := [.lit (.bool false)], args := [d] }
  | _ => none }
def ManifestReadsWrongFalsely : Prop := manifestReadsRow.holds Try.pinned (OpenSpec.ofChange manifestReadsWrong)

/-- 'hayloftlaw21.ManifestTorn': WHATEVER THE INPUT: true; the input reads as it did. -/
def manifestTornSpec : ChangeSpec := { name := "manifestTorn", fn := fun _ => fun
  | [d1, d2] => { results := [.lit (.bool true)], args := [d1, d2] }
  | _ => none }
def manifestTornRow : OpenClaim := { program := "ytehpdpdmjflddaa", sum := "51993ccaf0dc5f1a4d2c05e7376121c3c688a4b80ba91dcd00d86eb979b96c57", func := "hayloft/hayloftlaw21.ManifestTorn", spec := "manifestTorn", apart := false }
def ManifestTornSaid : Prop := manifestTornRow.holds Try.pinned (OpenSpec.ofChange manifestTornSpec)

/-- ITS FALSE NEIGHBOUR: 'it returns false'. Refute it at one input. -/
def manifestTornWrong : ChangeSpec := { name := "manifestTorn", fn := fun _ => fun
  | [d1, d2] => { results := [.lit (.bool false)], args := [d1, d2] }
  | _ => none }
def ManifestTornWrongFalsely : Prop := manifestTornRow.holds Try.pinned (OpenSpec.ofChange manifestTornWrong)

/-- 'hayloftlaw21.ManifestBursts': WHATEVER THE INPUT: true; the input reads as it did. -/
def manifestBurstsSpec : ChangeSpec := { name := "manifestBursts", fn := fun _ => fun
  | [d1, d2] => { results := [.lit (.bool true)], args := [d1, d2] }
  | _ => none }
def manifestBurstsRow : OpenClaim := { program := "ytehpdpdmjflddaa", sum := "51993ccaf0dc5f1a4d2c05e7376121c3c688a4b80ba91dcd00d86eb979b96c57", func := "hayloft/hayloftlaw21.ManifestBursts", spec := "manifestBursts", apart := false }
def ManifestBurstsSaid : Prop := manifestBurstsRow.holds Try.pinned (OpenSpec.ofChange manifestBurstsSpec)

/-- ITS FALSE NEIGHBOUR: 'it returns false'. Refute it at one input. -/
def manifestBurstsWrong : ChangeSpec := { name := "manifestBursts", fn := fun _ => fun
  | [d1, d2] => { results := [.lit (.bool false)], args := [d1, d2] }
  | _ => none }
def ManifestBurstsWrongFalsely : Prop := manifestBurstsRow.holds Try.pinned (OpenSpec.ofChange manifestBurstsWrong)

/- THE SECOND FORM. 'bulk': how many values and letters a reading holds, each counted each time it is reached (what is shared counts as often as it is met; a slice's spare places count too). A statement '..UptoSaid' is the law's where the arguments, and the package variables that the reading takes, are together of bulk at most 1048576: NARROWER than '..Said'. Prove '..Said' where nothing that the law and all that it calls make is longer than what came in: it says more and counts as full. Else prove '..UptoSaid'. A law counts once. -/
mutual
def uptoBulk {H : Type} : DataW H → Nat
  | .lit (.string bytes) => bytes.length + 1
  | .lit _ => 1
  | .nil => 1
  | .ptr d => uptoBulk d + 1
  | .slice elems spare => uptoBulkAll elems + uptoBulkAll spare + 1
  | .agg parts => uptoBulkAll parts + 1
  | .iface _ d => uptoBulk d + 1
  | .map entries => uptoBulkEntries entries + 1
  | .held _ => 1
def uptoBulkAll {H : Type} : List (DataW H) → Nat
  | [] => 0
  | d :: r => uptoBulk d + uptoBulkAll r
def uptoBulkEntries {H : Type} : List (Lit × DataW H) → Nat
  | [] => 0
  | x :: r => uptoBulkEntry x + uptoBulkEntries r
def uptoBulkEntry {H : Type} : Lit × DataW H → Nat
  | (.string bytes, d) => bytes.length + uptoBulk d + 1
  | (_, d) => uptoBulk d + 1
 end
def uptoSmall : (H : Type) → List (DataW H) → Bool := fun _ ds => decide (uptoBulkAll ds ≤ 1048576)
def OpenSpec.upto (s : _root_.Go.ChangeSpec) : _root_.Go.OpenSpec := { _root_.Go.OpenSpec.ofChange s with cond := some uptoSmall }

/-- 'hayloftlaw05.DiskTorn', WHERE WHAT IT READS IS OF BULK AT MOST 1048576: true; the input reads as it did. -/
def diskTornUptoRow : OpenClaim := { program := "ytehpdpdmjflddaa", sum := "51993ccaf0dc5f1a4d2c05e7376121c3c688a4b80ba91dcd00d86eb979b96c57", func := "hayloft/hayloftlaw05.DiskTorn", spec := "diskTorn", apart := false, narrowed := true }
def DiskTornUptoSaid : Prop := diskTornUptoRow.holds Try.pinned (OpenSpec.upto diskTornSpec)

/-- 'hayloftlaw05.DiskArmed', WHERE WHAT IT READS IS OF BULK AT MOST 1048576: true; the input reads as it did. -/
def diskArmedUptoRow : OpenClaim := { program := "ytehpdpdmjflddaa", sum := "51993ccaf0dc5f1a4d2c05e7376121c3c688a4b80ba91dcd00d86eb979b96c57", func := "hayloft/hayloftlaw05.DiskArmed", spec := "diskArmed", apart := false, narrowed := true }
def DiskArmedUptoSaid : Prop := diskArmedUptoRow.holds Try.pinned (OpenSpec.upto diskArmedSpec)

/-- 'hayloftlaw05.DiskFlushed', WHERE WHAT IT READS IS OF BULK AT MOST 1048576: true; the input reads as it did. -/
def diskFlushedUptoRow : OpenClaim := { program := "ytehpdpdmjflddaa", sum := "51993ccaf0dc5f1a4d2c05e7376121c3c688a4b80ba91dcd00d86eb979b96c57", func := "hayloft/hayloftlaw05.DiskFlushed", spec := "diskFlushed", apart := false, narrowed := true }
def DiskFlushedUptoSaid : Prop := diskFlushedUptoRow.holds Try.pinned (OpenSpec.upto diskFlushedSpec)

/-- 'hayloftlaw05.DiskMakes', WHERE WHAT IT READS IS OF BULK AT MOST 1048576: true; the input reads as it did. -/
def diskMakesUptoRow : OpenClaim := { program := "ytehpdpdmjflddaa", sum := "51993ccaf0dc5f1a4d2c05e7376121c3c688a4b80ba91dcd00d86eb979b96c57", func := "hayloft/hayloftlaw05.DiskMakes", spec := "diskMakes", apart := false, narrowed := true }
def DiskMakesUptoSaid : Prop := diskMakesUptoRow.holds Try.pinned (OpenSpec.upto diskMakesSpec)

/-- 'hayloftlaw05.DiskPlays', WHERE WHAT IT READS IS OF BULK AT MOST 1048576: true; the input reads as it did. -/
def diskPlaysUptoRow : OpenClaim := { program := "ytehpdpdmjflddaa", sum := "51993ccaf0dc5f1a4d2c05e7376121c3c688a4b80ba91dcd00d86eb979b96c57", func := "hayloft/hayloftlaw05.DiskPlays", spec := "diskPlays", apart := false, narrowed := true }
def DiskPlaysUptoSaid : Prop := diskPlaysUptoRow.holds Try.pinned (OpenSpec.upto diskPlaysSpec)

/-- 'hayloftlaw05.DiskNil', WHERE WHAT IT READS IS OF BULK AT MOST 1048576: true; the input reads as it did. -/
def diskNilUptoRow : OpenClaim := { program := "ytehpdpdmjflddaa", sum := "51993ccaf0dc5f1a4d2c05e7376121c3c688a4b80ba91dcd00d86eb979b96c57", func := "hayloft/hayloftlaw05.DiskNil", spec := "diskNil", apart := false, narrowed := true }
def DiskNilUptoSaid : Prop := diskNilUptoRow.holds Try.pinned (OpenSpec.upto diskNilSpec)

/-- 'hayloftlaw21.ManifestWrites', WHERE WHAT IT READS IS OF BULK AT MOST 1048576: true; the input reads as it did. -/
def manifestWritesUptoRow : OpenClaim := { program := "ytehpdpdmjflddaa", sum := "51993ccaf0dc5f1a4d2c05e7376121c3c688a4b80ba91dcd00d86eb979b96c57", func := "hayloft/hayloftlaw21.ManifestWrites", spec := "manifestWrites", apart := false, narrowed := true }
def ManifestWritesUptoSaid : Prop := manifestWritesUptoRow.holds Try.pinned (OpenSpec.upto manifestWritesSpec)

/-- 'hayloftlaw21.ManifestReads', WHERE WHAT IT READS IS OF BULK AT MOST 1048576: true; the input reads as it did. -/
def manifestReadsUptoRow : OpenClaim := { program := "ytehpdpdmjflddaa", sum := "51993ccaf0dc5f1a4d2c05e7376121c3c688a4b80ba91dcd00d86eb979b96c57", func := "hayloft/hayloftlaw21.ManifestReads", spec := "manifestReads", apart := false, narrowed := true }
def ManifestReadsUptoSaid : Prop := manifestReadsUptoRow.holds Try.pinned (OpenSpec.upto manifestReadsSpec)

/-- 'hayloftlaw21.ManifestTorn', WHERE WHAT IT READS IS OF BULK AT MOST 1048576: true; the input reads as it did. -/
def manifestTornUptoRow : OpenClaim := { program := "ytehpdpdmjflddaa", sum := "51993ccaf0dc5f1a4d2c05e7376121c3c688a4b80ba91dcd00d86eb979b96c57", func := "hayloft/hayloftlaw21.ManifestTorn", spec := "manifestTorn", apart := false, narrowed := true }
def ManifestTornUptoSaid : Prop := manifestTornUptoRow.holds Try.pinned (OpenSpec.upto manifestTornSpec)

/-- 'hayloftlaw21.ManifestBursts', WHERE WHAT IT READS IS OF BULK AT MOST 1048576: true; the input reads as it did. -/
def manifestBurstsUptoRow : OpenClaim := { program := "ytehpdpdmjflddaa", sum := "51993ccaf0dc5f1a4d2c05e7376121c3c688a4b80ba91dcd00d86eb979b96c57", func := "hayloft/hayloftlaw21.ManifestBursts", spec := "manifestBursts", apart := false, narrowed := true }
def ManifestBurstsUptoSaid : Prop := manifestBurstsUptoRow.holds Try.pinned (OpenSpec.upto manifestBurstsSpec)

end Rows
end Go.Proofs.Ytehpdpdmjflddaa
