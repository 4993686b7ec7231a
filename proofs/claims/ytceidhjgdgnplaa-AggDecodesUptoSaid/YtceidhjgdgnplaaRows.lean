/-
  No cell of these rows narrows 'for every input' (looked for: loops, veiled, ifaces, maps, wideKeys, modest, calm, conditions, laid).
  DERIVED. THE GIVEN ROWS OF THIS SEAT. 10 by the template 'for every input the law returns true; each argument reads behind the call as it read before'; 0 by the template 'total and deterministic' (their statements: YtceidhjgdgnplaaTotals.lean).
  GIVEN WITH THE SEED: the statements are not yours to turn. If you find one false, say at which input.
  Laid BY PROGRAM, IN A SANDBOX (cutbox-rows.mjs): the forced cells as the released guide's own fill.sh prints them over the translation 6ac353d6161d513d… (all of the seat's roots in one cut). By AI agents, Wed Nov 11 2026. No macro, syntax, notation, axiom, sorry.
-/
import Derived.Test.YtceidhjgdgnplaaChecked
import GoSem.Claim
import GoSem.ClaimJoined
import GoSem.ClaimMapViews
import Derived.JoinedTies
import Derived.KernelRfl
namespace Go.Proofs.Ytceidhjgdgnplaa
/- THE CELL 'sum', in the pinned program and in every row, IS THE sha256 OF THE DUMP (.gsa) THAT YtceidhjgdgnplaaProg.lean LOADS. Nothing in Lean hashes anything: it is a label: what it is worth is what the hold of that sum in a sandbox is worth. -/
noncomputable def Try.pinned : Pinned := { name := "ytceidhjgdgnplaa", sum := "6ac353d6161d513d53eab786487299afe8c54bd8840c613f3d008db85203cc87", checked := Try.checked }
namespace Rows
def none {H : Type} : Left H := { results := [], args := [] }

/-- 'almanaclaw01.BitsPacks': WHATEVER THE INPUT: true; the input reads as it did. -/
def bitsPacksSpec : ChangeSpec := { name := "bitsPacks", fn := fun _ => fun
  | [d] => { results := [.lit (.bool true)], args := [d] }
  | _ => none }
def bitsPacksRow : OpenClaim := { program := "ytceidhjgdgnplaa", sum := "6ac353d6161d513d53eab786487299afe8c54bd8840c613f3d008db85203cc87", func := "almanac/almanaclaw01.BitsPacks", spec := "bitsPacks", apart := false }
def BitsPacksSaid : Prop := bitsPacksRow.holds Try.pinned (OpenSpec.ofChange bitsPacksSpec)

/-- ITS FALSE NEIGHBOUR: 'it returns false'. Refute it at one input. -/
def bitsPacksWrong : ChangeSpec := { name := "bitsPacks", fn := fun _ => fun
  | [d] => { results := [.lit (.bool false)], args := [d] }
  | _ => none }
def BitsPacksWrongFalsely : Prop := bitsPacksRow.holds Try.pinned (OpenSpec.ofChange bitsPacksWrong)

/-- 'almanaclaw01.BitsHalves': WHATEVER THE INPUT: true; the input reads as it did. -/
def bitsHalvesSpec : ChangeSpec := { name := "bitsHalves", fn := fun _ => fun
  | [d1, d2, d3] => { results := [.lit (.bool true)], args := [d1, d2, d3] }
  | _ => none }
def bitsHalvesRow : OpenClaim := { program := "ytceidhjgdgnplaa", sum := "6ac353d6161d513d53eab786487299afe8c54bd8840c613f3d008db85203cc87", func := "almanac/almanaclaw01.BitsHalves", spec := "bitsHalves", apart := false }
def BitsHalvesSaid : Prop := bitsHalvesRow.holds Try.pinned (OpenSpec.ofChange bitsHalvesSpec)

/-- ITS FALSE NEIGHBOUR: 'it returns false'. Refute it at one input. -/
def bitsHalvesWrong : ChangeSpec := { name := "bitsHalves", fn := fun _ => fun
  | [d1, d2, d3] => { results := [.lit (.bool false)], args := [d1, d2, d3] }
  | _ => none }
def BitsHalvesWrongFalsely : Prop := bitsHalvesRow.holds Try.pinned (OpenSpec.ofChange bitsHalvesWrong)

/-- 'almanaclaw01.BitsNone': WHATEVER THE INPUT: true; the input reads as it did. -/
def bitsNoneSpec : ChangeSpec := { name := "bitsNone", fn := fun _ => fun
  | [d] => { results := [.lit (.bool true)], args := [d] }
  | _ => none }
def bitsNoneRow : OpenClaim := { program := "ytceidhjgdgnplaa", sum := "6ac353d6161d513d53eab786487299afe8c54bd8840c613f3d008db85203cc87", func := "almanac/almanaclaw01.BitsNone", spec := "bitsNone", apart := false }
def BitsNoneSaid : Prop := bitsNoneRow.holds Try.pinned (OpenSpec.ofChange bitsNoneSpec)

/-- ITS FALSE NEIGHBOUR: 'it returns false'. Refute it at one input. -/
def bitsNoneWrong : ChangeSpec := { name := "bitsNone", fn := fun _ => fun
  | [d] => { results := [.lit (.bool false)], args := [d] }
  | _ => none }
def BitsNoneWrongFalsely : Prop := bitsNoneRow.holds Try.pinned (OpenSpec.ofChange bitsNoneWrong)

/-- 'almanaclaw01.BitsReads': WHATEVER THE INPUT: true; the input reads as it did. -/
def bitsReadsSpec : ChangeSpec := { name := "bitsReads", fn := fun _ => fun
  | [d1, d2] => { results := [.lit (.bool true)], args := [d1, d2] }
  | _ => none }
def bitsReadsRow : OpenClaim := { program := "ytceidhjgdgnplaa", sum := "6ac353d6161d513d53eab786487299afe8c54bd8840c613f3d008db85203cc87", func := "almanac/almanaclaw01.BitsReads", spec := "bitsReads", apart := false }
def BitsReadsSaid : Prop := bitsReadsRow.holds Try.pinned (OpenSpec.ofChange bitsReadsSpec)

/-- ITS FALSE NEIGHBOUR: 'it returns false'. Refute it at one input. -/
def bitsReadsWrong : ChangeSpec := { name := "bitsReads", fn := fun _ => fun
  | [d1, d2] => { results := [.lit (.bool false)], args := [d1, d2] }
  | _ => none }
def BitsReadsWrongFalsely : Prop := bitsReadsRow.holds Try.pinned (OpenSpec.ofChange bitsReadsWrong)

/-- 'almanaclaw01.BitsBack': WHATEVER THE INPUT: true; the input reads as it did. -/
def bitsBackSpec : ChangeSpec := { name := "bitsBack", fn := fun _ => fun
  | [d] => { results := [.lit (.bool true)], args := [d] }
  | _ => none }
def bitsBackRow : OpenClaim := { program := "ytceidhjgdgnplaa", sum := "6ac353d6161d513d53eab786487299afe8c54bd8840c613f3d008db85203cc87", func := "almanac/almanaclaw01.BitsBack", spec := "bitsBack", apart := false }
def BitsBackSaid : Prop := bitsBackRow.holds Try.pinned (OpenSpec.ofChange bitsBackSpec)

/-- ITS FALSE NEIGHBOUR: 'it returns false'. Refute it at one input. -/
def bitsBackWrong : ChangeSpec := { name := "bitsBack", fn := fun _ => fun
  | [d] => { results := [.lit (.bool false)], args := [d] }
  | _ => none }
def BitsBackWrongFalsely : Prop := bitsBackRow.holds Try.pinned (OpenSpec.ofChange bitsBackWrong)

/-- 'almanaclaw11.AggEncodes': WHATEVER THE INPUT: true; the input reads as it did. -/
def aggEncodesSpec : ChangeSpec := { name := "aggEncodes", fn := fun _ => fun
  | [d] => { results := [.lit (.bool true)], args := [d] }
  | _ => none }
def aggEncodesRow : OpenClaim := { program := "ytceidhjgdgnplaa", sum := "6ac353d6161d513d53eab786487299afe8c54bd8840c613f3d008db85203cc87", func := "almanac/almanaclaw11.AggEncodes", spec := "aggEncodes", inPlace := ["internal/abi.NoEscape"], apart := false }
def AggEncodesSaid : Prop := aggEncodesRow.holds Try.pinned (OpenSpec.ofChange aggEncodesSpec)

/-- ITS FALSE NEIGHBOUR: 'it returns false'. Refute it at one input. -/
def aggEncodesWrong : ChangeSpec := { name := "aggEncodes", fn := fun _ => fun
  | [d] => { results := [.lit (.bool false)], args := [d] }
  | _ => none }
def AggEncodesWrongFalsely : Prop := aggEncodesRow.holds Try.pinned (OpenSpec.ofChange aggEncodesWrong)

/-- 'almanaclaw11.AggBetween': WHATEVER THE INPUT: true; the input reads as it did. -/
def aggBetweenSpec : ChangeSpec := { name := "aggBetween", fn := fun _ => fun
  | [d1, d2, d3] => { results := [.lit (.bool true)], args := [d1, d2, d3] }
  | _ => none }
def aggBetweenRow : OpenClaim := { program := "ytceidhjgdgnplaa", sum := "6ac353d6161d513d53eab786487299afe8c54bd8840c613f3d008db85203cc87", func := "almanac/almanaclaw11.AggBetween", spec := "aggBetween", inPlace := ["internal/abi.NoEscape"], unfollowed := true, recurses := true, apart := false }
def AggBetweenSaid : Prop := aggBetweenRow.holds Try.pinned (OpenSpec.ofChange aggBetweenSpec)

/-- ITS FALSE NEIGHBOUR: 'it returns false'. Refute it at one input. -/
def aggBetweenWrong : ChangeSpec := { name := "aggBetween", fn := fun _ => fun
  | [d1, d2, d3] => { results := [.lit (.bool false)], args := [d1, d2, d3] }
  | _ => none }
def AggBetweenWrongFalsely : Prop := aggBetweenRow.holds Try.pinned (OpenSpec.ofChange aggBetweenWrong)

/-- 'almanaclaw11.AggDecodes': WHATEVER THE INPUT: true; the input reads as it did. -/
def aggDecodesSpec : ChangeSpec := { name := "aggDecodes", fn := fun _ => fun
  | [d] => { results := [.lit (.bool true)], args := [d] }
  | _ => none }
def aggDecodesRow : OpenClaim := { program := "ytceidhjgdgnplaa", sum := "6ac353d6161d513d53eab786487299afe8c54bd8840c613f3d008db85203cc87", func := "almanac/almanaclaw11.AggDecodes", spec := "aggDecodes", inPlace := ["internal/abi.NoEscape"], unfollowed := true, recurses := true, apart := false }
def AggDecodesSaid : Prop := aggDecodesRow.holds Try.pinned (OpenSpec.ofChange aggDecodesSpec)

/-- ITS FALSE NEIGHBOUR: 'it returns false'. Refute it at one input. -/
def aggDecodesWrong : ChangeSpec := { name := "aggDecodes", fn := fun _ => fun
  | [d] => { results := [.lit (.bool false)], args := [d] }
  | _ => none }
def AggDecodesWrongFalsely : Prop := aggDecodesRow.holds Try.pinned (OpenSpec.ofChange aggDecodesWrong)

/-- 'almanaclaw11.AggBack': WHATEVER THE INPUT: true; the input reads as it did. -/
def aggBackSpec : ChangeSpec := { name := "aggBack", fn := fun _ => fun
  | [d] => { results := [.lit (.bool true)], args := [d] }
  | _ => none }
def aggBackRow : OpenClaim := { program := "ytceidhjgdgnplaa", sum := "6ac353d6161d513d53eab786487299afe8c54bd8840c613f3d008db85203cc87", func := "almanac/almanaclaw11.AggBack", spec := "aggBack", inPlace := ["internal/abi.NoEscape"], unfollowed := true, recurses := true, apart := false }
def AggBackSaid : Prop := aggBackRow.holds Try.pinned (OpenSpec.ofChange aggBackSpec)

/-- ITS FALSE NEIGHBOUR: 'it returns false'. Refute it at one input. -/
def aggBackWrong : ChangeSpec := { name := "aggBack", fn := fun _ => fun
  | [d] => { results := [.lit (.bool false)], args := [d] }
  | _ => none }
def AggBackWrongFalsely : Prop := aggBackRow.holds Try.pinned (OpenSpec.ofChange aggBackWrong)

/-- 'almanaclaw11.AggOne': WHATEVER THE INPUT: true; the input reads as it did. -/
def aggOneSpec : ChangeSpec := { name := "aggOne", fn := fun _ => fun
  | [d] => { results := [.lit (.bool true)], args := [d] }
  | _ => none }
def aggOneRow : OpenClaim := { program := "ytceidhjgdgnplaa", sum := "6ac353d6161d513d53eab786487299afe8c54bd8840c613f3d008db85203cc87", func := "almanac/almanaclaw11.AggOne", spec := "aggOne", inPlace := ["internal/abi.NoEscape"], unfollowed := true, recurses := true, apart := false }
def AggOneSaid : Prop := aggOneRow.holds Try.pinned (OpenSpec.ofChange aggOneSpec)

/-- ITS FALSE NEIGHBOUR: 'it returns false'. Refute it at one input. -/
def aggOneWrong : ChangeSpec := { name := "aggOne", fn := fun _ => fun
  | [d] => { results := [.lit (.bool false)], args := [d] }
  | _ => none }
def AggOneWrongFalsely : Prop := aggOneRow.holds Try.pinned (OpenSpec.ofChange aggOneWrong)

/- THE SECOND FORM. 'bulk': how many values and letters a reading holds, each counted each time it is reached (what is shared counts as often as it is met; a slice's spare places count too). A statement '..UptoSaid' is the law's where the arguments, and the package variables that the reading takes, are together of bulk at most 1048576: NARROWER than '..Said'. Prove '..Said' where nothing that the law and all that it calls make is longer than what came in: it says more and counts as full. Else prove '..UptoSaid'. A law counts once. -/
mutual
def uptoBulk {H : Type} : DataW H → Nat
  | .lit (.string bytes) => bytes.length + 1
  | .lit _ => 1
  | .nil => 1
  | .ptr d => uptoBulk d + 1
  | .slice elems spare => uptoBulkAll elems + uptoBulkAll spare + 1
  | .agg parts => uptoBulkAll parts + 1
  | .iface _ d => uptoBulk d + 1
  | .map entries => uptoBulkEntries entries + 1
  | .held _ => 1
def uptoBulkAll {H : Type} : List (DataW H) → Nat
  | [] => 0
  | d :: r => uptoBulk d + uptoBulkAll r
def uptoBulkEntries {H : Type} : List (Lit × DataW H) → Nat
  | [] => 0
  | x :: r => uptoBulkEntry x + uptoBulkEntries r
def uptoBulkEntry {H : Type} : Lit × DataW H → Nat
  | (.string bytes, d) => bytes.length + uptoBulk d + 1
  | (_, d) => uptoBulk d + 1
 end
def uptoSmall : (H : Type) → List (DataW H) → Bool := fun _ ds => decide (uptoBulkAll ds ≤ 1048576)
def OpenSpec.upto (s : _root_.Go.ChangeSpec) : _root_.Go.OpenSpec := { _root_.Go.OpenSpec.ofChange s with cond := some uptoSmall }

/-- 'almanaclaw01.BitsPacks', WHERE WHAT IT READS IS OF BULK AT MOST 1048576: true; the input reads as it did. -/
def bitsPacksUptoRow : OpenClaim := { program := "ytceidhjgdgnplaa", sum := "6ac353d6161d513d53eab786487299afe8c54bd8840c613f3d008db85203cc87", func := "almanac/almanaclaw01.BitsPacks", spec := "bitsPacks", apart := false, narrowed := true }
def BitsPacksUptoSaid : Prop := bitsPacksUptoRow.holds Try.pinned (OpenSpec.upto bitsPacksSpec)

/-- 'almanaclaw01.BitsHalves', WHERE WHAT IT READS IS OF BULK AT MOST 1048576: true; the input reads as it did. -/
def bitsHalvesUptoRow : OpenClaim := { program := "ytceidhjgdgnplaa", sum := "6ac353d6161d513d53eab786487299afe8c54bd8840c613f3d008db85203cc87", func := "almanac/almanaclaw01.BitsHalves", spec := "bitsHalves", apart := false, narrowed := true }
def BitsHalvesUptoSaid : Prop := bitsHalvesUptoRow.holds Try.pinned (OpenSpec.upto bitsHalvesSpec)

/-- 'almanaclaw01.BitsNone', WHERE WHAT IT READS IS OF BULK AT MOST 1048576: true; the input reads as it did. -/
def bitsNoneUptoRow : OpenClaim := { program := "ytceidhjgdgnplaa", sum := "6ac353d6161d513d53eab786487299afe8c54bd8840c613f3d008db85203cc87", func := "almanac/almanaclaw01.BitsNone", spec := "bitsNone", apart := false, narrowed := true }
def BitsNoneUptoSaid : Prop := bitsNoneUptoRow.holds Try.pinned (OpenSpec.upto bitsNoneSpec)

/-- 'almanaclaw01.BitsReads', WHERE WHAT IT READS IS OF BULK AT MOST 1048576: true; the input reads as it did. -/
def bitsReadsUptoRow : OpenClaim := { program := "ytceidhjgdgnplaa", sum := "6ac353d6161d513d53eab786487299afe8c54bd8840c613f3d008db85203cc87", func := "almanac/almanaclaw01.BitsReads", spec := "bitsReads", apart := false, narrowed := true }
def BitsReadsUptoSaid : Prop := bitsReadsUptoRow.holds Try.pinned (OpenSpec.upto bitsReadsSpec)

/-- 'almanaclaw01.BitsBack', WHERE WHAT IT READS IS OF BULK AT MOST 1048576: true; the input reads as it did. -/
def bitsBackUptoRow : OpenClaim := { program := "ytceidhjgdgnplaa", sum := "6ac353d6161d513d53eab786487299afe8c54bd8840c613f3d008db85203cc87", func := "almanac/almanaclaw01.BitsBack", spec := "bitsBack", apart := false, narrowed := true }
def BitsBackUptoSaid : Prop := bitsBackUptoRow.holds Try.pinned (OpenSpec.upto bitsBackSpec)

/-- 'almanaclaw11.AggEncodes', WHERE WHAT IT READS IS OF BULK AT MOST 1048576: true; the input reads as it did. -/
def aggEncodesUptoRow : OpenClaim := { program := "ytceidhjgdgnplaa", sum := "6ac353d6161d513d53eab786487299afe8c54bd8840c613f3d008db85203cc87", func := "almanac/almanaclaw11.AggEncodes", spec := "aggEncodes", inPlace := ["internal/abi.NoEscape"], apart := false, narrowed := true }
def AggEncodesUptoSaid : Prop := aggEncodesUptoRow.holds Try.pinned (OpenSpec.upto aggEncodesSpec)

/-- 'almanaclaw11.AggBetween', WHERE WHAT IT READS IS OF BULK AT MOST 1048576: true; the input reads as it did. -/
def aggBetweenUptoRow : OpenClaim := { program := "ytceidhjgdgnplaa", sum := "6ac353d6161d513d53eab786487299afe8c54bd8840c613f3d008db85203cc87", func := "almanac/almanaclaw11.AggBetween", spec := "aggBetween", inPlace := ["internal/abi.NoEscape"], unfollowed := true, recurses := true, apart := false, narrowed := true }
def AggBetweenUptoSaid : Prop := aggBetweenUptoRow.holds Try.pinned (OpenSpec.upto aggBetweenSpec)

/-- 'almanaclaw11.AggDecodes', WHERE WHAT IT READS IS OF BULK AT MOST 1048576: true; the input reads as it did. -/
def aggDecodesUptoRow : OpenClaim := { program := "ytceidhjgdgnplaa", sum := "6ac353d6161d513d53eab786487299afe8c54bd8840c613f3d008db85203cc87", func := "almanac/almanaclaw11.AggDecodes", spec := "aggDecodes", inPlace := ["internal/abi.NoEscape"], unfollowed := true, recurses := true, apart := false, narrowed := true }
def AggDecodesUptoSaid : Prop := aggDecodesUptoRow.holds Try.pinned (OpenSpec.upto aggDecodesSpec)

/-- 'almanaclaw11.AggBack', WHERE WHAT IT READS IS OF BULK AT MOST 1048576: true; the input reads as it did. -/
def aggBackUptoRow : OpenClaim := { program := "ytceidhjgdgnplaa", sum := "6ac353d6161d513d53eab786487299afe8c54bd8840c613f3d008db85203cc87", func := "almanac/almanaclaw11.AggBack", spec := "aggBack", inPlace := ["internal/abi.NoEscape"], unfollowed := true, recurses := true, apart := false, narrowed := true }
def AggBackUptoSaid : Prop := aggBackUptoRow.holds Try.pinned (OpenSpec.upto aggBackSpec)

/-- 'almanaclaw11.AggOne', WHERE WHAT IT READS IS OF BULK AT MOST 1048576: true; the input reads as it did. -/
def aggOneUptoRow : OpenClaim := { program := "ytceidhjgdgnplaa", sum := "6ac353d6161d513d53eab786487299afe8c54bd8840c613f3d008db85203cc87", func := "almanac/almanaclaw11.AggOne", spec := "aggOne", inPlace := ["internal/abi.NoEscape"], unfollowed := true, recurses := true, apart := false, narrowed := true }
def AggOneUptoSaid : Prop := aggOneUptoRow.holds Try.pinned (OpenSpec.upto aggOneSpec)

end Rows
end Go.Proofs.Ytceidhjgdgnplaa
