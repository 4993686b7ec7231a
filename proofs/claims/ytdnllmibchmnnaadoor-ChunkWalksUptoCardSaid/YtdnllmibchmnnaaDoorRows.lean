/-
  NARROWER THAN 'FOR EVERY INPUT', by the rows' own cells (each row's printed sentence says how): ChunkEncodes: laid · ChunkSteady: laid · ChunkGrows: laid · ChunkWalks: laid · ChunkDecodes: laid · ChunkOne: laid · ChunkBack: laid · ChunkKeeps: laid.
  DERIVED. THE GIVEN ROWS OF THIS SEAT. 8 by the template 'for every input the law returns true; each argument reads behind the call as it read before'; 0 by the template 'total and deterministic' (their statements: YtdnllmibchmnnaaDoorTotals.lean).
  GIVEN WITH THE SEED: the statements are not yours to turn. If you find one false, say at which input.
  Laid BY PROGRAM, IN A SANDBOX (cutbox-rows.mjs): the forced cells as the released guide's own fill.sh prints them over the translation 552ce6cc5e7e270e… (all of the seat's roots in one cut). By AI agents, Wed Nov 11 2026. No macro, syntax, notation, axiom, sorry.
-/
import Derived.Test.YtdnllmibchmnnaaDoorChecked
import GoSem.Claim
import GoSem.ClaimJoined
import GoSem.ClaimMapViews
import Derived.JoinedTies
import Derived.KernelRfl
namespace Go.Proofs.YtdnllmibchmnnaaDoor
/- THE CELL 'sum', in the pinned program and in every row, IS THE sha256 OF THE DUMP (.gsa) THAT YtdnllmibchmnnaaDoorProg.lean LOADS. Nothing in Lean hashes anything: it is a label: what it is worth is what the hold of that sum in a sandbox is worth. -/
noncomputable def Tryd.pinned : Pinned := { name := "ytdnllmibchmnnaadoor", sum := "552ce6cc5e7e270e522bcfb66d84f9889180dd2b891430f6565ff52ec1e32cea", checked := Tryd.checked }
namespace Rows
def none {H : Type} : Left H := { results := [], args := [] }

/- WHAT THE LISTED PACKAGE-LEVEL VARIABLES READ AS WHEN THE CALL BEGINS. Each datum BY PROGRAM (the guide's laid-datum.mjs) off the statement by which the dump's own 'gosem.cut.vars' lays the variable. In a bare row this is a premise. The card (YtdnllmibchmnnaaDoorCards.lean) ties it to the program's text. -/
def laid_math_bits_deBruijn64tab {H : Type} : DataW H := .agg [.lit (.int .u8 0), .lit (.int .u8 1), .lit (.int .u8 56), .lit (.int .u8 2), .lit (.int .u8 57), .lit (.int .u8 49), .lit (.int .u8 28), .lit (.int .u8 3), .lit (.int .u8 61), .lit (.int .u8 58), .lit (.int .u8 42), .lit (.int .u8 50), .lit (.int .u8 38), .lit (.int .u8 29), .lit (.int .u8 17), .lit (.int .u8 4), .lit (.int .u8 62), .lit (.int .u8 47), .lit (.int .u8 59), .lit (.int .u8 36), .lit (.int .u8 45), .lit (.int .u8 43), .lit (.int .u8 51), .lit (.int .u8 22), .lit (.int .u8 53), .lit (.int .u8 39), .lit (.int .u8 33), .lit (.int .u8 30), .lit (.int .u8 24), .lit (.int .u8 18), .lit (.int .u8 12), .lit (.int .u8 5), .lit (.int .u8 63), .lit (.int .u8 55), .lit (.int .u8 48), .lit (.int .u8 27), .lit (.int .u8 60), .lit (.int .u8 41), .lit (.int .u8 37), .lit (.int .u8 16), .lit (.int .u8 46), .lit (.int .u8 35), .lit (.int .u8 44), .lit (.int .u8 21), .lit (.int .u8 52), .lit (.int .u8 32), .lit (.int .u8 23), .lit (.int .u8 11), .lit (.int .u8 54), .lit (.int .u8 26), .lit (.int .u8 40), .lit (.int .u8 15), .lit (.int .u8 34), .lit (.int .u8 20), .lit (.int .u8 31), .lit (.int .u8 10), .lit (.int .u8 25), .lit (.int .u8 14), .lit (.int .u8 19), .lit (.int .u8 9), .lit (.int .u8 13), .lit (.int .u8 8), .lit (.int .u8 7), .lit (.int .u8 6)]

/-- 'almanaclaw09.ChunkEncodes': WHATEVER THE INPUT: true; the input reads as it did. -/
def chunkEncodesSpec : ChangeSpec := { name := "chunkEncodes", fn := fun _ => fun
  | [d] => { results := [.lit (.bool true)], args := [d] }
  | _ => none }
def chunkEncodesRow : OpenClaim := { program := "ytdnllmibchmnnaadoor", sum := "552ce6cc5e7e270e522bcfb66d84f9889180dd2b891430f6565ff52ec1e32cea", func := "almanac/almanaclaw09.ChunkEncodes", spec := "chunkEncodes", inPlace := ["internal/abi.NoEscape"], named := ["math/bits.deBruijn64tab"], apart := false, laid := [("math/bits.deBruijn64tab", laid_math_bits_deBruijn64tab)] }
def ChunkEncodesSaid : Prop := chunkEncodesRow.holds Tryd.pinned (OpenSpec.ofChange chunkEncodesSpec)

/-- ITS FALSE NEIGHBOUR: 'it returns false'. Refute it at one input. -/
def chunkEncodesWrong : ChangeSpec := { name := "chunkEncodes", fn := fun _ => fun
  | [d] => { results := [.lit (.bool false)], args := [d] }
  | _ => none }
def ChunkEncodesWrongFalsely : Prop := chunkEncodesRow.holds Tryd.pinned (OpenSpec.ofChange chunkEncodesWrong)

/-- 'almanaclaw09.ChunkSteady': WHATEVER THE INPUT: true; the input reads as it did. -/
def chunkSteadySpec : ChangeSpec := { name := "chunkSteady", fn := fun _ => fun
  | [d] => { results := [.lit (.bool true)], args := [d] }
  | _ => none }
def chunkSteadyRow : OpenClaim := { program := "ytdnllmibchmnnaadoor", sum := "552ce6cc5e7e270e522bcfb66d84f9889180dd2b891430f6565ff52ec1e32cea", func := "almanac/almanaclaw09.ChunkSteady", spec := "chunkSteady", inPlace := ["internal/abi.NoEscape"], named := ["math/bits.deBruijn64tab"], apart := false, laid := [("math/bits.deBruijn64tab", laid_math_bits_deBruijn64tab)] }
def ChunkSteadySaid : Prop := chunkSteadyRow.holds Tryd.pinned (OpenSpec.ofChange chunkSteadySpec)

/-- ITS FALSE NEIGHBOUR: 'it returns false'. Refute it at one input. -/
def chunkSteadyWrong : ChangeSpec := { name := "chunkSteady", fn := fun _ => fun
  | [d] => { results := [.lit (.bool false)], args := [d] }
  | _ => none }
def ChunkSteadyWrongFalsely : Prop := chunkSteadyRow.holds Tryd.pinned (OpenSpec.ofChange chunkSteadyWrong)

/-- 'almanaclaw09.ChunkGrows': WHATEVER THE INPUT: true; the input reads as it did. -/
def chunkGrowsSpec : ChangeSpec := { name := "chunkGrows", fn := fun _ => fun
  | [d] => { results := [.lit (.bool true)], args := [d] }
  | _ => none }
def chunkGrowsRow : OpenClaim := { program := "ytdnllmibchmnnaadoor", sum := "552ce6cc5e7e270e522bcfb66d84f9889180dd2b891430f6565ff52ec1e32cea", func := "almanac/almanaclaw09.ChunkGrows", spec := "chunkGrows", inPlace := ["internal/abi.NoEscape"], named := ["math/bits.deBruijn64tab"], apart := false, laid := [("math/bits.deBruijn64tab", laid_math_bits_deBruijn64tab)] }
def ChunkGrowsSaid : Prop := chunkGrowsRow.holds Tryd.pinned (OpenSpec.ofChange chunkGrowsSpec)

/-- ITS FALSE NEIGHBOUR: 'it returns false'. Refute it at one input. -/
def chunkGrowsWrong : ChangeSpec := { name := "chunkGrows", fn := fun _ => fun
  | [d] => { results := [.lit (.bool false)], args := [d] }
  | _ => none }
def ChunkGrowsWrongFalsely : Prop := chunkGrowsRow.holds Tryd.pinned (OpenSpec.ofChange chunkGrowsWrong)

/-- 'almanaclaw09.ChunkWalks': WHATEVER THE INPUT: true; the input reads as it did. -/
def chunkWalksSpec : ChangeSpec := { name := "chunkWalks", fn := fun _ => fun
  | [d1, d2] => { results := [.lit (.bool true)], args := [d1, d2] }
  | _ => none }
def chunkWalksRow : OpenClaim := { program := "ytdnllmibchmnnaadoor", sum := "552ce6cc5e7e270e522bcfb66d84f9889180dd2b891430f6565ff52ec1e32cea", func := "almanac/almanaclaw09.ChunkWalks", spec := "chunkWalks", inPlace := ["internal/abi.NoEscape"], unfollowed := true, recurses := true, named := ["math/bits.deBruijn64tab"], apart := false, laid := [("math/bits.deBruijn64tab", laid_math_bits_deBruijn64tab)] }
def ChunkWalksSaid : Prop := chunkWalksRow.holds Tryd.pinned (OpenSpec.ofChange chunkWalksSpec)

/-- ITS FALSE NEIGHBOUR: 'it returns false'. Refute it at one input. -/
def chunkWalksWrong : ChangeSpec := { name := "chunkWalks", fn := fun _ => fun
  | [d1, d2] => { results := [.lit (.bool false)], args := [d1, d2] }
  | _ => none }
def ChunkWalksWrongFalsely : Prop := chunkWalksRow.holds Tryd.pinned (OpenSpec.ofChange chunkWalksWrong)

/-- 'almanaclaw09.ChunkDecodes': WHATEVER THE INPUT: true; the input reads as it did. -/
def chunkDecodesSpec : ChangeSpec := { name := "chunkDecodes", fn := fun _ => fun
  | [d] => { results := [.lit (.bool true)], args := [d] }
  | _ => none }
def chunkDecodesRow : OpenClaim := { program := "ytdnllmibchmnnaadoor", sum := "552ce6cc5e7e270e522bcfb66d84f9889180dd2b891430f6565ff52ec1e32cea", func := "almanac/almanaclaw09.ChunkDecodes", spec := "chunkDecodes", inPlace := ["internal/abi.NoEscape"], unfollowed := true, recurses := true, named := ["math/bits.deBruijn64tab"], apart := false, laid := [("math/bits.deBruijn64tab", laid_math_bits_deBruijn64tab)] }
def ChunkDecodesSaid : Prop := chunkDecodesRow.holds Tryd.pinned (OpenSpec.ofChange chunkDecodesSpec)

/-- ITS FALSE NEIGHBOUR: 'it returns false'. Refute it at one input. -/
def chunkDecodesWrong : ChangeSpec := { name := "chunkDecodes", fn := fun _ => fun
  | [d] => { results := [.lit (.bool false)], args := [d] }
  | _ => none }
def ChunkDecodesWrongFalsely : Prop := chunkDecodesRow.holds Tryd.pinned (OpenSpec.ofChange chunkDecodesWrong)

/-- 'almanaclaw09.ChunkOne': WHATEVER THE INPUT: true; the input reads as it did. -/
def chunkOneSpec : ChangeSpec := { name := "chunkOne", fn := fun _ => fun
  | [d] => { results := [.lit (.bool true)], args := [d] }
  | _ => none }
def chunkOneRow : OpenClaim := { program := "ytdnllmibchmnnaadoor", sum := "552ce6cc5e7e270e522bcfb66d84f9889180dd2b891430f6565ff52ec1e32cea", func := "almanac/almanaclaw09.ChunkOne", spec := "chunkOne", inPlace := ["internal/abi.NoEscape"], unfollowed := true, recurses := true, named := ["math/bits.deBruijn64tab"], apart := false, laid := [("math/bits.deBruijn64tab", laid_math_bits_deBruijn64tab)] }
def ChunkOneSaid : Prop := chunkOneRow.holds Tryd.pinned (OpenSpec.ofChange chunkOneSpec)

/-- ITS FALSE NEIGHBOUR: 'it returns false'. Refute it at one input. -/
def chunkOneWrong : ChangeSpec := { name := "chunkOne", fn := fun _ => fun
  | [d] => { results := [.lit (.bool false)], args := [d] }
  | _ => none }
def ChunkOneWrongFalsely : Prop := chunkOneRow.holds Tryd.pinned (OpenSpec.ofChange chunkOneWrong)

/-- 'almanaclaw09.ChunkBack': WHATEVER THE INPUT: true; the input reads as it did. -/
def chunkBackSpec : ChangeSpec := { name := "chunkBack", fn := fun _ => fun
  | [d] => { results := [.lit (.bool true)], args := [d] }
  | _ => none }
def chunkBackRow : OpenClaim := { program := "ytdnllmibchmnnaadoor", sum := "552ce6cc5e7e270e522bcfb66d84f9889180dd2b891430f6565ff52ec1e32cea", func := "almanac/almanaclaw09.ChunkBack", spec := "chunkBack", inPlace := ["internal/abi.NoEscape"], unfollowed := true, recurses := true, named := ["math/bits.deBruijn64tab"], apart := false, laid := [("math/bits.deBruijn64tab", laid_math_bits_deBruijn64tab)] }
def ChunkBackSaid : Prop := chunkBackRow.holds Tryd.pinned (OpenSpec.ofChange chunkBackSpec)

/-- ITS FALSE NEIGHBOUR: 'it returns false'. Refute it at one input. -/
def chunkBackWrong : ChangeSpec := { name := "chunkBack", fn := fun _ => fun
  | [d] => { results := [.lit (.bool false)], args := [d] }
  | _ => none }
def ChunkBackWrongFalsely : Prop := chunkBackRow.holds Tryd.pinned (OpenSpec.ofChange chunkBackWrong)

/-- 'almanaclaw09.ChunkKeeps': WHATEVER THE INPUT: true; the input reads as it did. -/
def chunkKeepsSpec : ChangeSpec := { name := "chunkKeeps", fn := fun _ => fun
  | [d] => { results := [.lit (.bool true)], args := [d] }
  | _ => none }
def chunkKeepsRow : OpenClaim := { program := "ytdnllmibchmnnaadoor", sum := "552ce6cc5e7e270e522bcfb66d84f9889180dd2b891430f6565ff52ec1e32cea", func := "almanac/almanaclaw09.ChunkKeeps", spec := "chunkKeeps", inPlace := ["internal/abi.NoEscape"], unfollowed := true, recurses := true, named := ["math/bits.deBruijn64tab"], apart := false, laid := [("math/bits.deBruijn64tab", laid_math_bits_deBruijn64tab)] }
def ChunkKeepsSaid : Prop := chunkKeepsRow.holds Tryd.pinned (OpenSpec.ofChange chunkKeepsSpec)

/-- ITS FALSE NEIGHBOUR: 'it returns false'. Refute it at one input. -/
def chunkKeepsWrong : ChangeSpec := { name := "chunkKeeps", fn := fun _ => fun
  | [d] => { results := [.lit (.bool false)], args := [d] }
  | _ => none }
def ChunkKeepsWrongFalsely : Prop := chunkKeepsRow.holds Tryd.pinned (OpenSpec.ofChange chunkKeepsWrong)

/- THE SECOND FORM. 'bulk': how many values and letters a reading holds, each counted each time it is reached (what is shared counts as often as it is met; a slice's spare places count too). A statement '..UptoSaid' is the law's where the arguments, and the package variables that the reading takes, are together of bulk at most 1048576: NARROWER than '..Said'. Prove '..Said' where nothing that the law and all that it calls make is longer than what came in: it says more and counts as full. Else prove '..UptoSaid'. A law counts once. -/
mutual
def uptoBulk {H : Type} : DataW H → Nat
  | .lit (.string bytes) => bytes.length + 1
  | .lit _ => 1
  | .nil => 1
  | .ptr d => uptoBulk d + 1
  | .slice elems spare => uptoBulkAll elems + uptoBulkAll spare + 1
  | .agg parts => uptoBulkAll parts + 1
  | .iface _ d => uptoBulk d + 1
  | .map entries => uptoBulkEntries entries + 1
  | .held _ => 1
def uptoBulkAll {H : Type} : List (DataW H) → Nat
  | [] => 0
  | d :: r => uptoBulk d + uptoBulkAll r
def uptoBulkEntries {H : Type} : List (Lit × DataW H) → Nat
  | [] => 0
  | x :: r => uptoBulkEntry x + uptoBulkEntries r
def uptoBulkEntry {H : Type} : Lit × DataW H → Nat
  | (.string bytes, d) => bytes.length + uptoBulk d + 1
  | (_, d) => uptoBulk d + 1
 end
def uptoSmall : (H : Type) → List (DataW H) → Bool := fun _ ds => decide (uptoBulkAll ds ≤ 1048576)
def OpenSpec.upto (s : _root_.Go.ChangeSpec) : _root_.Go.OpenSpec := { _root_.Go.OpenSpec.ofChange s with cond := some uptoSmall }

/-- 'almanaclaw09.ChunkEncodes', WHERE WHAT IT READS IS OF BULK AT MOST 1048576: true; the input reads as it did. -/
def chunkEncodesUptoRow : OpenClaim := { program := "ytdnllmibchmnnaadoor", sum := "552ce6cc5e7e270e522bcfb66d84f9889180dd2b891430f6565ff52ec1e32cea", func := "almanac/almanaclaw09.ChunkEncodes", spec := "chunkEncodes", inPlace := ["internal/abi.NoEscape"], named := ["math/bits.deBruijn64tab"], apart := false, laid := [("math/bits.deBruijn64tab", laid_math_bits_deBruijn64tab)], narrowed := true }
def ChunkEncodesUptoSaid : Prop := chunkEncodesUptoRow.holds Tryd.pinned (OpenSpec.upto chunkEncodesSpec)

/-- 'almanaclaw09.ChunkSteady', WHERE WHAT IT READS IS OF BULK AT MOST 1048576: true; the input reads as it did. -/
def chunkSteadyUptoRow : OpenClaim := { program := "ytdnllmibchmnnaadoor", sum := "552ce6cc5e7e270e522bcfb66d84f9889180dd2b891430f6565ff52ec1e32cea", func := "almanac/almanaclaw09.ChunkSteady", spec := "chunkSteady", inPlace := ["internal/abi.NoEscape"], named := ["math/bits.deBruijn64tab"], apart := false, laid := [("math/bits.deBruijn64tab", laid_math_bits_deBruijn64tab)], narrowed := true }
def ChunkSteadyUptoSaid : Prop := chunkSteadyUptoRow.holds Tryd.pinned (OpenSpec.upto chunkSteadySpec)

/-- 'almanaclaw09.ChunkGrows', WHERE WHAT IT READS IS OF BULK AT MOST 1048576: true; the input reads as it did. -/
def chunkGrowsUptoRow : OpenClaim := { program := "ytdnllmibchmnnaadoor", sum := "552ce6cc5e7e270e522bcfb66d84f9889180dd2b891430f6565ff52ec1e32cea", func := "almanac/almanaclaw09.ChunkGrows", spec := "chunkGrows", inPlace := ["internal/abi.NoEscape"], named := ["math/bits.deBruijn64tab"], apart := false, laid := [("math/bits.deBruijn64tab", laid_math_bits_deBruijn64tab)], narrowed := true }
def ChunkGrowsUptoSaid : Prop := chunkGrowsUptoRow.holds Tryd.pinned (OpenSpec.upto chunkGrowsSpec)

/-- 'almanaclaw09.ChunkWalks', WHERE WHAT IT READS IS OF BULK AT MOST 1048576: true; the input reads as it did. -/
def chunkWalksUptoRow : OpenClaim := { program := "ytdnllmibchmnnaadoor", sum := "552ce6cc5e7e270e522bcfb66d84f9889180dd2b891430f6565ff52ec1e32cea", func := "almanac/almanaclaw09.ChunkWalks", spec := "chunkWalks", inPlace := ["internal/abi.NoEscape"], unfollowed := true, recurses := true, named := ["math/bits.deBruijn64tab"], apart := false, laid := [("math/bits.deBruijn64tab", laid_math_bits_deBruijn64tab)], narrowed := true }
def ChunkWalksUptoSaid : Prop := chunkWalksUptoRow.holds Tryd.pinned (OpenSpec.upto chunkWalksSpec)

/-- 'almanaclaw09.ChunkDecodes', WHERE WHAT IT READS IS OF BULK AT MOST 1048576: true; the input reads as it did. -/
def chunkDecodesUptoRow : OpenClaim := { program := "ytdnllmibchmnnaadoor", sum := "552ce6cc5e7e270e522bcfb66d84f9889180dd2b891430f6565ff52ec1e32cea", func := "almanac/almanaclaw09.ChunkDecodes", spec := "chunkDecodes", inPlace := ["internal/abi.NoEscape"], unfollowed := true, recurses := true, named := ["math/bits.deBruijn64tab"], apart := false, laid := [("math/bits.deBruijn64tab", laid_math_bits_deBruijn64tab)], narrowed := true }
def ChunkDecodesUptoSaid : Prop := chunkDecodesUptoRow.holds Tryd.pinned (OpenSpec.upto chunkDecodesSpec)

/-- 'almanaclaw09.ChunkOne', WHERE WHAT IT READS IS OF BULK AT MOST 1048576: true; the input reads as it did. -/
def chunkOneUptoRow : OpenClaim := { program := "ytdnllmibchmnnaadoor", sum := "552ce6cc5e7e270e522bcfb66d84f9889180dd2b891430f6565ff52ec1e32cea", func := "almanac/almanaclaw09.ChunkOne", spec := "chunkOne", inPlace := ["internal/abi.NoEscape"], unfollowed := true, recurses := true, named := ["math/bits.deBruijn64tab"], apart := false, laid := [("math/bits.deBruijn64tab", laid_math_bits_deBruijn64tab)], narrowed := true }
def ChunkOneUptoSaid : Prop := chunkOneUptoRow.holds Tryd.pinned (OpenSpec.upto chunkOneSpec)

/-- 'almanaclaw09.ChunkBack', WHERE WHAT IT READS IS OF BULK AT MOST 1048576: true; the input reads as it did. -/
def chunkBackUptoRow : OpenClaim := { program := "ytdnllmibchmnnaadoor", sum := "552ce6cc5e7e270e522bcfb66d84f9889180dd2b891430f6565ff52ec1e32cea", func := "almanac/almanaclaw09.ChunkBack", spec := "chunkBack", inPlace := ["internal/abi.NoEscape"], unfollowed := true, recurses := true, named := ["math/bits.deBruijn64tab"], apart := false, laid := [("math/bits.deBruijn64tab", laid_math_bits_deBruijn64tab)], narrowed := true }
def ChunkBackUptoSaid : Prop := chunkBackUptoRow.holds Tryd.pinned (OpenSpec.upto chunkBackSpec)

/-- 'almanaclaw09.ChunkKeeps', WHERE WHAT IT READS IS OF BULK AT MOST 1048576: true; the input reads as it did. -/
def chunkKeepsUptoRow : OpenClaim := { program := "ytdnllmibchmnnaadoor", sum := "552ce6cc5e7e270e522bcfb66d84f9889180dd2b891430f6565ff52ec1e32cea", func := "almanac/almanaclaw09.ChunkKeeps", spec := "chunkKeeps", inPlace := ["internal/abi.NoEscape"], unfollowed := true, recurses := true, named := ["math/bits.deBruijn64tab"], apart := false, laid := [("math/bits.deBruijn64tab", laid_math_bits_deBruijn64tab)], narrowed := true }
def ChunkKeepsUptoSaid : Prop := chunkKeepsUptoRow.holds Tryd.pinned (OpenSpec.upto chunkKeepsSpec)

end Rows
end Go.Proofs.YtdnllmibchmnnaaDoor
