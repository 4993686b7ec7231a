/-
  What the rows of layer 2 share: the table of the nibbles' remainders, as a row lists it, and a world that holds it.
-/
import Derived.Test.YtceidhjgdgnplaaDoorCards
import Derived.Test.YtceidhjgdgnplaaDoorTie
import Derived.Test.YtceidhjgdgnplaaDoorFrame
import Derived.Test.YtceidhjgdgnplaaDoorCrc
import Derived.WalkKit
import Derived.OpenShut
import Derived.Deep.DeepHandedRow
import Derived.Lib.LaidTab
import Derived.SizedLaws
namespace Go.Proofs.YtceidhjgdgnplaaDoor
set_option linter.unusedVariables false
set_option linter.unusedSimpArgs false
open Go.ChangeShapes Go.WideShapes Go.ChangeAt Go.RowKit

theorem gNib : Tryd.prog.globalNamed "almanac/enc.nibbles" = some 0 := by kernel_rfl
theorem gNibType : (Tryd.prog.globals[0]?).map (·.type) = some 95 := by kernel_rfl
theorem cellsNib : Tryd.prog.cellsOf 95 = 16 := by kernel_rfl
theorem cellsU32 : Tryd.prog.cellsOf 24 = 1 := by kernel_rfl
theorem nibLt : 0 < 1 + 0 := by decide

def nibList : List Int := [0, 274646895, 549293790, 820201905, 1098587580, 1361435347, 1640403810, 1905808397, 2197175160, 2460548119, 2722870694, 2987750089, 3280807620, 3553878443, 3811616794, 4084100981]
theorem nibList_nib : ∀ i, i < 16 → nibList.getD i 0 = (nib i : Int) := by decide

theorem nib_met {W : World} (h : laidMet Tryd.prog [("almanac/enc.nibbles", Lib.tabData .u32 nibList)] W) : NibAt W := by
  have ht : Lib.TabIs Tryd.prog W "almanac/enc.nibbles" .u32 nibList :=
    Lib.tabIs_of_head (rest := []) gNib gNibType Tryd.underlying95 Tryd.underlying24 cellsU32 cellsNib h
  have hcell : ∀ i, i < 16 → W.cell? ⟨0, i, none⟩ = some (.int .u32 (nib i : Int)) := fun i hi => by
    rw [← nibList_nib i hi]
    exact ht.cell gNib i hi
  exact ⟨World.block_lt_of_cell? W _ (hcell 0 (by decide)), hcell⟩

/-- A world for the witnesses: the settled one, the table holding what its initialiser lays. -/
noncomputable def nibWorld (os : Os) : World :=
  { World.holding Tryd.prog os ⟨#[], #[], []⟩ with heap := (World.holding Tryd.prog os ⟨#[], #[], []⟩).heap.modify 0 fun
      | .cells _ t frozen => .cells #[.int .u32 0, .int .u32 274646895, .int .u32 549293790, .int .u32 820201905, .int .u32 1098587580, .int .u32 1361435347, .int .u32 1640403810, .int .u32 1905808397, .int .u32 2197175160, .int .u32 2460548119, .int .u32 2722870694, .int .u32 2987750089, .int .u32 3280807620, .int .u32 3553878443, .int .u32 3811616794, .int .u32 4084100981] t frozen
      | o => o }

theorem bytes_size (s : ByteArray) : s.data.toList.length = s.size := by rw [Array.length_toList]; rfl

end Go.Proofs.YtceidhjgdgnplaaDoor
