/-
  What the rows of layer 9 share: the table of TrailingZeros64, as a row lists it, and a world that holds it.
-/
import Derived.Test.YtdnllmibchmnnaaDoorCards
import Derived.Test.YtdnllmibchmnnaaDoorTie
import Derived.Test.YtdnllmibchmnnaaDoorFrame
import Derived.Test.YtdnllmibchmnnaaDoorTzw
import Derived.Test.YtdnllmibchmnnaaDoorSmp
import Derived.WalkKit
import Derived.OpenShut
import Derived.Deep.DeepHandedRow
import Derived.Lib.LaidTab
import Derived.SizedLaws
namespace Go.Proofs.YtdnllmibchmnnaaDoor
set_option linter.unusedVariables false
set_option linter.unusedSimpArgs false
open Go.ChangeShapes Go.WideShapes Go.ChangeAt Go.RowKit

theorem gDb : Tryd.prog.globalNamed "math/bits.deBruijn64tab" = some 0 := by kernel_rfl
theorem gDbType : (Tryd.prog.globals[0]?).map (·.type) = some 105 := by kernel_rfl
theorem cellsDb : Tryd.prog.cellsOf 105 = 64 := by kernel_rfl
theorem cellsU8 : Tryd.prog.cellsOf 5 = 1 := by kernel_rfl

def dbList : List Int := [0, 1, 56, 2, 57, 49, 28, 3, 61, 58, 42, 50, 38, 29, 17, 4, 62, 47, 59, 36, 45, 43, 51, 22, 53, 39, 33, 30, 24, 18, 12, 5, 63, 55, 48, 27, 60, 41, 37, 16, 46, 35, 44, 21, 52, 32, 23, 11, 54, 26, 40, 15, 34, 20, 31, 10, 25, 14, 19, 9, 13, 8, 7, 6]
set_option maxRecDepth 100000 in
theorem dbList_db : ∀ i, i < 64 → dbList.getD i 0 = (db i : Int) := by decide

set_option maxRecDepth 100000 in
theorem db_met {W : World} (h : laidMet Tryd.prog [("math/bits.deBruijn64tab", Lib.tabData .u8 dbList)] W) : DbAt W := by
  have ht : Lib.TabIs Tryd.prog W "math/bits.deBruijn64tab" .u8 dbList :=
    Lib.tabIs_of_head (rest := []) gDb gDbType Tryd.underlying105 Tryd.underlying5 cellsU8 cellsDb h
  have hcell : ∀ i, i < 64 → W.cell? ⟨0, i, none⟩ = some (.int .u8 (db i : Int)) := fun i hi => by
    rw [← dbList_db i hi]
    exact ht.cell gDb i hi
  exact ⟨World.block_lt_of_cell? W _ (hcell 0 (by decide)), hcell⟩

/-- A world for the witnesses: the settled one, the table holding what its initialiser lays. -/
noncomputable def dbWorld (os : Os) : World :=
  { World.holding Tryd.prog os ⟨#[], #[], []⟩ with heap := (World.holding Tryd.prog os ⟨#[], #[], []⟩).heap.modify 0 fun
      | .cells _ t frozen => .cells #[.int .u8 0, .int .u8 1, .int .u8 56, .int .u8 2, .int .u8 57, .int .u8 49, .int .u8 28, .int .u8 3, .int .u8 61, .int .u8 58, .int .u8 42, .int .u8 50, .int .u8 38, .int .u8 29, .int .u8 17, .int .u8 4, .int .u8 62, .int .u8 47, .int .u8 59, .int .u8 36, .int .u8 45, .int .u8 43, .int .u8 51, .int .u8 22, .int .u8 53, .int .u8 39, .int .u8 33, .int .u8 30, .int .u8 24, .int .u8 18, .int .u8 12, .int .u8 5, .int .u8 63, .int .u8 55, .int .u8 48, .int .u8 27, .int .u8 60, .int .u8 41, .int .u8 37, .int .u8 16, .int .u8 46, .int .u8 35, .int .u8 44, .int .u8 21, .int .u8 52, .int .u8 32, .int .u8 23, .int .u8 11, .int .u8 54, .int .u8 26, .int .u8 40, .int .u8 15, .int .u8 34, .int .u8 20, .int .u8 31, .int .u8 10, .int .u8 25, .int .u8 14, .int .u8 19, .int .u8 9, .int .u8 13, .int .u8 8, .int .u8 7, .int .u8 6] t frozen
      | o => o }

theorem bytes_size (s : ByteArray) : s.data.toList.length = s.size := by rw [Array.length_toList]; rfl

theorem Tryd.bytesSmp : Tryd.prog.bytesOf 37 = 16 := by kernel_rfl

set_option maxRecDepth 100000 in
theorem open_smps {H : Type} {enc : TypeId × Value → H} {w : World} {b0 : Nat} {v : Value} {d : DataW H} {p : List MemPlace}
    (hv : Value.okWide Tryd.prog w .any b0 22 v) (h : DataW.Trod enc Tryd.prog w 0 (fun _ => true) true 22 v d p) :
    ∃ (A : Option Addr) (n cap : Nat) (F : Nat → Smp), v = .slice A n cap ∧ CellsAt w A n 2 (fun i j => (F i).cell j) ∧ (∀ i, i < n → (F i).Ok) ∧ (n = 0 ∨ ∃ elems sp, d = .slice elems sp ∧ elems.length = n) := by
  obtain ⟨A, n, cap, f, rfl, hc, hwf, hd⟩ := open_int_structs (ks := fun j => if j < 1 then .i64 else .u64) Tryd.underlying22 Tryd.underlying37 (by kernel_rfl) (by kernel_rfl)
    (fun j f hj => by
      match j, hj with
      | 0, hj => cases hj; exact Tryd.underlying2
      | 1, hj => cases hj; exact Tryd.underlying33
      | j + 2, hj => simp at hj) (by decide) hv h
  have hu : ∀ i, i < n → 0 ≤ f i 1 ∧ f i 1 ≤ 18446744073709551615 := by
    intro i hi
    have h0 := hwf i 1 hi (by decide)
    have a0 : IntKind.u64.min = 0 := rfl
    have a1 : IntKind.u64.max = 18446744073709551615 := rfl
    rw [if_neg (by omega)] at h0
    simpa only [Lit.wf, Bool.and_eq_true, decide_eq_true_eq, a0, a1] using h0
  have hs : ∀ i, i < n → -9223372036854775808 ≤ f i 0 ∧ f i 0 ≤ 9223372036854775807 := by
    intro i hi
    have h0 := hwf i 0 hi (by decide)
    have a2 : IntKind.i64.min = -9223372036854775808 := rfl
    have a3 : IntKind.i64.max = 9223372036854775807 := rfl
    rw [if_pos (by decide)] at h0
    simpa only [Lit.wf, Bool.and_eq_true, decide_eq_true_eq, a2, a3] using h0
  refine ⟨A, n, cap, fun i => ⟨f i 0, (f i 1).toNat⟩, rfl, ?_, ?_, ?_⟩
  · intro hn
    obtain ⟨b, off, hA, hb, hcell⟩ := hc hn
    refine ⟨b, off, hA, hb, fun i j hi hj => ?_⟩
    have h0 := hcell i j hi (by simpa using hj)
    have h0' : w.cell? ⟨b, off + (i * 2 + j), none⟩ = some (.int (if j < 1 then .i64 else .u64) (f i j)) := h0
    rw [h0']
    obtain rfl | rfl : j = 0 ∨ j = 1 := by omega
    · rfl
    · have := hu i hi
      simp only [Smp.cell]
      rw [if_neg (by decide), show ((f i 1).toNat : Int) = f i 1 from by omega]
  · intro i hi
    have h0 := hs i hi
    have h1 := hu i hi
    exact ⟨h0.1, h0.2, by simp only; omega⟩
  · rcases hd with h | ⟨elems, sp, h1, h2, _⟩
    · exact .inl h
    · exact .inr ⟨elems, sp, h1, h2⟩

/-- The form's own reach. -/
theorem smps_reach {H : Type} {ts : List TypeId} {ds : List (DataW H)} (h : (DataW.weightsEach Tryd.prog ts ds).all (· ≤ reachBytes) = true) {j : Nat} {d : DataW H} {n : Nat} (ht : ts[j]? = some 22) (hd : ds[j]? = some d)
    (hn : n = 0 ∨ ∃ elems sp, d = .slice elems sp ∧ elems.length = n) : n * 16 ≤ 140737488351232 := by
  rcases hn with rfl | ⟨elems, sp, rfl, rfl⟩
  · omega
  · have := sized_slice h ht hd Tryd.underlying22
    rw [Tryd.bytesSmp] at this
    simp only [reachBytes] at this
    omega

end Go.Proofs.YtdnllmibchmnnaaDoor
