/-
  The waking of the second layer: the forms that the document fixes.
-/
import Derived.Test.YtceidhjgdgnplaaDoorFrm
import Derived.Test.YtceidhjgdgnplaaDoorInt
namespace Go.Proofs.YtceidhjgdgnplaaDoor
set_option linter.unusedVariables false
set_option linter.unusedSimpArgs false
open Go.RowKit

theorem tellF_a : tellF { data := #[97] } = .tuple #[.string { data := #[1, 0, 0, 0, 97, 48, 67, 208, 193, 1] }, .int .i64 0] := by
  have h : frameS { data := #[97] } = { data := #[1, 0, 0, 0, 97, 48, 67, 208, 193, 1] } := by decide +kernel
  unfold tellF
  rw [h]
  rfl
theorem uint_300 : bstr (uintB 300) = { data := #[172, 2] } := by decide +kernel
theorem int_m1 : bstr (uintB (zig (-1))) = { data := #[1] } := by decide +kernel
theorem crc_wak : (crcParts (fun i => if i = 0 then { data := #[49, 50, 51, 52] } else { data := #[53, 54, 55, 56, 57] }) 2 ^^^ 4294967295 : Nat) = 3808858755 := by decide +kernel

theorem cells_two (w : World) (s t : ByteArray) : CellsAt (w.alloc (.cells #[.string s, .string t] 9)) (some ⟨w.heap.size, 0, none⟩) 2 1 (fun i _ => .string (if i = 0 then s else t)) := by
  intro _
  refine ⟨w.heap.size, 0, rfl, by simp, fun i j hi hj => ?_⟩
  obtain rfl : j = 0 := by omega
  obtain rfl | rfl : i = 0 ∨ i = 1 := by omega
  · exact (Blk.new w 9 #[.string s, .string t]).cell 0
  · exact (Blk.new w 9 #[.string s, .string t]).cell 1

theorem crc_two (w : World) (s t : ByteArray) (c : Nat) (hs : s.size ≤ 9223372036854775807) (ht : t.size ≤ 9223372036854775807) (hN : NibAt w) :
    Calls Tryd.prog 21 #[.slice (some ⟨w.heap.size, 0, none⟩) 2 c] (w.alloc (.cells #[.string s, .string t] 9)) fun e w' => e = .returned (.int .u32 ((crcParts (fun i => if i = 0 then s else t) 2 ^^^ 4294967295 : Nat) : Int)) ∧ (w.alloc (.cells #[.string s, .string t] 9)) = w' :=
  crc_any (some ⟨w.heap.size, 0, none⟩) 2 c (fun i => if i = 0 then s else t) (fun i _ => by split <;> assumption) (by decide) _ (hN.frm ((Frm.refl _ _).alloc _)) (cells_two w s t)

set_option maxRecDepth 100000 in
set_option maxHeartbeats 2000000 in
theorem wakb_any (w : World) (hN : NibAt w) :
    Calls Tryd.prog 20 #[] w fun e w' => e = .returned (.bool true) ∧ Frm [] w w' := by
  go_enter Tryd.func20, Tryd.ntmps20
  go_wp2_with fail
  refine (frame_any { data := #[97] } (by decide) _ hN).mono ?_
  rintro e w1 ⟨rfl, hf1⟩
  rw [tellF_a]
  go_wp2_with fail
  refine (uint_any 300 _ rfl (by decide) _).mono ?_
  rintro e w2 ⟨rfl, hf2⟩
  rw [uint_300]
  go_wp2_with fail
  refine (int_any (-1) (by decide) (by decide) _).mono ?_
  rintro e w3 ⟨rfl, hf3⟩
  rw [int_m1]
  have hf := (hf1.trans hf2 (by simp)).trans hf3 (by simp)
  have hN3 := hN.frm hf
  go_wp2_with fail
  refine (crc_two w3 { data := #[49, 50, 51, 52] } { data := #[53, 54, 55, 56, 57] } _ (by decide) (by decide) hN3).mono ?_
  rintro e w' ⟨rfl, rfl⟩
  rw [crc_wak]
  go_wp2_with fail
  go_ret
  exact ⟨rfl, hf.alloc _⟩

end Go.Proofs.YtceidhjgdgnplaaDoor
