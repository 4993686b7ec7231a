/-
  The contracts of enc.Frame and of the document's Frame.
-/
import Derived.Test.YtceidhjgdgnplaaDoorFour
namespace Go.Proofs.YtceidhjgdgnplaaDoor
set_option linter.unusedVariables false
set_option linter.unusedSimpArgs false
open Go.RowKit

/-- A payload's frame. -/
def frameS (p : ByteArray) : ByteArray := bstr (fourB p.size) ++ p ++ bstr (fourB (crcOf (bl p))) ++ bstr [1]

/-- What Frame tells: the frame and the error. -/
def tellF (p : ByteArray) : Value :=
  if p.size = 0 then .tuple #[.string (bstr []), .int .i64 21] else if 1048576 < p.size then .tuple #[.string (bstr []), .int .i64 23] else .tuple #[.string (frameS p), .int .i64 0]

theorem bstr_nil : bstr [] = { data := #[] } := rfl
theorem bstr_one : bstr [1] = { data := #[1] } := rfl
theorem fourB_size (v : Nat) : (bstr (fourB v)).size = 4 := by rw [bstr_size]; rfl

theorem cells_one (w : World) (s : ByteArray) : CellsAt (w.alloc (.cells #[.string s] 9)) (some ⟨w.heap.size, 0, none⟩) 1 1 (fun _ _ => .string s) := by
  intro _
  refine ⟨w.heap.size, 0, rfl, by simp, fun i j hi hj => ?_⟩
  obtain rfl : i = 0 := by omega
  obtain rfl : j = 0 := by omega
  exact (Blk.new w 9 #[.string s]).cell 0

theorem crc_one (w : World) (s : ByteArray) (c : Nat) (hs : s.size ≤ 9223372036854775807) (hN : NibAt w) :
    Calls Tryd.prog 21 #[.slice (some ⟨w.heap.size, 0, none⟩) 1 c] (w.alloc (.cells #[.string s] 9)) fun e w' => e = .returned (.int .u32 ((crcOf (bl s) : Nat) : Int)) ∧ (w.alloc (.cells #[.string s] 9)) = w' :=
  crc_any (some ⟨w.heap.size, 0, none⟩) 1 c (fun _ => s) (fun _ _ => hs) (by decide) _ (hN.frm ((Frm.refl _ _).alloc _)) (cells_one w s)

theorem crcOf_bl_lt (s : ByteArray) : crcOf (bl s) < 4294967296 := crcOf_lt _ (bl_lt s)

set_option maxRecDepth 100000 in
set_option maxHeartbeats 2000000 in
theorem frame_any (p : ByteArray) (hp : p.size ≤ 9223372036854775807) (w : World) (hN : NibAt w) :
    Calls Tryd.prog 31 #[.string p] w fun e w' => e = .returned (tellF p) ∧ Frm [] w w' := by
  by_cases h0 : p.size = 0
  · have ht : tellF p = .tuple #[.string (bstr []), .int .i64 21] := by simp [tellF, h0]
    rw [ht]
    have hb : ((p.size : Int) == 0) = true := by rw [beq_iff_eq]; omega
    clear ht h0
    go_enter Tryd.func31, Tryd.ntmps31
    go_wp2
    go_ret2
    exact ⟨rfl, Frm.refl _ _⟩
  · have hb : ((p.size : Int) == 0) = false := by rw [beq_eq_false_iff_ne]; omega
    by_cases h1 : 1048576 < p.size
    · have ht : tellF p = .tuple #[.string (bstr []), .int .i64 23] := by simp [tellF, h0, h1]
      rw [ht]
      clear ht h0
      go_enter Tryd.func31, Tryd.ntmps31
      go_wp2
      go_ret2
      exact ⟨rfl, Frm.refl _ _⟩
    · have ht : tellF p = .tuple #[.string (frameS p), .int .i64 0] := by simp [tellF, h0, h1]
      rw [ht]
      have h2 : p.size ≤ 1048576 := by omega
      clear ht h0 h1
      go_enter Tryd.func31, Tryd.ntmps31
      go_wp2_with fail
      refine (four_any p.size (by omega) _ (by first | rfl | omega) _).mono ?_
      rintro e w1 ⟨rfl, hf1⟩
      have hN1 := hN.frm hf1
      have hz1 : (bstr (fourB p.size)).size ≤ 4 := by rw [fourB_size]; exact Nat.le_refl _
      go_wp2_with fail
      refine (crc_one w1 p _ hp hN1).mono ?_
      rintro e w' ⟨rfl, rfl⟩
      go_wp2_with fail
      refine (four_any (crcOf (bl p)) (crcOf_bl_lt p) _ rfl _).mono ?_
      rintro e w2 ⟨rfl, hf2⟩
      have hz2 : (bstr (fourB (crcOf (bl p)))).size ≤ 4 := by rw [fourB_size]; exact Nat.le_refl _
      go_wp2_with fail
      go_ret2
      exact ⟨rfl, (hf1.alloc _).trans hf2 (by simp)⟩

set_option maxRecDepth 100000 in
set_option maxHeartbeats 2000000 in
theorem rframe_any (p : ByteArray) (hp : p.size ≤ 9223372036854775807) (w : World) :
    Calls Tryd.prog 32 #[.string p] w fun e w' => e = .returned (tellF p) ∧ Frm [] w w' := by
  by_cases h0 : p.size = 0
  · have ht : tellF p = .tuple #[.string (bstr []), .int .i64 21] := by simp [tellF, h0]
    rw [ht]
    have hb : ((p.size : Int) == 0) = true := by rw [beq_iff_eq]; omega
    clear ht h0
    go_enter Tryd.func32, Tryd.ntmps32
    go_wp2
    go_ret2
    exact ⟨rfl, Frm.refl _ _⟩
  · have hb : ((p.size : Int) == 0) = false := by rw [beq_eq_false_iff_ne]; omega
    by_cases h1 : 1048576 < p.size
    · have ht : tellF p = .tuple #[.string (bstr []), .int .i64 23] := by simp [tellF, h0, h1]
      rw [ht]
      clear ht h0
      go_enter Tryd.func32, Tryd.ntmps32
      go_wp2
      go_ret2
      exact ⟨rfl, Frm.refl _ _⟩
    · have ht : tellF p = .tuple #[.string (frameS p), .int .i64 0] := by simp [tellF, h0, h1]
      rw [ht]
      have h2 : p.size ≤ 1048576 := by omega
      clear ht h0 h1
      go_enter Tryd.func32, Tryd.ntmps32
      go_wp2_with fail
      refine (rfour_any p.size (by omega) _ (by first | rfl | omega) _).mono ?_
      rintro e w1 ⟨rfl, hf1⟩
      have hz1 : (bstr (fourB p.size)).size ≤ 4 := by rw [fourB_size]; exact Nat.le_refl _
      go_wp2_with fail
      refine (rcrc_any p hp _).mono ?_
      rintro e w' ⟨rfl, rfl⟩
      go_wp2_with fail
      refine (rfour_any (crcOf (bl p)) (crcOf_bl_lt p) _ rfl _).mono ?_
      rintro e w2 ⟨rfl, hf2⟩
      have hz2 : (bstr (fourB (crcOf (bl p)))).size ≤ 4 := by rw [fourB_size]; exact Nat.le_refl _
      go_wp2_with fail
      go_ret2
      exact ⟨rfl, hf1.trans hf2 (by simp)⟩

end Go.Proofs.YtceidhjgdgnplaaDoor
