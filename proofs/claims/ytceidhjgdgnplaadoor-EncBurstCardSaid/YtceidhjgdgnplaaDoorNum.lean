/-
  The contracts of what four bytes write.
-/
import Derived.Test.YtceidhjgdgnplaaDoorFour
import Derived.Deep.QuietTactic
import Derived.BigQuiet
namespace Go.Proofs.YtceidhjgdgnplaaDoor
set_option linter.unusedVariables false
set_option linter.unusedSimpArgs false
open Go.RowKit

/-- What four bytes from the place k on write. -/
def numAt (l : List Nat) (k : Nat) : Nat := l.getD k 0 + l.getD (k + 1) 0 * 256 + l.getD (k + 2) 0 * 65536 + l.getD (k + 3) 0 * 16777216

/-- Behind j of the four bytes, the highest first. -/
def hiB (l : List Nat) : Nat → Nat
  | 0 => 0
  | j + 1 => hiB l j * 256 + l.getD (3 - j) 0

theorem bl_getD_lt (s : ByteArray) (i : Nat) : (bl s).getD i 0 < 256 := by
  rw [List.getD_eq_getElem?_getD]
  by_cases h : i < (bl s).length
  · rw [List.getElem?_eq_getElem h]
    exact bl_lt s _ (List.getElem_mem h)
  · rw [List.getElem?_eq_none (by omega)]
    decide

theorem hiB_all (l : List Nat) : hiB l 4 = numAt l 0 := by
  show ((((0 * 256 + l.getD 3 0) * 256 + l.getD 2 0) * 256 + l.getD 1 0) * 256 + l.getD 0 0 : Nat) = l.getD 0 0 + l.getD 1 0 * 256 + l.getD 2 0 * 65536 + l.getD 3 0 * 16777216
  omega
theorem hiB_lt (s : ByteArray) (j : Nat) : hiB (bl s) j < 256 ^ j := by
  induction j with
  | zero => exact (by decide : (0 : Nat) < 1)
  | succ j ih =>
    have := bl_getD_lt s (3 - j)
    simp only [hiB, Nat.pow_succ]
    omega
theorem numAt_lt (s : ByteArray) (k : Nat) : numAt (bl s) k < 4294967296 := by
  have h0 := bl_getD_lt s k
  have h1 := bl_getD_lt s (k + 1)
  have h2 := bl_getD_lt s (k + 2)
  have h3 := bl_getD_lt s (k + 3)
  unfold numAt
  omega
theorem bl_extract (s : ByteArray) (a b : Nat) : bl (s.extract a b) = ((bl s).drop a).take (b - a) := by
  simp only [bl, ByteArray.data_extract, Array.toList_extract, List.extract_eq_take_drop, List.map_take, List.map_drop]
theorem bl_from (s : ByteArray) (a : Nat) : bl (s.extract a s.size) = (bl s).drop a := by
  rw [bl_extract]
  apply List.take_of_length_le
  rw [List.length_drop, bl_length]
  exact Nat.le_refl _
theorem bl_upto (s : ByteArray) (b : Nat) : bl (s.extract 0 b) = (bl s).take b := by
  rw [bl_extract]; simp
theorem numAt_drop (l : List Nat) (k i : Nat) : numAt (l.drop k) i = numAt l (k + i) := by
  simp only [numAt, List.getD_eq_getElem?_getD, List.getElem?_drop, Nat.add_assoc]

theorem or_byte (x b : Nat) (hx : x < 16777216) (hb : b < 256) : bits BinOp.or IntKind.u32 ((x : Int) * 256) (b : Int) = ((x * 256 + b : Nat) : Int) := by
  rw [show ((x : Int) * 256) = ((x * 256 : Nat) : Int) from by omega, u32_or_nat _ _ (by omega) (by omega)]
  congr 1
  have := Nat.two_pow_add_eq_or_of_lt (i := 8) (b := b) (by omega) x
  rw [show x * 256 = 2 ^ 8 * x from by omega, this]

set_option maxRecDepth 100000 in
set_option maxHeartbeats 2000000 in
theorem number_any (s : ByteArray) (hs : 4 ≤ s.size) (w : World) :
    Calls Tryd.prog 60 #[.string s] w fun e w' => e = .returned (.int .u32 ((numAt (bl s) 0 : Nat) : Int)) ∧ w = w' := by
  rw [← hiB_all]
  go_enter Tryd.func60, Tryd.ntmps60
  go_wp2
  go_loop [3, 4] (fun x y => ∃ j : Nat, j ≤ 4 ∧ y = .int .i64 (3 - (j : Int)) ∧ x = .int .u32 ((hiB (bl s) j : Nat) : Int)) (fun _ y => (intOf y + 1).toNat)
  case atStart => exact ⟨0, by omega, rfl, rfl⟩
  case round =>
    obtain ⟨j, hj, rfl, rfl⟩ := hrel
    by_cases h4 : j < 4
    · obtain ⟨y, hy⟩ : ∃ y, y = (bl s).getD (3 - j) 0 := ⟨_, rfl⟩
      have hix := idx_str Tryd.underlying9 s (3 - j) (3 - (j : Int)) (by omega) (by omega) y hy
      have hy256 : y < 256 := by rw [hy]; exact bl_getD_lt s _
      have hlt : hiB (bl s) j < 16777216 := Nat.lt_of_lt_of_le (hiB_lt s j) (Nat.pow_le_pow_right (by decide) (by omega : j ≤ 3))
      have hst : hiB (bl s) (j + 1) = hiB (bl s) j * 256 + y := by rw [hy]; rfl
      generalize hiB (bl s) j = C at hst hlt ⊢
      have Hst := hide hst
      clear hst hy
      have e1 := or_byte C y hlt hy256
      go_wp2
      go_round
      case measure => simp [intOf]; omega
      case rel => exact ⟨j + 1, by omega, by go_num, by rw [Hst.out]; exact congrArg (Value.int IntKind.u32) (by omega)⟩
    · obtain rfl : j = 4 := by omega
      go_wp2
      go_ret
      exact ⟨rfl, rfl⟩

set_option maxRecDepth 100000 in
set_option maxHeartbeats 2000000 in
theorem rnumber_any (s : ByteArray) (k : Nat) (x : Int) (hx : x = k) (hs : k + 4 ≤ s.size) (hz : s.size ≤ 9223372036854775807) (w : World) :
    Calls Tryd.prog 61 #[.string s, .int .i64 x] w fun e w' => e = .returned (.int .i64 ((numAt (bl s) k : Nat) : Int)) ∧ ∃ q, w' = w.drewN q := by
  subst hx
  obtain ⟨y0, hy0⟩ : ∃ y, y = (bl s).getD k 0 := ⟨_, rfl⟩
  obtain ⟨y1, hy1⟩ : ∃ y, y = (bl s).getD (k + 1) 0 := ⟨_, rfl⟩
  obtain ⟨y2, hy2⟩ : ∃ y, y = (bl s).getD (k + 2) 0 := ⟨_, rfl⟩
  obtain ⟨y3, hy3⟩ : ∃ y, y = (bl s).getD (k + 3) 0 := ⟨_, rfl⟩
  have hi0 := idx_str Tryd.underlying9 s k (k : Int) rfl (by omega) y0 hy0
  have hi1 := idx_str Tryd.underlying9 s (k + 1) ((k : Int) + 1) (by omega) (by omega) y1 hy1
  have hi2 := idx_str Tryd.underlying9 s (k + 2) ((k : Int) + 2) (by omega) (by omega) y2 hy2
  have hi3 := idx_str Tryd.underlying9 s (k + 3) ((k : Int) + 3) (by omega) (by omega) y3 hy3
  have hb0 : y0 < 256 := by rw [hy0]; exact bl_getD_lt s _
  have hb1 : y1 < 256 := by rw [hy1]; exact bl_getD_lt s _
  have hb2 : y2 < 256 := by rw [hy2]; exact bl_getD_lt s _
  have hb3 : y3 < 256 := by rw [hy3]; exact bl_getD_lt s _
  have hn : numAt (bl s) k = y0 + y1 * 256 + y2 * 65536 + y3 * 16777216 := by rw [hy0, hy1, hy2, hy3]; rfl
  rw [hn]
  clear hy0 hy1 hy2 hy3 hn
  go_enter Tryd.func61, Tryd.ntmps61
  go_wp2
  go_quiet (fail)
  go_wp2
  go_ret
  exact ⟨ret_int (by omega), _, rfl⟩

end Go.Proofs.YtceidhjgdgnplaaDoor
