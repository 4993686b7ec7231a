/-
  The contracts of what makes four bytes of a number.
-/
import Derived.Test.YtceidhjgdgnplaaDoorCrc
namespace Go.Proofs.YtceidhjgdgnplaaDoor
set_option linter.unusedVariables false
set_option linter.unusedSimpArgs false
open Go.RowKit

def fourB (v : Nat) : List Nat := [v % 256, v / 256 % 256, v / 65536 % 256, v / 16777216 % 256]

theorem and_ff (x : Nat) : x &&& 16711935 = 2 ^ 16 * (x / 65536 % 256) + x % 256 := by
  apply Nat.eq_of_testBit_eq
  intro i
  rw [Nat.testBit_and, Nat.testBit_two_pow_mul_add _ (by omega), show (16711935 : Nat) = 2 ^ 16 * 255 + 255 from rfl, Nat.testBit_two_pow_mul_add _ (by decide)]
  have h255 : ∀ j, (255 : Nat).testBit j = decide (j < 8) := fun j => by
    rw [show (255 : Nat) = 2 ^ 8 - 1 from rfl, Nat.testBit_two_pow_sub_one]
  rw [h255, h255]
  by_cases h : i < 16
  · rw [if_pos h, if_pos h, show x % 256 = x % 2 ^ 8 from rfl, Nat.testBit_mod_two_pow]
    cases x.testBit i <;> simp
  · rw [if_neg h, if_neg h, show x / 65536 % 256 = x / 2 ^ 16 % 2 ^ 8 from rfl, Nat.testBit_mod_two_pow, Nat.testBit_div_two_pow, show i - 16 + 16 = i from by omega]
    cases x.testBit i <;> simp

theorem or_split (k a b c d : Nat) (hb : b < 2 ^ k) (hd : d < 2 ^ k) : (2 ^ k * a + b) ||| (2 ^ k * c + d) = 2 ^ k * (a ||| c) + (b ||| d) := by
  apply Nat.eq_of_testBit_eq
  intro i
  rw [Nat.testBit_or, Nat.testBit_two_pow_mul_add _ hb, Nat.testBit_two_pow_mul_add _ hd, Nat.testBit_two_pow_mul_add _ (Nat.or_lt_two_pow hb hd)]
  by_cases h : i < k
  · simp [h, Nat.testBit_or]
  · simp [h, Nat.testBit_or]

def revOf (v : Nat) : Nat := 65536 * (v % 256 * 256 + v / 256 % 256) + (v / 65536 % 256 * 256 + v / 16777216 % 256)

def mid (v : Nat) : Nat := 65536 * (v / 65536 % 256 * 256 + v / 16777216 % 256) + (v % 256 * 256 + v / 256 % 256)
theorem rev_one (v : Nat) (h : v < 4294967296) :
    bits BinOp.or IntKind.u32 (bits BinOp.and IntKind.u32 ((v : Int) / 256) 16711935) (bits BinOp.and IntKind.u32 (v : Int) 16711935 * 256 % 4294967296) = ((mid v : Nat) : Int) := by
  rw [show (16711935 : Int) = ((16711935 : Nat) : Int) from rfl, show ((v : Int) / 256) = ((v / 256 : Nat) : Int) from by omega, u32_and_nat _ _ (by omega) (by decide), u32_and_nat _ _ h (by decide), and_ff, and_ff]
  have e1 : v / 256 / 65536 % 256 = v / 16777216 % 256 := by omega
  rw [e1]
  have hw : (((2 ^ 16 * (v / 65536 % 256) + v % 256 : Nat) : Int) * 256) % 4294967296 = ((2 ^ 16 * (256 * (v / 65536 % 256)) + 256 * (v % 256) : Nat) : Int) := by omega
  rw [hw, u32_or_nat _ _ (by omega) (by omega), or_split 16 _ _ _ _ (by omega) (by omega)]
  have j1 : v / 16777216 % 256 ||| 256 * (v / 65536 % 256) = 256 * (v / 65536 % 256) + v / 16777216 % 256 := by
    rw [Nat.or_comm]; exact nat_join 8 _ _ (by omega) (by omega)
  have j2 : v / 256 % 256 ||| 256 * (v % 256) = 256 * (v % 256) + v / 256 % 256 := by
    rw [Nat.or_comm]; exact nat_join 8 _ _ (by omega) (by omega)
  rw [j1, j2]
  unfold mid
  congr 1; omega

theorem rev_two (v : Nat) : bits BinOp.or IntKind.u32 (((mid v : Nat) : Int) / 65536) (((mid v : Nat) : Int) * 65536 % 4294967296) = ((revOf v : Nat) : Int) := by
  have hm : mid v < 4294967296 := by unfold mid; omega
  have hw : (((mid v : Nat) : Int) * 65536) % 4294967296 = ((65536 * (v % 256 * 256 + v / 256 % 256) : Nat) : Int) := by unfold mid; omega
  have hd : (((mid v : Nat) : Int) / 65536) = ((v / 65536 % 256 * 256 + v / 16777216 % 256 : Nat) : Int) := by unfold mid; omega
  rw [hd, hw, u32_or_nat _ _ (by omega) (by omega), Nat.or_comm, nat_join 16 _ _ (by omega) (by omega)]
  rfl

set_option maxRecDepth 100000 in
set_option maxHeartbeats 1000000 in
theorem rev32_any (v : Nat) (hv : v < 4294967296) (w : World) :
    Calls Tryd.prog 81 #[.int .u32 (v : Int)] w fun e w' => e = .returned (.int .u32 ((revOf v : Nat) : Int)) ∧ w = w' := by
  have e1 := rev_one v hv
  have e2 := rev_two v
  go_enter Tryd.func81, Tryd.ntmps81
  go_wp2
  go_ret
  exact ⟨rfl, rfl⟩

theorem conv4 (W : World) (a b c d : Int) : (convert 73 9 (.slice (some ⟨W.heap.size, 0, none⟩) 4 4)).run Tryd.prog (W.alloc (.cells #[.int .u8 a, .int .u8 b, .int .u8 c, .int .u8 d] 5)) =
    .ok (.string (strOfNums [a, b, c, d])) (W.alloc (.cells #[.int .u8 a, .int .u8 b, .int .u8 c, .int .u8 d] 5)) := by
  refine run_convert_bytes_arg _ 73 5 Tryd.underlying73 Tryd.underlying5 W.heap.size 0 4 4 [a, b, c, d] rfl ?_ 9 Tryd.underlying9
  intro i hi
  have hb := (Blk.new W 5 #[.int .u8 a, .int .u8 b, .int .u8 c, .int .u8 d]).cell (0 + i)
  rw [hb]
  match i, hi with
  | 0, _ => rfl
  | 1, _ => rfl
  | 2, _ => rfl
  | 3, _ => rfl
  | n + 4, hi => omega

theorem str4 (a b c d : Nat) {x y z t : Int} (h1 : x = (a : Int)) (h2 : y = (b : Int)) (h3 : z = (c : Int)) (h4 : t = (d : Int)) : Ending.returned (.string (strOfNums [x, y, z, t])) = .returned (.string (bstr [a, b, c, d])) := by
  subst h1 h2 h3 h4; rfl

theorem rev_parts (b0 b1 b2 b3 : Nat) (h0 : b0 < 256) (h1 : b1 < 256) (h2 : b2 < 256) (h3 : b3 < 256) (R : Nat) (hR : R = 65536 * (b0 * 256 + b1) + (b2 * 256 + b3)) :
    (R : Int) / 16777216 = (b0 : Int) ∧ (R : Int) / 65536 % 256 = (b1 : Int) ∧ (R : Int) / 256 % 256 = (b2 : Int) ∧ (R : Int) % 256 = (b3 : Int) := by
  refine ⟨?_, ?_, ?_, ?_⟩ <;> omega

set_option maxRecDepth 100000 in
set_option maxHeartbeats 1000000 in
theorem four_any (v : Nat) (hv : v < 4294967296) (V : Int) (hV : V = (v : Int)) (w : World) :
    Calls Tryd.prog 62 #[.int .u32 V] w fun e w' => e = .returned (.string (bstr (fourB v))) ∧ Frm [] w w' := by
  subst hV
  have hc := conv4
  have hr : revOf v < 4294967296 := by unfold revOf; omega
  go_enter Tryd.func62, Tryd.ntmps62
  go_wp2_with (go_at_call 81; refine (rev32_any v hv _).mono ?_; rintro e w1 ⟨rfl, rfl⟩)
  go_ret
  obtain ⟨p0, p1, p2, p3⟩ := rev_parts (v % 256) (v / 256 % 256) (v / 65536 % 256) (v / 16777216 % 256) (Nat.mod_lt _ (by decide)) (Nat.mod_lt _ (by decide)) (Nat.mod_lt _ (by decide)) (Nat.mod_lt _ (by decide)) (revOf v) rfl
  exact ⟨str4 _ _ _ _ p0 p1 p2 p3, (Frm.refl _ _).alloc _⟩

set_option maxRecDepth 100000 in
set_option maxHeartbeats 1000000 in
theorem rfour_any (v : Nat) (hv : v < 4294967296) (V : Int) (hV : V = (v : Int)) (w : World) :
    Calls Tryd.prog 63 #[.int .u32 V] w fun e w' => e = .returned (.string (bstr (fourB v))) ∧ Frm [] w w' := by
  subst hV
  have hc := conv4
  go_enter Tryd.func63, Tryd.ntmps63
  go_wp2
  go_ret
  exact ⟨str4 _ _ _ _ (by omega) (by omega) (by omega) (by omega), (Frm.refl _ _).alloc _⟩

end Go.Proofs.YtceidhjgdgnplaaDoor
