/-
  The contract of bits.TrailingZeros64: by the table that is laid.
-/
import Derived.Test.YtdnllmibchmnnaaDoorLen
import Derived.Deep.QuietTactic
namespace Go.Proofs.YtdnllmibchmnnaaDoor
set_option linter.unusedVariables false
set_option linter.unusedSimpArgs false
open Go.RowKit

/-- The table's numbers. -/
def dbL : List Nat := [0, 1, 56, 2, 57, 49, 28, 3, 61, 58, 42, 50, 38, 29, 17, 4, 62, 47, 59, 36, 45, 43, 51, 22, 53, 39, 33, 30, 24, 18, 12, 5, 63, 55, 48, 27, 60, 41, 37, 16, 46, 35, 44, 21, 52, 32, 23, 11, 54, 26, 40, 15, 34, 20, 31, 10, 25, 14, 19, 9, 13, 8, 7, 6]
def db (i : Nat) : Nat := dbL.getD i 0
def DbAt (w : World) : Prop := 0 < w.heap.size ∧ ∀ i, i < 64 → w.cell? ⟨0, i, none⟩ = some (.int .u8 (db i : Int))
theorem DbAt.frm {w w1 : World} (h : DbAt w) (hf : Frm [] w w1) : DbAt w1 :=
  ⟨Nat.lt_of_lt_of_le h.1 hf.size, fun i hi => (hf.cell (p := ⟨0, i, none⟩) h.1 (by simp)).trans (h.2 i hi)⟩
theorem DbAt.away {S : List Nat} {w w1 : World} (h : DbAt w) (hf : Frm S w w1) (hn : 0 ∉ S) : DbAt w1 :=
  ⟨Nat.lt_of_lt_of_le h.1 hf.size, fun i hi => (hf.cell (p := ⟨0, i, none⟩) h.1 hn).trans (h.2 i hi)⟩

theorem db_pow : ∀ k : Fin 64, db (2 ^ k.val * 285870213051353865 % 18446744073709551616 / 288230376151711744) = k.val := by decide +kernel
theorem db_lt (k : Nat) : k % 18446744073709551616 / 288230376151711744 < 64 := by omega
theorem db_small : ∀ i : Fin 64, db i.val < 64 := by decide +kernel

set_option maxRecDepth 100000 in
set_option maxHeartbeats 1000000 in
theorem trail_any (x : Nat) (X : Int) (hX : X = (x : Int)) (h0 : x ≠ 0) (h : x < 18446744073709551616) (w : World) (hD : DbAt w) :
    Calls Tryd.prog 48 #[.int .u64 X] w fun e w' => e = .returned (.int .i64 ((tz x : Nat) : Int)) ∧ w = w' := by
  subst hX
  have hand := and_neg x h0 h
  have ht := (tz_form x h0 h).1
  have hz : (((x : Nat) : Int) == 0) = false := by rw [beq_eq_false_iff_ne]; omega
  obtain ⟨i, hi⟩ : ∃ i, i = 2 ^ tz x * 285870213051353865 % 18446744073709551616 / 288230376151711744 := ⟨_, rfl⟩
  have hi64 : i < 64 := by rw [hi]; exact db_lt _
  have hdb := db_pow ⟨tz x, ht⟩
  simp only at hdb
  rw [← hi] at hdb
  have hc := hD.2 i hi64
  rw [hdb] at hc
  have hE : IntKind.u64.wrap (bits BinOp.and IntKind.u64 (x : Int) (IntKind.u64.wrap (-(x : Int))) * 285870213051353865) / 288230376151711744 = (i : Int) := by
    have e1 : IntKind.u64.wrap (-(x : Int)) = ((18446744073709551616 - x : Nat) : Int) := by rw [IntKind.wrap_u64]; omega
    rw [e1, u64_and_nat x (18446744073709551616 - x) h (by omega), hand, IntKind.wrap_u64]
    clear hc hdb
    rw [hi]
    generalize 2 ^ tz x = q
    first | rfl | norm_cast
  have Hi := hide hi
  have Hand := hide hand
  clear hdb hi hand
  have hg := hD.1
  go_enter Tryd.func48, Tryd.ntmps48
  go_wp2_with fail
  go_ret
  exact ⟨ret_int (by omega), rfl⟩

end Go.Proofs.YtdnllmibchmnnaaDoor
