/-
  Plain laws on the zeros ahead of and behind a number's bits.
  Conditions: none.
-/
import Derived.Test.YtdnllmibchmnnaaDoorBits
namespace Go.Proofs.YtdnllmibchmnnaaDoor
set_option linter.unusedVariables false
set_option linter.unusedSimpArgs false

def tzF : Nat → Nat → Nat
  | 0, _ => 0
  | n + 1, x => if x % 2 = 1 then 0 else tzF n (x / 2) + 1
/-- How many zeros stand behind the last bit of x. -/
def tz (x : Nat) : Nat := tzF 64 x
/-- How many zeros stand ahead of its first bit, at most 31. -/
def lz (x : Nat) : Nat := min (63 - x.log2) 31

theorem tzF_form (n x : Nat) (h0 : x ≠ 0) (h : x < 2 ^ n) : tzF n x < n ∧ ∃ m, x = 2 ^ tzF n x * (2 * m + 1) := by
  induction n generalizing x with
  | zero => simp at h; omega
  | succ n ih =>
    simp only [tzF]
    by_cases h1 : x % 2 = 1
    · rw [if_pos h1]
      exact ⟨by omega, x / 2, by simp; omega⟩
    · rw [if_neg h1]
      rw [Nat.pow_succ] at h
      obtain ⟨a, m, hm⟩ := ih (x / 2) (by omega) (by omega)
      refine ⟨by omega, m, ?_⟩
      rw [Nat.pow_succ, Nat.mul_comm (2 ^ _) 2, Nat.mul_assoc, ← hm]
      omega
theorem tz_form (x : Nat) (h0 : x ≠ 0) (h : x < 18446744073709551616) : tz x < 64 ∧ ∃ m, x = 2 ^ tz x * (2 * m + 1) := tzF_form 64 x h0 h
theorem odd_bit (t m j : Nat) : (2 ^ t * (2 * m + 1)).testBit j = if j < t then false else (2 * m + 1).testBit (j - t) := by
  have := Nat.testBit_two_pow_mul_add (i := t) (b := 0) (2 * m + 1) (Nat.two_pow_pos t) j
  rw [Nat.add_zero] at this
  rw [this]
  split
  · simp
  · rfl
theorem tz_bit (x : Nat) (h0 : x ≠ 0) (h : x < 18446744073709551616) : x.testBit (tz x) = true := by
  obtain ⟨_, m, hm⟩ := tz_form x h0 h
  generalize tz x = t at hm
  subst hm
  rw [odd_bit, if_neg (by omega), Nat.sub_self]
  simp [Nat.testBit_zero]
theorem tz_low (x : Nat) (h0 : x ≠ 0) (h : x < 18446744073709551616) (j : Nat) (hj : j < tz x) : x.testBit j = false := by
  obtain ⟨_, m, hm⟩ := tz_form x h0 h
  generalize tz x = t at hm hj
  subst hm
  rw [odd_bit, if_pos hj]

/-- The last bit alone. -/
theorem and_neg (x : Nat) (h0 : x ≠ 0) (h : x < 18446744073709551616) : x &&& (18446744073709551616 - x) = 2 ^ tz x := by
  obtain ⟨ht, m, hm⟩ := tz_form x h0 h
  generalize tz x = t at hm ht
  apply Nat.eq_of_testBit_eq
  intro j
  have e1 : 18446744073709551616 - x = 2 ^ 64 - (2 ^ t * (2 * m) + (2 ^ t - 1) + 1) := by
    rw [hm]
    have : 0 < 2 ^ t := Nat.two_pow_pos t
    have : 2 ^ t * (2 * m + 1) = 2 ^ t * (2 * m) + 2 ^ t := by rw [Nat.mul_add, Nat.mul_one]
    omega
  have hlt : 2 ^ t * (2 * m) + (2 ^ t - 1) < 2 ^ 64 := by
    have : 0 < 2 ^ t := Nat.two_pow_pos t
    have : 2 ^ t * (2 * m + 1) = 2 ^ t * (2 * m) + 2 ^ t := by rw [Nat.mul_add, Nat.mul_one]
    omega
  rw [Nat.testBit_and, e1, Nat.testBit_two_pow_sub_succ hlt, Nat.testBit_two_pow_mul_add _ (by have := Nat.two_pow_pos t; omega), hm, odd_bit, Nat.testBit_two_pow]
  by_cases h1 : j < t
  · have : ¬ t = j := by omega
    simp [h1, this]
  · rw [if_neg h1, if_neg h1]
    by_cases h2 : j = t
    · subst h2
      have h64 : j < 64 := ht
      simp [h64, Nat.testBit_zero]
    · obtain ⟨d, hd⟩ : ∃ d, j - t = d + 1 := ⟨j - t - 1, by omega⟩
      have hn : ¬ t = j := by omega
      rw [hd, Nat.testBit_succ, Nat.testBit_succ, show (2 * m + 1) / 2 = m from by omega, show 2 * m / 2 = m from by omega]
      simp [hn]
      intro hh _
      exact hh

theorem log2_lt64 (x : Nat) (h0 : x ≠ 0) (h : x < 18446744073709551616) : x.log2 < 64 := (Nat.log2_lt h0).2 h
/-- The first bit. -/
theorem top_bit (x : Nat) (h0 : x ≠ 0) : x.testBit x.log2 = true := Nat.testBit_log2 h0
theorem top_none (x j : Nat) (h0 : x ≠ 0) (hj : x.log2 < j) : x.testBit j = false := by
  apply Nat.testBit_lt_two_pow
  exact (Nat.log2_lt h0).1 hj

theorem tz_le_log2 (x : Nat) (h0 : x ≠ 0) (h : x < 18446744073709551616) : tz x ≤ x.log2 := by
  apply Nat.le_of_not_lt
  intro hlt
  have := top_none x (tz x) h0 hlt
  rw [tz_bit x h0 h] at this
  exact absurd this (by decide)
theorem lz_tz (x : Nat) (h0 : x ≠ 0) (h : x < 18446744073709551616) : lz x ≤ 31 ∧ tz x ≤ 63 ∧ lz x + tz x ≤ 63 := by
  have h1 := tz_le_log2 x h0 h
  have h2 := log2_lt64 x h0 h
  unfold lz
  omega

end Go.Proofs.YtdnllmibchmnnaaDoor
