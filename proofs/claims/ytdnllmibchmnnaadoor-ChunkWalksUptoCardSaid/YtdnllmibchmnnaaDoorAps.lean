/-
  What is known of a chunk is kept behind every sample.
-/
import Derived.Test.YtdnllmibchmnnaaDoorApp
namespace Go.Proofs.YtdnllmibchmnnaaDoor
set_option linter.unusedVariables false
set_option linter.unusedSimpArgs false

/-- The chunk without a sample. -/
def ck0 : Ck := ⟨[], 0, 0, 0, 0, 0, 0, false⟩
theorem ck0_ok : CkOk ck0 := ⟨Nat.le_refl _, by decide, by decide, by decide, by decide, by decide, by decide, by decide, by decide, fun h => absurd h (by decide)⟩

/-- The fields behind a value, and how many bits it takes. -/
theorem dif_known (x : Nat) (c : Ck) (hx : x < 18446744073709551616) (h1 : c.lead ≤ 63) (h2 : c.tail ≤ 63) (h3 : c.win = true → c.lead + c.tail ≤ 63) :
    (dif x c).bits.length ≤ c.bits.length + 80 ∧ (dif x c).step = c.step ∧ (dif x c).lead ≤ 63 ∧ (dif x c).tail ≤ 63 ∧ ((dif x c).win = true → (dif x c).lead + (dif x c).tail ≤ 63) := by
  unfold dif
  by_cases h0 : x = 0
  · rw [if_pos h0]
    simp [bitsOf_length]
    exact ⟨h1, h2, h3⟩
  · rw [if_neg h0]
    have hz := lz_tz x h0 hx
    split
    · rename_i h
      simp [bitsOf_length]
      exact ⟨by omega, h1, h2, h3⟩
    · simp [bitsOf_length]
      omega

theorem appS_ok (c : Ck) (t : Int) (x : Nat) (hx : x < 18446744073709551616) (h : CkOk c) (hf : appF c t = 0) : CkOk (appS c t x) := by
  have hb : 0 ≤ t ∧ t ≤ 1125899906842624 ∧ (0 < c.n → c.t < t) ∧ c.n < 120 := by
    have hn := h.n
    unfold appF at hf
    split at hf
    · exact absurd hf (by decide)
    · split at hf
      · exact absurd hf (by decide)
      · split at hf
        · exact absurd hf (by decide)
        · rename_i a1 a2 a3
          refine ⟨by omega, by omega, fun h => ?_, by omega⟩
          by_cases h5 : t ≤ c.t
          · exact absurd ⟨h, h5⟩ a2
          · omega
  obtain ⟨b1, b2, b3, b4⟩ := hb
  have hl := h.len
  have t0 := h.t0
  have s0 := h.s0
  unfold appS
  by_cases h0 : c.n = 0
  · rw [if_pos h0]
    exact ⟨by simp [bitsOf_length]; omega, by simp, b1, b2, hx, h.s0, h.s1, h.le, h.ta, h.win⟩
  · rw [if_neg h0]
    have b5 := b3 (by omega)
    have hc := chg_length (t - c.t - c.step)
    obtain ⟨k1, k2, k3, k4, k5⟩ := dif_known (x ^^^ c.v) { c with bits := c.bits ++ chg (t - c.t - c.step), step := t - c.t } (Nat.xor_lt_two_pow (n := 64) hx h.v) h.le h.ta h.win
    refine ⟨?_, by simp; omega, b1, b2, hx, ?_, ?_, k3, k4, k5⟩
    · simp only [List.length_append] at k1 ⊢
      omega
    · show 0 ≤ _
      rw [k2]
      simp only
      omega
    · show _ ≤ _
      rw [k2]
      simp only
      omega

end Go.Proofs.YtdnllmibchmnnaaDoor
