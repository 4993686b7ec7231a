/-
  The plain law of the bursts: a text whose last four bytes are its sum, with some of 32 neighbouring bits turned, has another sum.
  Conditions: none.
-/
import Derived.Test.YtceidhjgdgnplaaDoorNum
import Derived.Test.YtceidhjgdgnplaaDoorCrcp
namespace Go.Proofs.YtceidhjgdgnplaaDoor
set_option linter.unusedVariables false
set_option linter.unusedSimpArgs false

/-- The number whose digits in base 256 these bytes are, the lowest first. -/
def num : List Nat → Nat
  | [] => 0
  | y :: r => 256 * num r + y

/-- n steps of the register. -/
def crcIter : Nat → Nat → Nat
  | 0, x => x
  | n + 1, x => crcIter n (crcBit x)

theorem crcIter_xor (n a b : Nat) : crcIter n (a ^^^ b) = crcIter n a ^^^ crcIter n b := by
  induction n generalizing a b with
  | zero => rfl
  | succ n ih => simp only [crcIter, crcBit_xor, ih]
theorem crcIter_add (n m x : Nat) : crcIter (n + m) x = crcIter m (crcIter n x) := by
  induction n generalizing x with
  | zero => simp [crcIter]
  | succ n ih => rw [show n + 1 + m = (n + m) + 1 from by omega, crcIter, ih]; rfl
theorem crcIter_pow (n x : Nat) : crcIter n (2 ^ n * x) = x := by
  induction n generalizing x with
  | zero => simp [crcIter]
  | succ n ih => rw [crcIter, show 2 ^ (n + 1) * x = 2 * (2 ^ n * x) from by rw [Nat.pow_succ]; ac_rfl, crcBit_even, ih]
theorem crcIter_lt (n x : Nat) (h : x < 4294967296) : crcIter n x < 4294967296 := by
  induction n generalizing x with
  | zero => exact h
  | succ n ih => exact ih _ (crcBit_lt x h)
theorem xor_zero_eq {a b : Nat} (h : a ^^^ b = 0) : a = b := by
  have := congrArg (fun z => z ^^^ b) h
  simpa [Nat.xor_assoc] using this
theorem crcBit_zero (x : Nat) (h : x < 4294967296) (h0 : crcBit x = 0) : x = 0 := by
  unfold crcBit at h0
  split at h0
  · have := xor_zero_eq h0
    omega
  · omega
theorem crcIter_zero (n x : Nat) (h : x < 4294967296) (h0 : crcIter n x = 0) : x = 0 := by
  induction n generalizing x with
  | zero => exact h0
  | succ n ih => exact crcBit_zero x h (ih _ (crcBit_lt x h) h0)

theorem add_xor (y k : Nat) (hy : y < 256) : 256 * k + y = 2 ^ 8 * k ^^^ y := by
  apply Nat.eq_of_testBit_eq
  intro i
  rw [show 256 * k + y = 2 ^ 8 * k + y from rfl, Nat.testBit_two_pow_mul_add k (by omega) i, Nat.testBit_xor, Nat.testBit_two_pow_mul]
  by_cases h : i < 8
  · simp [h, Nat.not_le.2 h]
  · have hi : y.testBit i = false := Nat.testBit_lt_two_pow (Nat.lt_of_lt_of_le hy (Nat.pow_le_pow_right (n := 2) (by decide) (by omega : 8 ≤ i)))
    simp [h, Nat.le_of_not_lt h, hi]
theorem mul_xor (a x y : Nat) : 2 ^ a * (x ^^^ y) = 2 ^ a * x ^^^ 2 ^ a * y := by
  apply Nat.eq_of_testBit_eq
  intro i
  simp only [Nat.testBit_xor, Nat.testBit_two_pow_mul]
  by_cases h : a ≤ i <;> simp [h]

theorem crcByte_iter (c y : Nat) : crcByte c y = crcIter 8 (c ^^^ y) := rfl

theorem crcList_num (l : List Nat) : ∀ c, (∀ x ∈ l, x < 256) → crcList c l = crcIter (8 * l.length) (c ^^^ num l) := by
  induction l with
  | nil => intro c _; simp [num, crcIter, crcList]
  | cons y r ih =>
    intro c h
    have hy := h y (List.mem_cons_self ..)
    rw [show crcList c (y :: r) = crcList (crcByte c y) r from rfl, ih _ (fun x hx => h x (List.mem_cons_of_mem _ hx)), List.length_cons, show 8 * (r.length + 1) = 8 + 8 * r.length from by omega, crcIter_add]
    congr 1
    rw [num, add_xor y _ hy, crcByte_iter, Nat.xor_comm (2 ^ 8 * num r) y, ← Nat.xor_assoc, crcIter_xor 8 (c ^^^ y), crcIter_pow]

theorem num_set (l : List Nat) (hl : ∀ x ∈ l, x < 256) (j r : Nat) (hj : j < l.length) (hr : r < 8) : num (l.set j (l.getD j 0 ^^^ 2 ^ r)) = num l ^^^ 2 ^ (8 * j + r) := by
  induction l generalizing j with
  | nil => simp at hj
  | cons y l ih =>
    have hy := hl y (List.mem_cons_self ..)
    cases j with
    | zero =>
      have h2 : y ^^^ 2 ^ r < 256 := Nat.xor_lt_two_pow (n := 8) hy (Nat.pow_lt_pow_right (a := 2) (by decide) hr)
      simp only [List.set_cons_zero, List.getD_cons_zero, num, Nat.mul_zero, Nat.zero_add]
      rw [add_xor _ _ h2, add_xor y _ hy, Nat.xor_assoc]
    | succ j =>
      simp only [List.set_cons_succ, List.getD_cons_succ, num]
      rw [ih (fun x hx => hl x (List.mem_cons_of_mem _ hx)) j (by simpa using hj), add_xor y _ hy, add_xor y _ hy, mul_xor, show 8 * (j + 1) + r = 8 + (8 * j + r) from by omega, Nat.pow_add 2 8 (8 * j + r), Nat.xor_assoc, Nat.xor_assoc, Nat.xor_comm y]

theorem num_four (l : List Nat) (h : l.length = 4) : num l = numAt l 0 := by
  match l, h with
  | [a, b, c, d], _ => simp only [num, numAt, List.getD_cons_zero, List.getD_cons_succ]; omega

/-- The sum of a text with its sum behind does not hang on the text. -/
theorem crc_valid (l : List Nat) (m : Nat) (hl : ∀ x ∈ l, x < 256) (hm : l.length = m + 4) (h : crcOf (l.take m) = numAt l m) : crcList 4294967295 l = crcIter 32 4294967295 := by
  have hs : l = l.take m ++ l.drop m := (List.take_append_drop m l).symm
  have hd : (l.drop m).length = 4 := by rw [List.length_drop]; omega
  have hn : num (l.drop m) = numAt l m := by rw [num_four _ hd, numAt_drop]; rfl
  rw [hs, crcList_append, crcList_num (l.drop m) _ (fun x hx => hl x (List.mem_of_mem_drop hx)), hd, hn, ← h]
  unfold crcOf
  rw [← Nat.xor_assoc, Nat.xor_self, Nat.zero_xor]

/-- WHICHEVER OF 32 NEIGHBOURING BITS ARE TURNED, THE SUM TELLS IT. -/
theorem burst (l t : List Nat) (m a B : Nat) (hl : ∀ x ∈ l, x < 256) (ht : ∀ x ∈ t, x < 256) (hm : l.length = m + 4) (hlen : t.length = l.length) (hv : crcOf (l.take m) = numAt l m)
    (hB : B < 4294967296) (hB0 : B ≠ 0) (ha : a ≤ 8 * l.length) (hx : num t = num l ^^^ 2 ^ a * B) : crcOf (t.take m) ≠ numAt t m := by
  intro hv2
  have h1 := crc_valid l m hl hm hv
  have h2 := crc_valid t m ht (by omega) hv2
  rw [crcList_num l _ hl] at h1
  rw [crcList_num t _ ht, hlen, hx, ← Nat.xor_assoc, crcIter_xor, h1] at h2
  have h3 : crcIter (8 * l.length) (2 ^ a * B) = 0 := by
    have := congrArg (fun z => crcIter 32 4294967295 ^^^ z) h2
    simpa [← Nat.xor_assoc] using this
  rw [show 8 * l.length = a + (8 * l.length - a) from by omega, crcIter_add, crcIter_pow] at h3
  exact hB0 (crcIter_zero _ B hB h3)

/-! ### Which bits are turned -/

/-- Behind i rounds: the bytes, and whether a bit was turned. -/
def turnL (l : List Nat) (a M : Nat) : Nat → List Nat × Bool
  | 0 => (l, false)
  | i + 1 => if M / 2 ^ i % 2 = 1 ∧ (a + i) / 8 < l.length then ((turnL l a M i).1.set ((a + i) / 8) ((turnL l a M i).1.getD ((a + i) / 8) 0 ^^^ 2 ^ ((a + i) % 8)), true) else turnL l a M i

theorem turnL_spec (l : List Nat) (hl : ∀ x ∈ l, x < 256) (a M i : Nat) : (turnL l a M i).1.length = l.length ∧ (∀ x ∈ (turnL l a M i).1, x < 256) ∧
    ∃ B, B < 2 ^ i ∧ num (turnL l a M i).1 = num l ^^^ 2 ^ a * B ∧ ((turnL l a M i).2 = true → B ≠ 0) := by
  induction i with
  | zero => exact ⟨rfl, hl, 0, by decide, by simp [turnL], by simp [turnL]⟩
  | succ i ih =>
    obtain ⟨h1, h2, B, hB, h3, h4⟩ := ih
    simp only [turnL]
    by_cases hc : M / 2 ^ i % 2 = 1 ∧ (a + i) / 8 < l.length
    · rw [if_pos hc]
      have hj : (a + i) / 8 < (turnL l a M i).1.length := by omega
      have hr : (a + i) % 8 < 8 := Nat.mod_lt _ (by decide)
      refine ⟨by simp [h1], ?_, B ^^^ 2 ^ i, ?_, ?_, ?_⟩
      · intro x hx
        rcases List.mem_or_eq_of_mem_set hx with hx | rfl
        · exact h2 x hx
        · refine Nat.xor_lt_two_pow (n := 8) ?_ (Nat.pow_lt_pow_right (a := 2) (by decide) hr)
          rw [List.getD_eq_getElem?_getD, List.getElem?_eq_getElem hj]
          exact h2 _ (List.getElem_mem hj)
      · exact Nat.xor_lt_two_pow (n := i + 1) (Nat.lt_of_lt_of_le hB (Nat.pow_le_pow_right (by decide) (by omega))) (Nat.pow_lt_pow_right (a := 2) (by decide) (by omega))
      · rw [num_set _ h2 _ _ hj hr, h3, mul_xor, ← Nat.pow_add, Nat.xor_assoc, show 8 * ((a + i) / 8) + (a + i) % 8 = a + i from by omega]
      · intro _ h0
        have := xor_zero_eq h0
        omega
    · rw [if_neg hc]
      exact ⟨h1, h2, B, Nat.lt_of_lt_of_le hB (Nat.pow_le_pow_right (by decide) (by omega)), h3, h4⟩

end Go.Proofs.YtceidhjgdgnplaaDoor
