/-
  Plain laws on varints: how a number is written, what bytes read as.
  Conditions: none.
-/
import Derived.Test.YtdnllmibchmnnaaDoorStr
namespace Go.Proofs.YtdnllmibchmnnaaDoor
set_option linter.unusedVariables false
set_option linter.unusedSimpArgs false

/-- The digits of v in base 128, the lowest first, at most so many; all but the last with 128 added. -/
def uintN : Nat → Nat → List Nat
  | 0, _ => []
  | k + 1, v => if 127 < v then (v % 128 + 128) :: uintN k (v / 128) else [v]

/-- The varint of a number below 2^64. -/
def uintB (v : Nat) : List Nat := uintN 10 v

theorem uintN_pos (k v : Nat) : 0 < (uintN (k + 1) v).length := by
  unfold uintN; split <;> simp
theorem uintN_le (k v : Nat) : (uintN k v).length ≤ k := by
  induction k generalizing v with
  | zero => simp [uintN]
  | succ k ih =>
    unfold uintN
    split
    · have := ih (v / 128); simp only [List.length_cons]; omega
    · simp
theorem uintN_lt (k v : Nat) : ∀ x ∈ uintN k v, x < 256 := by
  induction k generalizing v with
  | zero => simp [uintN]
  | succ k ih =>
    unfold uintN
    intro x hx
    split at hx
    · rcases List.mem_cons.1 hx with rfl | hx
      · omega
      · exact ih _ x hx
    · have : x = v := by simpa using hx
      omega
theorem uintB_pos (v : Nat) : 0 < (uintB v).length := uintN_pos 9 v
theorem uintB_le (v : Nat) : (uintB v).length ≤ 10 := uintN_le 10 v
theorem uintB_lt (v : Nat) : ∀ x ∈ uintB v, x < 256 := uintN_lt 10 v

/-- Reading on at the place i, with what has been read so far: the number, how many bytes, the error. -/
def rdN : Nat → List Nat → Nat → Nat → Nat × Nat × Nat
  | 0, _, _, _ => (0, 0, 21)
  | _ + 1, [], _, _ => (0, 0, 20)
  | k + 1, b :: r, i, v =>
    if i = 9 ∧ 1 < b ∨ 0 < i ∧ b = 0 then (0, 0, 21)
    else if b < 128 then (v + b * 128 ^ i, i + 1, 0)
    else rdN k r (i + 1) (v + b % 128 * 128 ^ i)

/-- How many bytes of 128 and more stand ahead, at most so many. -/
def spanN : Nat → List Nat → Nat
  | 0, _ => 0
  | _ + 1, [] => 0
  | k + 1, b :: r => if 127 < b then spanN k r + 1 else 0

/-- The number of these digits. -/
def digits : List Nat → Nat
  | [] => 0
  | b :: r => b % 128 + 128 * digits r

theorem rdN_span (k : Nat) : ∀ (r : List Nat) (i v : Nat), i + k = 9 →
    rdN (k + 1) r i v = match r[spanN k r]? with
      | none => (0, 0, 20)
      | some b => if i + spanN k r = 9 ∧ 1 < b ∨ 0 < i + spanN k r ∧ b = 0 then (0, 0, 21) else (v + digits (r.take (spanN k r + 1)) * 128 ^ i, i + spanN k r + 1, 0) := by
  induction k with
  | zero =>
    intro r i v hi
    cases r with
    | nil => rfl
    | cons b r =>
      have h9 : i = 9 := by omega
      subst h9
      simp only [rdN, spanN, List.getElem?_cons_zero, Nat.add_zero, List.take_succ_cons, List.take_zero, digits]
      by_cases hb : 1 < b
      · simp [hb]
      · have hb2 : b < 128 := by omega
        by_cases h0 : b = 0
        · simp [h0]
        · simp [hb, h0, hb2, Nat.mod_eq_of_lt hb2]
  | succ k ih =>
    intro r i v hi
    cases r with
    | nil => rfl
    | cons b r =>
      have h9 : ¬ i = 9 := by omega
      rw [rdN]
      by_cases hb : 127 < b
      · have hs : spanN (k + 1) (b :: r) = spanN k r + 1 := by simp [spanN, hb]
        rw [hs, List.getElem?_cons_succ, if_neg (by omega), if_neg (by omega), ih r (i + 1) _ (by omega)]
        rw [show i + 1 + spanN k r = i + (spanN k r + 1) from by omega]
        cases r[spanN k r]? with
        | none => rfl
        | some c =>
          simp only [List.take_succ_cons, digits]
          split
          · rfl
          · congr 1
            rw [Nat.pow_succ, Nat.add_mul, Nat.add_assoc]
            congr 2
            rw [Nat.mul_comm (128 ^ i) 128, ← Nat.mul_assoc, Nat.mul_comm (digits _) 128]
      · have hs : spanN (k + 1) (b :: r) = 0 := by simp [spanN, hb]
        have hlt : b < 128 := by omega
        simp only [hs, List.getElem?_cons_zero, Nat.add_zero, List.take_succ_cons, List.take_zero, digits, Nat.zero_add]
        by_cases h0 : 0 < i ∧ b = 0
        · rw [if_pos (.inr h0), if_pos (.inr h0)]
        · have hc : ¬ (i = 9 ∧ 1 < b ∨ 0 < i ∧ b = 0) := by omega
          rw [if_neg hc, if_neg hc, if_pos hlt]
          simp [Nat.mod_eq_of_lt hlt]

/-- What is read at a place: the number, the place behind it, the error. -/
def readU (s : List Nat) (at_ : Int) : Nat × Nat × Nat :=
  if at_ < 0 ∨ (s.length : Int) ≤ at_ then (0, 0, 20)
  else match rdN 10 (s.drop at_.toNat) 0 0 with
    | (v, c, 0) => (v, at_.toNat + c, 0)
    | (_, _, e + 1) => (0, 0, e + 1)

theorem digits_take_succ (r : List Nat) (j : Nat) (h : j < r.length) : digits (r.take (j + 1)) = digits (r.take j) + 128 ^ j * (r[j] % 128) := by
  induction j generalizing r with
  | zero =>
    cases r with
    | nil => simp at h
    | cons b r => simp [digits]
  | succ j ih =>
    cases r with
    | nil => simp at h
    | cons b r =>
      simp only [List.take_succ_cons, digits, List.getElem_cons_succ]
      have := ih r (by simpa using h)
      rw [this, Nat.pow_succ, Nat.mul_add, ← Nat.add_assoc, ← Nat.mul_assoc, Nat.mul_comm 128 (128 ^ j)]

theorem digits_lt (r : List Nat) : digits r < 128 ^ r.length := by
  induction r with
  | nil => simp [digits]
  | cons b r ih =>
    simp only [digits, List.length_cons, Nat.pow_succ]
    have : b % 128 < 128 := Nat.mod_lt _ (by decide)
    omega

end Go.Proofs.YtdnllmibchmnnaaDoor
