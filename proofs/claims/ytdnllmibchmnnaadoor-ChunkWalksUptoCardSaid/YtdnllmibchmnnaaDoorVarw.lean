/-
  Plain laws on varints: what is read and what is written answer each other.
  Conditions: none.
-/
import Derived.Test.YtdnllmibchmnnaaDoorRref
namespace Go.Proofs.YtdnllmibchmnnaaDoor
set_option linter.unusedVariables false
set_option linter.unusedSimpArgs false

theorem span_le (k : Nat) (r : List Nat) : spanN k r ≤ k := by
  induction k generalizing r with
  | zero => simp [spanN]
  | succ k ih =>
    cases r with
    | nil => simp [spanN]
    | cons b r =>
      have := ih r
      simp only [spanN]
      split <;> omega

theorem readU_lt (l : List Nat) (a : Int) : (readU l a).1 < 18446744073709551616 := by
  by_cases h : a < 0 ∨ (l.length : Int) ≤ a
  · rw [readU_out l a h]; decide
  · obtain ⟨n, rfl⟩ : ∃ n : Nat, a = (n : Int) := ⟨a.toNat, by omega⟩
    have hJ := span_le 9 (l.drop n)
    rw [readU_span l n _ (by omega) rfl]
    generalize spanN 9 (l.drop n) = J at hJ
    by_cases h1 : l.length ≤ n + J
    · rw [if_pos h1]; decide
    · rw [if_neg h1]
      by_cases h2 : J = 9 ∧ 1 < l.getD (n + J) 0 ∨ 0 < J ∧ l.getD (n + J) 0 = 0
      · rw [if_pos h2]; decide
      · rw [if_neg h2]
        refine tailD_lim (l.drop n) J (by rw [List.length_drop]; omega) ?_
        rw [getD_dropN]
        omega

theorem readU_err (l : List Nat) (a : Int) (h : (readU l a).2.2 ≠ 0) : readU l a = (0, 0, (readU l a).2.2) := by
  by_cases ho : a < 0 ∨ (l.length : Int) ≤ a
  · rw [readU_out l a ho]
  · obtain ⟨n, rfl⟩ : ∃ n : Nat, a = (n : Int) := ⟨a.toNat, by omega⟩
    rw [readU_span l n _ (by omega) rfl] at h ⊢
    split
    · rfl
    · rename_i h1
      rw [if_neg h1] at h
      split
      · rfl
      · rename_i h2
        rw [if_neg h2] at h
        exact absurd rfl h

theorem readU_ok (l : List Nat) (a : Int) (h : (readU l a).2.2 = 0) :
    ∃ n J : Nat, a = (n : Int) ∧ spanN 9 (l.drop n) = J ∧ n + J < l.length ∧ ¬ (J = 9 ∧ 1 < l.getD (n + J) 0 ∨ 0 < J ∧ l.getD (n + J) 0 = 0) ∧ readU l a = (tailD (l.drop n) J 0, n + J + 1, 0) := by
  by_cases ho : a < 0 ∨ (l.length : Int) ≤ a
  · rw [readU_out l a ho] at h; exact absurd h (by decide)
  · obtain ⟨n, rfl⟩ : ∃ n : Nat, a = (n : Int) := ⟨a.toNat, by omega⟩
    have hsp := readU_span l n _ (by omega) rfl
    rw [hsp] at h
    by_cases h1 : l.length ≤ n + spanN 9 (l.drop n)
    · rw [if_pos h1] at h; exact absurd h (by decide)
    · rw [if_neg h1] at h hsp
      split at h
      · exact absurd h (by decide)
      · rename_i h2
        rw [if_neg h2] at hsp
        exact ⟨n, _, rfl, rfl, by omega, h2, hsp⟩

theorem readU_next (l : List Nat) (a : Int) (h : (readU l a).2.2 = 0) : 0 ≤ a ∧ a < ((readU l a).2.1 : Int) ∧ (readU l a).2.1 ≤ l.length := by
  obtain ⟨n, J, rfl, hJ, hl, hc, e⟩ := readU_ok l a h
  rw [e]
  simp only
  omega

theorem digits_snoc_pos (m : List Nat) (b : Nat) (hb : b ≠ 0) (hb2 : b ≤ 127) : 0 < digits (m ++ [b]) := by
  induction m with
  | nil => simp only [List.nil_append, digits]; omega
  | cons x m ih => simp only [List.cons_append, digits]; omega

theorem uintN_digits (m : List Nat) (b : Nat) : ∀ k, (∀ x ∈ m, 127 < x ∧ x < 256) → b ≤ 127 → (m ≠ [] → b ≠ 0) → m.length < k → uintN k (digits (m ++ [b])) = m ++ [b] := by
  induction m with
  | nil =>
    intro k _ hb _ hk
    obtain ⟨k, rfl⟩ : ∃ j, k = j + 1 := ⟨k - 1, by simp at hk; omega⟩
    simp only [List.nil_append, digits, uintN]
    rw [if_neg (by omega)]
    congr 1
    omega
  | cons x m ih =>
    intro k hm hb hne hk
    obtain ⟨k, rfl⟩ : ∃ j, k = j + 1 := ⟨k - 1, by simp at hk; omega⟩
    have hx := hm x (List.mem_cons_self ..)
    have hb0 : b ≠ 0 := hne (by simp)
    have hd := digits_snoc_pos m b hb0 hb
    simp only [List.cons_append, digits, uintN]
    rw [if_pos (by omega), show (x % 128 + 128 * digits (m ++ [b])) / 128 = digits (m ++ [b]) from by omega, ih k (fun y hy => hm y (List.mem_cons_of_mem _ hy)) hb (fun _ => hb0) (by simp at hk; omega)]
    congr 1
    omega

theorem span_big (k : Nat) (r : List Nat) : ∀ i, i < spanN k r → 127 < r.getD i 0 := by
  induction k generalizing r with
  | zero => intro i hi; simp [spanN] at hi
  | succ k ih =>
    cases r with
    | nil => intro i hi; simp [spanN] at hi
    | cons b r =>
      intro i hi
      simp only [spanN] at hi
      by_cases hb : 127 < b
      · rw [if_pos hb] at hi
        cases i with
        | zero => simpa using hb
        | succ i =>
          have := ih r i (by omega)
          simpa using this
      · rw [if_neg hb] at hi; omega

theorem span_end (k : Nat) (r : List Nat) (h : spanN k r < k) (hl : spanN k r < r.length) : r.getD (spanN k r) 0 ≤ 127 := by
  induction k generalizing r with
  | zero => omega
  | succ k ih =>
    cases r with
    | nil => simp at hl
    | cons b r =>
      simp only [spanN] at h hl ⊢
      by_cases hb : 127 < b
      · rw [if_pos hb] at h hl ⊢
        have := ih r (by omega) (by simp at hl; omega)
        simpa using this
      · rw [if_neg hb]
        simpa using (by omega : b ≤ 127)

theorem readU_form (l : List Nat) (hl : ∀ x ∈ l, x < 256) (a : Int) (h : (readU l a).2.2 = 0) : ∃ n J : Nat, a = (n : Int) ∧ (readU l a).2.1 = n + (J + 1) ∧ n + (J + 1) ≤ l.length ∧ uintB (readU l a).1 = (l.drop n).take (J + 1) := by
  obtain ⟨n, J, rfl, hJ, hlt, hc, e⟩ := readU_ok l a h
  refine ⟨n, J, rfl, by rw [e]; rfl, by omega, ?_⟩
  rw [e]
  simp only
  have h9 := span_le 9 (l.drop n)
  have hlen : J < (l.drop n).length := by rw [List.length_drop]; omega
  have hsplit : (l.drop n).take (J + 1) = (l.drop n).take J ++ [(l.drop n).getD J 0] := by
    rw [List.take_add_one, List.getD_eq_getElem?_getD, List.getElem?_eq_getElem hlen]
    rfl
  rw [tailD_zero, hsplit]
  refine uintN_digits _ _ 10 ?_ ?_ ?_ ?_
  · intro x hx
    obtain ⟨i, hi, rfl⟩ := List.mem_take_iff_getElem.1 hx
    have h1 := span_big 9 (l.drop n) i (by omega)
    rw [List.getD_eq_getElem?_getD, List.getElem?_eq_getElem (by omega)] at h1
    exact ⟨h1, hl _ (List.mem_of_mem_drop (List.getElem_mem _))⟩
  · rw [getD_dropN]
    by_cases h8 : J = 9
    · omega
    · have := span_end 9 (l.drop n) (by omega) (by omega)
      rw [hJ, getD_dropN] at this
      exact this
  · intro hne
    rw [getD_dropN]
    have : J ≠ 0 := by
      intro h0
      apply hne
      rw [h0]; rfl
    omega
  · rw [List.length_take]; omega

theorem rdN_uintN (q : List Nat) : ∀ (k i v acc : Nat), i + k = 10 → v * 128 ^ i < 18446744073709551616 → (0 < i → 0 < v) → rdN k (uintN k v ++ q) i acc = (acc + v * 128 ^ i, i + (uintN k v).length, 0) := by
  intro k
  induction k with
  | zero =>
    intro i v acc hi hv hp
    obtain rfl : i = 10 := by omega
    have := hp (by decide)
    have h1 : 1 * 128 ^ 10 ≤ v * 128 ^ 10 := Nat.mul_le_mul_right _ this
    have h2 : 1 * 128 ^ 10 = 1180591620717411303424 := by decide
    omega
  | succ k ih =>
    intro i v acc hi hv hp
    have h9 : i = 9 → v ≤ 1 := by
      rintro rfl
      have h2 : 128 ^ 9 = 9223372036854775808 := by decide
      rw [h2] at hv
      omega
    simp only [uintN]
    by_cases hb : 127 < v
    · rw [if_pos hb, List.cons_append]
      simp only [rdN]
      rw [if_neg (by omega), if_neg (by omega)]
      have hpow : 128 ^ (i + 1) = 128 ^ i * 128 := by rw [Nat.pow_succ]
      have hs : v % 128 * 128 ^ i + v / 128 * 128 ^ (i + 1) = v * 128 ^ i := by
        rw [hpow, ← Nat.mul_assoc, Nat.mul_right_comm, ← Nat.add_mul]
        congr 1
        omega
      have hmod : (v % 128 + 128) % 128 = v % 128 := by omega
      rw [hmod, ih (i + 1) (v / 128) _ (by omega) (by omega) (fun _ => by omega)]
      simp only [List.length_cons, Prod.mk.injEq, and_true]
      constructor
      · omega
      · omega
    · rw [if_neg hb]
      simp only [List.cons_append, List.nil_append, rdN, List.length_cons, List.length_nil]
      rw [if_neg (by omega), if_pos (by omega)]

theorem readU_uint (p q : List Nat) (v : Nat) (hv : v < 18446744073709551616) : readU (p ++ uintB v ++ q) (p.length : Int) = (v, p.length + (uintB v).length, 0) := by
  have hpos := uintB_pos v
  rw [readU_in _ _ (by simp; omega), List.append_assoc, List.drop_left, uintB, rdN_uintN q 10 0 v 0 (by decide) (by simpa using hv) (by omega)]
  simp [uintB]

end Go.Proofs.YtdnllmibchmnnaaDoor
