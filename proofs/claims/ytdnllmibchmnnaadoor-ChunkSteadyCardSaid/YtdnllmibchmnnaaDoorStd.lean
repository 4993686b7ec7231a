/-
  Plain words on samples at even steps with one value.
  Conditions: none.
-/
import Derived.Test.YtdnllmibchmnnaaDoorLws
namespace Go.Proofs.YtdnllmibchmnnaaDoor
set_option linter.unusedVariables false
set_option linter.unusedSimpArgs false

/-- Samples at even steps with one value. -/
def stdF (f : Int) (s : Int) (v : Nat) (i : Nat) : Smp := ⟨f + (i : Int) * s, v⟩

theorem stdF_ok (f s : Int) (v n : Nat) (hf0 : 0 ≤ f) (hf1 : f ≤ 562949953421312) (hs0 : 1 ≤ s) (hs1 : s ≤ 63) (hv : v < 18446744073709551616) (hn : n ≤ 120) : ∀ i, i < n → (stdF f s v i).Ok ∧ 0 ≤ (stdF f s v i).t ∧ (stdF f s v i).t ≤ 1125899906842624 := by
  intro i hi
  have h1 : 0 ≤ (i : Int) * s := Int.mul_nonneg (by omega) (by omega)
  have h2 : (i : Int) * s ≤ (i : Int) * 63 := Int.mul_le_mul_of_nonneg_left hs1 (by omega)
  refine ⟨⟨?_, ?_, hv⟩, ?_, ?_⟩ <;> simp only [stdF] <;> omega

/-- What the chunk holds behind k of them. -/
theorem std_ck (f s : Int) (v n : Nat) (hf0 : 0 ≤ f) (hf1 : f ≤ 562949953421312) (hs0 : 1 ≤ s) (hs1 : s ≤ 63) (hv : v < 18446744073709551616) (hn : n ≤ 120) : ∀ k, k ≤ n → ckFa (stdF f s v) k = 0 ∧
    (1 ≤ k → (ckN (stdF f s v) k).t = f + ((k - 1 : Nat) : Int) * s ∧ (ckN (stdF f s v) k).v = v) ∧ (k = 1 → (ckN (stdF f s v) k).bits.length = 128 ∧ (ckN (stdF f s v) k).step = 0) ∧ (2 ≤ k → (ckN (stdF f s v) k).bits.length = 138 + 2 * (k - 2) ∧ (ckN (stdF f s v) k).step = s) := by
  intro k hk
  induction k with
  | zero => exact ⟨rfl, fun h => absurd h (by omega), fun h => absurd h (by omega), fun h => absurd h (by omega)⟩
  | succ k ih =>
    obtain ⟨i1, i2, i3, i4⟩ := ih (by omega)
    obtain ⟨o1, o2, o3⟩ := stdF_ok f s v n hf0 hf1 hs0 hs1 hv hn k (by omega)
    have o2' : 0 ≤ f + (k : Int) * s := o2
    have o3' : f + (k : Int) * s ≤ 1125899906842624 := o3
    have hc0 : k = 0 → ckN (stdF f s v) k = ck0 := fun h => by subst h; rfl
    have hcn := ckN_n (stdF f s v) k
    have hst : ckN (stdF f s v) (k + 1) = appS (ckN (stdF f s v) k) (stdF f s v k).t (stdF f s v k).v := rfl
    have hfa : ckFa (stdF f s v) (k + 1) = appF (ckN (stdF f s v) k) (stdF f s v k).t := by rw [ckFa, if_pos i1]
    have htk : (stdF f s v k).t = f + (k : Int) * s := rfl
    have hvk : (stdF f s v k).v = v := rfl
    rw [hst, hfa]
    generalize ckN (stdF f s v) k = c at *
    rw [hvk, htk] at *
    by_cases h0 : k = 0
    · subst h0
      have hcb : c.n = 0 := hcn
      have hap : appF c (f + ((0 : Nat) : Int) * s) = 0 := by
        unfold appF
        rw [if_neg (by omega), if_neg (by omega), if_neg (by omega)]
      have hce : c = ck0 := hc0 rfl
      subst hce
      refine ⟨hap, fun _ => ⟨rfl, rfl⟩, fun _ => ⟨by simp [appS, ck0, bitsOf_length], rfl⟩, fun h => absurd h (by omega)⟩
    · obtain ⟨j1, j2⟩ := i2 (by omega)
      have hmul : (k : Int) * s = ((k - 1 : Nat) : Int) * s + s := by
        have : (k : Int) = ((k - 1 : Nat) : Int) + 1 := by omega
        rw [this, Int.add_mul, Int.one_mul]
      have hd : f + (k : Int) * s - c.t = s := by rw [j1, hmul]; omega
      have hap : appF c (f + (k : Int) * s) = 0 := by
        unfold appF
        rw [if_neg (by omega), if_neg (by omega), if_neg (by omega)]
      have hx : v ^^^ c.v = 0 := by rw [j2, Nat.xor_self]
      refine ⟨hap, fun _ => ?_, fun h => absurd h (by omega), fun _ => ?_⟩
      · unfold appS
        rw [if_neg (by omega)]
        exact ⟨by simp, rfl⟩
      · unfold appS
        rw [if_neg (by omega), hx, hd]
        unfold dif
        rw [if_pos rfl]
        simp only [List.length_append, bitsOf_length]
        refine ⟨?_, trivial⟩
        by_cases h1 : k = 1
        · subst h1
          obtain ⟨l1, l2⟩ := i3 rfl
          rw [l1, l2]
          unfold chg
          rw [if_neg (by omega), if_pos (by omega)]
          simp [bitsOf_length]
        · obtain ⟨l1, l2⟩ := i4 (by omega)
          rw [l1, l2, Int.sub_self]
          unfold chg
          rw [if_pos rfl]
          simp only [bitsOf_length]
          omega

end Go.Proofs.YtdnllmibchmnnaaDoor
