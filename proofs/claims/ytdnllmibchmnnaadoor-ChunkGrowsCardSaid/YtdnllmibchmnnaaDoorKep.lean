/-
  Plain words on the samples of a list that a chunk takes.
  Conditions: none.
-/
import Derived.Test.YtdnllmibchmnnaaDoorRdt
namespace Go.Proofs.YtdnllmibchmnnaaDoor
set_option linter.unusedVariables false
set_option linter.unusedSimpArgs false

/-- How many of the first k samples are taken, and which. -/
def kpM (F : Nat → Smp) : Nat → Nat × (Nat → Smp)
  | 0 => (0, fun _ => ⟨0, 0⟩)
  | k + 1 => if appF (ckN (kpM F k).2 (kpM F k).1) (F k).t = 0 then ((kpM F k).1 + 1, fun i => if i = (kpM F k).1 then F k else (kpM F k).2 i) else kpM F k
def kpN (F : Nat → Smp) (k : Nat) : Nat := (kpM F k).1
def kpF (F : Nat → Smp) (k : Nat) : Nat → Smp := (kpM F k).2
/-- The chunk behind the first k samples, refused ones left out. -/
def kpC (F : Nat → Smp) (k : Nat) : Ck := ckN (kpF F k) (kpN F k)

theorem kpN_yes {F : Nat → Smp} {k : Nat} (h : appF (kpC F k) (F k).t = 0) : kpN F (k + 1) = kpN F k + 1 := by
  have h' : appF (ckN (kpM F k).2 (kpM F k).1) (F k).t = 0 := h
  unfold kpN
  rw [kpM, if_pos h']
theorem kpF_yes {F : Nat → Smp} {k : Nat} (h : appF (kpC F k) (F k).t = 0) : kpF F (k + 1) = fun i => if i = kpN F k then F k else kpF F k i := by
  have h' : appF (ckN (kpM F k).2 (kpM F k).1) (F k).t = 0 := h
  unfold kpF kpN
  rw [kpM, if_pos h']
theorem kpN_no {F : Nat → Smp} {k : Nat} (h : appF (kpC F k) (F k).t ≠ 0) : kpN F (k + 1) = kpN F k := by
  have h' : ¬ appF (ckN (kpM F k).2 (kpM F k).1) (F k).t = 0 := h
  unfold kpN
  rw [kpM, if_neg h']
theorem kpF_no {F : Nat → Smp} {k : Nat} (h : appF (kpC F k) (F k).t ≠ 0) : kpF F (k + 1) = kpF F k := by
  have h' : ¬ appF (ckN (kpM F k).2 (kpM F k).1) (F k).t = 0 := h
  unfold kpF
  rw [kpM, if_neg h']
theorem kpC_no {F : Nat → Smp} {k : Nat} (h : appF (kpC F k) (F k).t ≠ 0) : kpC F (k + 1) = kpC F k := by
  unfold kpC; rw [kpN_no h, kpF_no h]
theorem kp_last {F : Nat → Smp} {k : Nat} (h : appF (kpC F k) (F k).t = 0) : kpF F (k + 1) (kpN F k) = F k := by rw [kpF_yes h]; simp
theorem kp_below {F : Nat → Smp} {k : Nat} (h : appF (kpC F k) (F k).t = 0) (i : Nat) (hi : i < kpN F k) : kpF F (k + 1) i = kpF F k i := by
  rw [kpF_yes h]
  simp only
  rw [if_neg (by omega)]
theorem kpC_same {F : Nat → Smp} {k : Nat} (h : appF (kpC F k) (F k).t = 0) : ckN (kpF F (k + 1)) (kpN F k) = kpC F k := ckN_congr (kp_below h)
theorem kpC_yes {F : Nat → Smp} {k : Nat} (h : appF (kpC F k) (F k).t = 0) : kpC F (k + 1) = appS (kpC F k) (F k).t (F k).v := by
  show ckN (kpF F (k + 1)) (kpN F (k + 1)) = _
  rw [kpN_yes h, ckN, kpC_same h, kp_last h]
theorem kpN_le (F : Nat → Smp) (k : Nat) : kpN F k ≤ k := by
  induction k with
  | zero => exact Nat.le_refl _
  | succ k ih =>
    by_cases h : appF (kpC F k) (F k).t = 0
    · rw [kpN_yes h]; omega
    · rw [kpN_no h]; omega
theorem kp_fa (F : Nat → Smp) (k : Nat) : ckFa (kpF F k) (kpN F k) = 0 := by
  induction k with
  | zero => rfl
  | succ k ih =>
    by_cases h : appF (kpC F k) (F k).t = 0
    · rw [kpN_yes h, ckFa, ckFa_congr (kp_below h), if_pos ih, kpC_same h, kp_last h]
      exact h
    · rw [kpN_no h, kpF_no h]; exact ih
theorem kp_ok (F : Nat → Smp) (n : Nat) (hF : ∀ i, i < n → (F i).Ok) (k : Nat) (hk : k ≤ n) : ∀ i, i < kpN F k → (kpF F k i).Ok := by
  induction k with
  | zero => intro i hi; exact absurd hi (by show ¬ i < 0; omega)
  | succ k ih =>
    intro i hi
    by_cases h : appF (kpC F k) (F k).t = 0
    · rw [kpN_yes h] at hi
      rw [kpF_yes h]
      simp only
      split
      · exact hF k (by omega)
      · exact ih (by omega) i (by omega)
    · rw [kpN_no h] at hi
      rw [kpF_no h]
      exact ih (by omega) i hi
theorem kpC_ok (F : Nat → Smp) (n : Nat) (hF : ∀ i, i < n → (F i).Ok) (k : Nat) (hk : k ≤ n) : CkOk (kpC F k) := ckN_ok _ _ (kp_ok F n hF k hk) _ (Nat.le_refl _) (kp_fa F k)
theorem kpC_n (F : Nat → Smp) (k : Nat) : (kpC F k).n = kpN F k := ckN_n _ _
theorem kp_rflt (F : Nat → Smp) (n : Nat) (hF : ∀ i, i < n → (F i).Ok) (k : Nat) (hk : k ≤ n) (t : Int) : rflt (kpF F k) (kpN F k) t = appF (kpC F k) t := by
  have := (kpC_ok F n hF k hk).n
  rw [kpC_n] at this
  exact rflt_same _ _ this t

end Go.Proofs.YtdnllmibchmnnaaDoor
