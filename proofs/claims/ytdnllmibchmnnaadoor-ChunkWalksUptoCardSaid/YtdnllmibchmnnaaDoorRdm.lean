/-
  Plain words on reading a whole chunk: how many samples come, and that they are such as a chunk takes.
  Conditions: none.
-/
import Derived.Test.YtdnllmibchmnnaaDoorRdk
import Derived.Test.YtdnllmibchmnnaaDoorVarw
import Derived.Test.YtdnllmibchmnnaaDoorRfa
namespace Go.Proofs.YtdnllmibchmnnaaDoor
set_option linter.unusedVariables false
set_option linter.unusedSimpArgs false
open Go.RowKit (wrap64)

theorem tk_err {L : List Bool} {k : Nat} {c : Rs} {e : Int} (h : tk L k c = .error e) : e = 20 := by
  unfold tk at h
  split at h
  · cases h
  · simp only [Except.error.injEq] at h
    exact h.symm
theorem chgR_err {L : List Bool} {c : Rs} {e : Int} (h : chgR L c = .error e) : e = 20 := by
  unfold chgR at h
  split at h
  · simp only [Except.error.injEq] at h
    exact h.symm
  · rename_i m q _
    split at h
    · cases h
    · cases ht : tk L (wdt m) { c with p := q } with
      | error e1 =>
        rw [ht] at h
        simp only [Except.error.injEq] at h
        rw [← h]
        exact tk_err ht
      | ok r => rw [ht] at h; cases h
theorem bodyR_err {L : List Bool} {c : Rs} {e : Int} (h : bodyR L c = .error e) : e = 20 ∨ e = 21 := by
  unfold bodyR at h
  split at h
  · cases ht : tk L (64 - c.lead - c.tail).toNat c with
    | error e1 =>
      rw [ht] at h
      simp only [Except.error.injEq] at h
      rw [← h]
      exact .inl (tk_err ht)
    | ok r => rw [ht] at h; cases h
  · simp only [Except.error.injEq] at h
    exact .inr h.symm
theorem winR_err {L : List Bool} {c : Rs} {e : Int} (h : winR L c = .error e) : e = 20 := by
  unfold winR at h
  cases ht : tk L 5 c with
  | error e1 =>
    rw [ht] at h
    simp only [Except.error.injEq] at h
    rw [← h]
    exact tk_err ht
  | ok r =>
    rw [ht] at h
    simp only at h
    cases ht2 : tk L 6 r.2 with
    | error e1 =>
      rw [ht2] at h
      simp only [Except.error.injEq] at h
      rw [← h]
      exact tk_err ht2
    | ok r2 => rw [ht2] at h; cases h
theorem difR_err {L : List Bool} {c : Rs} {e : Int} (h : difR L c = .error e) : e = 20 ∨ e = 21 := by
  unfold difR at h
  cases h1 : tk L 1 c with
  | error e1 =>
    rw [h1] at h
    simp only [Except.error.injEq] at h
    rw [← h]
    exact .inl (tk_err h1)
  | ok r =>
    rw [h1] at h
    simp only at h
    split at h
    · cases h
    · cases h2 : tk L 1 r.2 with
      | error e1 =>
        rw [h2] at h
        simp only [Except.error.injEq] at h
        rw [← h]
        exact .inl (tk_err h2)
      | ok r2 =>
        rw [h2] at h
        simp only at h
        split at h
        · cases h3 : winR L r2.2 with
          | error e1 =>
            rw [h3] at h
            simp only [Except.error.injEq] at h
            rw [← h]
            exact .inl (winR_err h3)
          | ok r3 =>
            rw [h3] at h
            exact bodyR_err h
        · exact bodyR_err h
theorem smpR_err {L : List Bool} {c : Rs} {e : Int} (h : smpR L c = .error e) : e = 20 ∨ e = 21 ∨ e = 90 ∨ e = 91 := by
  by_cases h0 : c.n = 0
  · rw [smpR_zero h0] at h
    unfold fstR at h
    cases h1 : tk L 64 c with
    | error e1 =>
      rw [h1] at h
      simp only [Except.error.injEq] at h
      rw [← h]
      exact .inl (tk_err h1)
    | ok r =>
      rw [h1] at h
      simp only at h
      split at h
      · simp only [Except.error.injEq] at h
        exact .inr (.inr (.inr h.symm))
      · cases h2 : tk L 64 r.2 with
        | error e1 =>
          rw [h2] at h
          simp only [Except.error.injEq] at h
          rw [← h]
          exact .inl (tk_err h2)
        | ok r2 => rw [h2] at h; cases h
  · rw [smpR_pos h0] at h
    cases h1 : chgR L c with
    | error e1 =>
      rw [h1] at h
      simp only [Except.error.injEq] at h
      rw [← h]
      exact .inl (chgR_err h1)
    | ok r =>
      rw [h1] at h
      simp only at h
      unfold tmR at h
      simp only at h
      split at h
      · simp only [Except.error.injEq] at h
        exact .inr (.inr (.inr h.symm))
      · split at h
        · simp only [Except.error.injEq] at h
          exact .inr (.inr (.inl h.symm))
        · cases h2 : difR L { r.2 with step := wrap64 (r.2.step + r.1) } with
          | error e1 =>
            rw [h2] at h
            simp only [Except.error.injEq] at h
            rw [← h]
            rcases difR_err h2 with h | h
            · exact .inl h
            · exact .inr (.inl h)
          | ok r2 => rw [h2] at h; cases h

theorem rdS_ok {L : List Bool} {k : Nat} {c c1 : Rs} (h : rdS L k = .ok c) (h1 : smpR L c = .ok c1) : rdS L (k + 1) = .ok c1 := by
  rw [rdS, h]; exact h1
theorem rdS_err {L : List Bool} {k : Nat} {c : Rs} {e : Int} (h : rdS L k = .ok c) (h1 : smpR L c = .error e) : rdS L (k + 1) = .error e := by
  rw [rdS, h]; exact h1
theorem rdS_le {L : List Bool} {m : Nat} {c : Rs} (h : rdS L m = .ok c) : ∀ k, k ≤ m → ∃ c1, rdS L k = .ok c1 := by
  induction m generalizing c with
  | zero => intro k hk; obtain rfl : k = 0 := by omega
            exact ⟨c, h⟩
  | succ m ih =>
    intro k hk
    by_cases e : k = m + 1
    · subst e; exact ⟨c, h⟩
    · rw [rdS] at h
      cases h1 : rdS L m with
      | error e => rw [h1] at h; cases h
      | ok c1 => exact ih h1 k (by omega)
theorem rdE_ok {L : List Bool} : ∀ {k : Nat} {c : Rs}, rdS L k = .ok c → rdE L k = (k, 0)
  | 0, _, _ => rfl
  | k + 1, c, h => by
    obtain ⟨c1, h1⟩ := rdS_le h k (by omega)
    rw [rdE, rdE_ok h1, if_pos rfl, h]
theorem rdE_err {L : List Bool} {k : Nat} {c : Rs} {e : Int} (h : rdS L k = .ok c) (he : rdS L (k + 1) = .error e) (h0 : e ≠ 0) : ∀ n, k < n → rdE L n = (k, e) := by
  intro n hn
  induction n with
  | zero => omega
  | succ n ih =>
    by_cases hk : n = k
    · subst hk
      rw [rdE, rdE_ok h, if_pos rfl, he]
    · rw [rdE, ih (by omega), if_neg h0]
theorem rdF_ok {L : List Bool} {k : Nat} {c : Rs} (h : rdS L (k + 1) = .ok c) : rdF L k = ⟨c.t, c.v⟩ := by
  unfold rdF; rw [h]
/-- How many samples come are all good. -/
theorem rdE_form {L : List Bool} : ∀ (n : Nat), ∃ c, rdS L (rdE L n).1 = .ok c ∧ (rdE L n).1 ≤ n ∧ ((rdE L n).2 = 0 → (rdE L n).1 = n)
  | 0 => ⟨rs0, rfl, Nat.le_refl _, fun _ => rfl⟩
  | n + 1 => by
    obtain ⟨c, h1, h2, h3⟩ := rdE_form n
    rw [rdE]
    split
    · rename_i h0
      have h4 := h3 h0
      rw [h4] at h1
      cases hs : rdS L (n + 1) with
      | error e =>
        refine ⟨c, h1, by simp, fun he => ?_⟩
        have hsm : smpR L c = .error e := by rw [rdS, h1] at hs; exact hs
        have he2 : e = 0 := he
        rcases smpR_err hsm with h | h | h | h <;> omega
      | ok c1 => exact ⟨c1, hs, Nat.le_refl _, fun _ => rfl⟩
    · rename_i h0
      exact ⟨c, h1, by omega, fun h => absurd h h0⟩

theorem rd_smp {L : List Bool} {n : Nat} {c : Rs} (h : rdS L n = .ok c) (i : Nat) (hi : i < n) : 0 ≤ (rdF L i).t ∧ (rdF L i).t ≤ 1125899906842624 ∧ (rdF L i).v < 18446744073709551616 := by
  obtain ⟨c1, h1⟩ := rdS_le h (i + 1) (by omega)
  obtain ⟨hk, _⟩ := rdS_form _ _ h1
  rw [rdF_ok h1]
  exact ⟨hk.t0, hk.t1, hk.v⟩
theorem rd_ok {L : List Bool} {n : Nat} {c : Rs} (h : rdS L n = .ok c) : ∀ i, i < n → (rdF L i).Ok := by
  intro i hi
  obtain ⟨h1, h2, h3⟩ := rd_smp h i hi
  exact ⟨by omega, by omega, h3⟩
theorem rd_rise {L : List Bool} {n : Nat} {c : Rs} (h : rdS L n = .ok c) (i : Nat) (hi : i + 1 < n) : (rdF L i).t < (rdF L (i + 1)).t := by
  obtain ⟨c1, h1⟩ := rdS_le h (i + 1) (by omega)
  obtain ⟨c2, h2⟩ := rdS_le h (i + 1 + 1) (by omega)
  obtain ⟨hk, hn⟩ := rdS_form _ _ h1
  have hs : smpR L c1 = .ok c2 := by rw [rdS, h1] at h2; exact h2
  obtain ⟨_, _, h3⟩ := smpR_form hk hs
  rw [rdF_ok h1, rdF_ok h2]
  exact h3 (by rw [hn]; omega)
/-- Samples that were read are such as a chunk takes. -/
theorem rd_fa {L : List Bool} {n : Nat} {c : Rs} (hn : n ≤ 120) (h : rdS L n = .ok c) : ∀ k, k ≤ n → ckFa (rdF L) k = 0 := by
  intro k hk
  induction k with
  | zero => rfl
  | succ k ih =>
    have h0 := ih (by omega)
    rw [ckFa, if_pos h0]
    obtain ⟨h1, h2, _⟩ := rd_smp h k (by omega)
    unfold appF
    rw [if_neg (by omega), ckN_n]
    cases k with
    | zero => simp
    | succ j =>
      have h3 := rd_rise h j (by omega)
      rw [ckN_t, if_neg (by omega), if_neg (by omega)]

/-- How many samples these bytes hold ahead of the first fault, and its error. -/
def rdM (l : List Nat) : Nat × Int := if (readU l 0).2.2 ≠ 0 then (0, ((readU l 0).2.2 : Int)) else if 120 < (readU l 0).1 then (0, 92) else rdE (unpack (l.drop (readU l 0).2.1)) (readU l 0).1
/-- The bits behind the number. -/
def rdL (l : List Nat) : List Bool := unpack (l.drop (readU l 0).2.1)
theorem rdM_form (l : List Nat) : ∃ c, rdS (rdL l) (rdM l).1 = .ok c ∧ (rdM l).1 ≤ 120 ∧ ((rdM l).2 = 0 → (readU l 0).2.2 = 0 ∧ (rdM l).1 = (readU l 0).1) := by
  unfold rdM rdL
  split
  · rename_i h
    exact ⟨rs0, rfl, by simp, fun h0 => by simp only at h0; omega⟩
  · rename_i h
    split
    · exact ⟨rs0, rfl, by simp, fun h0 => by simp at h0⟩
    · rename_i h2
      obtain ⟨c, h3, h4, h5⟩ := rdE_form (L := unpack (l.drop (readU l 0).2.1)) (readU l 0).1
      exact ⟨c, h3, by omega, fun h0 => ⟨by omega, h5 h0⟩⟩

end Go.Proofs.YtdnllmibchmnnaaDoor
