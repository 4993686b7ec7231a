/-
  What is known of the reader's state behind every step.
  Conditions: none.
-/
import Derived.Test.YtdnllmibchmnnaaDoorRdd
import Derived.Test.YtdnllmibchmnnaaDoorRdb
namespace Go.Proofs.YtdnllmibchmnnaaDoor
set_option linter.unusedVariables false
set_option linter.unusedSimpArgs false
open Go.RowKit (wrap64)

theorem tk_same {L : List Bool} {k : Nat} {c c1 : Rs} {x : Nat} (h : tk L k c = .ok (x, c1)) : c1 = { c with p := c.p + k } ∧ x = numOf ((L.drop c.p).take k) ∧ c.p + k ≤ L.length := by
  unfold tk at h
  split at h
  · rename_i hp
    simp only [Except.ok.injEq, Prod.mk.injEq] at h
    exact ⟨h.2.symm, h.1.symm, hp⟩
  · cases h

theorem sgn_lim {w x : Nat} (hw : 0 < w) (h64 : w ≤ 64) (h : x < 2 ^ w) : -9223372036854775808 ≤ sgn w x ∧ sgn w x ≤ 9223372036854775807 := by
  obtain ⟨v, rfl⟩ : ∃ v, w = v + 1 := ⟨w - 1, by omega⟩
  have h1 : 2 ^ v ≤ 2 ^ 63 := Nat.pow_le_pow_right (by decide) (by omega)
  have h2 : (2 : Nat) ^ 63 = 9223372036854775808 := by decide
  have h3 : (2 : Nat) ^ (v + 1) = 2 ^ v * 2 := Nat.pow_succ ..
  have h4 : (2 : Int) ^ (v + 1) = (((2 : Nat) ^ (v + 1) : Nat) : Int) := by simp
  unfold sgn
  rw [h4, h3, Nat.add_sub_cancel]
  generalize 2 ^ v = y at *
  split <;> omega

theorem wdt_lim (m : Nat) : 0 < wdt m ∧ wdt m ≤ 64 := by
  unfold wdt
  repeat' split
  all_goals omega

theorem chgR_same {L : List Bool} {c c1 : Rs} {x : Int} (h : chgR L c = .ok (x, c1)) : (∃ q, c1 = { c with p := q }) ∧ -9223372036854775808 ≤ x ∧ x ≤ 9223372036854775807 := by
  unfold chgR at h
  cases hm : marks L 4 c.p with
  | none => rw [hm] at h; cases h
  | some r =>
    obtain ⟨m, q⟩ := r
    rw [hm] at h
    simp only at h
    split at h
    · simp only [Except.ok.injEq, Prod.mk.injEq] at h
      obtain ⟨rfl, rfl⟩ := h
      exact ⟨⟨q, rfl⟩, by decide, by decide⟩
    · cases ht : tk L (wdt m) { c with p := q } with
      | error e => rw [ht] at h; cases h
      | ok r =>
        obtain ⟨y, c2⟩ := r
        rw [ht] at h
        simp only [Except.ok.injEq, Prod.mk.injEq] at h
        obtain ⟨rfl, rfl⟩ := h
        obtain ⟨rfl, rfl, hp⟩ := tk_same ht
        obtain ⟨w1, w2⟩ := wdt_lim m
        exact ⟨⟨_, rfl⟩, sgn_lim w1 w2 (num_lt L _ _ w2)⟩

/-- What difR leaves as it was, and the window. -/
structure DifSame (c c1 : Rs) : Prop where
  n : c1.n = c.n
  t : c1.t = c.t
  v : c1.v = c.v
  step : c1.step = c.step
  l0 : 0 ≤ c1.lead
  l1 : c1.lead ≤ 63
  a0 : 0 ≤ c1.tail
  a1 : c1.tail ≤ 63
  win : c1.win = true → c1.lead + c1.tail ≤ 63

theorem bodyR_same {L : List Bool} {c c1 : Rs} {x : Nat} (h : bodyR L c = .ok (x, c1)) : (∃ q, c1 = { c with p := q }) ∧ x < 18446744073709551616 ∧ c.win = true ∧ 0 ≤ c.tail := by
  unfold bodyR at h
  split at h
  · rename_i hw
    cases ht : tk L (64 - c.lead - c.tail).toNat c with
    | error e => rw [ht] at h; cases h
    | ok r =>
      obtain ⟨y, c2⟩ := r
      rw [ht] at h
      simp only [Except.ok.injEq, Prod.mk.injEq] at h
      obtain ⟨rfl, rfl⟩ := h
      obtain ⟨rfl, _, _⟩ := tk_same ht
      exact ⟨⟨_, rfl⟩, Nat.mod_lt _ (by decide), hw⟩
  · cases h

theorem winR_same {L : List Bool} {c c1 : Rs} (h : winR L c = .ok c1) : ∃ (a k q : Nat), a < 32 ∧ k < 64 ∧ c1 = { c with p := q, lead := (a : Int), tail := 63 - (a : Int) - (k : Int), win := true } := by
  unfold winR at h
  cases h5 : tk L 5 c with
  | error e => rw [h5] at h; cases h
  | ok r =>
    obtain ⟨a, c2⟩ := r
    rw [h5] at h
    simp only at h
    obtain ⟨rfl, rfl, _⟩ := tk_same h5
    cases h6 : tk L 6 { c with p := c.p + 5 } with
    | error e => rw [h6] at h; cases h
    | ok r =>
      obtain ⟨k, c3⟩ := r
      rw [h6] at h
      simp only at h
      obtain ⟨rfl, rfl, _⟩ := tk_same h6
      simp only [Except.ok.injEq] at h
      subst h
      exact ⟨_, _, _, num_lt L _ 5 (by decide), num_lt L _ 6 (by decide), rfl⟩

theorem difR_same {L : List Bool} {c c1 : Rs} {x : Nat} (hk : RsOk c) (h : difR L c = .ok (x, c1)) : DifSame c c1 ∧ x < 18446744073709551616 := by
  unfold difR at h
  cases h1 : tk L 1 c with
  | error e => rw [h1] at h; cases h
  | ok r =>
    obtain ⟨b, c2⟩ := r
    rw [h1] at h
    simp only at h
    obtain ⟨rfl, _, _⟩ := tk_same h1
    split at h
    · simp only [Except.ok.injEq, Prod.mk.injEq] at h
      obtain ⟨rfl, rfl⟩ := h
      exact ⟨⟨rfl, rfl, rfl, rfl, hk.l0, hk.l1, hk.a0, hk.a1, hk.win⟩, by decide⟩
    · cases h2 : tk L 1 { c with p := c.p + 1 } with
      | error e => rw [h2] at h; cases h
      | ok r =>
        obtain ⟨b2, c3⟩ := r
        rw [h2] at h
        simp only at h
        obtain ⟨rfl, _, _⟩ := tk_same h2
        split at h
        · cases h3 : winR L { c with p := c.p + 1 + 1 } with
          | error e => rw [h3] at h; cases h
          | ok c4 =>
            rw [h3] at h
            simp only at h
            obtain ⟨a, k, q, ha, hkk, rfl⟩ := winR_same h3
            obtain ⟨⟨q2, rfl⟩, hx, _, ht⟩ := bodyR_same h
            simp only at ht
            exact ⟨⟨rfl, rfl, rfl, rfl, by simp only; omega, by simp only; omega, ht, by simp only; omega, fun _ => by simp only; omega⟩, hx⟩
        · obtain ⟨⟨q2, rfl⟩, hx, _, ht⟩ := bodyR_same h
          exact ⟨⟨rfl, rfl, rfl, rfl, hk.l0, hk.l1, hk.a0, hk.a1, hk.win⟩, hx⟩

theorem tmR_form {L : List Bool} {c c1 : Rs} {ch : Int} (hk : RsOk c) (h : tmR L ch c = .ok c1) : RsOk c1 ∧ c1.n = c.n + 1 ∧ c.t < c1.t := by
  unfold tmR at h
  simp only at h
  split at h
  · cases h
  · rename_i ht
    split at h
    · cases h
    · rename_i ho
      cases hd : difR L { c with step := wrap64 (c.step + ch) } with
      | error e => rw [hd] at h; cases h
      | ok r =>
        obtain ⟨x, c2⟩ := r
        rw [hd] at h
        simp only [Except.ok.injEq] at h
        have t0 := hk.t0
        have t1 := hk.t1
        have hst : 0 ≤ wrap64 (c.step + ch) ∧ wrap64 (c.step + ch) ≤ 1125899906842624 := by
          have hb : -9223372036854775808 ≤ wrap64 (c.step + ch) ∧ wrap64 (c.step + ch) ≤ 9223372036854775807 := by unfold wrap64; omega
          generalize wrap64 (c.step + ch) = st at *
          unfold wrap64 at ht ho
          omega
        have hk2 : RsOk { c with step := wrap64 (c.step + ch) } := ⟨hk.t0, hk.t1, hk.v, hst.1, hst.2, hk.l0, hk.l1, hk.a0, hk.a1, hk.win⟩
        obtain ⟨hs, hx⟩ := difR_same hk2 hd
        subst h
        refine ⟨⟨by simp only; omega, by simp only; omega, Nat.xor_lt_two_pow (n := 64) hk.v hx, ?_, ?_, hs.l0, hs.l1, hs.a0, hs.a1, hs.win⟩, rfl, by simp only; omega⟩
        · simp only; rw [hs.step]; exact hst.1
        · simp only; rw [hs.step]; exact hst.2

theorem smpR_form {L : List Bool} {c c1 : Rs} (hk : RsOk c) (h : smpR L c = .ok c1) : RsOk c1 ∧ c1.n = c.n + 1 ∧ (c.n ≠ 0 → c.t < c1.t) := by
  by_cases h0 : c.n = 0
  · rw [smpR_zero h0] at h
    unfold fstR at h
    cases h1 : tk L 64 c with
    | error e => rw [h1] at h; cases h
    | ok r =>
      obtain ⟨x, c2⟩ := r
      rw [h1] at h
      simp only at h
      split at h
      · cases h
      · rename_i ht
        obtain ⟨rfl, _, _⟩ := tk_same h1
        cases h2 : tk L 64 { c with p := c.p + 64 } with
        | error e => rw [h2] at h; cases h
        | ok r =>
          obtain ⟨v, c3⟩ := r
          rw [h2] at h
          simp only [Except.ok.injEq] at h
          obtain ⟨rfl, hv, _⟩ := tk_same h2
          subst h
          have hvl : v < 2 ^ 64 := by rw [hv]; exact num_lt L _ 64 (by decide)
          exact ⟨⟨by simp only; omega, by simp only; omega, hvl, hk.s0, hk.s1, hk.l0, hk.l1, hk.a0, hk.a1, hk.win⟩, by simp [h0], fun h => absurd h0 h⟩
  · rw [smpR_pos h0] at h
    cases h1 : chgR L c with
    | error e => rw [h1] at h; cases h
    | ok r =>
      obtain ⟨ch, c2⟩ := r
      rw [h1] at h
      simp only at h
      obtain ⟨⟨q, rfl⟩, _, _⟩ := chgR_same h1
      obtain ⟨h3, h4, h5⟩ := tmR_form (c := { c with p := q }) ⟨hk.t0, hk.t1, hk.v, hk.s0, hk.s1, hk.l0, hk.l1, hk.a0, hk.a1, hk.win⟩ h
      exact ⟨h3, h4, fun _ => h5⟩

theorem rs0_ok : RsOk rs0 := ⟨by decide, by decide, by decide, by decide, by decide, by decide, by decide, by decide, by decide, fun h => by cases h⟩
theorem rdS_form {L : List Bool} : ∀ (k : Nat) (c : Rs), rdS L k = .ok c → RsOk c ∧ c.n = k
  | 0, c, h => by
    simp only [rdS, Except.ok.injEq] at h
    subst h
    exact ⟨rs0_ok, rfl⟩
  | k + 1, c, h => by
    rw [rdS] at h
    cases h1 : rdS L k with
    | error e => rw [h1] at h; cases h
    | ok c1 =>
      rw [h1] at h
      obtain ⟨h2, h3⟩ := rdS_form k c1 h1
      obtain ⟨h4, h5, _⟩ := smpR_form h2 h
      exact ⟨h4, by rw [h5, h3]⟩

end Go.Proofs.YtdnllmibchmnnaaDoor
