/-
  The contracts of the document's Encode of windows.
-/
import Derived.Test.YtceidhjgdgnplaaEncw
import Derived.Test.YtceidhjgdgnplaaQui
import Derived.Deep.RegionWith
import Derived.Outline
namespace Go.Proofs.Ytceidhjgdgnplaa
set_option linter.unusedVariables false
set_option linter.unusedSimpArgs false
open Go.RowKit Go.BigFrame

set_option maxRecDepth 100000 in
set_option maxHeartbeats 2000000 in
theorem fault_any (A : Option Addr) (n cap : Nat) (F : Nat → Win) (k : Nat) (hk : k < n) (hn : n * 48 ≤ 140737488351232) (w : World) (hc : CellsAt w A n 6 (fun i j => (F i).cell j)) :
    Calls Try.prog 42 #[.slice A n cap, .int .i64 (k : Int)] w fun e w' => e = .returned (.int .i64 (faultAt F k)) ∧ Frm [] w w' := by
  obtain ⟨sb, off, rfl, hsb, c0, c1, c2, c3, c4, c5⟩ := cells6 hc hk
  have hft : faultAt F k = winFault (F k) (ahd F k) (decide (k = 0)) := rfl
  have hprev : 0 < k → (w.cell? ⟨sb, off + (k - 1) * 6, none⟩ = some (.int .i64 (ahd F k).st)) := by
    intro h0
    obtain ⟨sb', off', e, _, d0, _⟩ := cells6 hc (by omega : k - 1 < n)
    simp only [Option.some.injEq, Addr.mk.injEq, and_true] at e
    obtain ⟨rfl, rfl⟩ := e
    obtain ⟨m, rfl⟩ : ∃ m, k = m + 1 := ⟨k - 1, by omega⟩
    exact d0
  generalize F k = x at c0 c1 c2 c3 c4 c5 hft
  generalize ahd F k = y at hft hprev
  obtain ⟨st, ct, sm, mn, mx, la⟩ := x
  simp only at c0 c1 c2 c3 c4 c5
  have Hft := hide hft
  clear hft
  by_cases h1 : st < 0
  · have ht : faultAt F k = 91 := by rw [Hft.out]; unfold winFault; rw [if_pos (.inl h1)]
    rw [ht]
    clear ht hprev
    go_enter Try.func42, Try.ntmps42
    go_wp2
    go_ret
    exact ⟨rfl, (Frm.refl _ _).alloc _⟩
  · by_cases h2 : 1125899906842624 < st
    · have ht : faultAt F k = 91 := by rw [Hft.out]; unfold winFault; rw [if_pos (.inr h2)]
      rw [ht]
      clear ht hprev
      go_enter Try.func42, Try.ntmps42
      go_wp2
      go_ret
      exact ⟨rfl, (Frm.refl _ _).alloc _⟩
    · have hb : faultAt F k = if decide (k = 0) = false ∧ st ≤ y.st then 90 else if ct < 1 ∨ 4611686018427387904 < ct then 110 else 0 := by rw [Hft.out]; unfold winFault; rw [if_neg (by simp only; omega)]
      have Hb := hide hb
      clear hb Hft
      by_cases hk0 : k = 0
      · subst hk0
        simp only [Nat.zero_mul, Nat.add_zero] at c0 c1 c2 c3 c4 c5
        by_cases h5 : ct < 1 ∨ 4611686018427387904 < ct
        · have ht : faultAt F 0 = 110 := by rw [Hb.out, if_neg (by simp), if_pos h5]
          rw [ht]
          clear ht hprev
          rcases h5 with h5 | h5
          · go_enter Try.func42, Try.ntmps42
            go_wp2_with fail
            go_quiet (fail)
            go_wp2
            go_ret
            exact ⟨rfl, ((Frm.refl _ _).alloc _).drewN _⟩
          · go_enter Try.func42, Try.ntmps42
            go_wp2_with fail
            go_quiet (fail)
            go_wp2
            go_ret
            exact ⟨rfl, ((Frm.refl _ _).alloc _).drewN _⟩
        · have ht : faultAt F 0 = 0 := by rw [Hb.out, if_neg (by simp), if_neg h5]
          rw [ht]
          clear ht hprev
          have h6 : ¬ ct < 1 := fun h => h5 (.inl h)
          have h7 : ¬ 4611686018427387904 < ct := fun h => h5 (.inr h)
          clear h5
          go_enter Try.func42, Try.ntmps42
          go_wp2_with fail
          go_quiet (fail)
          go_wp2
          go_ret
          exact ⟨rfl, ((Frm.refl _ _).alloc _).drewN _⟩
      · obtain ⟨m, rfl⟩ : ∃ m, k = m + 1 := ⟨k - 1, by omega⟩
        have hpv := hprev (by omega)
        rw [Nat.add_sub_cancel] at hpv
        have hb' : ∀ z, faultAt F (m + 1) = z → (if decide (m + 1 = 0) = false ∧ st ≤ y.st then (90 : Int) else if ct < 1 ∨ 4611686018427387904 < ct then 110 else 0) = z := fun z hz => by rw [← hz, Hb.out]
        obtain ⟨T, hT⟩ : ∃ T, faultAt F (m + 1) = T := ⟨_, rfl⟩
        have hz := hb' T hT
        rw [hT]
        clear hprev hb' Hb hT
        have e1 : IntKind.i64.wrap ((m : Int) + 1 - 1) = (m : Int) := by rw [IntKind.wrap_i64]; omega
        have e2 : decide ((0 : Int) < (m : Int) + 1) = true := decide_eq_true (by omega)
        have e3 : (0 : Int) < (m : Int) + 1 := by omega
        have e4 : (0 : Int) ≤ (m : Int) := by omega
        have e5 : (m : Int) < (n : Int) := by omega
        generalize y.st = st2 at hpv hz
        rw [show (((m + 1 : Nat)) : Int) = (m : Int) + 1 from by omega]
        by_cases h3 : st ≤ st2
        · rw [if_pos ⟨by simp, h3⟩] at hz
          have Hz := hide hz
          clear hz
          go_enter Try.func42, Try.ntmps42
          go_wp2_with fail
          go_quiet (fail)
          go_wp2
          go_ret
          exact ⟨by rw [← Hz.out]; rfl, ((Frm.refl _ _).alloc _).drewN _⟩
        · rw [if_neg (by simp [h3])] at hz
          by_cases h5 : ct < 1
          · rw [if_pos (.inl h5)] at hz
            have Hz := hide hz
            clear hz
            go_enter Try.func42, Try.ntmps42
            go_wp2_with fail
            go_quiet (fail)
            go_wp2
            go_ret
            exact ⟨by rw [← Hz.out]; rfl, ((Frm.refl _ _).alloc _).drewN _⟩
          · by_cases h6 : 4611686018427387904 < ct
            · rw [if_pos (.inr h6)] at hz
              have Hz := hide hz
              clear hz
              go_enter Try.func42, Try.ntmps42
              go_wp2_with fail
              go_quiet (fail)
              go_wp2
              go_ret
              exact ⟨by rw [← Hz.out]; rfl, ((Frm.refl _ _).alloc _).drewN _⟩
            · rw [if_neg (by omega)] at hz
              have Hz := hide hz
              clear hz
              go_enter Try.func42, Try.ntmps42
              go_wp2_with fail
              go_quiet (fail)
              go_wp2
              go_ret
              exact ⟨by rw [← Hz.out]; rfl, ((Frm.refl _ _).alloc _).drewN _⟩

end Go.Proofs.Ytceidhjgdgnplaa
