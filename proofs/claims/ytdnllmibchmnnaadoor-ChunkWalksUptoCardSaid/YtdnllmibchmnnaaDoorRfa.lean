/-
  The contract of the document's Fault.
-/
import Derived.Test.YtdnllmibchmnnaaDoorCen
import Derived.Test.YtdnllmibchmnnaaDoorRchg
namespace Go.Proofs.YtdnllmibchmnnaaDoor
set_option linter.unusedVariables false
set_option linter.unusedSimpArgs false
open Go.RowKit Go.BigFrame

/-- The document's error of appending at t behind n samples. -/
def rflt (F : Nat → Smp) (n : Nat) (t : Int) : Int :=
  if t < 0 ∨ 1125899906842624 < t then 91 else if 0 < n ∧ t ≤ (F (n - 1)).t then 90 else if 120 ≤ n then 92 else 0

theorem dif_t (x : Nat) (c : Ck) : (dif x c).t = c.t := (dif_same x c).2.1
theorem ckN_t (F : Nat → Smp) (k : Nat) : (ckN F (k + 1)).t = (F k).t := by
  rw [ckN]
  unfold appS
  split <;> rfl
theorem ckN_v (F : Nat → Smp) (k : Nat) : (ckN F (k + 1)).v = (F k).v := by
  rw [ckN]
  unfold appS
  split <;> rfl
theorem rflt_same (F : Nat → Smp) (n : Nat) (hn : n ≤ 120) (t : Int) : rflt F n t = appF (ckN F n) t := by
  unfold rflt appF
  rw [ckN_n]
  cases n with
  | zero => simp
  | succ k =>
    rw [ckN_t]
    simp only [Nat.add_sub_cancel]
    have : (120 ≤ k + 1) = (k + 1 = 120) := by apply propext; omega
    simp only [this]

set_option maxRecDepth 100000 in
set_option maxHeartbeats 1500000 in
theorem rfault_any (A : Option Addr) (n cap : Nat) (F : Nat → Smp) (hn : n * 16 ≤ 140737488351232) (t : Int) (x : Nat) (w : World) (hc : CellsAt w A n 2 (fun i j => (F i).cell j)) :
    Calls Tryd.prog 16 #[.slice A n cap, .agg #[.int .i64 t, .int .u64 (x : Int)]] w fun e w' => e = .returned (.int .i64 (rflt F n t)) ∧ Frm [] w w' := by
  have hfa : Frm [] w (w.alloc (.cells #[.int .i64 t, .int .u64 (x : Int)] 45)) := (Frm.refl _ _).alloc _
  by_cases h1 : t < 0
  · have ht : rflt F n t = 91 := by unfold rflt; rw [if_pos (.inl h1)]
    rw [ht]
    go_enter Tryd.func16, Tryd.ntmps16
    go_wp2_with fail
    go_ret
    exact ⟨rfl, hfa⟩
  · by_cases h2 : 1125899906842624 < t
    · have ht : rflt F n t = 91 := by unfold rflt; rw [if_pos (.inr h2)]
      rw [ht]
      go_enter Tryd.func16, Tryd.ntmps16
      go_wp2_with fail
      go_ret
      exact ⟨rfl, hfa⟩
    · by_cases h3 : n = 0
      · subst h3
        have ht : rflt F 0 t = 0 := by unfold rflt; rw [if_neg (by omega), if_neg (by omega), if_neg (by omega)]
        rw [ht]
        go_enter Tryd.func16, Tryd.ntmps16
        go_wp2_with fail
        go_quiet (fail)
        go_wp2_with fail
        go_ret
        exact ⟨rfl, hfa.drewN _⟩
      · obtain ⟨sb, off, rfl, hsb, c0, c1⟩ := smp_at (hc.frm hfa) (show n - 1 < n from by omega)
        obtain ⟨m, hm⟩ : ∃ m, n = m + 1 := ⟨n - 1, by omega⟩
        subst hm
        simp only [Nat.add_sub_cancel] at c0 c1
        have ht : rflt F (m + 1) t = if t ≤ (F m).t then 90 else if 120 ≤ m + 1 then 92 else 0 := by unfold rflt; rw [if_neg (by omega)]; simp
        obtain ⟨y, hy⟩ : ∃ y, (F m).t = y := ⟨_, rfl⟩
        rw [hy] at ht c0
        rw [ht]
        have e1 : (((m + 1 : Nat) : Int) - 1) = (m : Int) := by omega
        have g1 : (0 : Int) < ((m + 1 : Nat) : Int) := by omega
        clear h3 ht hy
        by_cases h4 : t ≤ y
        · rw [if_pos h4]
          go_enter Tryd.func16, Tryd.ntmps16
          go_wp2_with fail
          go_quiet (fail)
          go_wp2_with fail
          go_ret
          exact ⟨rfl, hfa.drewN _⟩
        · rw [if_neg h4]
          by_cases h5 : 120 ≤ m + 1
          · rw [if_pos h5]
            have h6 : (120 : Int) ≤ (m : Int) + 1 := by omega
            go_enter Tryd.func16, Tryd.ntmps16
            go_wp2_with fail
            go_quiet (fail)
            go_wp2_with fail
            go_ret
            exact ⟨rfl, hfa.drewN _⟩
          · rw [if_neg h5]
            have h6 : ¬ (120 : Int) ≤ (m : Int) + 1 := by omega
            go_enter Tryd.func16, Tryd.ntmps16
            go_wp2_with fail
            go_quiet (fail)
            go_wp2_with fail
            go_ret
            exact ⟨rfl, hfa.drewN _⟩

end Go.Proofs.YtdnllmibchmnnaaDoor
