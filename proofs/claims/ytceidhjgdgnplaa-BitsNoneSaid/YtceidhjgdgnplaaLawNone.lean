/-
  BitsNone's walk: a nil writer writes nothing, a nil reader has nothing.
-/
import Derived.Test.YtceidhjgdgnplaaFields
namespace Go.Proofs.Ytceidhjgdgnplaa
open Go.RowKit

set_option maxRecDepth 100000 in
set_option maxHeartbeats 1000000 in
theorem none_walk (A : Option Addr) (n cap : Nat) (V : Nat → Nat) (N : Nat → Int) (hn : n ≤ 140737488355328) (w : World) (hc : FieldsAt w A n V N) :
    Calls Try.prog 5 #[.slice A n cap] w fun e w' => e = .returned (.bool true) ∧ Frm [] w w' := by
  go_enter Try.func5, Try.ntmps5
  go_wp2
  go_loopw [11] (fun i wr => ∃ k : Nat, k ≤ n ∧ i = .int .i64 k ∧ Frm [] w wr) (fun i _ => n - (intOf i).toNat)
  case atStart => exact ⟨0, by omega, rfl, Frm.refl _ _⟩
  case round =>
    obtain ⟨k, hk, rfl, hf⟩ := hrel
    by_cases hlt : k < n
    · obtain ⟨b, off, rfl, hb, c0, c1⟩ := cells2 (hc.1.frm hf) hlt
      simp only [↓reduceIte, Nat.one_ne_zero] at c0 c1
      go_wp2_with (first | (go_at_call 13; refine (put_nil _ _ _).mono ?_; rintro e w1 ⟨rfl, rfl⟩) | (go_at_call 19; refine (take_nil _ _).mono ?_; rintro e w1 ⟨rfl, rfl⟩))
      go_roundw
      case measure => simp [intOf]; omega
      case rel => exact ⟨k + 1, by omega, by go_num, hf.alloc _⟩
    · have hnil : (bstr []).toList = [] := by decide +kernel
      go_wp2_with (first | (go_at_call 18; refine (waka_any _).mono ?_; rintro e w1 ⟨rfl, hf1⟩) | (go_at_call 15; refine (wlen_nil _).mono ?_; rintro e w' ⟨rfl, rfl⟩) | (go_at_call 16; refine (wbytes_nil _).mono ?_; rintro e w' ⟨rfl, rfl⟩) | (go_at_call 20; refine (left_nil _).mono ?_; rintro e w' ⟨rfl, rfl⟩))
      go_ret
      exact ⟨rfl, hf.trans hf1 (by simp)⟩

end Go.Proofs.Ytceidhjgdgnplaa
