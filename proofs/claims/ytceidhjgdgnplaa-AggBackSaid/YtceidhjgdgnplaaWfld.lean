/-
  An argument of the laws of layer 11: a slice of windows.
-/
import Derived.Test.YtceidhjgdgnplaaWin
import Derived.Test.YtceidhjgdgnplaaFrame
import Derived.SizedLaws
namespace Go.Proofs.Ytceidhjgdgnplaa
set_option linter.unusedVariables false
set_option linter.unusedSimpArgs false
open Go.ChangeShapes Go.WideShapes Go.ChangeAt Go.RowKit

theorem Try.bytesWin : Try.prog.bytesOf 62 = 48 := by kernel_rfl

theorem open_wins {H : Type} {enc : TypeId × Value → H} {w : World} {b0 : Nat} {v : Value} {d : DataW H} {p : List MemPlace}
    (hv : Value.okWide Try.prog w .any b0 48 v) (h : DataW.Trod enc Try.prog w 0 (fun _ => true) true 48 v d p) :
    ∃ (A : Option Addr) (n cap : Nat) (F : Nat → Win), v = .slice A n cap ∧ CellsAt w A n 6 (fun i j => (F i).cell j) ∧ (∀ i, i < n → (F i).Ok) ∧ (n = 0 ∨ ∃ elems sp, d = .slice elems sp ∧ elems.length = n) := by
  obtain ⟨A, n, cap, f, rfl, hc, hwf, hd⟩ := open_int_structs (ks := fun j => if j < 2 then .i64 else .u64) Try.underlying48 Try.underlying62 (by kernel_rfl) (by kernel_rfl)
    (fun j f hj => by
      match j, hj with
      | 0, hj => cases hj; exact Try.underlying2
      | 1, hj => cases hj; exact Try.underlying3
      | 2, hj => cases hj; exact Try.underlying27
      | 3, hj => cases hj; exact Try.underlying27
      | 4, hj => cases hj; exact Try.underlying27
      | 5, hj => cases hj; exact Try.underlying27
      | j + 6, hj => simp at hj) (by decide) hv h
  have hu : ∀ i j, i < n → 2 ≤ j → j < 6 → 0 ≤ f i j ∧ f i j ≤ 18446744073709551615 := by
    intro i j hi h2 h6
    have h0 := hwf i j hi (by simpa using h6)
    have a0 : IntKind.u64.min = 0 := rfl
    have a1 : IntKind.u64.max = 18446744073709551615 := rfl
    rw [if_neg (by omega)] at h0
    simpa only [Lit.wf, Bool.and_eq_true, decide_eq_true_eq, a0, a1] using h0
  have hs : ∀ i j, i < n → j < 2 → -9223372036854775808 ≤ f i j ∧ f i j ≤ 9223372036854775807 := by
    intro i j hi h2
    have h0 := hwf i j hi (by show j < 6; omega)
    have a2 : IntKind.i64.min = -9223372036854775808 := rfl
    have a3 : IntKind.i64.max = 9223372036854775807 := rfl
    rw [if_pos h2] at h0
    simpa only [Lit.wf, Bool.and_eq_true, decide_eq_true_eq, a2, a3] using h0
  refine ⟨A, n, cap, fun i => ⟨f i 0, f i 1, (f i 2).toNat, (f i 3).toNat, (f i 4).toNat, (f i 5).toNat⟩, rfl, ?_, ?_, ?_⟩
  · intro hn
    obtain ⟨b, off, hA, hb, hcell⟩ := hc hn
    refine ⟨b, off, hA, hb, fun i j hi hj => ?_⟩
    have h0 := hcell i j hi (by simpa using hj)
    rw [show b = b from rfl] at h0
    have h0' : w.cell? ⟨b, off + (i * 6 + j), none⟩ = some (.int (if j < 2 then .i64 else .u64) (f i j)) := h0
    rw [h0']
    obtain rfl | rfl | rfl | rfl | rfl | rfl : j = 0 ∨ j = 1 ∨ j = 2 ∨ j = 3 ∨ j = 4 ∨ j = 5 := by omega
    · rfl
    · rfl
    · have := hu i 2 hi (by decide) (by decide)
      simp only [Win.cell]
      rw [if_neg (by decide), show ((f i 2).toNat : Int) = f i 2 from by omega]
    · have := hu i 3 hi (by decide) (by decide)
      simp only [Win.cell]
      rw [if_neg (by decide), show ((f i 3).toNat : Int) = f i 3 from by omega]
    · have := hu i 4 hi (by decide) (by decide)
      simp only [Win.cell]
      rw [if_neg (by decide), show ((f i 4).toNat : Int) = f i 4 from by omega]
    · have := hu i 5 hi (by decide) (by decide)
      simp only [Win.cell]
      rw [if_neg (by decide), show ((f i 5).toNat : Int) = f i 5 from by omega]
  · intro i hi
    have h0 := hs i 0 hi (by decide)
    have h1 := hs i 1 hi (by decide)
    have h2 := hu i 2 hi (by decide) (by decide)
    have h3 := hu i 3 hi (by decide) (by decide)
    have h4 := hu i 4 hi (by decide) (by decide)
    have h5 := hu i 5 hi (by decide) (by decide)
    exact ⟨h0.1, h0.2, h1.1, h1.2, by simp only; omega, by simp only; omega, by simp only; omega, by simp only; omega⟩
  · rcases hd with h | ⟨elems, sp, h1, h2, _⟩
    · exact .inl h
    · exact .inr ⟨elems, sp, h1, h2⟩

/-- The form's own reach. -/
theorem wins_reach {H : Type} {ts : List TypeId} {ds : List (DataW H)} (h : (DataW.weightsEach Try.prog ts ds).all (· ≤ reachBytes) = true) {j : Nat} {d : DataW H} {n : Nat} (ht : ts[j]? = some 48) (hd : ds[j]? = some d)
    (hn : n = 0 ∨ ∃ elems sp, d = .slice elems sp ∧ elems.length = n) : n * 48 ≤ 140737488351232 := by
  rcases hn with rfl | ⟨elems, sp, rfl, rfl⟩
  · omega
  · have := sized_slice h ht hd Try.underlying48
    rw [Try.bytesWin] at this
    simp only [reachBytes] at this
    omega

end Go.Proofs.Ytceidhjgdgnplaa
