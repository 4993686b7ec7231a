/-
  Plain words on the bytes of windows.
  Conditions: none.
-/
import Derived.Test.YtceidhjgdgnplaaWin
import Derived.Test.YtceidhjgdgnplaaUint
namespace Go.Proofs.Ytceidhjgdgnplaa
set_option linter.unusedVariables false
set_option linter.unusedSimpArgs false
open Go.RowKit

/-- The four fields of bits. -/
def Win.fld (x : Win) : Nat → Nat
  | 0 => x.sm
  | 1 => x.mn
  | 2 => x.mx
  | _ => x.la
/-- What is written of the first k of them. -/
def xors (x y : Win) : Nat → List Nat
  | 0 => []
  | k + 1 => xors x y k ++ uintB (x.fld k ^^^ y.fld k)
/-- What is written of a window behind another. -/
def winB (x y : Win) : List Nat := uintB (x.st - y.st).toNat ++ uintB x.ct.toNat ++ xors x y 4
/-- The window ahead of number k. -/
def ahd (F : Nat → Win) : Nat → Win
  | 0 => win0
  | k + 1 => F k
/-- What is written of the first k of n windows. -/
def encAll (F : Nat → Win) (n : Nat) : Nat → List Nat
  | 0 => uintB n
  | k + 1 => encAll F n k ++ winB (F k) (ahd F k)
def faultAt (F : Nat → Win) (k : Nat) : Int := winFault (F k) (ahd F k) (decide (k = 0))
/-- The first fault of the first k windows. -/
def ffault (F : Nat → Win) : Nat → Int
  | 0 => 0
  | k + 1 => if ffault F k = 0 then faultAt F k else ffault F k

theorem ffault_stays (F : Nat → Win) (k : Nat) (h : ffault F k ≠ 0) : ∀ m, k ≤ m → ffault F m = ffault F k := by
  intro m hm
  induction m with
  | zero => obtain rfl : k = 0 := by omega
            rfl
  | succ m ih =>
    by_cases hk : k = m + 1
    · rw [hk]
    · have := ih (by omega)
      simp only [ffault]
      rw [if_neg (by rw [this]; exact h), this]
theorem xors_length (x y : Win) (k : Nat) : (xors x y k).length ≤ 10 * k := by
  induction k with
  | zero => simp [xors]
  | succ k ih =>
    have := uintB_le (x.fld k ^^^ y.fld k)
    simp only [xors, List.length_append]
    omega
theorem winB_length (x y : Win) : (winB x y).length ≤ 60 := by
  have h1 := uintB_le (x.st - y.st).toNat
  have h2 := uintB_le x.ct.toNat
  have h3 := xors_length x y 4
  unfold winB
  simp only [List.length_append]
  omega
theorem encAll_length (F : Nat → Win) (n k : Nat) : (encAll F n k).length ≤ 10 + 60 * k := by
  induction k with
  | zero => have := uintB_le n; simpa [encAll] using this
  | succ k ih =>
    have := winB_length (F k) (ahd F k)
    simp only [encAll, List.length_append]
    omega
theorem encAll_pos (F : Nat → Win) (n k : Nat) : 0 < (encAll F n k).length := by
  induction k with
  | zero => exact uintB_pos n
  | succ k ih => simp only [encAll, List.length_append]; omega
theorem xors_byte (x y : Win) (k : Nat) : ∀ z ∈ xors x y k, z < 256 := by
  induction k with
  | zero => intro z hz; cases hz
  | succ k ih =>
    intro z hz
    rcases List.mem_append.1 hz with hz | hz
    · exact ih z hz
    · exact uintB_lt _ z hz
theorem winB_byte (x y : Win) : ∀ z ∈ winB x y, z < 256 := by
  intro z hz
  rcases List.mem_append.1 hz with hz | hz
  · rcases List.mem_append.1 hz with hz | hz
    · exact uintB_lt _ z hz
    · exact uintB_lt _ z hz
  · exact xors_byte x y 4 z hz
theorem encAll_byte (F : Nat → Win) (n k : Nat) : ∀ z ∈ encAll F n k, z < 256 := by
  induction k with
  | zero => exact uintB_lt n
  | succ k ih =>
    intro z hz
    rcases List.mem_append.1 hz with hz | hz
    · exact ih z hz
    · exact winB_byte _ _ z hz
theorem winFault_zero {x y : Win} {fi : Bool} (h : winFault x y fi = 0) : 0 ≤ x.st ∧ x.st ≤ 1125899906842624 ∧ (fi = false → y.st < x.st) ∧ 1 ≤ x.ct ∧ x.ct ≤ 4611686018427387904 := by
  unfold winFault at h
  split at h
  · exact absurd h (by decide)
  · split at h
    · exact absurd h (by decide)
    · split at h
      · exact absurd h (by decide)
      · rename_i h1 h2 h3
        refine ⟨by omega, by omega, fun hf => ?_, by omega, by omega⟩
        have : ¬ x.st ≤ y.st := fun h => h2 ⟨hf, h⟩
        omega

/-- What Encode tells of n windows. -/
def tellW (F : Nat → Win) (n : Nat) : Value := if ffault F n = 0 then .tuple #[.string (bstr (encAll F n n)), .int .i64 0] else .tuple #[.string (bstr []), .int .i64 (ffault F n)]

end Go.Proofs.Ytceidhjgdgnplaa
