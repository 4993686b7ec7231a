/-
  Rows of windows that are written: a window stored at a place, a row cut short, what is cleared behind it; the windows that a test keeps.
  Conditions: none.
-/
import Derived.Test.YtceidhjgdgnplaaWrow
import Derived.Lib.SliceRun
namespace Go.Proofs.Ytceidhjgdgnplaa
set_option linter.unusedVariables false
set_option linter.unusedSimpArgs false
open Go.RowKit

/-- The windows with X at the place k. -/
def atW (F : Nat → Win) (k : Nat) (X : Win) : Nat → Win := fun i => if i = k then X else F i
theorem atW_same (F : Nat → Win) (k : Nat) (X : Win) : atW F k X k = X := by simp [atW]
theorem atW_other (F : Nat → Win) (k : Nat) (X : Win) (i : Nat) (h : i ≠ k) : atW F k X i = F i := by simp [atW, h]

theorem winC_set (F : Nat → Win) (n k : Nat) (X : Win) (hk : k < n) :
    ((((((winC F n).set (k * 6) (.int .i64 X.st)).set (k * 6 + 1) (.int .i64 X.ct)).set (k * 6 + 2) (.int .u64 (X.sm : Int))).set (k * 6 + 3) (.int .u64 (X.mn : Int))).set (k * 6 + 4) (.int .u64 (X.mx : Int))).set (k * 6 + 5) (.int .u64 (X.la : Int)) = winC (atW F k X) n := by
  apply List.ext_getElem?
  intro p
  by_cases hp : p < n * 6
  · obtain ⟨i, j, rfl, hj⟩ : ∃ i j, p = i * 6 + j ∧ j < 6 := ⟨p / 6, p % 6, by omega, Nat.mod_lt _ (by decide)⟩
    have hi : i < n := by omega
    rw [winC_get _ _ _ _ hi hj]
    simp only [List.getElem?_set, List.length_set, winC_length]
    by_cases hik : i = k
    · subst hik
      rw [atW_same]
      obtain rfl | rfl | rfl | rfl | rfl | rfl : j = 0 ∨ j = 1 ∨ j = 2 ∨ j = 3 ∨ j = 4 ∨ j = 5 := by omega
      · rw [if_neg (by omega), if_neg (by omega), if_neg (by omega), if_neg (by omega), if_neg (by omega), if_pos (by omega), if_pos (by omega)]; rfl
      · rw [if_neg (by omega), if_neg (by omega), if_neg (by omega), if_neg (by omega), if_pos (by omega), if_pos (by omega)]; rfl
      · rw [if_neg (by omega), if_neg (by omega), if_neg (by omega), if_pos (by omega), if_pos (by omega)]; rfl
      · rw [if_neg (by omega), if_neg (by omega), if_pos (by omega), if_pos (by omega)]; rfl
      · rw [if_neg (by omega), if_pos (by omega), if_pos (by omega)]; rfl
      · rw [if_pos (by omega), if_pos (by omega)]; rfl
    · rw [if_neg (by omega), if_neg (by omega), if_neg (by omega), if_neg (by omega), if_neg (by omega), if_neg (by omega), winC_get _ _ _ _ hi hj, atW_other _ _ _ _ hik]
  · rw [List.getElem?_eq_none (by simp [winC_length]; omega), List.getElem?_eq_none (by rw [winC_length]; omega)]

section
variable {w w' : World} {e : TypeId} {g n c : Nat} {F : Nat → Win}
/-- A window stored into a row. -/
theorem WRow.store (h : WRow w e (.slice (some ⟨g, 0, none⟩) n c) n F) (k : Nat) (hk : k < n) (X : Win) :
    WRow ((((((w.setCell ⟨g, k * 6, none⟩ (.int .i64 X.st)).setCell ⟨g, k * 6 + 1, none⟩ (.int .i64 X.ct)).setCell ⟨g, k * 6 + 2, none⟩ (.int .u64 (X.sm : Int))).setCell ⟨g, k * 6 + 3, none⟩ (.int .u64 (X.mn : Int))).setCell ⟨g, k * 6 + 4, none⟩ (.int .u64 (X.mx : Int))).setCell ⟨g, k * 6 + 5, none⟩ (.int .u64 (X.la : Int)))
      e (.slice (some ⟨g, 0, none⟩) n c) n (atW F k X) := by
  have h1 := ((((((World.ownsRow.stored h (k * 6) (.int .i64 X.st)).1.stored (k * 6 + 1) (.int .i64 X.ct)).1.stored (k * 6 + 2) (.int .u64 (X.sm : Int))).1.stored (k * 6 + 3) (.int .u64 (X.mn : Int))).1.stored (k * 6 + 4) (.int .u64 (X.mx : Int))).1.stored (k * 6 + 5) (.int .u64 (X.la : Int))).1
  rw [winC_set F n k X hk] at h1
  exact h1
theorem WRow.frozen (h : WRow w e (.slice (some ⟨g, 0, none⟩) n c) n F) (j : Nat) : w.frozen? ⟨g, j, none⟩ = false := World.ownsRow.frozenAt h j

/-- A row cut short. -/
theorem WRow.short (h : WRow w e (.slice (some ⟨g, 0, none⟩) n c) n F) (m : Nat) (hm : m ≤ n) : WRow w e (.slice (some ⟨g, 0, none⟩) m c) m F := by
  refine ⟨winC_length F m, ?_⟩
  rcases h.2 with ⟨he, _⟩ | ⟨g', cap, cur, he, hb, hg, hnc, hcm, hcs, ht⟩
  · simp at he
  · simp only [Value.slice.injEq, Option.some.injEq, Addr.mk.injEq, and_true, true_and] at he
    obtain ⟨rfl, rfl⟩ := he
    refine .inr ⟨g, c, cur, rfl, hb, hg, by omega, hcm, hcs, ?_⟩
    have hx : winC F m = (winC F n).take (m * 6) := by
      apply List.ext_getElem?
      intro p
      rw [List.getElem?_take]
      by_cases hp : p < m * 6
      · rw [if_pos hp]
        obtain ⟨i, j, rfl, hj⟩ : ∃ i j, p = i * 6 + j ∧ j < 6 := ⟨p / 6, p % 6, by omega, Nat.mod_lt _ (by decide)⟩
        rw [winC_get _ _ _ _ (by omega) hj, winC_get _ _ _ _ (by omega) hj]
      · rw [if_neg hp, List.getElem?_eq_none (by rw [winC_length]; omega)]
    rw [hx, ← ht, List.take_take, Nat.min_eq_left (by omega)]

/-- A store behind a row's end leaves it. -/
theorem WRow.beyond (h : WRow w e (.slice (some ⟨g, 0, none⟩) n c) n F) (p : Nat) (hp : n * 6 ≤ p) (u : Value) : WRow (w.setCell ⟨g, p, none⟩ u) e (.slice (some ⟨g, 0, none⟩) n c) n F := by
  refine ⟨h.1, ?_⟩
  rcases h.2 with ⟨he, _⟩ | ⟨g', cap, cur, he, hb, hg, hnc, hcm, hcs, ht⟩
  · simp at he
  · simp only [Value.slice.injEq, Option.some.injEq, Addr.mk.injEq, and_true, true_and] at he
    obtain ⟨rfl, rfl⟩ := he
    refine .inr ⟨g, c, cur.setIfInBounds p u, rfl, hb, ?_, hnc, hcm, by simpa using hcs, ?_⟩
    · simp [World.setCell, Array.getElem?_modify, hg]
    · rw [Array.toList_setIfInBounds, List.take_set_of_le hp, ht]
theorem WRow.beyonds (vs : List Value) : ∀ (w : World) (p : Nat), WRow w e (.slice (some ⟨g, 0, none⟩) n c) n F → n * 6 ≤ p → WRow (w.setCells g p vs) e (.slice (some ⟨g, 0, none⟩) n c) n F := by
  induction vs with
  | nil => intro w p h _; exact h
  | cons v vs ih => intro w p h hp; exact ih _ _ (h.beyond p hp v) (by omega)
theorem frm_setCells {S : List Nat} {a : World} (vs : List Value) : ∀ (w : World) (p : Nat), Frm S a w → (g ∈ S ∨ a.heap.size ≤ g) → Frm S a (w.setCells g p vs) := by
  induction vs with
  | nil => intro w p h _; exact h
  | cons v vs ih => intro w p h hg; exact ih _ _ (h.setCell (p := ⟨g, p, none⟩) hg v) hg
end

/-- The windows of the first k that a test keeps. -/
def kept (F : Nat → Win) (q : Win → Bool) : Nat → List Win
  | 0 => []
  | k + 1 => if q (F k) then kept F q k ++ [F k] else kept F q k
def keptW (F : Nat → Win) (q : Win → Bool) (n : Nat) : Nat → Win := fun i => (kept F q n).getD i win0
theorem kept_le (F : Nat → Win) (q : Win → Bool) (k : Nat) : (kept F q k).length ≤ k := by
  induction k with
  | zero => exact Nat.le_refl _
  | succ k ih =>
    simp only [kept]
    split
    · rw [List.length_append, List.length_singleton]; omega
    · omega
theorem kept_yes {F : Nat → Win} {q : Win → Bool} {k : Nat} (h : q (F k) = true) : kept F q (k + 1) = kept F q k ++ [F k] := by simp [kept, h]
theorem kept_no {F : Nat → Win} {q : Win → Bool} {k : Nat} (h : q (F k) = false) : kept F q (k + 1) = kept F q k := by simp [kept, h]
theorem kept_all {F : Nat → Win} {q : Win → Bool} {k : Nat} (h : ∀ i, i < k → q (F i) = true) : kept F q k = (List.range k).map F := by
  induction k with
  | zero => rfl
  | succ k ih => rw [kept_yes (h k (by omega)), ih (fun i hi => h i (by omega)), List.range_succ, List.map_append]; rfl
theorem keptW_snoc {F : Nat → Win} {q : Win → Bool} {k : Nat} (h : q (F k) = true) : ∀ i, i < (kept F q k).length → keptW F q (k + 1) i = keptW F q k i := by
  intro i hi
  unfold keptW
  rw [kept_yes h, List.getD_eq_getElem?_getD, List.getElem?_append_left hi, ← List.getD_eq_getElem?_getD]
theorem keptW_last {F : Nat → Win} {q : Win → Bool} {k : Nat} (h : q (F k) = true) : keptW F q (k + 1) (kept F q k).length = F k := by
  unfold keptW
  rw [kept_yes h, List.getD_eq_getElem?_getD, List.getElem?_append_right (Nat.le_refl _)]
  simp

end Go.Proofs.Ytceidhjgdgnplaa
