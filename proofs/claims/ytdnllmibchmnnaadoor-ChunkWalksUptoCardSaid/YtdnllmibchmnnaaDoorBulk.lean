/-
  What the bound of an Upto statement gives: lengths of slices and strings.
  Conditions: none.
-/
import Derived.Test.YtdnllmibchmnnaaDoorRows
namespace Go.Proofs.YtdnllmibchmnnaaDoor
set_option linter.unusedVariables false
set_option linter.unusedSimpArgs false

theorem bulk_pos {H : Type} (d : DataW H) : 1 ≤ Rows.uptoBulk d := by
  cases d with
  | lit l => cases l <;> simp [Rows.uptoBulk]
  | nil => simp [Rows.uptoBulk]
  | ptr d => simp [Rows.uptoBulk]
  | slice elems spare => simp [Rows.uptoBulk]
  | agg parts => simp [Rows.uptoBulk]
  | iface t d => simp [Rows.uptoBulk]
  | map entries => simp [Rows.uptoBulk]
  | held h => simp [Rows.uptoBulk]

theorem bulk_length {H : Type} (l : List (DataW H)) : l.length ≤ Rows.uptoBulkAll l := by
  induction l with
  | nil => simp [Rows.uptoBulkAll]
  | cons x r ih => have := bulk_pos x; simp only [Rows.uptoBulkAll, List.length_cons]; omega

theorem bulk_mem {H : Type} {d : DataW H} {l : List (DataW H)} (h : d ∈ l) : Rows.uptoBulk d ≤ Rows.uptoBulkAll l := by
  induction l with
  | nil => cases h
  | cons x r ih =>
    simp only [Rows.uptoBulkAll]
    cases List.mem_cons.1 h with
    | inl e => subst e; omega
    | inr e => have := ih e; omega

theorem bulk_small {H : Type} {l : List (DataW H)} (hk : Rows.uptoSmall H l = true) : Rows.uptoBulkAll l ≤ 1048576 := of_decide_eq_true hk

theorem bulk_slice {H : Type} {l : List (DataW H)} (hk : Rows.uptoSmall H l = true) {elems sp : List (DataW H)} (h : DataW.slice elems sp ∈ l) : elems.length ≤ 1048576 := by
  have h1 := bulk_small hk
  have h2 := bulk_mem h
  have h3 := bulk_length elems
  simp only [Rows.uptoBulk] at h2
  omega

theorem bulk_string {H : Type} {l : List (DataW H)} (hk : Rows.uptoSmall H l = true) {bytes : List UInt8} (h : DataW.lit (.string bytes) ∈ l) : bytes.length ≤ 1048576 := by
  have h1 := bulk_small hk
  have h2 := bulk_mem h
  simp only [Rows.uptoBulk] at h2
  omega

end Go.Proofs.YtdnllmibchmnnaaDoor
