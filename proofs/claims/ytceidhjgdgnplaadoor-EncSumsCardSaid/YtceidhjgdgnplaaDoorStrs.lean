/-
  An argument that is a slice of strings, opened.
-/
import Derived.Test.YtceidhjgdgnplaaDoorArgs
import Derived.Test.YtceidhjgdgnplaaDoorStr
import Derived.SliceStrings
import Derived.SizedLaws
namespace Go.Proofs.YtceidhjgdgnplaaDoor
set_option linter.unusedVariables false
set_option linter.unusedSimpArgs false
open Go.ChangeShapes Go.WideShapes Go.ChangeAt Go.RowKit

theorem Tryd.cellsStr : Tryd.prog.cellsOf 9 = 1 := by kernel_rfl
theorem Tryd.bytesStr : Tryd.prog.bytesOf 9 = 16 := by kernel_rfl

set_option maxRecDepth 100000 in
theorem open_strs {H : Type} {enc : TypeId × Value → H} {w : World} {b0 : Nat} {v : Value} {d : DataW H} {p : List MemPlace}
    (hv : Value.okWide Tryd.prog w .any b0 22 v) (h : DataW.Trod enc Tryd.prog w 0 (fun _ => true) true 22 v d p) :
    ∃ (A : Option Addr) (n cap : Nat) (f : Nat → ByteArray), v = .slice A n cap ∧ CellsAt w A n 1 (fun i _ => .string (f i)) ∧ (n = 0 ∨ ∃ elems sp, d = .slice elems sp ∧ elems.length = n ∧ ∀ i, i < n → .lit (.string (f i).data.toList) ∈ elems) := by
  obtain ⟨A, n, cap, rfl⟩ := okWide_slice Tryd.underlying22 hv
  obtain ⟨fuel, hf⟩ := h
  rcases open_strings Tryd.underlying22 Tryd.underlying9 Tryd.cellsStr hf with ⟨hcs, hx⟩ | ⟨a, len', cap', ss, hcs, _, hl, hm, hz, hx, hcell, hwz⟩
  · simp only [Value.cells, List.cons.injEq, Value.slice.injEq, and_true] at hcs
    obtain ⟨rfl, rfl, rfl⟩ := hcs
    exact ⟨none, 0, 0, fun _ => .empty, rfl, fun h => absurd h (by omega), .inl rfl⟩
  · simp only [Value.cells, List.cons.injEq, Value.slice.injEq, and_true] at hcs
    obtain ⟨rfl, rfl, rfl⟩ := hcs
    simp only [if_true] at hz
    refine ⟨some a, n, cap, fun i => ss.getD i ByteArray.empty, rfl, fun hn => ?_, .inr ⟨_, _, (Prod.mk.inj hx).1, by simp [strs]; omega, fun i hi => ?_⟩⟩
    · have h0 := hcell 0 (by omega)
      have hs : a.spot = none := by
        have := addr_plain h0
        unfold Addr.add at this
        simpa using this
      obtain ⟨b, off, spot⟩ := a
      simp only at hs
      subst hs
      refine ⟨b, off, rfl, ?_, fun i j hi hj => ?_⟩
      · exact World.block_lt_of_cell? w _ (by rw [add_plain'] at h0; exact h0)
      · have := hcell i (by omega)
        rw [add_plain'] at this
        obtain rfl : j = 0 := by omega
        simpa using this
    · have hlen : i < ss.length := by omega
      have : ss.getD i ByteArray.empty = ss[i] := by simp [List.getD, hlen]
      dsimp only
      rw [this]
      refine List.mem_map.2 ⟨ss[i], ?_, rfl⟩
      rw [List.mem_take_iff_getElem]
      exact ⟨i, by omega, rfl⟩

theorem weightsAll_mem {H : Type} {P : Program} {e : TypeId} {d : DataW H} : ∀ {l : List (DataW H)}, d ∈ l → ∀ n ∈ d.weights P e, n ∈ DataW.weightsAll P e l
  | [], h, _, _ => by cases h
  | x :: l, h, n, hn => by
    simp only [DataW.weightsAll, List.mem_append]
    rcases List.mem_cons.1 h with rfl | h
    · exact .inl hn
    · exact .inr (weightsAll_mem h n hn)

/-- The form's own reach. -/
theorem strs_reach {H : Type} {ts : List TypeId} {ds : List (DataW H)} (h : (DataW.weightsEach Tryd.prog ts ds).all (· ≤ reachBytes) = true) {j : Nat} {d : DataW H} {n : Nat} {f : Nat → ByteArray} (ht : ts[j]? = some 22) (hd : ds[j]? = some d)
    (hn : n = 0 ∨ ∃ elems sp, d = .slice elems sp ∧ elems.length = n ∧ ∀ i, i < n → .lit (.string (f i).data.toList) ∈ elems) : n * 16 ≤ 140737488351232 ∧ ∀ i, i < n → (f i).size ≤ 140737488351232 := by
  rcases hn with rfl | ⟨elems, sp, rfl, rfl, hel⟩
  · exact ⟨by omega, fun i hi => absurd hi (by omega)⟩
  · refine ⟨?_, fun i hi => ?_⟩
    · have := sized_slice h ht hd Tryd.underlying22
      rw [Tryd.bytesStr] at this
      simp only [reachBytes] at this
      omega
    · have hm := weightsAll_mem (P := Tryd.prog) (e := 9) (hel i hi) (f i).data.toList.length (by simp [DataW.weights])
      have := List.all_eq_true.1 h _ (DataW.weights_mem_each ht hd ((f i).data.toList.length) (by simp only [DataW.weights, Tryd.underlying22]; exact List.mem_cons_of_mem _ (List.mem_append_left _ hm)))
      rw [Array.length_toList] at this
      simp only [reachBytes] at this
      exact of_decide_eq_true this

end Go.Proofs.YtceidhjgdgnplaaDoor
