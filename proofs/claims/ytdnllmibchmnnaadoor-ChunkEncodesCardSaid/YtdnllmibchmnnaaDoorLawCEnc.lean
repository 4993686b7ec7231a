/-
  ChunkEncodes' walk: whatever samples come in, the bytes or the error is the document's.
-/
import Derived.Test.YtdnllmibchmnnaaDoorLws
namespace Go.Proofs.YtdnllmibchmnnaaDoor
set_option linter.unusedVariables false
set_option linter.unusedSimpArgs false
open Go.RowKit Go.BigFrame

/-- What Encode tells is a text and an error. -/
theorem tellC_parts (F : Nat → Smp) (n : Nat) : ∃ (s : ByteArray) (e : Int), tellC F n = .tuple #[.string s, .int .i64 e] := by
  unfold tellC
  split
  · exact ⟨_, _, rfl⟩
  · exact ⟨_, _, rfl⟩
theorem SRow.form {w : World} {e : TypeId} {v : Value} {n : Nat} {F : Nat → Smp} (h : SRow w e v n F) : ∃ A c, v = .slice A n c ∧ n ≤ c := by
  obtain ⟨A, c, hv⟩ := h.shape
  by_cases hn : 0 < n
  · obtain ⟨g, cap, cur, he, _, hc, _⟩ := own_form h hn
    exact ⟨_, _, he, hc⟩
  · exact ⟨A, c, hv, by omega⟩

set_option maxRecDepth 100000 in
set_option maxHeartbeats 1000000 in
theorem cenc_walk (A : Option Addr) (n cap : Nat) (F : Nat → Smp) (hok : ∀ i, i < n → (F i).Ok) (hn : n * 16 ≤ 140737488351232) (w : World) (hD : DbAt w) (hc : CellsAt w A n 2 (fun i j => (F i).cell j)) :
    Calls Tryd.prog 3 #[.slice A n cap] w fun e w' => e = .returned (.bool true) ∧ Frm [] w w' := by
  obtain ⟨s, er, hT⟩ := tellC_parts F n
  go_enter Tryd.func3, Tryd.ntmps3
  go_wp2_with fail
  refine (twin_any A n cap F hn _ hc).mono ?_
  rintro e w1 ⟨v, rfl, hrow, hfr, hf1⟩
  obtain ⟨A1, c1, rfl⟩ := hrow.shape
  have henc := cencode_any A1 n c1 F hok hn w1 (hD.frm hf1) hrow.cellsAt
  rw [hT] at henc
  have Henc := hide henc
  clear henc
  go_wp2_with fail
  refine Henc.out.mono ?_
  rintro e w2 ⟨rfl, hf2⟩
  have hf12 := hf1.trans hf2 (by simp)
  go_wp2_with fail
  refine (ref_any A n cap F hn _ (hc.frm hf12)).mono ?_
  rintro e w3 ⟨v3, rfl, hrow3, hfr3, hf3⟩
  obtain ⟨A3, c3, rfl, hle3⟩ := hrow3.form
  have henc := rencode_any A3 n c3 hle3 F hok hn w3 hrow3.cellsAt
  rw [hT] at henc
  have Henc2 := hide henc
  clear henc hT
  go_wp2_with fail
  refine Henc2.out.mono ?_
  rintro e w4 ⟨rfl, hf4⟩
  have hf14 := (hf12.trans hf3 (by simp)).trans hf4 (by simp)
  have hw := wakes_any w4 (hD.frm hf14)
  have Hw := hide hw
  clear hw
  go_wp2_with fail
  refine Hw.out.mono ?_
  rintro e w5 ⟨rfl, hf5⟩
  go_wp2_with fail
  go_ret
  exact ⟨rfl, hf14.trans hf5 (by simp)⟩

end Go.Proofs.YtdnllmibchmnnaaDoor
