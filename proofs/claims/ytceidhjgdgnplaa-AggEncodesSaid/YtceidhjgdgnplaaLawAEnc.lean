/-
  AggEncodes' walk: whatever windows come in, the bytes or the error is the document's.
-/
import Derived.Test.YtceidhjgdgnplaaWlaw
import Derived.Test.YtceidhjgdgnplaaRefe
namespace Go.Proofs.Ytceidhjgdgnplaa
set_option linter.unusedVariables false
set_option linter.unusedSimpArgs false
open Go.RowKit Go.BigFrame

/-- What Encode tells is a text and an error. -/
theorem tellW_parts (F : Nat → Win) (n : Nat) : ∃ (s : ByteArray) (e : Int), tellW F n = .tuple #[.string s, .int .i64 e] := by
  unfold tellW
  split
  · exact ⟨_, _, rfl⟩
  · exact ⟨_, _, rfl⟩

set_option maxRecDepth 100000 in
set_option maxHeartbeats 1000000 in
theorem aenc_walk (A : Option Addr) (n cap : Nat) (F : Nat → Win) (hok : ∀ i, i < n → (F i).Ok) (hn : n * 48 ≤ 140737488351232) (w : World) (hc : CellsAt w A n 6 (fun i j => (F i).cell j)) :
    Calls Try.prog 8 #[.slice A n cap] w fun e w' => e = .returned (.bool true) ∧ Frm [] w w' := by
  obtain ⟨s, er, hT⟩ := tellW_parts F n
  go_enter Try.func8, Try.ntmps8
  go_wp2_with fail
  refine (twin_any A n cap F hn _ hc).mono ?_
  rintro e w1 ⟨v, rfl, hrow, hfr, hf1⟩
  obtain ⟨A1, c1, rfl⟩ := hrow.shape
  have henc := encode_any A1 n c1 F hok hn w1 hrow.cellsAt
  rw [hT] at henc
  have Henc := hide henc
  clear henc
  go_wp2_with fail
  refine Henc.out.mono ?_
  rintro e w2 ⟨rfl, hf2⟩
  have hf12 := hf1.trans hf2 (by simp)
  go_wp2_with fail
  refine (windows_any A n cap F hn _ (hc.frm hf12)).mono ?_
  rintro e w3 ⟨v3, rfl, hrow3, hfr3, hf3⟩
  obtain ⟨A3, c3, rfl⟩ := hrow3.shape
  have henc := rencode_any A3 n c3 F hok hn w3 hrow3.cellsAt
  rw [hT] at henc
  have Henc2 := hide henc
  clear henc hT
  go_wp2_with fail
  refine Henc2.out.mono ?_
  rintro e w4 ⟨rfl, hf4⟩
  have hf14 := (hf12.trans hf3 (by simp)).trans hf4 (by simp)
  go_wp2_with fail
  refine (wakw_any _).mono ?_
  rintro e w5 ⟨rfl, hf5⟩
  go_wp2_with fail
  go_ret
  exact ⟨rfl, hf14.trans hf5 (by simp)⟩

end Go.Proofs.Ytceidhjgdgnplaa
