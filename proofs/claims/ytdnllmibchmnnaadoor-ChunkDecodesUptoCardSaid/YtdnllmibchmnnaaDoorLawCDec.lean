/-
  ChunkDecodes' walk: whatever bytes come in, the samples or the error is the document's.
-/
import Derived.Test.YtdnllmibchmnnaaDoorRdz
namespace Go.Proofs.YtdnllmibchmnnaaDoor
set_option linter.unusedVariables false
set_option linter.unusedSimpArgs false
open Go.RowKit Go.BigFrame

theorem decN_le (l : List Nat) : decN l ≤ 120 := by
  obtain ⟨cc, hM1, hM2, hM3⟩ := rdM_form l
  unfold decN
  split
  · omega
  · omega

set_option maxRecDepth 100000 in
set_option maxHeartbeats 1000000 in
theorem cdec_walk (s : ByteArray) (hs : 8 * s.size ≤ 140737488355328) (w : World) (hD : DbAt w) :
    Calls Tryd.prog 7 #[.string s] w fun e w' => e = .returned (.bool true) ∧ Frm [] w w' := by
  have hdec := cdecode_any s (by omega) w hD
  have href := fun W => rdecode_any s hs W
  have hN := decN_le (bl s)
  unfold NewDec at hdec
  unfold RefDec at href
  generalize decN (bl s) = n at *
  generalize decE (bl s) = er at *
  generalize rdF (rdL (bl s)) = F at *
  have Hdec := hide hdec
  have Href := hide href
  have hee : (er == er) = true := by simp
  clear hdec href
  go_enter Tryd.func7, Tryd.ntmps7
  go_wp2_with fail
  refine Hdec.out.mono ?_
  rintro e w1 ⟨A, c, rfl, hrow, hfv, hf1⟩
  go_wp2_with fail
  refine (Href.out _).mono ?_
  rintro e w2 ⟨A2, c2, rfl, hrow2, hf2⟩
  have hf12 := hf1.trans hf2 (by simp)
  have hw := wakes_any w2 (hD.frm hf12)
  have Hw := hide hw
  clear hw
  go_wp2_with fail
  refine Hw.out.mono ?_
  rintro e w3 ⟨rfl, hf3⟩
  go_wp2_with fail
  refine (alike_any A n n F A2 c2 (by omega) _ ((hrow.quiet hf2).quiet hf3).cellsAt (hrow2.quiet hf3).cellsAt).mono ?_
  rintro e w4 ⟨rfl, hf4⟩
  go_wp2_with fail
  go_ret
  exact ⟨rfl, (hf12.trans hf3 (by simp)).trans hf4 (by simp)⟩

end Go.Proofs.YtdnllmibchmnnaaDoor
