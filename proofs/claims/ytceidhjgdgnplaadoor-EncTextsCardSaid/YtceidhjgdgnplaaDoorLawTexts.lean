/-
  EncTexts' walk.
-/
import Derived.Test.YtceidhjgdgnplaaDoorWakb
import Derived.Test.YtceidhjgdgnplaaDoorText
namespace Go.Proofs.YtceidhjgdgnplaaDoor
set_option linter.unusedVariables false
set_option linter.unusedSimpArgs false
open Go.RowKit

theorem tellT_tuple (s : ByteArray) (r : Nat × Nat × Nat) : ∃ (x : ByteArray) (y z : Int), tellT s r = .tuple #[.string x, .int .i64 y, .int .i64 z] := by
  unfold tellT
  split
  · exact ⟨_, _, _, rfl⟩
  · split
    · exact ⟨_, _, _, rfl⟩
    · exact ⟨_, _, _, rfl⟩

set_option maxRecDepth 100000 in
set_option maxHeartbeats 2000000 in
theorem texts_walk (t : ByteArray) (ht : t.size ≤ 140737488355328) (s : ByteArray) (hs : s.size ≤ 140737488355328) (a : Int) (w : World) (hN : NibAt w) :
    Calls Tryd.prog 9 #[.string t, .string s, .int .i64 a] w fun e w' => e = .returned (.bool true) ∧ Frm [] w w' := by
  have hc := readtext_any s a hs
  have hr := rreadtext_any s a hs
  obtain ⟨x, y, z, htt⟩ := tellT_tuple s (readU (bl s) a)
  rw [htt] at hc hr
  have Hc := hide hc
  have Hr := hide hr
  clear hc hr htt
  go_enter Tryd.func9, Tryd.ntmps9
  go_wp2_with fail
  refine (Hc.out _).mono ?_
  rintro e w' ⟨rfl, rfl⟩
  go_wp2_with fail
  refine (Hr.out _).mono ?_
  rintro e w' ⟨rfl, rfl⟩
  go_wp2_with fail
  refine (wakb_any _ hN).mono ?_
  rintro e w1 ⟨rfl, hf1⟩
  go_wp2_with fail
  refine (text_any t ht _).mono ?_
  rintro e w2 ⟨rfl, hf2⟩
  go_wp2_with fail
  refine (rtext_any t ht _).mono ?_
  rintro e w3 ⟨rfl, hf3⟩
  go_wp2_with fail
  go_ret
  exact ⟨rfl, (hf1.trans hf2 (by simp)).trans hf3 (by simp)⟩

end Go.Proofs.YtceidhjgdgnplaaDoor
