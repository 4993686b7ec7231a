/-
  EncSeals' and EncFrames' walks.
-/
import Derived.Test.YtceidhjgdgnplaaDoorWakb
import Derived.Test.YtceidhjgdgnplaaDoorUnfr
namespace Go.Proofs.YtceidhjgdgnplaaDoor
set_option linter.unusedVariables false
set_option linter.unusedSimpArgs false
open Go.RowKit

theorem tellS_tuple (s : ByteArray) : ∃ (x : ByteArray) (y : Int), tellS s = .tuple #[.string x, .int .i64 y] := by
  unfold tellS
  split
  · exact ⟨_, _, rfl⟩
  · split
    · exact ⟨_, _, rfl⟩
    · exact ⟨_, _, rfl⟩
theorem tellF_tuple (s : ByteArray) : ∃ (x : ByteArray) (y : Int), tellF s = .tuple #[.string x, .int .i64 y] := by
  unfold tellF
  split
  · exact ⟨_, _, rfl⟩
  · split
    · exact ⟨_, _, rfl⟩
    · exact ⟨_, _, rfl⟩
theorem tellUF_tuple (s : ByteArray) (a : Int) : ∃ (x : ByteArray) (y z : Int), tellUF s a = .tuple #[.string x, .int .i64 y, .int .i64 z] := by
  unfold tellUF tellFat
  split
  · exact ⟨_, _, _, rfl⟩
  · split
    · exact ⟨_, _, _, rfl⟩
    · split
      · exact ⟨_, _, _, rfl⟩
      · split
        · exact ⟨_, _, _, rfl⟩
        · split
          · exact ⟨_, _, _, rfl⟩
          · exact ⟨_, _, _, rfl⟩

set_option maxRecDepth 100000 in
set_option maxHeartbeats 2000000 in
theorem seals_walk (b : ByteArray) (hb : b.size ≤ 140737488355328) (s : ByteArray) (hs : s.size ≤ 140737488355328) (w : World) (hN : NibAt w) :
    Calls Tryd.prog 4 #[.string b, .string s] w fun e w' => e = .returned (.bool true) ∧ Frm [] w w' := by
  have hc := unseal_any s hs
  have hr := runseal_any s hs
  obtain ⟨x, y, ht⟩ := tellS_tuple s
  rw [ht] at hc hr
  have Hc := hide hc
  have Hr := hide hr
  clear hc hr ht
  go_enter Tryd.func4, Tryd.ntmps4
  go_wp2_with fail
  refine (Hc.out _ hN).mono ?_
  rintro e w1 ⟨rfl, hf1⟩
  go_wp2_with fail
  refine (Hr.out _).mono ?_
  rintro e w2 ⟨rfl, hf2⟩
  have h12 := hf1.trans hf2 (by simp)
  go_wp2_with fail
  refine (wakb_any _ (hN.frm h12)).mono ?_
  rintro e w3 ⟨rfl, hf3⟩
  have h13 := h12.trans hf3 (by simp)
  go_wp2_with fail
  refine (seal_any b hb _ (hN.frm h13)).mono ?_
  rintro e w4 ⟨rfl, hf4⟩
  go_wp2_with fail
  refine (rseal_any b hb _).mono ?_
  rintro e w5 ⟨rfl, hf5⟩
  go_wp2_with fail
  go_ret
  exact ⟨rfl, (h13.trans hf4 (by simp)).trans hf5 (by simp)⟩

set_option maxRecDepth 100000 in
set_option maxHeartbeats 2000000 in
theorem frames_walk (p : ByteArray) (hp : p.size ≤ 140737488355328) (s : ByteArray) (hs : s.size ≤ 140737488355328) (a : Int) (w : World) (hN : NibAt w) :
    Calls Tryd.prog 6 #[.string p, .string s, .int .i64 a] w fun e w' => e = .returned (.bool true) ∧ Frm [] w w' := by
  have hg := frame_any p (by omega)
  have hgr := rframe_any p (by omega)
  obtain ⟨x, y, ht⟩ := tellF_tuple p
  rw [ht] at hg hgr
  clear ht
  have hc := unframe_any s a hs
  have hr := runframe_any s a hs
  obtain ⟨x2, y2, z2, ht⟩ := tellUF_tuple s a
  rw [ht] at hc hr
  have Hc := hide hc
  have Hr := hide hr
  have Hg := hide hg
  have Hgr := hide hgr
  clear hc hr hg hgr ht
  go_enter Tryd.func6, Tryd.ntmps6
  go_wp2_with fail
  refine (Hg.out _ hN).mono ?_
  rintro e w1 ⟨rfl, hf1⟩
  go_wp2_with fail
  refine (Hgr.out _).mono ?_
  rintro e w2 ⟨rfl, hf2⟩
  have h12 := hf1.trans hf2 (by simp)
  go_wp2_with fail
  refine (Hc.out _ (hN.frm h12)).mono ?_
  rintro e w3 ⟨rfl, hf3⟩
  have h13 := h12.trans hf3 (by simp)
  go_wp2_with fail
  refine (Hr.out _).mono ?_
  rintro e w4 ⟨rfl, hf4⟩
  have h14 := h13.trans hf4 (by simp)
  go_wp2_with fail
  refine (wakb_any _ (hN.frm h14)).mono ?_
  rintro e w5 ⟨rfl, hf5⟩
  go_wp2_with fail
  go_ret
  exact ⟨rfl, h14.trans hf5 (by simp)⟩

end Go.Proofs.YtceidhjgdgnplaaDoor
