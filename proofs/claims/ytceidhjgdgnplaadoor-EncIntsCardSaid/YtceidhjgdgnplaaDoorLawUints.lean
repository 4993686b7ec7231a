/-
  EncUints' and EncInts' walks.
-/
import Derived.Test.YtceidhjgdgnplaaDoorWakb
namespace Go.Proofs.YtceidhjgdgnplaaDoor
set_option linter.unusedVariables false
set_option linter.unusedSimpArgs false
open Go.RowKit

set_option maxRecDepth 100000 in
set_option maxHeartbeats 2000000 in
theorem uints_walk (v : Nat) (hv : v < 18446744073709551616) (s : ByteArray) (hs : s.size ≤ 140737488355328) (a : Int) (w : World) (hN : NibAt w) :
    Calls Tryd.prog 5 #[.int .u64 (v : Int), .string s, .int .i64 a] w fun e w' => e = .returned (.bool true) ∧ Frm [] w w' := by
  have hc := readuint_any s a hs
  have hr := rreaduint_any s a hs
  generalize readU (bl s) a = r at hc hr
  obtain ⟨n, m, er⟩ := r
  simp only [tellU] at hc hr
  have Hc := hide hc
  have Hr := hide hr
  clear hc hr
  go_enter Tryd.func5, Tryd.ntmps5
  go_wp2_with fail
  refine (Hc.out _).mono ?_
  rintro e w' ⟨rfl, rfl⟩
  go_wp2_with fail
  refine (Hr.out _).mono ?_
  rintro e w' ⟨rfl, rfl⟩
  go_wp2_with fail
  refine (wakb_any _ hN).mono ?_
  rintro e w1 ⟨rfl, hf1⟩
  go_wp2_with fail
  refine (uint_any v _ rfl hv _).mono ?_
  rintro e w2 ⟨rfl, hf2⟩
  go_wp2_with fail
  refine (ruint_any v _ rfl hv _).mono ?_
  rintro e w3 ⟨rfl, hf3⟩
  go_wp2_with fail
  go_ret
  exact ⟨rfl, (hf1.trans hf2 (by simp)).trans hf3 (by simp)⟩

theorem tellI_tuple (r : Nat × Nat × Nat) : ∃ x y z : Int, tellI r = .tuple #[.int .i64 x, .int .i64 y, .int .i64 z] := by
  unfold tellI
  split
  · exact ⟨_, _, _, rfl⟩
  · exact ⟨_, _, _, rfl⟩

set_option maxRecDepth 100000 in
set_option maxHeartbeats 2000000 in
theorem ints_walk (v : Int) (h1 : -9223372036854775808 ≤ v) (h2 : v ≤ 9223372036854775807) (s : ByteArray) (hs : s.size ≤ 140737488355328) (a : Int) (w : World) (hN : NibAt w) :
    Calls Tryd.prog 7 #[.int .i64 v, .string s, .int .i64 a] w fun e w' => e = .returned (.bool true) ∧ Frm [] w w' := by
  have hc := readint_any s a hs
  have hr := rreadint_any s a hs
  obtain ⟨x, y, z, ht⟩ := tellI_tuple (readU (bl s) a)
  rw [ht] at hc hr
  have Hc := hide hc
  have Hr := hide hr
  clear hc hr ht
  go_enter Tryd.func7, Tryd.ntmps7
  go_wp2_with fail
  refine (Hc.out _).mono ?_
  rintro e w' ⟨rfl, rfl⟩
  go_wp2_with fail
  refine (Hr.out _).mono ?_
  rintro e w' ⟨rfl, rfl⟩
  go_wp2_with fail
  refine (wakb_any _ hN).mono ?_
  rintro e w1 ⟨rfl, hf1⟩
  go_wp2_with fail
  refine (int_any v h1 h2 _).mono ?_
  rintro e w2 ⟨rfl, hf2⟩
  go_wp2_with fail
  refine (rint_any v h1 h2 _).mono ?_
  rintro e w3 ⟨rfl, hf3⟩
  go_wp2_with fail
  go_ret
  exact ⟨rfl, (hf1.trans hf2 (by simp)).trans hf3 (by simp)⟩

end Go.Proofs.YtceidhjgdgnplaaDoor
