/-
  AggDecodes' walk: whatever bytes come in, the windows or the error is the document's.
-/
import Derived.Test.YtceidhjgdgnplaaDecw
import Derived.Test.YtceidhjgdgnplaaRdecw
namespace Go.Proofs.Ytceidhjgdgnplaa
set_option linter.unusedVariables false
set_option linter.unusedSimpArgs false
open Go.RowKit Go.BigFrame

/-- Windows are few: each takes six bytes. -/
theorem dst_few (s : ByteArray) (k : Nat) (h0 : (readU (bl s) 0).2.2 = 0) (h : (dst (bl s) (readU (bl s) 0).2.1 k).er = 0) : 6 * k ≤ s.size := by
  have hx := readU_next (bl s) 0 h0
  have := dst_at (a := (readU (bl s) 0).2.1) (s := bl s) hx.2.2 h
  rw [bl_length] at this
  omega
theorem few_bound (s : ByteArray) (hs : s.size ≤ 1048576) (k : Nat) (hk : k ≤ (readU (bl s) 0).1) (h : (dst (bl s) (readU (bl s) 0).2.1 k).er = 0) : (k + 1) * 48 ≤ 140737488351232 := by
  by_cases h0 : (readU (bl s) 0).2.2 = 0
  · have := dst_few s k h0 h
    omega
  · have e := readU_err (bl s) 0 h0
    rw [e] at hk
    simp only at hk
    omega

set_option maxRecDepth 100000 in
set_option maxHeartbeats 1000000 in
theorem adec_walk (s : ByteArray) (hs : s.size ≤ 1048576) (w : World) :
    Calls Try.prog 10 #[.string s] w fun e w' => e = .returned (.bool true) ∧ Frm [] w w' := by
  have hd := fun W => decode_any s (by omega) (fun k hk h => by have := few_bound s hs k hk h; omega) W
  have hr := fun W => rdecode_any s (by omega) (fun k hk h => few_bound s hs k hk h) W
  have hN : (if derr (bl s) = 0 then (readU (bl s) 0).1 else 0) * 48 ≤ 140737488351232 := by
    split
    · rename_i h0
      unfold derr at h0
      by_cases h1 : (readU (bl s) 0).2.2 = 0
      · rw [if_neg (by simpa using h1)] at h0
        by_cases h2 : (dst (bl s) (readU (bl s) 0).2.1 (readU (bl s) 0).1).er = 0
        · have := few_bound s hs _ (Nat.le_refl _) h2; omega
        · rw [if_pos (by simpa using h2)] at h0
          exact absurd h0 h2
      · rw [if_pos (by simpa using h1)] at h0
        exact absurd (by omega : (readU (bl s) 0).2.2 = 0) h1
    · omega
  unfold tellD at hd
  unfold tellR at hr
  generalize (if derr (bl s) = 0 then (readU (bl s) 0).1 else 0) = N at hd hr hN
  generalize dwin (bl s) (readU (bl s) 0).2.1 = F at hd hr
  generalize derr (bl s) = er at hd hr
  have Hd := hide hd
  have Hr := hide hr
  clear hd hr
  go_enter Try.func10, Try.ntmps10
  go_wp2_with fail
  refine (Hd.out _).mono ?_
  rintro e w1 ⟨v1, rfl, hrow1, hfr1, hf1⟩
  obtain ⟨A1, c1, rfl⟩ := hrow1.shape
  go_wp2_with fail
  refine (Hr.out _).mono ?_
  rintro e w2 ⟨v2, rfl, hrow2, hfr2, hf2⟩
  obtain ⟨A2, c2, rfl⟩ := hrow2.shape
  go_wp2_with fail
  refine (wakw_any _).mono ?_
  rintro e w3 ⟨rfl, hf3⟩
  have hr1 := (hrow1.quiet hf2).quiet hf3
  have hr2 := hrow2.quiet hf3
  go_wp2_with fail
  refine (alike_any A1 N c1 F A2 c2 hN _ hr1.cellsAt hr2.cellsAt).mono ?_
  rintro e w4 ⟨rfl, hf4⟩
  go_wp2_with fail
  go_ret
  exact ⟨rfl, ((hf1.trans hf2 (by simp)).trans hf3 (by simp)).trans hf4 (by simp)⟩

end Go.Proofs.Ytceidhjgdgnplaa
