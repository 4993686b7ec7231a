/-
  The contracts of the document's bit and change.
-/
import Derived.Test.YtdnllmibchmnnaaDoorChp
import Derived.Test.YtdnllmibchmnnaaDoorRefb
import Derived.Outline
namespace Go.Proofs.YtdnllmibchmnnaaDoor
set_option linter.unusedVariables false
set_option linter.unusedSimpArgs false
open Go.RowKit Go.BigFrame

theorem rput_x {v : Value} {l : List Bool} (X : Int) (x : Nat) (N : Int) (n : Nat) (hX : X = (x : Int)) (hN : N = (n : Int)) (hn : n ≤ 64) (hx : x < 18446744073709551616) (hl : l.length ≤ 2000000) {w : World} (hw : BitRow w v l) :
    Calls Tryd.prog 33 #[v, .int .u64 X, .int .i64 N] w fun e w' => ∃ v', e = .returned v' ∧ BitRow w' v' (l ++ bitsOf x n) ∧ Frm v.ownBlock.toList w w' ∧ Grew w v v' := by
  subst hX
  have h := rput_any v l x N hx (by omega) w hw
  have hw : wid N = n := by unfold wid; omega
  rw [hw] at h
  exact h

/-- What a row of bits has become: with these behind it. -/
def RowTo (v : Value) (w : World) (l : List Bool) (e : Ending) (w' : World) : Prop := ∃ v', e = .returned v' ∧ BitRow w' v' l ∧ Frm v.ownBlock.toList w w' ∧ Grew w v v'
theorem row_trans {a b c : World} {v v' : Value} (h : Frm v.ownBlock.toList a b) (hg : Grew a v v') (k : Frm v'.ownBlock.toList b c) : Frm v.ownBlock.toList a c := h.trans k hg.mem

theorem u64_wrap (c : Int) : IntKind.u64.wrap c = (u64 c : Int) := by rw [IntKind.wrap_u64]; unfold u64; omega

set_option maxRecDepth 100000 in
set_option maxHeartbeats 1000000 in
theorem rbit_any (x : Nat) (X : Int) (hX : X = (x : Int)) (i : Nat) (I : Int) (hI : I = (i : Int)) (hi : i ≤ 63) (hx : x < 18446744073709551616) (w : World) :
    Calls Tryd.prog 35 #[.int .u64 X, .int .i64 I] w fun e w' => e = .returned (.bool (x.testBit (63 - i))) ∧ w = w' := by
  subst hX
  subst hI
  obtain ⟨k, hk⟩ : ∃ k, 63 - i = k := ⟨_, rfl⟩
  have hki : (63 : Int) - (i : Int) = (k : Int) := by omega
  have hb : (((x : Int) / 2 ^ k).tmod 2 == 1) = x.testBit k := by
    have e : ((x : Int) / 2 ^ k) = ((x / 2 ^ k : Nat) : Int) := by simp
    rw [e, Int.tmod_eq_emod_of_nonneg (Int.natCast_nonneg _), Nat.testBit_eq_decide_div_mod_eq]
    rcases Nat.mod_two_eq_zero_or_one (x / 2 ^ k) with h | h
    · rw [h, beq_eq_false_iff_ne.2 (by omega)]; rfl
    · rw [h, beq_iff_eq.2 (by omega)]; rfl
  rw [hk]
  go_enter Tryd.func35, Tryd.ntmps35
  have Hb := hide hb
  clear hb
  go_wp2_with fail
  go_ret
  exact ⟨congrArg (fun b => Ending.returned (.bool b)) Hb.out, rfl⟩

set_option maxRecDepth 100000 in
set_option maxHeartbeats 4000000 in
theorem rchange_any (v : Value) (l : List Bool) (c : Int) (hl : l.length ≤ 1000000) (h1 : -4611686018427387904 ≤ c) (h2 : c ≤ 4611686018427387904) (w : World) (hw : BitRow w v l) :
    Calls Tryd.prog 34 #[v, .int .i64 c] w (RowTo v w (l ++ chg c)) := by
  by_cases h0 : c = 0
  · have ht : chg c = bitsOf 0 1 := by unfold chg; rw [if_pos h0]
    rw [ht]
    subst h0
    clear ht
    go_enter Tryd.func34, Tryd.ntmps34
    go_wp2_with fail
    refine (rput_x 0 0 1 1 rfl rfl (by decide) (by decide) (by omega) hw).mono ?_
    rintro e w1 ⟨v1, rfl, hw1, hf1, hg1⟩
    go_wp2_with fail
    go_ret
    exact ⟨v1, rfl, hw1, hf1, hg1⟩
  · have hz : (c == 0) = false := by rw [beq_eq_false_iff_ne]; exact h0
    by_cases c1 : -64 ≤ c ∧ c < 64
    · have ht : chg c = bitsOf 2 2 ++ bitsOf (u64 c) 7 := by unfold chg; rw [if_neg h0, if_pos c1]
      obtain ⟨a1, a2⟩ := c1
      have a4 : c ≤ 63 := by omega
      rw [ht, ← List.append_assoc]
      clear ht
      go_enter Tryd.func34, Tryd.ntmps34
      go_wp2_with fail
      refine (rput_x 2 2 2 2 rfl rfl (by decide) (by decide) (by omega) hw).mono ?_
      rintro e w1 ⟨v1, rfl, hw1, hf1, hg1⟩
      go_wp2_with fail
      refine (rput_x _ (u64 c) 7 7 (by first | exact u64_wrap c | (unfold u64; omega)) rfl (by decide) (u64_lt c) (by rw [List.length_append, bitsOf_length]; omega) hw1).mono ?_
      rintro e w2 ⟨v2, rfl, hw2, hf2, hg2⟩
      go_wp2_with fail
      go_ret
      exact ⟨v2, rfl, hw2, row_trans hf1 hg1 hf2, Grew.trans hf1.size hg1 hg2⟩
    · skip
      by_cases c2 : -256 ≤ c ∧ c < 256
      · have ht : chg c = bitsOf 6 3 ++ bitsOf (u64 c) 9 := by unfold chg; rw [if_neg h0, if_neg c1, if_pos c2]
        obtain ⟨a1, a2⟩ := c2
        have a4 : c ≤ 255 := by omega
        rcases (by omega : c < -64 ∨ 64 ≤ c) with a3 | a3
        · have b0 : ¬ -64 ≤ c := by omega
          clear c1
          rw [ht, ← List.append_assoc]
          clear ht
          go_enter Tryd.func34, Tryd.ntmps34
          go_wp2_with fail
          refine (rput_x 6 6 3 3 rfl rfl (by decide) (by decide) (by omega) hw).mono ?_
          rintro e w1 ⟨v1, rfl, hw1, hf1, hg1⟩
          go_wp2_with fail
          refine (rput_x _ (u64 c) 9 9 (by first | exact u64_wrap c | (unfold u64; omega)) rfl (by decide) (u64_lt c) (by rw [List.length_append, bitsOf_length]; omega) hw1).mono ?_
          rintro e w2 ⟨v2, rfl, hw2, hf2, hg2⟩
          go_wp2_with fail
          go_ret
          exact ⟨v2, rfl, hw2, row_trans hf1 hg1 hf2, Grew.trans hf1.size hg1 hg2⟩
        · have b0 : -64 ≤ c := by omega
          have e0 : ¬ c ≤ 63 := by omega
          clear c1
          rw [ht, ← List.append_assoc]
          clear ht
          go_enter Tryd.func34, Tryd.ntmps34
          go_wp2_with fail
          refine (rput_x 6 6 3 3 rfl rfl (by decide) (by decide) (by omega) hw).mono ?_
          rintro e w1 ⟨v1, rfl, hw1, hf1, hg1⟩
          go_wp2_with fail
          refine (rput_x _ (u64 c) 9 9 (by first | exact u64_wrap c | (unfold u64; omega)) rfl (by decide) (u64_lt c) (by rw [List.length_append, bitsOf_length]; omega) hw1).mono ?_
          rintro e w2 ⟨v2, rfl, hw2, hf2, hg2⟩
          go_wp2_with fail
          go_ret
          exact ⟨v2, rfl, hw2, row_trans hf1 hg1 hf2, Grew.trans hf1.size hg1 hg2⟩
      · skip
        by_cases c3 : -2048 ≤ c ∧ c < 2048
        · have ht : chg c = bitsOf 14 4 ++ bitsOf (u64 c) 12 := by unfold chg; rw [if_neg h0, if_neg c1, if_neg c2, if_pos c3]
          obtain ⟨a1, a2⟩ := c3
          have a4 : c ≤ 2047 := by omega
          rcases (by omega : c < -256 ∨ 256 ≤ c) with a3 | a3
          · have b0 : ¬ -64 ≤ c := by omega
            have b1 : ¬ -256 ≤ c := by omega
            clear c1 c2
            rw [ht, ← List.append_assoc]
            clear ht
            go_enter Tryd.func34, Tryd.ntmps34
            go_wp2_with fail
            refine (rput_x 14 14 4 4 rfl rfl (by decide) (by decide) (by omega) hw).mono ?_
            rintro e w1 ⟨v1, rfl, hw1, hf1, hg1⟩
            go_wp2_with fail
            refine (rput_x _ (u64 c) 12 12 (by first | exact u64_wrap c | (unfold u64; omega)) rfl (by decide) (u64_lt c) (by rw [List.length_append, bitsOf_length]; omega) hw1).mono ?_
            rintro e w2 ⟨v2, rfl, hw2, hf2, hg2⟩
            go_wp2_with fail
            go_ret
            exact ⟨v2, rfl, hw2, row_trans hf1 hg1 hf2, Grew.trans hf1.size hg1 hg2⟩
          · have b0 : -64 ≤ c := by omega
            have e0 : ¬ c ≤ 63 := by omega
            have b1 : -256 ≤ c := by omega
            have e1 : ¬ c ≤ 255 := by omega
            clear c1 c2
            rw [ht, ← List.append_assoc]
            clear ht
            go_enter Tryd.func34, Tryd.ntmps34
            go_wp2_with fail
            refine (rput_x 14 14 4 4 rfl rfl (by decide) (by decide) (by omega) hw).mono ?_
            rintro e w1 ⟨v1, rfl, hw1, hf1, hg1⟩
            go_wp2_with fail
            refine (rput_x _ (u64 c) 12 12 (by first | exact u64_wrap c | (unfold u64; omega)) rfl (by decide) (u64_lt c) (by rw [List.length_append, bitsOf_length]; omega) hw1).mono ?_
            rintro e w2 ⟨v2, rfl, hw2, hf2, hg2⟩
            go_wp2_with fail
            go_ret
            exact ⟨v2, rfl, hw2, row_trans hf1 hg1 hf2, Grew.trans hf1.size hg1 hg2⟩
        · skip
          have ht : chg c = bitsOf 15 4 ++ bitsOf (u64 c) 64 := by unfold chg; rw [if_neg h0, if_neg c1, if_neg c2, if_neg c3]
          rcases (by omega : c < -2048 ∨ 2048 ≤ c) with a3 | a3
          · have b0 : ¬ -64 ≤ c := by omega
            have b1 : ¬ -256 ≤ c := by omega
            have b2 : ¬ -2048 ≤ c := by omega
            clear c1 c2 c3
            rw [ht, ← List.append_assoc]
            clear ht
            go_enter Tryd.func34, Tryd.ntmps34
            go_wp2_with fail
            refine (rput_x 15 15 4 4 rfl rfl (by decide) (by decide) (by omega) hw).mono ?_
            rintro e w1 ⟨v1, rfl, hw1, hf1, hg1⟩
            go_wp2_with fail
            refine (rput_x _ (u64 c) 64 64 (by first | exact u64_wrap c | (unfold u64; omega)) rfl (by decide) (u64_lt c) (by rw [List.length_append, bitsOf_length]; omega) hw1).mono ?_
            rintro e w2 ⟨v2, rfl, hw2, hf2, hg2⟩
            go_wp2_with fail
            go_ret
            exact ⟨v2, rfl, hw2, row_trans hf1 hg1 hf2, Grew.trans hf1.size hg1 hg2⟩
          · have b0 : -64 ≤ c := by omega
            have e0 : ¬ c ≤ 63 := by omega
            have b1 : -256 ≤ c := by omega
            have e1 : ¬ c ≤ 255 := by omega
            have b2 : -2048 ≤ c := by omega
            have e2 : ¬ c ≤ 2047 := by omega
            clear c1 c2 c3
            rw [ht, ← List.append_assoc]
            clear ht
            go_enter Tryd.func34, Tryd.ntmps34
            go_wp2_with fail
            refine (rput_x 15 15 4 4 rfl rfl (by decide) (by decide) (by omega) hw).mono ?_
            rintro e w1 ⟨v1, rfl, hw1, hf1, hg1⟩
            go_wp2_with fail
            refine (rput_x _ (u64 c) 64 64 (by first | exact u64_wrap c | (unfold u64; omega)) rfl (by decide) (u64_lt c) (by rw [List.length_append, bitsOf_length]; omega) hw1).mono ?_
            rintro e w2 ⟨v2, rfl, hw2, hf2, hg2⟩
            go_wp2_with fail
            go_ret
            exact ⟨v2, rfl, hw2, row_trans hf1 hg1 hf2, Grew.trans hf1.size hg1 hg2⟩

end Go.Proofs.YtdnllmibchmnnaaDoor
