/-
  ChunkOne's walk: bytes that are taken are the one form of their samples, whose times rise.
-/
import Derived.Test.YtdnllmibchmnnaaDoorDec
namespace Go.Proofs.YtdnllmibchmnnaaDoor
set_option linter.unusedVariables false
set_option linter.unusedSimpArgs false
open Go.RowKit Go.BigFrame

theorem decE_zero {l : List Nat} (h : decE l = 0) : (rdM l).2 = 0 ∧ ckB (ckN (rdF (rdL l)) (rdM l).1) = l := by
  unfold decE at h
  split at h
  · rename_i h1
    exact absurd h h1
  · rename_i h1
    split at h
    · rename_i h2
      exact ⟨by simpa using h1, h2⟩
    · exact absurd h (by decide)

set_option maxRecDepth 100000 in
set_option maxHeartbeats 2000000 in
theorem cone_walk (s : ByteArray) (hs : s.size ≤ 140737488355328) (w : World) (hD : DbAt w) :
    Calls Tryd.prog 8 #[.string s] w fun e w' => e = .returned (.bool true) ∧ Frm [] w w' := by
  have hdec := fun W h => cdecode_any s hs W h
  by_cases hE : decE (bl s) = 0
  · obtain ⟨hM0, hB⟩ := decE_zero hE
    have hN : decN (bl s) = (rdM (bl s)).1 := if_pos hE
    obtain ⟨cc, hM1, hM2, hM3⟩ := rdM_form (bl s)
    have hokF := rd_ok hM1
    have hfa := rd_fa hM2 hM1 _ (Nat.le_refl _)
    have hri := fun i hi => rd_rise hM1 i hi
    have hbd := fun i hi => rd_smp hM1 i hi
    have htell := tellC_zero hfa
    rw [hB, bstr_bl] at htell
    unfold NewDec at hdec
    rw [hN, hE] at hdec
    generalize rdF (rdL (bl s)) = F at *
    generalize (rdM (bl s)).1 = m at *
    have henc := fun (A : Option Addr) (cap : Nat) W hDW hc => cencode_any A m cap F hokF (by omega) W hDW hc
    rw [htell] at henc
    have Henc := hide henc
    have Hdec := hide hdec
    have Hri := hide hri
    have Hbd := hide hbd
    have hw := wakes_any w hD
    have Hw := hide hw
    have hz : ((0 : Int) != 0) = false := by decide
    have hbt := str_beq_self s
    clear henc hdec hri hbd hE hN hM0 hB hM1 hM3 htell hfa hokF hw
    go_enter Tryd.func8, Tryd.ntmps8
    go_wp2_with fail
    refine Hw.out.mono ?_
    rintro e w1 ⟨rfl, hf1⟩
    have hD1 := hD.frm hf1
    go_wp2_with fail
    refine (Hdec.out _ hD1).mono ?_
    rintro e w2 ⟨A, c, rfl, hrow, hfv, hf2⟩
    have hcells := hrow.cellsAt
    have hf12 := hf1.trans hf2 (by simp)
    clear hfv Hdec
    go_wp2_with fail
    go_loopw [21] (fun i wr => ∃ k : Nat, k ≤ m ∧ i = .int .i64 (k : Int) ∧ Frm [] w2 wr) (fun i _ => m - (intOf i).toNat)
    case atStart => exact ⟨0, by omega, rfl, Frm.refl _ _⟩
    case round =>
      obtain ⟨k, hk, rfl, hf⟩ := hrel
      by_cases hlt : k < m
      · obtain ⟨sb, off, rfl, hsb, c0, c1⟩ := smp_at (hcells.frm hf) hlt
        obtain ⟨g1, g2, _⟩ := Hbd.out k hlt
        have d1 : decide ((F k).t < 0) = false := decide_eq_false (by omega)
        have d2 : decide ((1125899906842624 : Int) < (F k).t) = false := decide_eq_false (by omega)
        have b1 : (0 : Int) ≤ (k : Int) := by omega
        have b2 : (k : Int) < (m : Int) := by omega
        rcases hk0 : k with _ | j
        · subst hk0
          simp only [Nat.zero_mul, Nat.add_zero] at c0 c1
          have hlt2 := hide hlt
          clear hlt c1
          go_wp2_with fail
          go_quiet (fail)
          go_wp2
          go_roundw
          case measure => have := hlt2.out; simp [intOf]; omega
          case rel => exact ⟨1, by have := hlt2.out; omega, by go_num, hf.drewN _⟩
        · subst hk0
          obtain ⟨sb', off', hA, _, p0, p1⟩ := smp_at (hcells.frm hf) (show j < m by omega)
          simp only [Option.some.injEq, Addr.mk.injEq] at hA
          obtain ⟨rfl, rfl, _⟩ := hA
          have hr1 := Hri.out j hlt
          have d3 : decide ((F (j + 1)).t ≤ (F j).t) = false := decide_eq_false (by omega)
          have e1 : (((j + 1 : Nat) : Int) - 1) = (j : Int) := by omega
          have g0 : (0 : Int) < ((j + 1 : Nat) : Int) := by omega
          have b3 : (0 : Int) ≤ (j : Int) := by omega
          have b4 : (j : Int) < (m : Int) := by omega
          have b5 : (j : Int) + 1 < (m : Int) := by omega
          have hlt2 := hide hlt
          clear hlt c1 p1
          go_wp2_with fail
          go_quiet (fail)
          go_wp2
          go_roundw
          case measure => have := hlt2.out; simp [intOf]; omega
          case rel => exact ⟨j + 1 + 1, by have := hlt2.out; omega, by go_num, hf.drewN _⟩
      · obtain rfl : k = m := by omega
        have hD2 := (hD1.frm hf2).frm hf
        have hcl := hcells.frm hf
        have hm120 : (k : Int) ≤ 120 := by omega
        go_wp2_with fail
        refine (Henc.out A k _ hD2 hcl).mono ?_
        rintro e w3 ⟨rfl, hf3⟩
        go_wp2_with fail
        go_ret
        exact ⟨rfl, (hf12.trans hf (by simp)).trans hf3 (by simp)⟩
  · have hN : decN (bl s) = 0 := if_neg hE
    have hne : (decE (bl s) != 0) = true := by rw [bne_iff_ne]; exact hE
    unfold NewDec at hdec
    rw [hN] at hdec
    generalize decE (bl s) = er at *
    have Hdec := hide hdec
    have hw := wakes_any w hD
    have Hw := hide hw
    clear hdec hE hN hw
    go_enter Tryd.func8, Tryd.ntmps8
    go_wp2_with fail
    refine Hw.out.mono ?_
    rintro e w1 ⟨rfl, hf1⟩
    have hD1 := hD.frm hf1
    go_wp2_with fail
    refine (Hdec.out _ hD1).mono ?_
    rintro e w2 ⟨A, c, rfl, hrow, hfv, hf2⟩
    clear Hdec
    go_wp2_with fail
    go_ret
    exact ⟨rfl, hf1.trans hf2 (by simp)⟩

end Go.Proofs.YtdnllmibchmnnaaDoor
