/-
  ChunkSteady's walk: samples at even steps with one value take two bits each, behind the first two.
-/
import Derived.Test.YtdnllmibchmnnaaDoorStd
import Derived.BigRegion
namespace Go.Proofs.YtdnllmibchmnnaaDoor
set_option linter.unusedVariables false
set_option linter.unusedSimpArgs false
open Go.RowKit Go.BigFrame

theorem tellC_zero0 {F : Nat → Smp} {n : Nat} (h : ckFa F n = 0) : tellC F n = .tuple #[.string (bstr (ckB (ckN F n))), .int .i64 0] := by
  unfold tellC; rw [if_pos h]

set_option maxRecDepth 100000 in
set_option maxHeartbeats 2000000 in
theorem cstd_walk (P0 P1 P2 : Int) (V : Nat) (h0 : -9223372036854775808 ≤ P0 ∧ P0 ≤ 9223372036854775807) (h1 : -9223372036854775808 ≤ P1 ∧ P1 ≤ 9223372036854775807) (h2 : -9223372036854775808 ≤ P2 ∧ P2 ≤ 9223372036854775807) (hV : V < 18446744073709551616) (w : World) (hD : DbAt w) :
    Calls Tryd.prog 4 #[.agg #[.int .i64 P0, .int .i64 P1, .int .i64 P2, .int .u64 (V : Int)]] w fun e w' => e = .returned (.bool true) ∧ Frm [] w w' := by
  have hB := Blk.new w 35 #[.int .i64 P0, .int .i64 P1, .int .i64 P2, .int .u64 (V : Int)]
  have hf0 := (Frm.refl [] w).alloc (.cells #[.int .i64 P0, .int .i64 P1, .int .i64 P2, .int .u64 (V : Int)] 35)
  have hw := wakes_any _ (hD.frm hf0)
  have Hw := hide hw
  clear hw
  go_enter Tryd.func4, Tryd.ntmps4
  go_wp2_with fail
  refine Hw.out.mono ?_
  rintro e w1 ⟨rfl, hf1⟩
  have hB1 := hB.frm hf1 (by simp)
  have hf01 := hf0.trans hf1 (by simp)
  obtain ⟨b, hb⟩ : ∃ b, b = w.heap.size := ⟨_, rfl⟩
  rw [← hb] at hB1 ⊢
  have x0 : w1.cell? ⟨b, 0, none⟩ = some (.int .i64 P0) := hB1.cell 0
  have x1 : w1.cell? ⟨b, 1, none⟩ = some (.int .i64 P1) := hB1.cell 1
  have x2 : w1.cell? ⟨b, 2, none⟩ = some (.int .i64 P2) := hB1.cell 2
  have x3 : w1.cell? ⟨b, 3, none⟩ = some (.int .u64 (V : Int)) := hB1.cell 3
  clear hb
  obtain ⟨f, hf⟩ : ∃ f, max 0 (min P0 562949953421312) = f := ⟨_, rfl⟩
  have hfb : 0 ≤ f ∧ f ≤ 562949953421312 := by omega
  obtain ⟨q, hq⟩ : ∃ q, max 0 P1 = q := ⟨_, rfl⟩
  have hqb : 0 ≤ q := by omega
  obtain ⟨r, hr⟩ : ∃ r, max 0 P2 = r := ⟨_, rfl⟩
  have hrb : 0 ≤ r := by omega
  go_wp2_with fail
  go_region
  go_wp2_with fail
  obtain ⟨s, hs⟩ : ∃ s, 1 + q % 63 = s := ⟨_, rfl⟩
  have hsb : 1 ≤ s ∧ s ≤ 63 := by omega
  obtain ⟨n, hn⟩ : ∃ n : Nat, 2 + r % 119 = (n : Int) := ⟨(2 + r % 119).toNat, by omega⟩
  have hnb : 2 ≤ n ∧ n ≤ 120 := by omega
  rw [hs, hn]
  have hfd := hf01.drew
  have hB2 := hB1.drew
  clear hs hn hr hq hf hrb hqb x0 x1 x2 x3 hB1 hB hf0 hf1 hf01 Hw
  generalize w1.drew = w2 at *
  obtain ⟨hsb1, hsb2⟩ := hsb
  obtain ⟨hfb1, hfb2⟩ := hfb
  obtain ⟨hnb1, hnb2⟩ := hnb
  have hstd := std_ck f s V n hfb1 hfb2 hsb1 hsb2 hV hnb2 n (Nat.le_refl _)
  have hsok := fun i hi => (stdF_ok f s V n hfb1 hfb2 hsb1 hsb2 hV hnb2 i hi).1
  have Hstd := hide hstd
  have Hsok := hide hsok
  clear hstd hsok
  go_loopw [6, 27] (fun u6 i wr => ∃ k : Nat, k ≤ n ∧ i = .int .i64 (k : Int) ∧ SRow wr 37 u6 k (stdF f s V) ∧ Fresh w2.heap.size u6 ∧ Frm [] w2 wr) (fun _ i _ => n - (intOf i).toNat)
  case atStart => exact ⟨0, by omega, rfl, SRow.nil _ _ _, Fresh.nil _, Frm.refl _ _⟩
  case round =>
    obtain ⟨k, hk, rfl, hrow, hfr, hf⟩ := hrel
    obtain ⟨A1, c1, hsh⟩ := hrow.shape
    subst hsh
    by_cases hlt : k < n
    · have x3 : wr.cell? ⟨b, 3, none⟩ = some (.int .u64 (V : Int)) := (hB2.frm hf (by simp)).cell 3
      have m1 : 0 ≤ (k : Int) * s := Int.mul_nonneg (by omega) (by omega)
      have m2 : (k : Int) * s ≤ (k : Int) * 63 := Int.mul_le_mul_of_nonneg_left hsb2 (by omega)
      have m3 : (k : Int) * s ≤ 7560 := by omega
      have m4 : f + (k : Int) * s ≤ 1125899906842624 := by omega
      obtain ⟨v', w5, hr5, hown, hf5, hg5⟩ := append_smp (ty := 22) Tryd.underlying22 smpinfo wr hrow ⟨f + (k : Int) * s, V⟩ rfl (by omega)
      simp only [Smp.arr] at hr5
      have Hr5 := hide hr5
      clear hr5
      go_wp2_with (at_builtin; refine wp_append_known rfl (.tmp 30) (.tmp 39) 22 22 rfl rfl rfl Hr5.out ?_)
      go_roundw
      case measure => simp [intOf]; omega
      case rel => exact ⟨k + 1, by omega, by go_num, hown, hfr.grew hg5 hf.size, hf.trans hf5 hfr.row⟩
    · obtain rfl : k = n := by omega
      obtain ⟨hz, _, _, hlen⟩ := Hstd.out
      obtain ⟨hlen, _⟩ := hlen hnb1
      have htell := tellC_zero0 hz
      have henc := cencode_any A1 k c1 (stdF f s V) Hsok.out (by omega) wr (hD.frm (hfd.trans hf (by simp))) hrow.cellsAt
      rw [htell] at henc
      have hBs : (bstr (ckB (ckN (stdF f s V) k))).size = 1 + (138 + 2 * (k - 2) + 7) / 8 := by
        rw [bstr_size]
        have h2 := pack_length (ckN (stdF f s V) k).bits
        have hu : (uintB (ckN (stdF f s V) k).n).length = 1 := by
          rw [ckN_n]
          unfold uintB
          rw [uintN_last _ _ (by omega)]
          rfl
        simp only [ckB, List.length_append]
        omega
      have Henc := hide henc
      have e1 : (k : Int) - 2 = ((k - 2 : Nat) : Int) := by omega
      have HBs := hide hBs
      clear henc htell hz hlen hBs e1
      generalize bstr (ckB (ckN (stdF f s V) k)) = B at *
      go_wp2_with fail
      (with_reducible refine Henc.out.mono ?_)
      rintro e w5 ⟨rfl, hf5⟩
      have hq1 : (B.size : Int) = 1 + (138 + 2 * ((k : Int) - 2) + 7) / 8 := by rw [HBs.out]; omega
      have hq2 : ((B.size : Int) == 1 + (138 + 2 * ((k : Int) - 2) + 7) / 8) = true := by rw [beq_iff_eq]; exact hq1
      have Hq1 := hide hq1
      clear hq1
      go_wp2_with fail
      go_ret
      exact ⟨rfl, (hfd.trans hf (by simp)).trans hf5 (by simp)⟩

end Go.Proofs.YtdnllmibchmnnaaDoor
