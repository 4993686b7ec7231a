/-
  The contract of the document's Bytes.
-/
import Derived.Test.YtdnllmibchmnnaaDoorRfa
import Derived.Test.YtdnllmibchmnnaaDoorRdb
namespace Go.Proofs.YtdnllmibchmnnaaDoor
set_option linter.unusedVariables false
set_option linter.unusedSimpArgs false
open Go.RowKit Go.BigFrame

theorem lz_test (x : Nat) (h0 : x ≠ 0) (h : x < 18446744073709551616) (j : Nat) (hj : j ≤ lz x) (h31 : j < 31) : x.testBit (63 - j) = decide (lz x = j) := by
  have hl := log2_lt64 x h0 h
  unfold lz at hj ⊢
  by_cases e : 63 - x.log2 = j
  · have h1 : 63 - j = x.log2 := by omega
    rw [h1, top_bit x h0]
    have : min (63 - x.log2) 31 = j := by omega
    rw [decide_eq_true this]
  · rw [top_none x (63 - j) h0 (by omega)]
    have : ¬ min (63 - x.log2) 31 = j := by omega
    rw [decide_eq_false this]
theorem tz_test (x : Nat) (h0 : x ≠ 0) (h : x < 18446744073709551616) (j : Nat) (hj : j ≤ tz x) : x.testBit j = decide (tz x = j) := by
  by_cases e : tz x = j
  · rw [decide_eq_true e, ← e]
    exact tz_bit x h0 h
  · rw [decide_eq_false e]
    exact tz_low x h0 h j (by omega)

/-- The window's lead as the document keeps it. -/
def ldI (c : Ck) : Int := if c.win = true then (c.lead : Int) else -1

/-- The rows of bits and what is known of the chunk that they write. -/
structure RbySt (w wr : World) (v : Value) (l : List Bool) : Prop where
  row : BitRow wr v l
  fv : Fresh w.heap.size v
  frm : Frm [] w wr
theorem RbySt.put {w wr w1 : World} {v v1 : Value} {l l1 : List Bool} (h : RbySt w wr v l) (hr : BitRow w1 v1 l1) (hf : Frm v.ownBlock.toList wr w1) (hg : Grew wr v v1) : RbySt w w1 v1 l1 :=
  ⟨hr, h.fv.grew hg h.frm.size, h.frm.trans hf h.fv.row⟩
theorem RbySt.drewN {w wr : World} {v : Value} {l : List Bool} (h : RbySt w wr v l) (n : Nat) : RbySt w (wr.drewN n) v l := ⟨h.row, h.fv, h.frm.drewN n⟩

/-- The chunk behind a sample that is not the first. -/
theorem ckN_next (F : Nat → Smp) (m : Nat) : ckN F (m + 1 + 1) = { dif ((F (m + 1)).v ^^^ (F m).v) { ckN F (m + 1) with bits := (ckN F (m + 1)).bits ++ chg ((F (m + 1)).t - (F m).t - (ckN F (m + 1)).step), step := (F (m + 1)).t - (F m).t } with n := m + 1 + 1, t := (F (m + 1)).t, v := (F (m + 1)).v } := by
  have h : ckN F (m + 1 + 1) = appS (ckN F (m + 1)) (F (m + 1)).t (F (m + 1)).v := rfl
  have ht := ckN_t F m
  have hv := ckN_v F m
  have hn := ckN_n F (m + 1)
  rw [h]
  generalize ckN F (m + 1) = c at *
  obtain ⟨bits, n, t, v, step, lead, tail, win⟩ := c
  simp only at ht hv hn
  subst ht hv hn
  unfold appS
  rw [if_neg (by simp)]

set_option maxRecDepth 100000 in
set_option maxHeartbeats 8000000 in
theorem rckbytes_any (A : Option Addr) (n cap : Nat) (F : Nat → Smp) (hok : ∀ i, i < n → (F i).Ok) (hz : ckFa F n = 0) (w : World) (hc : CellsAt w A n 2 (fun i j => (F i).cell j)) :
    Calls Tryd.prog 21 #[.slice A n cap] w fun e w' => e = .returned (.string (bstr (ckB (ckN F n)))) ∧ Frm [] w w' := by
  have hn : n ≤ 120 := by have := (ckN_ok F n hok n (Nat.le_refl _) hz).n; rw [ckN_n] at this; exact this
  have hzk : ∀ k, k ≤ n → ckFa F k = 0 := by
    intro k hk
    by_cases h : ckFa F k = 0
    · exact h
    · have := ckFa_stays F k h n hk
      rw [hz] at this
      exact this.symm
  go_enter Tryd.func21, Tryd.ntmps21
  go_wp2_with fail
  refine (ruint_any n _ (by first | rfl | omega) (by omega) _).mono ?_
  rintro e w1 ⟨rfl, hf1⟩
  go_wp2_with fail
  have hE : RbySt w w1 (.slice none 0 0) [] := ⟨World.ownsRow_nil _ _ _ _, Fresh.nil _, hf1⟩
  go_loopw [4, 5, 6, 7, 8] (fun t4 t5 t6 t7 t8 wr => ∃ k : Nat, k ≤ n ∧ t8 = .int .i64 (k : Int) ∧ t5 = .int .i64 (ckN F k).step ∧ t6 = .int .i64 (ldI (ckN F k)) ∧ t7 = .int .i64 ((ckN F k).tail : Int) ∧ RbySt w wr t4 (ckN F k).bits) (fun _ _ _ _ t8 _ => n - (intOf t8).toNat)
  case atStart => exact ⟨0, by omega, rfl, rfl, rfl, rfl, hE⟩
  case round =>
    obtain ⟨k, hk, rfl, rfl, rfl, rfl, hS⟩ := hrel
    by_cases hlt : k < n
    · have hlt2 := hide hlt
      have hK := ckN_ok F n hok k hk (hzk k hk)
      obtain ⟨hz1, hz2⟩ := ckFa_zero F k (hzk (k + 1) (by omega))
      obtain ⟨sb, off, rfl, hsb, c0, c1⟩ := smp_at (hc.frm hS.frm) hlt
      have hOk := hok k hlt
      rcases hk0 : k with _ | m
      · subst hk0
        clear hzk hz hz1 hz2
        simp only [Nat.zero_mul, Nat.add_zero] at c0 c1
        have h1 : (ckN F 1).step = 0 := rfl
        have h2 : ldI (ckN F 1) = -1 := rfl
        have h3 : (ckN F 1).tail = 0 := rfl
        have h4 : (ckN F 1).bits = ([] ++ bitsOf (Go.Proofs.YtdnllmibchmnnaaDoor.u64 (F 0).t) 64) ++ bitsOf (F 0).v 64 := rfl
        have hS0 : RbySt w wr u4 [] := hS
        have hd0 : (ckN F 0).step = 0 := rfl
        have hd1 : ldI (ckN F 0) = -1 := rfl
        have hd2 : (ckN F 0).tail = 0 := rfl
        rw [hd0, hd1, hd2]
        have H1 := hide h1
        have H2 := hide h2
        have H3 := hide h3
        have H4 := hide h4
        have hv := hOk.v
        have hcN := hc.frm hS.frm
        clear hS h1 h2 h3 h4 hd0 hd1 hd2
        go_wp2_with fail
        refine (rput_x _ (Go.Proofs.YtdnllmibchmnnaaDoor.u64 (F 0).t) 64 64 (by first | exact u64_wrap _ | (unfold Go.Proofs.YtdnllmibchmnnaaDoor.u64; omega)) rfl (by decide) (u64_lt _) (by decide) hS0.row).mono ?_
        rintro e w2 ⟨v2, rfl, hw2, hf2, hg2⟩
        have hS2 := hS0.put hw2 hf2 hg2
        have d1 : w2.cell? ⟨sb, off + 1, none⟩ = some (.int .u64 ((F 0).v : Int)) := by
          obtain ⟨sb', off', hA, _, _, d1⟩ := smp_at (hc.frm hS2.frm) hlt2.out
          simp only [Option.some.injEq, Addr.mk.injEq] at hA
          obtain ⟨rfl, rfl, _⟩ := hA
          simpa using d1
        go_wp2_with fail
        refine (rput_x _ (F 0).v 64 64 rfl rfl (by decide) hv (by rw [List.length_append, bitsOf_length]; decide) hS2.row).mono ?_
        rintro e w3 ⟨v3, rfl, hw3, hf3, hg3⟩
        have hS3 := hS2.put hw3 hf3 hg3
        go_wp2_with fail
        go_roundw
        case measure => have := hlt2.out; simp [intOf]; omega
        case rel => exact ⟨1, by have := hlt2.out; omega, rfl, by rw [H1.out], by rw [H2.out], by rw [H3.out]; rfl, by rw [H4.out]; exact hS3⟩
      · subst hk0
        obtain ⟨sb', off', hA, _, p0, p1⟩ := smp_at (hc.frm hS.frm) (show m < n by omega)
        simp only [Option.some.injEq, Addr.mk.injEq] at hA
        obtain ⟨rfl, rfl, _⟩ := hA
        obtain ⟨b1, b2, b3, b4⟩ := app_bounds hz2 hK.n
        have hlast := b3 (by rw [ckN_n]; omega)
        rw [ckN_t] at hlast
        have ht0 := hK.t0
        have ht1 := hK.t1
        rw [ckN_t] at ht0 ht1
        have hs0 := hK.s0
        have hs1 := hK.s1
        have hle := hK.le
        have hta := hK.ta
        have hwn := hK.win
        have hnx := ckN_next F m
        have hOm := hok m (by omega)
        have hv1 := hOk.v
        have hv0 := hOm.v
        have hll : (ckN F (m + 1)).bits.length ≤ 18000 := by have := hK.len; have := hK.n; omega
        have hx64 := Nat.xor_lt_two_pow (n := 64) hv1 hv0
        have hxor := u64_xor_nat (F (m + 1)).v (F m).v hv1 hv0
        obtain ⟨x, hx⟩ : ∃ x, (F (m + 1)).v ^^^ (F m).v = x := ⟨_, rfl⟩
        rw [hx] at hnx hx64 hxor
        have hx64' : x < 18446744073709551616 := hx64
        generalize ckN F (m + 1) = c at *
        have hcl := chg_length ((F (m + 1)).t - (F m).t - c.step)
        obtain ⟨c2, hc2⟩ : ∃ c2, ckN F (m + 1 + 1) = c2 := ⟨_, rfl⟩
        rw [hc2] at hnx
        have Hc2 := hide hc2
        clear hc2
        have Hcm := hide hc
        have HS := hide hS
        have e1 : (((m + 1 : Nat) : Int) - 1) = (m : Int) := by omega
        have hchg := fun v W h => rchange_any v c.bits ((F (m + 1)).t - (F m).t - c.step) (by omega) (by omega) (by omega) W h
        have Hchg := hide hchg
        have Hnx := hide hnx
        have hkz : (((m + 1 : Nat) : Int) == 0) = false := by rw [beq_eq_false_iff_ne]; omega
        clear hc hS hzk hz hz1 hz2 hx hnx hchg hK hx64 b4 b3
        have hq0 : (0 : Int) ≤ (m : Int) := Int.natCast_nonneg _
        have hq1 : (m : Int) < (n : Int) := by have := hlt2.out; omega
        have hq2 : (m : Int) + 1 < (n : Int) := by have := hlt2.out; omega
        go_wp2_with fail
        go_quiet (fail)
        go_wp2_with fail
        refine (Hchg.out _ _ (HS.out.drewN _).row).mono ?_
        rintro e w2 ⟨v2, rfl, hw2, hf2, hg2⟩
        have hS2 := (HS.out.drewN _).put hw2 hf2 hg2
        have HS2 := hide hS2
        obtain ⟨d0, d1⟩ : w2.cell? ⟨sb, off + (m + 1) * 2 + 1, none⟩ = some (.int .u64 ((F (m + 1)).v : Int)) ∧ w2.cell? ⟨sb, off + m * 2 + 1, none⟩ = some (.int .u64 ((F m).v : Int)) := by
          obtain ⟨sb', off', hA, _, _, d1⟩ := smp_at (Hcm.out.frm hS2.frm) hlt2.out
          obtain ⟨sb2, off2, hA2, _, _, d2⟩ := smp_at (Hcm.out.frm hS2.frm) (show m < n by have := hlt2.out; omega)
          simp only [Option.some.injEq, Addr.mk.injEq] at hA hA2
          obtain ⟨rfl, rfl, _⟩ := hA
          obtain ⟨rfl, rfl, _⟩ := hA2
          exact ⟨d1, d2⟩
        clear c0 c1 p0 p1 hS2 hw2 hf2 hg2
        by_cases hx0 : x = 0
        · have hxb : ((x : Int) == 0) = true := by rw [beq_iff_eq]; omega
          go_wp2_with fail
          go_quiet (fail)
          go_wp2_with fail
          refine (rput_x 0 0 1 1 rfl rfl (by decide) (by decide) (by simp only [List.length_append, bitsOf_length]; omega) ((HS2.out.drewN _).row)).mono ?_
          rintro e w3 ⟨v3, rfl, hw3, hf3, hg3⟩
          have hS3 := (HS2.out.drewN _).put hw3 hf3 hg3
          have HS3 := hide hS3
          clear HS2 hS3 hw3 hf3 hg3 d0 d1
          go_wp2_with fail
          go_roundw
          case measure => have := hlt2.out; simp [intOf]; omega
          case rel =>
            refine ⟨m + 1 + 1, by have := hlt2.out; omega, by go_num, ?_, ?_, ?_, ?_⟩
            all_goals (rw [Hc2.out, Hnx.out]; unfold dif; rw [if_pos hx0])
            · rfl
            · exact HS3.out
        · have hxb : ((x : Int) == 0) = false := by rw [beq_eq_false_iff_ne]; omega
          obtain ⟨q1, q2, q3⟩ := lz_tz x hx0 hx64'
          have hbA := lz_test x hx0 hx64'
          have hbT := tz_test x hx0 hx64'
          have hdf : dif x { c with bits := c.bits ++ chg ((F (m + 1)).t - (F m).t - c.step), step := (F (m + 1)).t - (F m).t } = if c.win = true ∧ c.lead ≤ lz x ∧ c.tail ≤ tz x then { c with bits := c.bits ++ chg ((F (m + 1)).t - (F m).t - c.step) ++ bitsOf 2 2 ++ bitsOf (x / 2 ^ c.tail) (64 - c.lead - c.tail), step := (F (m + 1)).t - (F m).t }
              else { c with bits := c.bits ++ chg ((F (m + 1)).t - (F m).t - c.step) ++ bitsOf 3 2 ++ bitsOf (lz x) 5 ++ bitsOf (63 - lz x - tz x) 6 ++ bitsOf (x / 2 ^ tz x) (64 - lz x - tz x), step := (F (m + 1)).t - (F m).t, lead := lz x, tail := tz x, win := true } := by
            unfold dif; rw [if_neg hx0]
          generalize lz x = A at q1 q3 hbA hdf
          generalize tz x = T at q2 q3 hbT hdf
          have HbA := hide hbA
          have HbT := hide hbT
          have Hdf := hide hdf
          clear hbA hbT hdf
          by_cases hwin : c.win = true
          · have hld : ldI c = (c.lead : Int) := by unfold ldI; rw [if_pos hwin]
            rw [hld]
            have hwb := hwn hwin
            clear hld
            by_cases h1 : c.lead ≤ A
            · by_cases h2 : c.tail ≤ T
              · skip
                go_wp2_with fail
                go_quiet (fail)
                go_wp2_with fail
                go_loop [11] (fun t => ∃ j : Nat, j ≤ A ∧ t = .int .i64 (j : Int)) (fun t => 31 - (intOf t).toNat)
                case atStart => exact ⟨0, by omega, rfl⟩
                case round =>
                  obtain ⟨j, hj, rfl⟩ := hrel
                  by_cases hjA : j < A
                  · have hb := rbit_any x (x : Int) rfl j (j : Int) rfl (by omega) hx64'
                    rw [HbA.out j hj (by omega), decide_eq_false (show ¬ A = j by omega)] at hb
                    have h31 : j < 31 := by omega
                    go_wp2_with (go_at_call 35; refine (hb _).mono ?_; rintro e w' ⟨rfl, rfl⟩)
                    go_round
                    case measure => simp [intOf]; omega
                    case rel => exact ⟨j + 1, by omega, by go_num⟩
                  · obtain rfl : j = A := by omega
                    have hb := fun (h31 : j < 31) => rbit_any x (x : Int) rfl j (j : Int) rfl (by omega) hx64'
                    have hbt := fun (h31 : j < 31) => HbA.out j hj h31
                    have Hb := hide hb
                    have Hbt := hide hbt
                    clear hb hbt hjA
                    by_cases h31 : j < 31
                    all_goals
                      go_wp2_with (go_at_call 35; refine (Hb.out h31 _).mono ?_; rintro e w' ⟨rfl, rfl⟩; rw [Hbt.out h31, decide_eq_true rfl])
                      go_loop [12] (fun t => ∃ i : Nat, i ≤ T ∧ t = .int .i64 (i : Int)) (fun t => 64 - (intOf t).toNat)
                      case atStart => exact ⟨0, by omega, rfl⟩
                      case round =>
                        obtain ⟨i, hi, rfl⟩ := hrel
                        have hb := rbit_any x (x : Int) rfl (63 - i) (63 - (i : Int)) (by omega) (by omega) hx64'
                        rw [show 63 - (63 - i) = i by omega, HbT.out i hi] at hb
                        by_cases hiT : i < T
                        · rw [decide_eq_false (show ¬ T = i by omega)] at hb
                          go_wp2_with (go_at_call 35; refine (hb _).mono ?_; rintro e w' ⟨rfl, rfl⟩)
                          go_round
                          case measure => simp [intOf]; omega
                          case rel => exact ⟨i + 1, by omega, by go_num⟩
                        · obtain rfl : i = T := by omega
                          rw [decide_eq_true rfl] at hb
                          have Hb2 := hide hb
                          clear hb
                          go_wp2_with (go_at_call 35; refine (Hb2.out _).mono ?_; rintro e w' ⟨rfl, rfl⟩)
                          refine (rput_x 2 2 2 2 rfl rfl (by decide) (by decide) (by simp only [List.length_append, bitsOf_length]; omega) ((HS2.out.drewN _).row)).mono ?_
                          rintro e w3 ⟨v3, rfl, hw3, hf3, hg3⟩
                          have hS3 := (HS2.out.drewN _).put hw3 hf3 hg3
                          have HS3 := hide hS3
                          clear hS3 hw3 hf3 hg3 HS2
                          go_wp2_with fail
                          refine (rput_x _ (x / 2 ^ c.tail) _ (64 - c.lead - c.tail) (by first | rfl | simp) (by omega) (by omega) (shr_lt x c.tail hx64') (by simp only [List.length_append, bitsOf_length]; omega) (HS3.out.row)).mono ?_
                          rintro e w4 ⟨v4, rfl, hw4, hf4, hg4⟩
                          have hS4 := HS3.out.put hw4 hf4 hg4
                          have HS4 := hide hS4
                          clear hS4 hw4 hf4 hg4 HS3
                          go_wp2_with fail
                          go_roundw
                          case measure => have := hlt2.out; simp [intOf]; omega
                          case rel =>
                            refine ⟨m + 1 + 1, by have := hlt2.out; omega, by go_num, ?_, ?_, ?_, ?_⟩
                            all_goals rw [Hc2.out, Hnx.out, Hdf.out]
                            all_goals rw [if_pos ⟨hwin, h1, h2⟩]
                            · unfold ldI; rw [if_pos hwin]
                            · exact HS4.out
              · have h2d : decide (c.tail ≤ T) = false := decide_eq_false h2
                go_wp2_with fail
                go_quiet (fail)
                go_wp2_with fail
                go_loop [11] (fun t => ∃ j : Nat, j ≤ A ∧ t = .int .i64 (j : Int)) (fun t => 31 - (intOf t).toNat)
                case atStart => exact ⟨0, by omega, rfl⟩
                case round =>
                  obtain ⟨j, hj, rfl⟩ := hrel
                  by_cases hjA : j < A
                  · have hb := rbit_any x (x : Int) rfl j (j : Int) rfl (by omega) hx64'
                    rw [HbA.out j hj (by omega), decide_eq_false (show ¬ A = j by omega)] at hb
                    have h31 : j < 31 := by omega
                    go_wp2_with (go_at_call 35; refine (hb _).mono ?_; rintro e w' ⟨rfl, rfl⟩)
                    go_round
                    case measure => simp [intOf]; omega
                    case rel => exact ⟨j + 1, by omega, by go_num⟩
                  · obtain rfl : j = A := by omega
                    have hb := fun (h31 : j < 31) => rbit_any x (x : Int) rfl j (j : Int) rfl (by omega) hx64'
                    have hbt := fun (h31 : j < 31) => HbA.out j hj h31
                    have Hb := hide hb
                    have Hbt := hide hbt
                    clear hb hbt hjA
                    by_cases h31 : j < 31
                    all_goals
                      go_wp2_with (go_at_call 35; refine (Hb.out h31 _).mono ?_; rintro e w' ⟨rfl, rfl⟩; rw [Hbt.out h31, decide_eq_true rfl])
                      go_loop [12] (fun t => ∃ i : Nat, i ≤ T ∧ t = .int .i64 (i : Int)) (fun t => 64 - (intOf t).toNat)
                      case atStart => exact ⟨0, by omega, rfl⟩
                      case round =>
                        obtain ⟨i, hi, rfl⟩ := hrel
                        have hb := rbit_any x (x : Int) rfl (63 - i) (63 - (i : Int)) (by omega) (by omega) hx64'
                        rw [show 63 - (63 - i) = i by omega, HbT.out i hi] at hb
                        by_cases hiT : i < T
                        · rw [decide_eq_false (show ¬ T = i by omega)] at hb
                          go_wp2_with (go_at_call 35; refine (hb _).mono ?_; rintro e w' ⟨rfl, rfl⟩)
                          go_round
                          case measure => simp [intOf]; omega
                          case rel => exact ⟨i + 1, by omega, by go_num⟩
                        · obtain rfl : i = T := by omega
                          rw [decide_eq_true rfl] at hb
                          have Hb2 := hide hb
                          clear hb
                          go_wp2_with (go_at_call 35; refine (Hb2.out _).mono ?_; rintro e w' ⟨rfl, rfl⟩)
                          refine (rput_x 3 3 2 2 rfl rfl (by decide) (by decide) (by simp only [List.length_append, bitsOf_length]; omega) ((HS2.out.drewN _).row)).mono ?_
                          rintro e w3 ⟨v3, rfl, hw3, hf3, hg3⟩
                          have hS3 := (HS2.out.drewN _).put hw3 hf3 hg3
                          have HS3 := hide hS3
                          clear hS3 hw3 hf3 hg3 HS2
                          go_wp2_with fail
                          refine (rput_x _ j 5 5 (by first | rfl | omega) rfl (by decide) (by omega) (by simp only [List.length_append, bitsOf_length]; omega) (HS3.out.row)).mono ?_
                          rintro e w4 ⟨v4, rfl, hw4, hf4, hg4⟩
                          have hS4 := HS3.out.put hw4 hf4 hg4
                          have HS4 := hide hS4
                          clear hS4 hw4 hf4 hg4 HS3
                          go_wp2_with fail
                          refine (rput_x _ (63 - j - i) 6 6 (by omega) rfl (by decide) (by omega) (by simp only [List.length_append, bitsOf_length]; omega) (HS4.out.row)).mono ?_
                          rintro e w5 ⟨v5, rfl, hw5, hf5, hg5⟩
                          have hS5 := HS4.out.put hw5 hf5 hg5
                          have HS5 := hide hS5
                          clear hS5 hw5 hf5 hg5 HS4
                          go_wp2_with fail
                          refine (rput_x _ (x / 2 ^ i) _ (64 - j - i) (by first | rfl | simp) (by omega) (by omega) (shr_lt x i hx64') (by simp only [List.length_append, bitsOf_length]; omega) (HS5.out.row)).mono ?_
                          rintro e w6 ⟨v6, rfl, hw6, hf6, hg6⟩
                          have hS6 := HS5.out.put hw6 hf6 hg6
                          have HS6 := hide hS6
                          clear hS6 hw6 hf6 hg6 HS5
                          go_wp2_with fail
                          go_roundw
                          case measure => have := hlt2.out; simp [intOf]; omega
                          case rel =>
                            refine ⟨m + 1 + 1, by have := hlt2.out; omega, by go_num, ?_, ?_, ?_, ?_⟩
                            all_goals rw [Hc2.out, Hnx.out, Hdf.out]
                            all_goals rw [if_neg (fun h => h2 h.2.2)]
                            · rfl
                            · exact HS6.out
            · have h1d : decide (c.lead ≤ A) = false := decide_eq_false h1
              go_wp2_with fail
              go_quiet (fail)
              go_wp2_with fail
              go_loop [11] (fun t => ∃ j : Nat, j ≤ A ∧ t = .int .i64 (j : Int)) (fun t => 31 - (intOf t).toNat)
              case atStart => exact ⟨0, by omega, rfl⟩
              case round =>
                obtain ⟨j, hj, rfl⟩ := hrel
                by_cases hjA : j < A
                · have hb := rbit_any x (x : Int) rfl j (j : Int) rfl (by omega) hx64'
                  rw [HbA.out j hj (by omega), decide_eq_false (show ¬ A = j by omega)] at hb
                  have h31 : j < 31 := by omega
                  go_wp2_with (go_at_call 35; refine (hb _).mono ?_; rintro e w' ⟨rfl, rfl⟩)
                  go_round
                  case measure => simp [intOf]; omega
                  case rel => exact ⟨j + 1, by omega, by go_num⟩
                · obtain rfl : j = A := by omega
                  have hb := fun (h31 : j < 31) => rbit_any x (x : Int) rfl j (j : Int) rfl (by omega) hx64'
                  have hbt := fun (h31 : j < 31) => HbA.out j hj h31
                  have Hb := hide hb
                  have Hbt := hide hbt
                  clear hb hbt hjA
                  by_cases h31 : j < 31
                  all_goals
                    go_wp2_with (go_at_call 35; refine (Hb.out h31 _).mono ?_; rintro e w' ⟨rfl, rfl⟩; rw [Hbt.out h31, decide_eq_true rfl])
                    go_loop [12] (fun t => ∃ i : Nat, i ≤ T ∧ t = .int .i64 (i : Int)) (fun t => 64 - (intOf t).toNat)
                    case atStart => exact ⟨0, by omega, rfl⟩
                    case round =>
                      obtain ⟨i, hi, rfl⟩ := hrel
                      have hb := rbit_any x (x : Int) rfl (63 - i) (63 - (i : Int)) (by omega) (by omega) hx64'
                      rw [show 63 - (63 - i) = i by omega, HbT.out i hi] at hb
                      by_cases hiT : i < T
                      · rw [decide_eq_false (show ¬ T = i by omega)] at hb
                        go_wp2_with (go_at_call 35; refine (hb _).mono ?_; rintro e w' ⟨rfl, rfl⟩)
                        go_round
                        case measure => simp [intOf]; omega
                        case rel => exact ⟨i + 1, by omega, by go_num⟩
                      · obtain rfl : i = T := by omega
                        rw [decide_eq_true rfl] at hb
                        have Hb2 := hide hb
                        clear hb
                        go_wp2_with (go_at_call 35; refine (Hb2.out _).mono ?_; rintro e w' ⟨rfl, rfl⟩)
                        refine (rput_x 3 3 2 2 rfl rfl (by decide) (by decide) (by simp only [List.length_append, bitsOf_length]; omega) ((HS2.out.drewN _).row)).mono ?_
                        rintro e w3 ⟨v3, rfl, hw3, hf3, hg3⟩
                        have hS3 := (HS2.out.drewN _).put hw3 hf3 hg3
                        have HS3 := hide hS3
                        clear hS3 hw3 hf3 hg3 HS2
                        go_wp2_with fail
                        refine (rput_x _ j 5 5 (by first | rfl | omega) rfl (by decide) (by omega) (by simp only [List.length_append, bitsOf_length]; omega) (HS3.out.row)).mono ?_
                        rintro e w4 ⟨v4, rfl, hw4, hf4, hg4⟩
                        have hS4 := HS3.out.put hw4 hf4 hg4
                        have HS4 := hide hS4
                        clear hS4 hw4 hf4 hg4 HS3
                        go_wp2_with fail
                        refine (rput_x _ (63 - j - i) 6 6 (by omega) rfl (by decide) (by omega) (by simp only [List.length_append, bitsOf_length]; omega) (HS4.out.row)).mono ?_
                        rintro e w5 ⟨v5, rfl, hw5, hf5, hg5⟩
                        have hS5 := HS4.out.put hw5 hf5 hg5
                        have HS5 := hide hS5
                        clear hS5 hw5 hf5 hg5 HS4
                        go_wp2_with fail
                        refine (rput_x _ (x / 2 ^ i) _ (64 - j - i) (by first | rfl | simp) (by omega) (by omega) (shr_lt x i hx64') (by simp only [List.length_append, bitsOf_length]; omega) (HS5.out.row)).mono ?_
                        rintro e w6 ⟨v6, rfl, hw6, hf6, hg6⟩
                        have hS6 := HS5.out.put hw6 hf6 hg6
                        have HS6 := hide hS6
                        clear hS6 hw6 hf6 hg6 HS5
                        go_wp2_with fail
                        go_roundw
                        case measure => have := hlt2.out; simp [intOf]; omega
                        case rel =>
                          refine ⟨m + 1 + 1, by have := hlt2.out; omega, by go_num, ?_, ?_, ?_, ?_⟩
                          all_goals rw [Hc2.out, Hnx.out, Hdf.out]
                          all_goals rw [if_neg (fun h => h1 h.2.1)]
                          · rfl
                          · exact HS6.out
          · have hld : ldI c = -1 := by unfold ldI; rw [if_neg hwin]
            rw [hld]
            clear hld
            go_wp2_with fail
            go_quiet (fail)
            go_wp2_with fail
            go_loop [11] (fun t => ∃ j : Nat, j ≤ A ∧ t = .int .i64 (j : Int)) (fun t => 31 - (intOf t).toNat)
            case atStart => exact ⟨0, by omega, rfl⟩
            case round =>
              obtain ⟨j, hj, rfl⟩ := hrel
              by_cases hjA : j < A
              · have hb := rbit_any x (x : Int) rfl j (j : Int) rfl (by omega) hx64'
                rw [HbA.out j hj (by omega), decide_eq_false (show ¬ A = j by omega)] at hb
                have h31 : j < 31 := by omega
                go_wp2_with (go_at_call 35; refine (hb _).mono ?_; rintro e w' ⟨rfl, rfl⟩)
                go_round
                case measure => simp [intOf]; omega
                case rel => exact ⟨j + 1, by omega, by go_num⟩
              · obtain rfl : j = A := by omega
                have hb := fun (h31 : j < 31) => rbit_any x (x : Int) rfl j (j : Int) rfl (by omega) hx64'
                have hbt := fun (h31 : j < 31) => HbA.out j hj h31
                have Hb := hide hb
                have Hbt := hide hbt
                clear hb hbt hjA
                by_cases h31 : j < 31
                all_goals
                  go_wp2_with (go_at_call 35; refine (Hb.out h31 _).mono ?_; rintro e w' ⟨rfl, rfl⟩; rw [Hbt.out h31, decide_eq_true rfl])
                  go_loop [12] (fun t => ∃ i : Nat, i ≤ T ∧ t = .int .i64 (i : Int)) (fun t => 64 - (intOf t).toNat)
                  case atStart => exact ⟨0, by omega, rfl⟩
                  case round =>
                    obtain ⟨i, hi, rfl⟩ := hrel
                    have hb := rbit_any x (x : Int) rfl (63 - i) (63 - (i : Int)) (by omega) (by omega) hx64'
                    rw [show 63 - (63 - i) = i by omega, HbT.out i hi] at hb
                    by_cases hiT : i < T
                    · rw [decide_eq_false (show ¬ T = i by omega)] at hb
                      go_wp2_with (go_at_call 35; refine (hb _).mono ?_; rintro e w' ⟨rfl, rfl⟩)
                      go_round
                      case measure => simp [intOf]; omega
                      case rel => exact ⟨i + 1, by omega, by go_num⟩
                    · obtain rfl : i = T := by omega
                      rw [decide_eq_true rfl] at hb
                      have Hb2 := hide hb
                      clear hb
                      go_wp2_with (go_at_call 35; refine (Hb2.out _).mono ?_; rintro e w' ⟨rfl, rfl⟩)
                      refine (rput_x 3 3 2 2 rfl rfl (by decide) (by decide) (by simp only [List.length_append, bitsOf_length]; omega) ((HS2.out.drewN _).row)).mono ?_
                      rintro e w3 ⟨v3, rfl, hw3, hf3, hg3⟩
                      have hS3 := (HS2.out.drewN _).put hw3 hf3 hg3
                      have HS3 := hide hS3
                      clear hS3 hw3 hf3 hg3 HS2
                      go_wp2_with fail
                      refine (rput_x _ j 5 5 (by first | rfl | omega) rfl (by decide) (by omega) (by simp only [List.length_append, bitsOf_length]; omega) (HS3.out.row)).mono ?_
                      rintro e w4 ⟨v4, rfl, hw4, hf4, hg4⟩
                      have hS4 := HS3.out.put hw4 hf4 hg4
                      have HS4 := hide hS4
                      clear hS4 hw4 hf4 hg4 HS3
                      go_wp2_with fail
                      refine (rput_x _ (63 - j - i) 6 6 (by omega) rfl (by decide) (by omega) (by simp only [List.length_append, bitsOf_length]; omega) (HS4.out.row)).mono ?_
                      rintro e w5 ⟨v5, rfl, hw5, hf5, hg5⟩
                      have hS5 := HS4.out.put hw5 hf5 hg5
                      have HS5 := hide hS5
                      clear hS5 hw5 hf5 hg5 HS4
                      go_wp2_with fail
                      refine (rput_x _ (x / 2 ^ i) _ (64 - j - i) (by first | rfl | simp) (by omega) (by omega) (shr_lt x i hx64') (by simp only [List.length_append, bitsOf_length]; omega) (HS5.out.row)).mono ?_
                      rintro e w6 ⟨v6, rfl, hw6, hf6, hg6⟩
                      have hS6 := HS5.out.put hw6 hf6 hg6
                      have HS6 := hide hS6
                      clear hS6 hw6 hf6 hg6 HS5
                      go_wp2_with fail
                      go_roundw
                      case measure => have := hlt2.out; simp [intOf]; omega
                      case rel =>
                        refine ⟨m + 1 + 1, by have := hlt2.out; omega, by go_num, ?_, ?_, ?_, ?_⟩
                        all_goals rw [Hc2.out, Hnx.out, Hdf.out]
                        all_goals rw [if_neg (fun h => hwin h.1)]
                        · rfl
                        · exact HS6.out
    · obtain rfl : k = n := by omega
      have hK := ckN_ok F k hok k (Nat.le_refl _) hz
      have hl := hK.len
      have h9 := hK.n
      have hsz : ¬ 9223372036854775807 < (bstr (uintB k)).size + (bstr (pack (ckN F k).bits)).size := by
        have h1 := uintB_le k
        have h2 := pack_length (ckN F k).bits
        rw [bstr_size, bstr_size]
        omega
      have hsn : ckB (ckN F k) = uintB k ++ pack (ckN F k).bits := by unfold ckB; rw [ckN_n]
      have Hsn := hide hsn
      have hby := fun v W h => rbytes_any v (ckN F k).bits (by omega) W h
      clear hl h9 hK hsn
      go_wp2_with fail
      refine (hby _ _ hS.row).mono ?_
      rintro e w2 ⟨rfl, hf2⟩
      go_wp2_with fail
      go_ret
      exact ⟨by rw [Hsn.out, ← bstr_append]; rfl, hS.frm.trans hf2 (by simp)⟩

end Go.Proofs.YtdnllmibchmnnaaDoor
