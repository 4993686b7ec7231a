/-
  AggOne's walk: bytes that are taken are the one form of their windows, whose Starts rise.
-/
import Derived.Test.YtceidhjgdgnplaaDecw
namespace Go.Proofs.Ytceidhjgdgnplaa
set_option linter.unusedVariables false
set_option linter.unusedSimpArgs false
open Go.RowKit Go.BigFrame

theorem one_few (s : ByteArray) (k : Nat) (h0 : (readU (bl s) 0).2.2 = 0) (h : (dst (bl s) (readU (bl s) 0).2.1 k).er = 0) : 6 * k ≤ s.size := by
  have hx := readU_next (bl s) 0 h0
  have := dst_at (a := (readU (bl s) 0).2.1) (s := bl s) hx.2.2 h
  rw [bl_length] at this
  omega
theorem one_bound (s : ByteArray) (hs : s.size ≤ 1048576) (k : Nat) (hk : k ≤ (readU (bl s) 0).1) (h : (dst (bl s) (readU (bl s) 0).2.1 k).er = 0) : k * 48 ≤ 140737488351232 := by
  by_cases h0 : (readU (bl s) 0).2.2 = 0
  · have := one_few s k h0 h
    omega
  · have e := readU_err (bl s) 0 h0
    rw [e] at hk
    simp only at hk
    omega
theorem derr_parts (l : List Nat) (h : derr l = 0) : (readU l 0).2.2 = 0 ∧ (dst l (readU l 0).2.1 (readU l 0).1).er = 0 := by
  unfold derr at h
  by_cases h1 : (readU l 0).2.2 = 0
  · rw [if_neg (by simpa using h1)] at h
    by_cases h2 : (dst l (readU l 0).2.1 (readU l 0).1).er = 0
    · exact ⟨h1, h2⟩
    · rw [if_pos (by simpa using h2)] at h
      exact absurd h h2
  · rw [if_pos (by simpa using h1)] at h
    exact absurd (by omega : (readU l 0).2.2 = 0) h1

set_option maxRecDepth 100000 in
set_option maxHeartbeats 2000000 in
theorem aone_walk (s : ByteArray) (hs : s.size ≤ 1048576) (w : World) :
    Calls Try.prog 12 #[.string s] w fun e w' => e = .returned (.bool true) ∧ Frm [] w w' := by
  have hd := fun W => decode_any s (by omega) (fun k hk h => one_bound s hs k hk h) W
  unfold tellD at hd
  by_cases her : derr (bl s) = 0
  · obtain ⟨p1, p2⟩ := derr_parts _ her
    have hN := one_bound s hs _ (Nat.le_refl _) p2
    obtain ⟨e1, e2, e3⟩ := enc_dec (bl s) (bl_lt s) her
    rw [her, if_pos rfl] at hd
    generalize (readU (bl s) 0).1 = n at hd hN e1 e2 e3
    generalize dwin (bl s) (readU (bl s) 0).2.1 = F at hd e1 e2 e3
    have hT : tellW F n = .tuple #[.string s, .int .i64 0] := by unfold tellW; rw [if_pos e1, e2, bstr_bl]
    have Hd := hide hd
    have HT := hide hT
    have H1 := hide e1
    have H3 := hide e3
    clear hd e1 e2 e3 hT her p1 p2
    go_enter Try.func12, Try.ntmps12
    go_wp2_with fail
    refine (wakw_any _).mono ?_
    rintro e w0 ⟨rfl, hf0⟩
    go_wp2_with fail
    refine (Hd.out _).mono ?_
    rintro e w1 ⟨v, rfl, hrow, hfr, hf1⟩
    obtain ⟨A1, c1, rfl⟩ := hrow.shape
    have hf01 := hf0.trans hf1 (by simp)
    go_wp2_with fail
    go_loopw [22] (fun i wr => ∃ k : Nat, k ≤ n ∧ i = .int .i64 (k : Int) ∧ Frm [] w1 wr) (fun i _ => n - (intOf i).toNat)
    case atStart => exact ⟨0, by omega, rfl, Frm.refl _ _⟩
    case round =>
      obtain ⟨k, hk, rfl, hfk⟩ := hrel
      by_cases hlt : k < n
      · have hft := ffault_prev (ffault_le H1.out (k + 1) (by omega))
        obtain ⟨q1, q2, q3, q4, q5⟩ := winFault_zero (show winFault (F k) (ahd F k) (decide (k = 0)) = 0 from hft.2)
        obtain ⟨sb, off, rfl, hsb, c0, c1', c2, c3, c4, c5⟩ := cells6 (hrow.cellsAt.frm hfk) hlt
        by_cases hk0 : k = 0
        · generalize F k = x at c0 c1' c2 c3 c4 c5 q1 q2 q3 q4 q5
          clear q3 hft
          obtain ⟨st, ct, sm, mn, mx, la⟩ := x
          simp only at c0 c1' c2 c3 c4 c5 q1 q2 q4 q5
          have e2 : decide (0 < k) = false := decide_eq_false (by omega)
          have e3 : decide (ct < 1) = false := decide_eq_false (by omega)
          have e4 : ¬ (0 : Int) < (k : Int) := by omega
          have e5 : ¬ ct < 1 := by omega
          have Hk0 := hide hk0
          clear hk0
          go_wp2_with fail
          go_quiet (fail)
          go_wp2
          go_roundw
          case measure => simp [intOf]; omega
          case rel => exact ⟨k + 1, by omega, by go_num, (hfk.alloc _).drewN _⟩
        · obtain ⟨m, hm⟩ : ∃ m, k = m + 1 := ⟨k - 1, by omega⟩
          have hst := q3 (by simp [hk0])
          obtain ⟨sb', off', he', _, d0, _⟩ := cells6 (hrow.cellsAt.frm hfk) (by omega : m < n)
          simp only [Option.some.injEq, Addr.mk.injEq, and_true] at he'
          obtain ⟨rfl, rfl⟩ := he'
          have ha : ahd F k = F m := by rw [hm]; rfl
          rw [ha] at hst
          generalize F k = x at c0 c1' c2 c3 c4 c5 q1 q2 q4 q5 hst
          generalize F m = y at d0 hst
          clear q3 hft ha
          obtain ⟨st, ct, sm, mn, mx, la⟩ := x
          obtain ⟨st2, ct2, sm2, mn2, mx2, la2⟩ := y
          simp only at c0 c1' c2 c3 c4 c5 d0 q1 q2 q4 q5 hst
          have e1 : IntKind.i64.wrap ((k : Int) - 1) = (m : Int) := by rw [IntKind.wrap_i64]; omega
          have e2 : decide (0 < k) = true := decide_eq_true (by omega)
          have e3 : decide (ct < 1) = false := decide_eq_false (by omega)
          have e4 : (0 : Int) < (k : Int) := by omega
          have e5 : ¬ ct < 1 := by omega
          have e6 : (0 : Int) ≤ (m : Int) := by omega
          have e7 : (m : Int) < (n : Int) := by omega
          have e8 : ¬ st ≤ st2 := by omega
          have Hm := hide hm
          have Hk0 := hide hk0
          clear hm hk0
          go_wp2_with fail
          go_quiet (fail)
          go_wp2
          go_roundw
          case measure => simp [intOf]; omega
          case rel => exact ⟨k + 1, by omega, by go_num, (hfk.alloc _).drewN _⟩
      · obtain rfl : k = n := by omega
        have henc := encode_any A1 k c1 F H3.out hN wr (hrow.cellsAt.frm hfk)
        rw [HT.out] at henc
        have Henc := hide henc
        clear henc
        go_wp2_with fail
        refine Henc.out.mono ?_
        rintro e w2 ⟨rfl, hf2⟩
        go_wp2_with fail
        go_ret
        exact ⟨rfl, (hf01.trans hfk (by simp)).trans hf2 (by simp)⟩
  · rw [if_neg her] at hd
    have hz : (derr (bl s) != 0) = true := by rw [bne_iff_ne]; exact her
    generalize derr (bl s) = er at hd hz
    have Hd := hide hd
    clear hd her
    go_enter Try.func12, Try.ntmps12
    go_wp2_with fail
    refine (wakw_any _).mono ?_
    rintro e w0 ⟨rfl, hf0⟩
    go_wp2_with fail
    refine (Hd.out _).mono ?_
    rintro e w1 ⟨v, rfl, hrow, hfr, hf1⟩
    obtain ⟨A1, c1, rfl⟩ := hrow.shape
    go_wp2_with fail
    go_ret
    exact ⟨rfl, hf0.trans hf1 (by simp)⟩

end Go.Proofs.Ytceidhjgdgnplaa
