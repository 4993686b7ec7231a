/-
  The contract of the document's Encode of windows.
-/
import Derived.Test.YtceidhjgdgnplaaRefw
namespace Go.Proofs.Ytceidhjgdgnplaa
set_option linter.unusedVariables false
set_option linter.unusedSimpArgs false
open Go.RowKit Go.BigFrame

theorem Blk.store6 {w : World} {b t : Nat} {y x : Win} (h : Blk w b t y.arr) :
    Blk ((((((w.setCell ⟨b, 0, none⟩ (.int .i64 x.st)).setCell ⟨b, 1, none⟩ (.int .i64 x.ct)).setCell ⟨b, 2, none⟩ (.int .u64 (x.sm : Int))).setCell ⟨b, 3, none⟩ (.int .u64 (x.mn : Int))).setCell ⟨b, 4, none⟩ (.int .u64 (x.mx : Int))).setCell ⟨b, 5, none⟩ (.int .u64 (x.la : Int))) b t x.arr := by
  have hbb := (((((h.set_ 0 (.int .i64 x.st)).set_ 1 (.int .i64 x.ct)).set_ 2 (.int .u64 (x.sm : Int))).set_ 3 (.int .u64 (x.mn : Int))).set_ 4 (.int .u64 (x.mx : Int))).set_ 5 (.int .u64 (x.la : Int))
  simpa [Win.arr] using hbb
theorem Frm.store6 {a w : World} {S : List Nat} {b : Nat} (h : Frm S a w) (hb : b ∈ S ∨ a.heap.size ≤ b) (u0 u1 u2 u3 u4 u5 : Value) :
    Frm S a ((((((w.setCell ⟨b, 0, none⟩ u0).setCell ⟨b, 1, none⟩ u1).setCell ⟨b, 2, none⟩ u2).setCell ⟨b, 3, none⟩ u3).setCell ⟨b, 4, none⟩ u4).setCell ⟨b, 5, none⟩ u5) :=
  (((((h.setCell (p := ⟨b, 0, none⟩) hb _).setCell (p := ⟨b, 1, none⟩) hb _).setCell (p := ⟨b, 2, none⟩) hb _).setCell (p := ⟨b, 3, none⟩) hb _).setCell (p := ⟨b, 4, none⟩) hb _).setCell (p := ⟨b, 5, none⟩) hb _

set_option maxRecDepth 100000 in
set_option maxHeartbeats 2000000 in
theorem rencode_any (A : Option Addr) (n cap : Nat) (F : Nat → Win) (hok : ∀ i, i < n → (F i).Ok) (hn : n * 48 ≤ 140737488351232) (w : World) (hc : CellsAt w A n 6 (fun i j => (F i).cell j)) :
    Calls Try.prog 27 #[.slice A n cap] w fun e w' => e = .returned (tellW F n) ∧ Frm [] w w' := by
  have hlen := encAll_length F n
  have Hlen := hide hlen
  clear hlen
  go_enter Try.func27, Try.ntmps27
  go_wp2_with fail
  refine (ruint_any n _ (by first | rfl | omega) (by omega) _).mono ?_
  rintro e w1 ⟨rfl, hf1⟩
  go_wp2_with fail
  have hA : Blk (w1.alloc (.cells #[.int .i64 0, .int .i64 0, .int .u64 0, .int .u64 0, .int .u64 0, .int .u64 0] 84)) w1.heap.size 84 win0.arr := Blk.new w1 _ _
  have hfa := hf1.alloc (.cells #[.int .i64 0, .int .i64 0, .int .u64 0, .int .u64 0, .int .u64 0, .int .u64 0] 84)
  have hah := hf1.size
  generalize w1.alloc (.cells #[.int .i64 0, .int .i64 0, .int .u64 0, .int .u64 0, .int .u64 0, .int .u64 0] 84) = w2 at hA hfa ⊢
  generalize w1.heap.size = ah at hA hah ⊢
  clear hf1
  go_loopw [4, 6] (fun x i wr => ∃ k : Nat, k ≤ n ∧ i = .int .i64 (k : Int) ∧ x = .string (bstr (encAll F n k)) ∧ Blk wr ah 84 (ahd F k).arr ∧ Frm [] w wr ∧ Hid (ffault F k = 0) ∧ Hid (0 ≤ (ahd F k).st)) (fun _ i _ => n - (intOf i).toNat)
  case atStart => exact ⟨0, by omega, rfl, rfl, hA, hfa, hide rfl, hide (Int.le_refl 0)⟩
  case round =>
    obtain ⟨k, hk, rfl, rfl, hB, hfr, hff, hys0⟩ := hrel
    have hys := hys0.out
    clear hys0
    have hlk := Hlen.out k
    by_cases hlt : k < n
    · go_wp2_with fail
      refine (fault_any A n cap F k hlt hn _ (hc.frm hfr)).mono ?_
      rintro e w3 ⟨rfl, hf3⟩
      obtain ⟨sb, off, rfl, hsb, c0, c1, c2, c3, c4, c5⟩ := cells6 ((hc.frm hfr).frm hf3) hlt
      have hOk := hok k hlt
      have hst : encAll F n (k + 1) = encAll F n k ++ winB (F k) (ahd F k) := rfl
      have hfs : ffault F (k + 1) = faultAt F k := by rw [ffault, if_pos hff.out]
      have hft : faultAt F k = winFault (F k) (ahd F k) (decide (k = 0)) := rfl
      have hyk : (k = 0 → ahd F k = win0) ∧ (ahd F k).Ok := by
        cases k with
        | zero => exact ⟨fun _ => rfl, win0_ok⟩
        | succ k => exact ⟨fun h => by simp at h, hok k (by omega)⟩
      have hwz : faultAt F k = 0 → 0 ≤ (F k).st ∧ (F k).st ≤ 1125899906842624 ∧ (ahd F k).st ≤ (F k).st ∧ 1 ≤ (F k).ct ∧ (F k).ct ≤ 4611686018427387904 := by
        intro h
        obtain ⟨q1, q2, q3, q4, q5⟩ := winFault_zero (hft ▸ h)
        refine ⟨q1, q2, ?_, q4, q5⟩
        by_cases h0 : k = 0
        · rw [hyk.1 h0]; exact q1
        · have := q3 (by simp [h0]); omega
      have hah2 : ahd F (k + 1) = F k := rfl
      have hB3 := hB.frm hf3 (by simp)
      have hfr3 := hfr.trans hf3 (by simp)
      clear hft
      generalize faultAt F k = er at hfs hwz ⊢
      by_cases h0 : er = 0
      · obtain ⟨q1, q2, q3, q4, q5⟩ := hwz h0
        subst h0
        have Hfs := hide hfs
        have Hst := hide hst
        have Hah := hide hah2
        clear hwz hfs hst hah2 hff hB hfr hf3
        generalize encAll F n k = bs at hlk Hst ⊢
        generalize F k = x at *
        generalize ahd F k = y at *
        obtain ⟨st, ct, sm, mn, mx, la⟩ := x
        obtain ⟨st2, ct2, sm2, mn2, mx2, la2⟩ := y
        simp only at q1 q2 q3 q4 q5 hys c0 c1 c2 c3 c4 c5
        have y0 : w3.cell? ⟨ah, 0, none⟩ = some (.int .i64 st2) := hB3.cell 0
        have y1 : w3.cell? ⟨ah, 1, none⟩ = some (.int .i64 ct2) := hB3.cell 1
        have y2 : w3.cell? ⟨ah, 2, none⟩ = some (.int .u64 (sm2 : Int)) := hB3.cell 2
        have y3 : w3.cell? ⟨ah, 3, none⟩ = some (.int .u64 (mn2 : Int)) := hB3.cell 3
        have y4 : w3.cell? ⟨ah, 4, none⟩ = some (.int .u64 (mx2 : Int)) := hB3.cell 4
        have y5 : w3.cell? ⟨ah, 5, none⟩ = some (.int .u64 (la2 : Int)) := hB3.cell 5
        have hX := Blk.new w3 84 #[.int .i64 st, .int .i64 ct, .int .u64 (sm : Int), .int .u64 (mn : Int), .int .u64 (mx : Int), .int .u64 (la : Int)]
        have hlt3 := hB3.lt
        go_wp2_with fail
        have hB4 := hB3.alloc (.cells #[.int .i64 st, .int .i64 ct, .int .u64 (sm : Int), .int .u64 (mn : Int), .int .u64 (mx : Int), .int .u64 (la : Int)] 84)
        have hfr4 := hfr3.alloc (.cells #[.int .i64 st, .int .i64 ct, .int .u64 (sm : Int), .int .u64 (mn : Int), .int .u64 (mx : Int), .int .u64 (la : Int)] 84)
        -- THE SIX NUMBERS
        generalize w3.alloc (.cells #[.int .i64 st, .int .i64 ct, .int .u64 (sm : Int), .int .u64 (mn : Int), .int .u64 (mx : Int), .int .u64 (la : Int)] 84) = w4 at hB4 hfr4 hX ⊢
        generalize w3.heap.size = xa at hX hlt3 ⊢
        clear hB3 hfr3 y0 y1 y2 y3 y4 y5 c0 c1 c2 c3 c4 c5
        refine (ruint_any (st - st2).toNat _ (by first | omega | (unfold wrap64; omega)) (by omega) _).mono ?_
        rintro e w5 ⟨rfl, hf5⟩
        have hB5 := hB4.frm hf5 (by simp)
        have hX5 := hX.frm hf5 (by simp)
        have hfr5 := hfr4.trans hf5 (by simp)
        have x1 : w5.cell? ⟨xa, 1, none⟩ = some (.int .i64 ct) := hX5.cell 1
        go_wp2_with fail
        refine (ruint_any ct.toNat _ (by first | omega | (unfold wrap64; omega)) (by omega) _).mono ?_
        rintro e w6 ⟨rfl, hf6⟩
        have hB6 := hB5.frm hf6 (by simp)
        have hX6 := hX5.frm hf6 (by simp)
        have hfr6 := hfr5.trans hf6 (by simp)
        have x2 : w6.cell? ⟨xa, 2, none⟩ = some (.int .u64 (sm : Int)) := hX6.cell 2
        have y2 : w6.cell? ⟨ah, 2, none⟩ = some (.int .u64 (sm2 : Int)) := hB6.cell 2
        go_wp2_with fail
        refine (ruint_any (sm ^^^ sm2) _ (u64_xor_nat sm sm2 hOk.sm hyk.2.sm) (Nat.xor_lt_two_pow (n := 64) hOk.sm hyk.2.sm) _).mono ?_
        rintro e w7 ⟨rfl, hf7⟩
        have hB7 := hB6.frm hf7 (by simp)
        have hX7 := hX6.frm hf7 (by simp)
        have hfr7 := hfr6.trans hf7 (by simp)
        have x3 : w7.cell? ⟨xa, 3, none⟩ = some (.int .u64 (mn : Int)) := hX7.cell 3
        have y3 : w7.cell? ⟨ah, 3, none⟩ = some (.int .u64 (mn2 : Int)) := hB7.cell 3
        go_wp2_with fail
        refine (ruint_any (mn ^^^ mn2) _ (u64_xor_nat mn mn2 hOk.mn hyk.2.mn) (Nat.xor_lt_two_pow (n := 64) hOk.mn hyk.2.mn) _).mono ?_
        rintro e w8 ⟨rfl, hf8⟩
        have hB8 := hB7.frm hf8 (by simp)
        have hX8 := hX7.frm hf8 (by simp)
        have hfr8 := hfr7.trans hf8 (by simp)
        have x4 : w8.cell? ⟨xa, 4, none⟩ = some (.int .u64 (mx : Int)) := hX8.cell 4
        have y4 : w8.cell? ⟨ah, 4, none⟩ = some (.int .u64 (mx2 : Int)) := hB8.cell 4
        go_wp2_with fail
        refine (ruint_any (mx ^^^ mx2) _ (u64_xor_nat mx mx2 hOk.mx hyk.2.mx) (Nat.xor_lt_two_pow (n := 64) hOk.mx hyk.2.mx) _).mono ?_
        rintro e w9 ⟨rfl, hf9⟩
        have hB9 := hB8.frm hf9 (by simp)
        have hX9 := hX8.frm hf9 (by simp)
        have hfr9 := hfr8.trans hf9 (by simp)
        have x5 : w9.cell? ⟨xa, 5, none⟩ = some (.int .u64 (la : Int)) := hX9.cell 5
        have y5 : w9.cell? ⟨ah, 5, none⟩ = some (.int .u64 (la2 : Int)) := hB9.cell 5
        go_wp2_with fail
        refine (ruint_any (la ^^^ la2) _ (u64_xor_nat la la2 hOk.la hyk.2.la) (Nat.xor_lt_two_pow (n := 64) hOk.la hyk.2.la) _).mono ?_
        rintro e w10 ⟨rfl, hf10⟩
        have hB10 := hB9.frm hf10 (by simp)
        have hX10 := hX9.frm hf10 (by simp)
        have hfr10 := hfr9.trans hf10 (by simp)
        have l0 : w10.cell? ⟨xa, 0, none⟩ = some (.int .i64 st) := hX10.cell 0
        have l1 : w10.cell? ⟨xa, 1, none⟩ = some (.int .i64 ct) := hX10.cell 1
        have l2 : w10.cell? ⟨xa, 2, none⟩ = some (.int .u64 (sm : Int)) := hX10.cell 2
        have l3 : w10.cell? ⟨xa, 3, none⟩ = some (.int .u64 (mn : Int)) := hX10.cell 3
        have l4 : w10.cell? ⟨xa, 4, none⟩ = some (.int .u64 (mx : Int)) := hX10.cell 4
        have l5 : w10.cell? ⟨xa, 5, none⟩ = some (.int .u64 (la : Int)) := hX10.cell 5
        have k0 : w10.cell? ⟨ah, 0, none⟩ = some (.int .i64 st2) := hB10.cell 0
        have k1 : w10.cell? ⟨ah, 1, none⟩ = some (.int .i64 ct2) := hB10.cell 1
        have k2 : w10.cell? ⟨ah, 2, none⟩ = some (.int .u64 (sm2 : Int)) := hB10.cell 2
        have k3 : w10.cell? ⟨ah, 3, none⟩ = some (.int .u64 (mn2 : Int)) := hB10.cell 3
        have k4 : w10.cell? ⟨ah, 4, none⟩ = some (.int .u64 (mx2 : Int)) := hB10.cell 4
        have k5 : w10.cell? ⟨ah, 5, none⟩ = some (.int .u64 (la2 : Int)) := hB10.cell 5
        have f0 := hB10.frozen 0
        have f1 := hB10.frozen 1
        have f2 := hB10.frozen 2
        have f3 := hB10.frozen 3
        have f4 := hB10.frozen 4
        have f5 := hB10.frozen 5
        have hfin : bstr bs ++ bstr (uintB (st - st2).toNat) ++ bstr (uintB ct.toNat) ++ bstr (uintB (sm ^^^ sm2)) ++ bstr (uintB (mn ^^^ mn2)) ++ bstr (uintB (mx ^^^ mx2)) ++ bstr (uintB (la ^^^ la2)) = bstr (encAll F n (k + 1)) := by
          rw [Hst.out]
          simp only [bstr_append, winB, xors, Win.fld, List.nil_append, List.append_assoc]
        have Hfin := hide hfin
        clear hfin
        have z0 : (bstr bs).size ≤ 10 + 60 * k := by rw [bstr_size]; exact hlk
        have z1 : (bstr (uintB (st - st2).toNat)).size ≤ 10 := by rw [bstr_size]; exact uintB_le _
        have z2 : (bstr (uintB ct.toNat)).size ≤ 10 := by rw [bstr_size]; exact uintB_le _
        have z3 : (bstr (uintB (sm ^^^ sm2))).size ≤ 10 := by rw [bstr_size]; exact uintB_le _
        have z4 : (bstr (uintB (mn ^^^ mn2))).size ≤ 10 := by rw [bstr_size]; exact uintB_le _
        have z5 : (bstr (uintB (mx ^^^ mx2))).size ≤ 10 := by rw [bstr_size]; exact uintB_le _
        have z6 : (bstr (uintB (la ^^^ la2))).size ≤ 10 := by rw [bstr_size]; exact uintB_le _
        go_wp2_with fail
        go_roundw
        case measure => simp [intOf]; omega
        case rel =>
          refine ⟨k + 1, by omega, by go_num, by rw [← Hfin.out], ?_, ?_, hide Hfs.out, hide (by rw [Hah.out]; exact q1)⟩
          · rw [Hah.out]
            exact hB10.store6 (x := ⟨st, ct, sm, mn, mx, la⟩)
          · exact hfr10.store6 (.inr hah) _ _ _ _ _ _
      · have hne0 : (er != 0) = true := by rw [bne_iff_ne]; exact h0
        have hfn : ffault F n = er := by rw [ffault_stays F (k + 1) (by rw [hfs]; exact h0) n (by omega), hfs]
        have ht : tellW F n = .tuple #[.string (bstr []), .int .i64 er] := by unfold tellW; rw [hfn, if_neg h0]
        have Ht := hide ht
        clear ht hfn hfs hst hah2 hwz
        go_wp2_with fail
        go_ret2
        exact ⟨by rw [Ht.out]; rfl, hfr3⟩
    · obtain rfl : k = n := by omega
      have ht : tellW F k = .tuple #[.string (bstr (encAll F k k)), .int .i64 0] := by unfold tellW; rw [if_pos hff.out]
      have Ht := hide ht
      clear ht
      go_wp2_with fail
      go_ret2
      exact ⟨by rw [Ht.out]; rfl, hfr⟩

end Go.Proofs.Ytceidhjgdgnplaa
