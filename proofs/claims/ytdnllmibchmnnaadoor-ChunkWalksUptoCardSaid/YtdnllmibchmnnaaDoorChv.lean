/-
  The contract of (*chunk.Chunk).value: the bits of a value that differ.
-/
import Derived.Test.YtdnllmibchmnnaaDoorChw
import Derived.Test.YtdnllmibchmnnaaDoorTzw
namespace Go.Proofs.YtdnllmibchmnnaaDoor
set_option linter.unusedVariables false
set_option linter.unusedSimpArgs false
open Go.RowKit Go.BigFrame

theorem lz_low (x : Nat) (h : 63 - x.log2 ≤ 31) : lz x = 63 - x.log2 := by unfold lz; omega
theorem lz_high (x : Nat) (h : ¬ 63 - x.log2 ≤ 31) : lz x = 31 := by unfold lz; omega
theorem shr_lt (x k : Nat) (h : x < 18446744073709551616) : x / 2 ^ k < 18446744073709551616 := Nat.lt_of_le_of_lt (Nat.div_le_self _ _) h

set_option maxRecDepth 100000 in
set_option maxHeartbeats 8000000 in
theorem value_any (g : Nat) (v : Value) (c : Ck) (x : Nat) (X : Int) (hX : X = (x : Int)) (hx : x < 18446744073709551616) (hl : c.bits.length ≤ 1000000) (hle : c.lead ≤ 63) (hlt : c.tail ≤ 63) (hin : c.win = true → c.lead + c.tail ≤ 63) (w : World) (hC : ChAt w g v c) (hD : DbAt w) :
    Calls Tryd.prog 29 #[.pointer (some ⟨g, 0, none⟩), .int .u64 X] w fun e w' => e = .returned (.tuple #[]) ∧
      ∃ v', ChAt w' g v' (dif x c) ∧ Frm (g :: v.ownBlock.toList) w w' ∧ Grew w v v' := by
  subst hX
  obtain ⟨bits, n, t, vv, step, lead, tail, win⟩ := c
  simp only at hl hle hlt hin
  unfold ChAt at hC ⊢
  simp only at hC
  have hpk := pack_length bits
  by_cases h0 : x = 0
  · have hd : dif x ⟨bits, n, t, vv, step, lead, tail, win⟩ = ⟨bits ++ bitsOf 0 1, n, t, vv, step, lead, tail, win⟩ := by unfold dif; rw [if_pos h0]
    rw [hd]
    subst h0
    clear hd
    go_enter Tryd.func29, Tryd.ntmps29
    go_wp2_with fail
    refine (put_x 0 0 1 1 rfl rfl (by decide) (by decide) (by decide) (by omega) hC).mono ?_
    rintro e w1 ⟨rfl, v1, hW1, hf1, hg1⟩
    go_wp2_with fail
    refine bodyPost_ret (results_none rfl _ _ _) rfl ?_
    exact ⟨rfl, v1, hW1, hf1, hg1⟩
  · have hz : ((x : Int) == 0) = false := by rw [beq_eq_false_iff_ne]; omega
    obtain ⟨hlz, htz, hsum⟩ := lz_tz x h0 hx
    have hlog := log2_lt64 x h0 hx
    have hla := fun W => lead_any x (x : Int) rfl h0 hx W
    have htr := fun W h => trail_any x (x : Int) rfl h0 hx W h
    have hsh := fun k => shr_lt x k hx
    obtain ⟨T, hT⟩ : ∃ T, tz x = T := ⟨_, rfl⟩
    obtain ⟨L, hL⟩ : ∃ L, lz x = L := ⟨_, rfl⟩
    have hdf : dif x ⟨bits, n, t, vv, step, lead, tail, win⟩ = if win = true ∧ lead ≤ L ∧ tail ≤ T then ⟨bits ++ bitsOf 2 2 ++ bitsOf (x / 2 ^ tail) (64 - lead - tail), n, t, vv, step, lead, tail, win⟩ else ⟨bits ++ bitsOf 3 2 ++ bitsOf L 5 ++ bitsOf (63 - L - T) 6 ++ bitsOf (x / 2 ^ T) (64 - L - T), n, t, vv, step, L, T, true⟩ := by unfold dif; rw [if_neg h0, hT, hL]
    rw [hT] at htr htz hsum
    rw [hL] at hlz hsum
    have x6 : w.cell? ⟨g, 6, none⟩ = some (.int .i64 (lead : Int)) := hC.blk.cell 6
    have x7 : w.cell? ⟨g, 7, none⟩ = some (.int .i64 (tail : Int)) := hC.blk.cell 7
    have x8 : w.cell? ⟨g, 8, none⟩ = some (.bool win) := hC.blk.cell 8
    have f6 := hC.blk.frozen 6
    have f7 := hC.blk.frozen 7
    have f8 := hC.blk.frozen 8
    obtain ⟨M, hM⟩ : ∃ M, 63 - x.log2 = M := ⟨_, rfl⟩
    rw [hM] at hla
    have hM63 : M ≤ 63 := by omega
    have hmn : min (M : Int) 31 = (L : Int) := by
      by_cases hm : 63 - x.log2 ≤ 31
      · have := lz_low x hm; omega
      · have := lz_high x hm; omega
    have Hla := hide hla
    have Htr := hide htr
    have Hsh := hide hsh
    have Hdf := hide hdf
    clear hla htr hsh hdf hL hT hM hlog h0
    by_cases hw : win = true
    · subst hw
      by_cases hc2 : lead ≤ L
      · by_cases hc3 : tail ≤ T
        · skip
          rw [Hdf.out, if_pos ⟨rfl, hc2, hc3⟩]
          have hi := hin rfl
          have b1 : (lead : Int) ≤ (L : Int) := by omega
          have b2 : (tail : Int) ≤ (T : Int) := by omega
          go_enter Tryd.func29, Tryd.ntmps29
          go_wp2_with fail
          refine (Hla.out _).mono ?_
          rintro e w1 ⟨rfl, rfl⟩
          go_wp2_with fail
          refine (Htr.out _ hD).mono ?_
          rintro e w1 ⟨rfl, rfl⟩
          go_wp2_with fail
          refine (put_x 2 2 2 2 rfl rfl (by decide) (by decide) (by decide) (by omega) hC).mono ?_
          rintro e w1 ⟨rfl, v1, hW1, hf1, hg1⟩
          have y6 : w1.cell? ⟨g, 6, none⟩ = some (.int .i64 (lead : Int)) := hW1.blk.cell 6
          have y7 : w1.cell? ⟨g, 7, none⟩ = some (.int .i64 (tail : Int)) := hW1.blk.cell 7
          have hlb : (bits ++ bitsOf 2 2).length ≤ 2000000 := by rw [List.length_append, bitsOf_length]; omega
          clear x6 x7 x8 f6 f7 f8
          go_wp2_with fail
          go_region_with (first | (go_at_call 27; refine (put_x _ (x / 2 ^ tail) _ (64 - lead - tail) (by first | rfl | simp) (by first | omega | (simp only [IntKind.wrap_i64]; omega)) (by omega) (Hsh.out _) (by decide) hlb (hW1.quiet ((Frm.refl [] _).drew))).mono ?_; rintro e wz ⟨rfl, vz, hWz, hfz, hgz⟩))
          all_goals
            go_wp2_with fail
            go_end0
            exact ⟨rfl, vz, hWz, foot_trans hf1.drew hg1 hfz, Grew.trans (wr := w1.drew) hf1.size hg1 hgz⟩
        · skip
          have hcc : ¬ (true = true ∧ lead ≤ L ∧ tail ≤ T) := fun h => hc3 h.2.2
          rw [Hdf.out, if_neg hcc]
          have b1 : (lead : Int) ≤ (L : Int) := by omega
          have b2 : ¬ (tail : Int) ≤ (T : Int) := by omega
          go_enter Tryd.func29, Tryd.ntmps29
          go_wp2_with fail
          refine (Hla.out _).mono ?_
          rintro e w1 ⟨rfl, rfl⟩
          go_wp2_with fail
          refine (Htr.out _ hD).mono ?_
          rintro e w1 ⟨rfl, rfl⟩
          go_wp2_with fail
          have hW0 : WriterAt (((w.setCell ⟨g, 6, none⟩ (.int .i64 (L : Int))).setCell ⟨g, 7, none⟩ (.int .i64 (T : Int))).setCell ⟨g, 8, none⟩ (.bool true)) g 44 [.int .i64 (n : Int), .int .i64 t, .int .u64 (vv : Int), .int .i64 step, .int .i64 (L : Int), .int .i64 (T : Int), .bool true] v bits := by
            have hbn := own_blk_ne hC.own hC.blk (by decide)
            refine ⟨?_, ownsRow_setCell_other (ownsRow_setCell_other (ownsRow_setCell_other hC.own (a := ⟨g, 6, none⟩) hbn _) (a := ⟨g, 7, none⟩) hbn _) (a := ⟨g, 8, none⟩) hbn _⟩
            have := ((hC.blk.set_ 6 (.int .i64 (L : Int))).set_ 7 (.int .i64 (T : Int))).set_ 8 (.bool true)
            simpa using this
          have hf0 : Frm (g :: v.ownBlock.toList) w (((w.setCell ⟨g, 6, none⟩ (.int .i64 (L : Int))).setCell ⟨g, 7, none⟩ (.int .i64 (T : Int))).setCell ⟨g, 8, none⟩ (.bool true)) := (((Frm.refl _ _).setCell (p := ⟨g, 6, none⟩) (.inl (List.mem_cons_self ..)) _).setCell (p := ⟨g, 7, none⟩) (.inl (List.mem_cons_self ..)) _).setCell (p := ⟨g, 8, none⟩) (.inl (List.mem_cons_self ..)) _
          refine (put_x 3 3 2 2 rfl rfl (by decide) (by decide) (by decide) (by omega) hW0).mono ?_
          rintro e w1 ⟨rfl, v1, hW1, hf1, hg1⟩
          have hf01 := hf0.trans hf1 (fun x hx => .inl hx)
          have hg01 : Grew w v v1 := Grew.trans hf0.size (Grew.refl _ _) hg1
          have hl1 : (bits ++ bitsOf 3 2).length ≤ 1000002 := by rw [List.length_append, bitsOf_length]; omega
          clear x6 x7 x8 f6 f7 f8 hf0 hf1 hg1
          go_wp2_with fail
          refine (put_x _ L 5 5 (by first | rfl | omega) rfl (by decide) (by omega) (by decide) (by omega) hW1).mono ?_
          rintro e w2 ⟨rfl, v2, hW2, hf2, hg2⟩
          have hf02 := foot_trans hf01 hg01 hf2
          have hg02 := Grew.trans hf01.size hg01 hg2
          have hl2 : (bits ++ bitsOf 3 2 ++ bitsOf L 5).length ≤ 1000007 := by rw [List.length_append, bitsOf_length]; omega
          clear hf2 hg2
          go_wp2_with fail
          refine (put_x _ (63 - L - T) 6 6 (by first | rfl | omega) rfl (by decide) (by omega) (by decide) (by omega) hW2).mono ?_
          rintro e w3 ⟨rfl, v3, hW3, hf3, hg3⟩
          have hf03 := foot_trans hf02 hg02 hf3
          have hg03 := Grew.trans hf02.size hg02 hg3
          have hlb : (bits ++ bitsOf 3 2 ++ bitsOf L 5 ++ bitsOf (63 - L - T) 6).length ≤ 2000000 := by rw [List.length_append, bitsOf_length]; omega
          clear hf3 hg3
          have y6 : w3.cell? ⟨g, 6, none⟩ = some (.int .i64 (L : Int)) := hW3.blk.cell 6
          have y7 : w3.cell? ⟨g, 7, none⟩ = some (.int .i64 (T : Int)) := hW3.blk.cell 7
          go_wp2_with fail
          go_region_with (first | (go_at_call 27; refine (put_x _ (x / 2 ^ T) _ (64 - L - T) (by first | rfl | simp) (by first | omega | (simp only [IntKind.wrap_i64]; omega)) (by omega) (Hsh.out _) (by decide) hlb (hW3.quiet ((Frm.refl [] _).drew))).mono ?_; rintro e wz ⟨rfl, vz, hWz, hfz, hgz⟩))
          all_goals
            go_wp2_with fail
            go_end0
            exact ⟨rfl, vz, hWz, foot_trans hf03.drew hg03 hfz, Grew.trans (wr := w3.drew) hf03.size hg03 hgz⟩
      · skip
        have hcc : ¬ (true = true ∧ lead ≤ L ∧ tail ≤ T) := fun h => hc2 h.2.1
        rw [Hdf.out, if_neg hcc]
        have b1 : ¬ (lead : Int) ≤ (L : Int) := by omega
        go_enter Tryd.func29, Tryd.ntmps29
        go_wp2_with fail
        refine (Hla.out _).mono ?_
        rintro e w1 ⟨rfl, rfl⟩
        go_wp2_with fail
        refine (Htr.out _ hD).mono ?_
        rintro e w1 ⟨rfl, rfl⟩
        go_wp2_with fail
        have hW0 : WriterAt (((w.setCell ⟨g, 6, none⟩ (.int .i64 (L : Int))).setCell ⟨g, 7, none⟩ (.int .i64 (T : Int))).setCell ⟨g, 8, none⟩ (.bool true)) g 44 [.int .i64 (n : Int), .int .i64 t, .int .u64 (vv : Int), .int .i64 step, .int .i64 (L : Int), .int .i64 (T : Int), .bool true] v bits := by
          have hbn := own_blk_ne hC.own hC.blk (by decide)
          refine ⟨?_, ownsRow_setCell_other (ownsRow_setCell_other (ownsRow_setCell_other hC.own (a := ⟨g, 6, none⟩) hbn _) (a := ⟨g, 7, none⟩) hbn _) (a := ⟨g, 8, none⟩) hbn _⟩
          have := ((hC.blk.set_ 6 (.int .i64 (L : Int))).set_ 7 (.int .i64 (T : Int))).set_ 8 (.bool true)
          simpa using this
        have hf0 : Frm (g :: v.ownBlock.toList) w (((w.setCell ⟨g, 6, none⟩ (.int .i64 (L : Int))).setCell ⟨g, 7, none⟩ (.int .i64 (T : Int))).setCell ⟨g, 8, none⟩ (.bool true)) := (((Frm.refl _ _).setCell (p := ⟨g, 6, none⟩) (.inl (List.mem_cons_self ..)) _).setCell (p := ⟨g, 7, none⟩) (.inl (List.mem_cons_self ..)) _).setCell (p := ⟨g, 8, none⟩) (.inl (List.mem_cons_self ..)) _
        refine (put_x 3 3 2 2 rfl rfl (by decide) (by decide) (by decide) (by omega) hW0).mono ?_
        rintro e w1 ⟨rfl, v1, hW1, hf1, hg1⟩
        have hf01 := hf0.trans hf1 (fun x hx => .inl hx)
        have hg01 : Grew w v v1 := Grew.trans hf0.size (Grew.refl _ _) hg1
        have hl1 : (bits ++ bitsOf 3 2).length ≤ 1000002 := by rw [List.length_append, bitsOf_length]; omega
        clear x6 x7 x8 f6 f7 f8 hf0 hf1 hg1
        go_wp2_with fail
        refine (put_x _ L 5 5 (by first | rfl | omega) rfl (by decide) (by omega) (by decide) (by omega) hW1).mono ?_
        rintro e w2 ⟨rfl, v2, hW2, hf2, hg2⟩
        have hf02 := foot_trans hf01 hg01 hf2
        have hg02 := Grew.trans hf01.size hg01 hg2
        have hl2 : (bits ++ bitsOf 3 2 ++ bitsOf L 5).length ≤ 1000007 := by rw [List.length_append, bitsOf_length]; omega
        clear hf2 hg2
        go_wp2_with fail
        refine (put_x _ (63 - L - T) 6 6 (by first | rfl | omega) rfl (by decide) (by omega) (by decide) (by omega) hW2).mono ?_
        rintro e w3 ⟨rfl, v3, hW3, hf3, hg3⟩
        have hf03 := foot_trans hf02 hg02 hf3
        have hg03 := Grew.trans hf02.size hg02 hg3
        have hlb : (bits ++ bitsOf 3 2 ++ bitsOf L 5 ++ bitsOf (63 - L - T) 6).length ≤ 2000000 := by rw [List.length_append, bitsOf_length]; omega
        clear hf3 hg3
        have y6 : w3.cell? ⟨g, 6, none⟩ = some (.int .i64 (L : Int)) := hW3.blk.cell 6
        have y7 : w3.cell? ⟨g, 7, none⟩ = some (.int .i64 (T : Int)) := hW3.blk.cell 7
        go_wp2_with fail
        go_region_with (first | (go_at_call 27; refine (put_x _ (x / 2 ^ T) _ (64 - L - T) (by first | rfl | simp) (by first | omega | (simp only [IntKind.wrap_i64]; omega)) (by omega) (Hsh.out _) (by decide) hlb (hW3.quiet ((Frm.refl [] _).drew))).mono ?_; rintro e wz ⟨rfl, vz, hWz, hfz, hgz⟩))
        all_goals
          go_wp2_with fail
          go_end0
          exact ⟨rfl, vz, hWz, foot_trans hf03.drew hg03 hfz, Grew.trans (wr := w3.drew) hf03.size hg03 hgz⟩
    · have hwf : win = false := by simpa using hw
      subst hwf
      have hcc : ¬ (false = true ∧ lead ≤ L ∧ tail ≤ T) := fun h => by cases h.1
      rw [Hdf.out, if_neg hcc]
      go_enter Tryd.func29, Tryd.ntmps29
      go_wp2_with fail
      refine (Hla.out _).mono ?_
      rintro e w1 ⟨rfl, rfl⟩
      go_wp2_with fail
      refine (Htr.out _ hD).mono ?_
      rintro e w1 ⟨rfl, rfl⟩
      go_wp2_with fail
      have hW0 : WriterAt (((w.setCell ⟨g, 6, none⟩ (.int .i64 (L : Int))).setCell ⟨g, 7, none⟩ (.int .i64 (T : Int))).setCell ⟨g, 8, none⟩ (.bool true)) g 44 [.int .i64 (n : Int), .int .i64 t, .int .u64 (vv : Int), .int .i64 step, .int .i64 (L : Int), .int .i64 (T : Int), .bool true] v bits := by
        have hbn := own_blk_ne hC.own hC.blk (by decide)
        refine ⟨?_, ownsRow_setCell_other (ownsRow_setCell_other (ownsRow_setCell_other hC.own (a := ⟨g, 6, none⟩) hbn _) (a := ⟨g, 7, none⟩) hbn _) (a := ⟨g, 8, none⟩) hbn _⟩
        have := ((hC.blk.set_ 6 (.int .i64 (L : Int))).set_ 7 (.int .i64 (T : Int))).set_ 8 (.bool true)
        simpa using this
      have hf0 : Frm (g :: v.ownBlock.toList) w (((w.setCell ⟨g, 6, none⟩ (.int .i64 (L : Int))).setCell ⟨g, 7, none⟩ (.int .i64 (T : Int))).setCell ⟨g, 8, none⟩ (.bool true)) := (((Frm.refl _ _).setCell (p := ⟨g, 6, none⟩) (.inl (List.mem_cons_self ..)) _).setCell (p := ⟨g, 7, none⟩) (.inl (List.mem_cons_self ..)) _).setCell (p := ⟨g, 8, none⟩) (.inl (List.mem_cons_self ..)) _
      refine (put_x 3 3 2 2 rfl rfl (by decide) (by decide) (by decide) (by omega) hW0).mono ?_
      rintro e w1 ⟨rfl, v1, hW1, hf1, hg1⟩
      have hf01 := hf0.trans hf1 (fun x hx => .inl hx)
      have hg01 : Grew w v v1 := Grew.trans hf0.size (Grew.refl _ _) hg1
      have hl1 : (bits ++ bitsOf 3 2).length ≤ 1000002 := by rw [List.length_append, bitsOf_length]; omega
      clear x6 x7 x8 f6 f7 f8 hf0 hf1 hg1
      go_wp2_with fail
      refine (put_x _ L 5 5 (by first | rfl | omega) rfl (by decide) (by omega) (by decide) (by omega) hW1).mono ?_
      rintro e w2 ⟨rfl, v2, hW2, hf2, hg2⟩
      have hf02 := foot_trans hf01 hg01 hf2
      have hg02 := Grew.trans hf01.size hg01 hg2
      have hl2 : (bits ++ bitsOf 3 2 ++ bitsOf L 5).length ≤ 1000007 := by rw [List.length_append, bitsOf_length]; omega
      clear hf2 hg2
      go_wp2_with fail
      refine (put_x _ (63 - L - T) 6 6 (by first | rfl | omega) rfl (by decide) (by omega) (by decide) (by omega) hW2).mono ?_
      rintro e w3 ⟨rfl, v3, hW3, hf3, hg3⟩
      have hf03 := foot_trans hf02 hg02 hf3
      have hg03 := Grew.trans hf02.size hg02 hg3
      have hlb : (bits ++ bitsOf 3 2 ++ bitsOf L 5 ++ bitsOf (63 - L - T) 6).length ≤ 2000000 := by rw [List.length_append, bitsOf_length]; omega
      clear hf3 hg3
      have y6 : w3.cell? ⟨g, 6, none⟩ = some (.int .i64 (L : Int)) := hW3.blk.cell 6
      have y7 : w3.cell? ⟨g, 7, none⟩ = some (.int .i64 (T : Int)) := hW3.blk.cell 7
      go_wp2_with fail
      go_region_with (first | (go_at_call 27; refine (put_x _ (x / 2 ^ T) _ (64 - L - T) (by first | rfl | simp) (by first | omega | (simp only [IntKind.wrap_i64]; omega)) (by omega) (Hsh.out _) (by decide) hlb (hW3.quiet ((Frm.refl [] _).drew))).mono ?_; rintro e wz ⟨rfl, vz, hWz, hfz, hgz⟩))
      all_goals
        go_wp2_with fail
        go_end0
        exact ⟨rfl, vz, hWz, foot_trans hf03.drew hg03 hfz, Grew.trans (wr := w3.drew) hf03.size hg03 hgz⟩

end Go.Proofs.YtdnllmibchmnnaaDoor
