/-
  The contracts of what writes a chunk: sizes, time.
-/
import Derived.Test.YtdnllmibchmnnaaDoorChp
import Derived.Test.YtdnllmibchmnnaaDoorBiod
import Derived.Deep.RegionWith
import Derived.Outline
namespace Go.Proofs.YtdnllmibchmnnaaDoor
set_option linter.unusedVariables false
set_option linter.unusedSimpArgs false
open Go.RowKit Go.BigFrame

/-- A chunk in block g. -/
def ChAt (w : World) (g : Nat) (v : Value) (c : Ck) : Prop :=
  WriterAt w g 44 [.int .i64 (c.n : Int), .int .i64 c.t, .int .u64 (c.v : Int), .int .i64 c.step, .int .i64 (c.lead : Int), .int .i64 (c.tail : Int), .bool c.win] v c.bits

theorem put_x {g t : Nat} {rest : List Value} {v : Value} {l : List Bool} (X : Int) (x : Nat) (N : Int) (n : Nat) (hX : X = (x : Int)) (hN : N = (n : Int)) (hn : n ≤ 64) (hx : x < 18446744073709551616) (hg : t ≠ 5) (hl : l.length ≤ 2000000) {w : World} (hw : WriterAt w g t rest v l) :
    Calls Tryd.prog 27 #[.pointer (some ⟨g, 0, none⟩), .int .u64 X, .int .i64 N] w fun e w' => e = .returned (.tuple #[]) ∧
      ∃ v', WriterAt w' g t rest v' (l ++ bitsOf x n) ∧ Frm (g :: v.ownBlock.toList) w w' ∧ Grew w v v' := by
  subst hX
  have hpk := pack_length l
  have h := put_any g t rest v l x N hx hg (by omega) (by omega) w hw
  have hw : wid N = n := by unfold wid; omega
  rw [hw] at h
  exact h
theorem foot_trans {a b c : World} {g : Nat} {v v' : Value} (h : Frm (g :: v.ownBlock.toList) a b) (hg : Grew a v v') (k : Frm (g :: v'.ownBlock.toList) b c) : Frm (g :: v.ownBlock.toList) a c :=
  h.trans k (fun x hx => by
    rcases List.mem_cons.1 hx with rfl | hx
    · exact .inl (List.mem_cons_self ..)
    · rcases hg.mem x hx with h1 | h1
      · exact .inl (List.mem_cons_of_mem _ h1)
      · exact .inr h1)

theorem WriterAt.quiet {g t : Nat} {rest : List Value} {v : Value} {l : List Bool} {w w1 : World} (h : WriterAt w g t rest v l) (hf : Frm [] w w1) : WriterAt w1 g t rest v l := ⟨h.blk.frm hf (by simp), own_frm h.own hf (by simp)⟩

def sizesV : Value := .agg #[.int .u64 2, .int .i64 2, .int .i64 7, .int .u64 6, .int .i64 3, .int .i64 9, .int .u64 14, .int .i64 4, .int .i64 12, .int .u64 15, .int .i64 4, .int .i64 64]

set_option maxRecDepth 100000 in
set_option maxHeartbeats 1000000 in
theorem sizes_any (w : World) :
    Calls Tryd.prog 46 #[] w fun e w' => e = .returned sizesV ∧ Frm [] w w' := by
  go_enter Tryd.func46, Tryd.ntmps46
  go_wp2
  have hblk := Blk.new w 86 #[.int .u64 2, .int .i64 2, .int .i64 7, .int .u64 6, .int .i64 3, .int .i64 9, .int .u64 14, .int .i64 4, .int .i64 12, .int .u64 15, .int .i64 4, .int .i64 64]
  refine bodyPost_ret (results_cell_row rfl _ _ w.heap.size 86 _ (0, 0) _ rfl hblk Tryd.underlying86 rfl (by kernel_rfl)) rfl ?_
  exact ⟨rfl, (Frm.refl _ _).alloc _⟩

theorem size0 (W : World) : (Instr.index 86 sizesV (.int .i64 0)).run Tryd.prog W = .ok (.agg #[.int .u64 2, .int .i64 2, .int .i64 7]) W := by kernel_rfl
theorem size1 (W : World) : (Instr.index 86 sizesV (.int .i64 1)).run Tryd.prog W = .ok (.agg #[.int .u64 6, .int .i64 3, .int .i64 9]) W := by kernel_rfl
theorem size2 (W : World) : (Instr.index 86 sizesV (.int .i64 2)).run Tryd.prog W = .ok (.agg #[.int .u64 14, .int .i64 4, .int .i64 12]) W := by kernel_rfl
theorem size3 (W : World) : (Instr.index 86 sizesV (.int .i64 3)).run Tryd.prog W = .ok (.agg #[.int .u64 15, .int .i64 4, .int .i64 64]) W := by kernel_rfl

set_option maxRecDepth 100000 in
set_option maxHeartbeats 8000000 in
theorem time_any (g : Nat) (v : Value) (c : Ck) (s : Int) (hl : c.bits.length ≤ 1000000) (h1 : -1125899906842624 ≤ s) (h2 : s ≤ 1125899906842624) (h3 : -1125899906842624 ≤ c.step) (h4 : c.step ≤ 1125899906842624) (w : World) (hC : ChAt w g v c) :
    Calls Tryd.prog 28 #[.pointer (some ⟨g, 0, none⟩), .int .i64 s] w fun e w' => e = .returned (.tuple #[]) ∧
      ∃ v', ChAt w' g v' { c with bits := c.bits ++ chg (s - c.step), step := s } ∧ Frm (g :: v.ownBlock.toList) w w' ∧ Grew w v v' := by
  obtain ⟨bits, n, t, vv, step, lead, tail, win⟩ := c
  simp only at hl h3 h4
  unfold ChAt at hC ⊢
  simp only at hC ⊢
  have x5 : w.cell? ⟨g, 5, none⟩ = some (.int .i64 step) := hC.blk.cell 5
  have f5 := hC.blk.frozen 5
  have hW : WriterAt (w.setCell ⟨g, 5, none⟩ (.int .i64 s)) g 44 [.int .i64 (n : Int), .int .i64 t, .int .u64 (vv : Int), .int .i64 s, .int .i64 (lead : Int), .int .i64 (tail : Int), .bool win] v bits := by
    refine ⟨?_, ?_⟩
    · have := hC.blk.set_ 5 (.int .i64 s)
      simpa using this
    · exact ownsRow_setCell_other hC.own (a := ⟨g, 5, none⟩) (own_blk_ne hC.own hC.blk (by decide)) _
  have hpk := pack_length bits
  have hf0 : Frm (g :: v.ownBlock.toList) w (w.setCell ⟨g, 5, none⟩ (.int .i64 s)) := (Frm.refl _ _).setCell (p := ⟨g, 5, none⟩) (.inl (List.mem_cons_self ..)) _
  by_cases hc0 : s - step = 0
  · have hz : s = step := by omega
    have ht : chg (s - step) = bitsOf 0 1 := by unfold chg; rw [if_pos hc0]
    rw [ht]
    subst hz
    clear ht hc0
    go_enter Tryd.func28, Tryd.ntmps28
    go_wp2_with fail
    refine (put_x 0 0 1 1 rfl rfl (by decide) (by decide) (by decide) (by omega) hW).mono ?_
    rintro e w1 ⟨rfl, v1, hW1, hf1, hg1⟩
    go_wp2_with fail
    refine bodyPost_ret (results_none rfl _ _ _) rfl ?_
    refine ⟨rfl, v1, hW1, hf0.trans hf1 (fun x hx => .inl hx), ?_⟩
    rcases hg1 with h | ⟨k, h, hk⟩
    · exact .inl h
    · exact .inr ⟨k, h, by simpa using hk⟩
  · obtain ⟨d, hd⟩ : ∃ d, s - step = d := ⟨_, rfl⟩
    rw [hd] at hc0 ⊢
    have Hd := hide hd
    have hz : (d == 0) = false := by rw [beq_eq_false_iff_ne]; exact hc0
    have hdl : -2251799813685248 ≤ d ∧ d ≤ 2251799813685248 := by omega
    have hb1 := hdl.1
    have hb2 := hdl.2
    -- THE FOUR WAYS
    have n1 : bits.length + 68 ≤ 2000000 := by omega
    by_cases c1 : -64 ≤ d ∧ d < 64
    · have ht : chg d = bitsOf 2 2 ++ bitsOf (u64 d) 7 := by unfold chg; rw [if_neg hc0, if_pos c1]
      obtain ⟨a1, a2⟩ := c1
      rw [ht, ← List.append_assoc]
      have hsz := fun W => sizes_any W
      have i0 := size0
      unfold sizesV at hsz i0
      clear ht hdl hc0
      go_enter Tryd.func28, Tryd.ntmps28
      have hsub : s - step = d := hd
      go_wp2_with fail
      clear hsub
      refine (hsz _).mono ?_
      rintro e w1 ⟨rfl, hf1⟩
      have hfw : Frm [] w1 (w1.alloc (.cells #[.int .u64 2, .int .i64 2, .int .i64 7] 85)) := (Frm.refl _ _).alloc _
      have hBx : Blk (w1.alloc (.cells #[.int .u64 2, .int .i64 2, .int .i64 7] 85)) (w1.heap.size) 85 #[.int .u64 2, .int .i64 2, .int .i64 7] := by
        have := Blk.new w1 85 #[.int .u64 2, .int .i64 2, .int .i64 7]
        simpa only [World.size_alloc] using this
      have hW1 := hW.quiet hf1
      have hW2 := hW1.quiet hfw
      have hbg : (w1.heap.size) ≠ g := by have := hW1.blk.lt; omega
      have hfT := (hf0.trans hf1 (by simp)).trans hfw (by simp)
      have hsg : w.heap.size ≤ (w1.alloc (.cells #[.int .u64 2, .int .i64 2, .int .i64 7] 85)).heap.size := by have := hfT.size; exact this
      go_wp2_with fail
      refine wp_loop_rounds 1 ?_
      rw [rounds_succ]
      go_wp2_with fail
      generalize (w1.alloc (.cells #[.int .u64 2, .int .i64 2, .int .i64 7] 85)) = w2 at hBx hW2 hfT hsg hfw ⊢
      generalize (w1.heap.size) = bx at hBx hbg ⊢
      have m0 : w2.cell? ⟨bx, 0, none⟩ = some (.int .u64 2) := hBx.cell 0
      have m1 : w2.cell? ⟨bx, 1, none⟩ = some (.int .i64 2) := hBx.cell 1
      clear hf0 hf1 hfw hW hW1 hsz
      go_region_with (first | (go_at_call 27; refine (put_x 2 2 2 2 rfl rfl (by decide) (by decide) (by decide) (by omega) (hW2.quiet ((Frm.refl [] _).drew))).mono ?_; rintro e wu ⟨rfl, vu, hWu, hfu, hgu⟩))
      all_goals
        have hBu := hBx.drew.frm hfu (not_foot hbg (own_blk_ne hW2.own hBx (by decide)))
        have mu : wu.cell? ⟨bx, 2, none⟩ = some (.int .i64 7) := hBu.cell 2
        have hlu : (bits ++ bitsOf 2 2).length ≤ 2000000 := by rw [List.length_append, bitsOf_length]; omega
        go_wp2_with fail
      all_goals go_region_with (first | (go_at_call 27; refine (put_x _ (u64 d) 7 7 (by rw [IntKind.wrap_u64]; unfold u64; omega) rfl (by decide) (u64_lt d) (by decide) hlu (hWu.quiet ((Frm.refl [] _).drew))).mono ?_; rintro e wz ⟨rfl, vz, hWz, hfz, hgz⟩))
      all_goals
        go_wp2_with fail
        refine bodyPost_ret (results_none rfl _ _ _) rfl ?_
        have k1 := hfT.drew.trans hfu (fun x hx => .inl hx)
        have gA := Grew.trans (wr := w2.drew) hsg (Grew.refl w v) hgu
        exact ⟨rfl, vz, hWz, foot_trans k1.drew gA hfz, Grew.trans (wr := wu.drew) k1.size gA hgz⟩
    · skip
      by_cases c2 : -256 ≤ d ∧ d < 256
      · have ht : chg d = bitsOf 6 3 ++ bitsOf (u64 d) 9 := by unfold chg; rw [if_neg hc0, if_neg c1, if_pos c2]
        obtain ⟨a1, a2⟩ := c2
        rcases (by omega : d < -64 ∨ 64 ≤ d) with a3 | a3
        · have b1 : ¬ -64 ≤ d := by omega
          clear c1
          rw [ht, ← List.append_assoc]
          have hsz := fun W => sizes_any W
          have i0 := size0
          have i1 := size1
          unfold sizesV at hsz i0 i1
          clear ht hdl hc0
          go_enter Tryd.func28, Tryd.ntmps28
          have hsub : s - step = d := hd
          go_wp2_with fail
          clear hsub
          refine (hsz _).mono ?_
          rintro e w1 ⟨rfl, hf1⟩
          have hfw : Frm [] w1 ((w1.alloc (.cells #[.int .u64 2, .int .i64 2, .int .i64 7] 85)).alloc (.cells #[.int .u64 6, .int .i64 3, .int .i64 9] 85)) := ((Frm.refl _ _).alloc _).alloc _
          have hBx : Blk ((w1.alloc (.cells #[.int .u64 2, .int .i64 2, .int .i64 7] 85)).alloc (.cells #[.int .u64 6, .int .i64 3, .int .i64 9] 85)) (w1.heap.size + 1) 85 #[.int .u64 6, .int .i64 3, .int .i64 9] := by
            have := Blk.new (w1.alloc (.cells #[.int .u64 2, .int .i64 2, .int .i64 7] 85)) 85 #[.int .u64 6, .int .i64 3, .int .i64 9]
            simpa only [World.size_alloc] using this
          have hW1 := hW.quiet hf1
          have hW2 := hW1.quiet hfw
          have hbg : (w1.heap.size + 1) ≠ g := by have := hW1.blk.lt; omega
          have hfT := (hf0.trans hf1 (by simp)).trans hfw (by simp)
          have hsg : w.heap.size ≤ ((w1.alloc (.cells #[.int .u64 2, .int .i64 2, .int .i64 7] 85)).alloc (.cells #[.int .u64 6, .int .i64 3, .int .i64 9] 85)).heap.size := by have := hfT.size; exact this
          go_wp2_with fail
          refine wp_loop_rounds 2 ?_
          rw [rounds_succ]
          go_wp2_with fail
          rw [rounds_succ]
          go_wp2_with fail
          generalize ((w1.alloc (.cells #[.int .u64 2, .int .i64 2, .int .i64 7] 85)).alloc (.cells #[.int .u64 6, .int .i64 3, .int .i64 9] 85)) = w2 at hBx hW2 hfT hsg hfw ⊢
          generalize (w1.heap.size + 1) = bx at hBx hbg ⊢
          have m0 : w2.cell? ⟨bx, 0, none⟩ = some (.int .u64 6) := hBx.cell 0
          have m1 : w2.cell? ⟨bx, 1, none⟩ = some (.int .i64 3) := hBx.cell 1
          clear hf0 hf1 hfw hW hW1 hsz
          go_region_with (first | (go_at_call 27; refine (put_x 6 6 3 3 rfl rfl (by decide) (by decide) (by decide) (by omega) (hW2.quiet ((Frm.refl [] _).drew))).mono ?_; rintro e wu ⟨rfl, vu, hWu, hfu, hgu⟩))
          all_goals
            have hBu := hBx.drew.frm hfu (not_foot hbg (own_blk_ne hW2.own hBx (by decide)))
            have mu : wu.cell? ⟨bx, 2, none⟩ = some (.int .i64 9) := hBu.cell 2
            have hlu : (bits ++ bitsOf 6 3).length ≤ 2000000 := by rw [List.length_append, bitsOf_length]; omega
            go_wp2_with fail
          all_goals go_region_with (first | (go_at_call 27; refine (put_x _ (u64 d) 9 9 (by rw [IntKind.wrap_u64]; unfold u64; omega) rfl (by decide) (u64_lt d) (by decide) hlu (hWu.quiet ((Frm.refl [] _).drew))).mono ?_; rintro e wz ⟨rfl, vz, hWz, hfz, hgz⟩))
          all_goals
            go_wp2_with fail
            refine bodyPost_ret (results_none rfl _ _ _) rfl ?_
            have k1 := hfT.drew.trans hfu (fun x hx => .inl hx)
            have gA := Grew.trans (wr := w2.drew) hsg (Grew.refl w v) hgu
            exact ⟨rfl, vz, hWz, foot_trans k1.drew gA hfz, Grew.trans (wr := wu.drew) k1.size gA hgz⟩
        · have b1 : -64 ≤ d := by omega
          have e1 : ¬ d < 64 := by omega
          clear c1
          rw [ht, ← List.append_assoc]
          have hsz := fun W => sizes_any W
          have i0 := size0
          have i1 := size1
          unfold sizesV at hsz i0 i1
          clear ht hdl hc0
          go_enter Tryd.func28, Tryd.ntmps28
          have hsub : s - step = d := hd
          go_wp2_with fail
          clear hsub
          refine (hsz _).mono ?_
          rintro e w1 ⟨rfl, hf1⟩
          have hfw : Frm [] w1 ((w1.alloc (.cells #[.int .u64 2, .int .i64 2, .int .i64 7] 85)).alloc (.cells #[.int .u64 6, .int .i64 3, .int .i64 9] 85)) := ((Frm.refl _ _).alloc _).alloc _
          have hBx : Blk ((w1.alloc (.cells #[.int .u64 2, .int .i64 2, .int .i64 7] 85)).alloc (.cells #[.int .u64 6, .int .i64 3, .int .i64 9] 85)) (w1.heap.size + 1) 85 #[.int .u64 6, .int .i64 3, .int .i64 9] := by
            have := Blk.new (w1.alloc (.cells #[.int .u64 2, .int .i64 2, .int .i64 7] 85)) 85 #[.int .u64 6, .int .i64 3, .int .i64 9]
            simpa only [World.size_alloc] using this
          have hW1 := hW.quiet hf1
          have hW2 := hW1.quiet hfw
          have hbg : (w1.heap.size + 1) ≠ g := by have := hW1.blk.lt; omega
          have hfT := (hf0.trans hf1 (by simp)).trans hfw (by simp)
          have hsg : w.heap.size ≤ ((w1.alloc (.cells #[.int .u64 2, .int .i64 2, .int .i64 7] 85)).alloc (.cells #[.int .u64 6, .int .i64 3, .int .i64 9] 85)).heap.size := by have := hfT.size; exact this
          go_wp2_with fail
          refine wp_loop_rounds 2 ?_
          rw [rounds_succ]
          go_wp2_with fail
          rw [rounds_succ]
          go_wp2_with fail
          generalize ((w1.alloc (.cells #[.int .u64 2, .int .i64 2, .int .i64 7] 85)).alloc (.cells #[.int .u64 6, .int .i64 3, .int .i64 9] 85)) = w2 at hBx hW2 hfT hsg hfw ⊢
          generalize (w1.heap.size + 1) = bx at hBx hbg ⊢
          have m0 : w2.cell? ⟨bx, 0, none⟩ = some (.int .u64 6) := hBx.cell 0
          have m1 : w2.cell? ⟨bx, 1, none⟩ = some (.int .i64 3) := hBx.cell 1
          clear hf0 hf1 hfw hW hW1 hsz
          go_region_with (first | (go_at_call 27; refine (put_x 6 6 3 3 rfl rfl (by decide) (by decide) (by decide) (by omega) (hW2.quiet ((Frm.refl [] _).drew))).mono ?_; rintro e wu ⟨rfl, vu, hWu, hfu, hgu⟩))
          all_goals
            have hBu := hBx.drew.frm hfu (not_foot hbg (own_blk_ne hW2.own hBx (by decide)))
            have mu : wu.cell? ⟨bx, 2, none⟩ = some (.int .i64 9) := hBu.cell 2
            have hlu : (bits ++ bitsOf 6 3).length ≤ 2000000 := by rw [List.length_append, bitsOf_length]; omega
            go_wp2_with fail
          all_goals go_region_with (first | (go_at_call 27; refine (put_x _ (u64 d) 9 9 (by rw [IntKind.wrap_u64]; unfold u64; omega) rfl (by decide) (u64_lt d) (by decide) hlu (hWu.quiet ((Frm.refl [] _).drew))).mono ?_; rintro e wz ⟨rfl, vz, hWz, hfz, hgz⟩))
          all_goals
            go_wp2_with fail
            refine bodyPost_ret (results_none rfl _ _ _) rfl ?_
            have k1 := hfT.drew.trans hfu (fun x hx => .inl hx)
            have gA := Grew.trans (wr := w2.drew) hsg (Grew.refl w v) hgu
            exact ⟨rfl, vz, hWz, foot_trans k1.drew gA hfz, Grew.trans (wr := wu.drew) k1.size gA hgz⟩
      · skip
        by_cases c3 : -2048 ≤ d ∧ d < 2048
        · have ht : chg d = bitsOf 14 4 ++ bitsOf (u64 d) 12 := by unfold chg; rw [if_neg hc0, if_neg c1, if_neg c2, if_pos c3]
          obtain ⟨a1, a2⟩ := c3
          rcases (by omega : d < -256 ∨ 256 ≤ d) with a3 | a3
          · have b1 : ¬ -64 ≤ d := by omega
            have b2 : ¬ -256 ≤ d := by omega
            clear c1 c2
            rw [ht, ← List.append_assoc]
            have hsz := fun W => sizes_any W
            have i0 := size0
            have i1 := size1
            have i2 := size2
            unfold sizesV at hsz i0 i1 i2
            clear ht hdl hc0
            go_enter Tryd.func28, Tryd.ntmps28
            have hsub : s - step = d := hd
            go_wp2_with fail
            clear hsub
            refine (hsz _).mono ?_
            rintro e w1 ⟨rfl, hf1⟩
            have hfw : Frm [] w1 (((w1.alloc (.cells #[.int .u64 2, .int .i64 2, .int .i64 7] 85)).alloc (.cells #[.int .u64 6, .int .i64 3, .int .i64 9] 85)).alloc (.cells #[.int .u64 14, .int .i64 4, .int .i64 12] 85)) := (((Frm.refl _ _).alloc _).alloc _).alloc _
            have hBx : Blk (((w1.alloc (.cells #[.int .u64 2, .int .i64 2, .int .i64 7] 85)).alloc (.cells #[.int .u64 6, .int .i64 3, .int .i64 9] 85)).alloc (.cells #[.int .u64 14, .int .i64 4, .int .i64 12] 85)) (w1.heap.size + 1 + 1) 85 #[.int .u64 14, .int .i64 4, .int .i64 12] := by
              have := Blk.new ((w1.alloc (.cells #[.int .u64 2, .int .i64 2, .int .i64 7] 85)).alloc (.cells #[.int .u64 6, .int .i64 3, .int .i64 9] 85)) 85 #[.int .u64 14, .int .i64 4, .int .i64 12]
              simpa only [World.size_alloc] using this
            have hW1 := hW.quiet hf1
            have hW2 := hW1.quiet hfw
            have hbg : (w1.heap.size + 1 + 1) ≠ g := by have := hW1.blk.lt; omega
            have hfT := (hf0.trans hf1 (by simp)).trans hfw (by simp)
            have hsg : w.heap.size ≤ (((w1.alloc (.cells #[.int .u64 2, .int .i64 2, .int .i64 7] 85)).alloc (.cells #[.int .u64 6, .int .i64 3, .int .i64 9] 85)).alloc (.cells #[.int .u64 14, .int .i64 4, .int .i64 12] 85)).heap.size := by have := hfT.size; exact this
            go_wp2_with fail
            refine wp_loop_rounds 3 ?_
            rw [rounds_succ]
            go_wp2_with fail
            rw [rounds_succ]
            go_wp2_with fail
            rw [rounds_succ]
            go_wp2_with fail
            generalize (((w1.alloc (.cells #[.int .u64 2, .int .i64 2, .int .i64 7] 85)).alloc (.cells #[.int .u64 6, .int .i64 3, .int .i64 9] 85)).alloc (.cells #[.int .u64 14, .int .i64 4, .int .i64 12] 85)) = w2 at hBx hW2 hfT hsg hfw ⊢
            generalize (w1.heap.size + 1 + 1) = bx at hBx hbg ⊢
            have m0 : w2.cell? ⟨bx, 0, none⟩ = some (.int .u64 14) := hBx.cell 0
            have m1 : w2.cell? ⟨bx, 1, none⟩ = some (.int .i64 4) := hBx.cell 1
            clear hf0 hf1 hfw hW hW1 hsz
            go_region_with (first | (go_at_call 27; refine (put_x 14 14 4 4 rfl rfl (by decide) (by decide) (by decide) (by omega) (hW2.quiet ((Frm.refl [] _).drew))).mono ?_; rintro e wu ⟨rfl, vu, hWu, hfu, hgu⟩))
            all_goals
              have hBu := hBx.drew.frm hfu (not_foot hbg (own_blk_ne hW2.own hBx (by decide)))
              have mu : wu.cell? ⟨bx, 2, none⟩ = some (.int .i64 12) := hBu.cell 2
              have hlu : (bits ++ bitsOf 14 4).length ≤ 2000000 := by rw [List.length_append, bitsOf_length]; omega
              go_wp2_with fail
            all_goals go_region_with (first | (go_at_call 27; refine (put_x _ (u64 d) 12 12 (by rw [IntKind.wrap_u64]; unfold u64; omega) rfl (by decide) (u64_lt d) (by decide) hlu (hWu.quiet ((Frm.refl [] _).drew))).mono ?_; rintro e wz ⟨rfl, vz, hWz, hfz, hgz⟩))
            all_goals
              go_wp2_with fail
              refine bodyPost_ret (results_none rfl _ _ _) rfl ?_
              have k1 := hfT.drew.trans hfu (fun x hx => .inl hx)
              have gA := Grew.trans (wr := w2.drew) hsg (Grew.refl w v) hgu
              exact ⟨rfl, vz, hWz, foot_trans k1.drew gA hfz, Grew.trans (wr := wu.drew) k1.size gA hgz⟩
          · have b1 : -64 ≤ d := by omega
            have e1 : ¬ d < 64 := by omega
            have b2 : -256 ≤ d := by omega
            have e2 : ¬ d < 256 := by omega
            clear c1 c2
            rw [ht, ← List.append_assoc]
            have hsz := fun W => sizes_any W
            have i0 := size0
            have i1 := size1
            have i2 := size2
            unfold sizesV at hsz i0 i1 i2
            clear ht hdl hc0
            go_enter Tryd.func28, Tryd.ntmps28
            have hsub : s - step = d := hd
            go_wp2_with fail
            clear hsub
            refine (hsz _).mono ?_
            rintro e w1 ⟨rfl, hf1⟩
            have hfw : Frm [] w1 (((w1.alloc (.cells #[.int .u64 2, .int .i64 2, .int .i64 7] 85)).alloc (.cells #[.int .u64 6, .int .i64 3, .int .i64 9] 85)).alloc (.cells #[.int .u64 14, .int .i64 4, .int .i64 12] 85)) := (((Frm.refl _ _).alloc _).alloc _).alloc _
            have hBx : Blk (((w1.alloc (.cells #[.int .u64 2, .int .i64 2, .int .i64 7] 85)).alloc (.cells #[.int .u64 6, .int .i64 3, .int .i64 9] 85)).alloc (.cells #[.int .u64 14, .int .i64 4, .int .i64 12] 85)) (w1.heap.size + 1 + 1) 85 #[.int .u64 14, .int .i64 4, .int .i64 12] := by
              have := Blk.new ((w1.alloc (.cells #[.int .u64 2, .int .i64 2, .int .i64 7] 85)).alloc (.cells #[.int .u64 6, .int .i64 3, .int .i64 9] 85)) 85 #[.int .u64 14, .int .i64 4, .int .i64 12]
              simpa only [World.size_alloc] using this
            have hW1 := hW.quiet hf1
            have hW2 := hW1.quiet hfw
            have hbg : (w1.heap.size + 1 + 1) ≠ g := by have := hW1.blk.lt; omega
            have hfT := (hf0.trans hf1 (by simp)).trans hfw (by simp)
            have hsg : w.heap.size ≤ (((w1.alloc (.cells #[.int .u64 2, .int .i64 2, .int .i64 7] 85)).alloc (.cells #[.int .u64 6, .int .i64 3, .int .i64 9] 85)).alloc (.cells #[.int .u64 14, .int .i64 4, .int .i64 12] 85)).heap.size := by have := hfT.size; exact this
            go_wp2_with fail
            refine wp_loop_rounds 3 ?_
            rw [rounds_succ]
            go_wp2_with fail
            rw [rounds_succ]
            go_wp2_with fail
            rw [rounds_succ]
            go_wp2_with fail
            generalize (((w1.alloc (.cells #[.int .u64 2, .int .i64 2, .int .i64 7] 85)).alloc (.cells #[.int .u64 6, .int .i64 3, .int .i64 9] 85)).alloc (.cells #[.int .u64 14, .int .i64 4, .int .i64 12] 85)) = w2 at hBx hW2 hfT hsg hfw ⊢
            generalize (w1.heap.size + 1 + 1) = bx at hBx hbg ⊢
            have m0 : w2.cell? ⟨bx, 0, none⟩ = some (.int .u64 14) := hBx.cell 0
            have m1 : w2.cell? ⟨bx, 1, none⟩ = some (.int .i64 4) := hBx.cell 1
            clear hf0 hf1 hfw hW hW1 hsz
            go_region_with (first | (go_at_call 27; refine (put_x 14 14 4 4 rfl rfl (by decide) (by decide) (by decide) (by omega) (hW2.quiet ((Frm.refl [] _).drew))).mono ?_; rintro e wu ⟨rfl, vu, hWu, hfu, hgu⟩))
            all_goals
              have hBu := hBx.drew.frm hfu (not_foot hbg (own_blk_ne hW2.own hBx (by decide)))
              have mu : wu.cell? ⟨bx, 2, none⟩ = some (.int .i64 12) := hBu.cell 2
              have hlu : (bits ++ bitsOf 14 4).length ≤ 2000000 := by rw [List.length_append, bitsOf_length]; omega
              go_wp2_with fail
            all_goals go_region_with (first | (go_at_call 27; refine (put_x _ (u64 d) 12 12 (by rw [IntKind.wrap_u64]; unfold u64; omega) rfl (by decide) (u64_lt d) (by decide) hlu (hWu.quiet ((Frm.refl [] _).drew))).mono ?_; rintro e wz ⟨rfl, vz, hWz, hfz, hgz⟩))
            all_goals
              go_wp2_with fail
              refine bodyPost_ret (results_none rfl _ _ _) rfl ?_
              have k1 := hfT.drew.trans hfu (fun x hx => .inl hx)
              have gA := Grew.trans (wr := w2.drew) hsg (Grew.refl w v) hgu
              exact ⟨rfl, vz, hWz, foot_trans k1.drew gA hfz, Grew.trans (wr := wu.drew) k1.size gA hgz⟩
        · skip
          have ht : chg d = bitsOf 15 4 ++ bitsOf (u64 d) 64 := by unfold chg; rw [if_neg hc0, if_neg c1, if_neg c2, if_neg c3]
          rcases (by omega : d < -2048 ∨ 2048 ≤ d) with a3 | a3
          · have b1 : ¬ -64 ≤ d := by omega
            have b2 : ¬ -256 ≤ d := by omega
            have b3 : ¬ -2048 ≤ d := by omega
            clear c1 c2 c3
            rw [ht, ← List.append_assoc]
            have hsz := fun W => sizes_any W
            have i0 := size0
            have i1 := size1
            have i2 := size2
            have i3 := size3
            unfold sizesV at hsz i0 i1 i2 i3
            clear ht hdl hc0
            go_enter Tryd.func28, Tryd.ntmps28
            have hsub : s - step = d := hd
            go_wp2_with fail
            clear hsub
            refine (hsz _).mono ?_
            rintro e w1 ⟨rfl, hf1⟩
            have hfw : Frm [] w1 ((((w1.alloc (.cells #[.int .u64 2, .int .i64 2, .int .i64 7] 85)).alloc (.cells #[.int .u64 6, .int .i64 3, .int .i64 9] 85)).alloc (.cells #[.int .u64 14, .int .i64 4, .int .i64 12] 85)).alloc (.cells #[.int .u64 15, .int .i64 4, .int .i64 64] 85)) := ((((Frm.refl _ _).alloc _).alloc _).alloc _).alloc _
            have hBx : Blk ((((w1.alloc (.cells #[.int .u64 2, .int .i64 2, .int .i64 7] 85)).alloc (.cells #[.int .u64 6, .int .i64 3, .int .i64 9] 85)).alloc (.cells #[.int .u64 14, .int .i64 4, .int .i64 12] 85)).alloc (.cells #[.int .u64 15, .int .i64 4, .int .i64 64] 85)) (w1.heap.size + 1 + 1 + 1) 85 #[.int .u64 15, .int .i64 4, .int .i64 64] := by
              have := Blk.new (((w1.alloc (.cells #[.int .u64 2, .int .i64 2, .int .i64 7] 85)).alloc (.cells #[.int .u64 6, .int .i64 3, .int .i64 9] 85)).alloc (.cells #[.int .u64 14, .int .i64 4, .int .i64 12] 85)) 85 #[.int .u64 15, .int .i64 4, .int .i64 64]
              simpa only [World.size_alloc] using this
            have hW1 := hW.quiet hf1
            have hW2 := hW1.quiet hfw
            have hbg : (w1.heap.size + 1 + 1 + 1) ≠ g := by have := hW1.blk.lt; omega
            have hfT := (hf0.trans hf1 (by simp)).trans hfw (by simp)
            have hsg : w.heap.size ≤ ((((w1.alloc (.cells #[.int .u64 2, .int .i64 2, .int .i64 7] 85)).alloc (.cells #[.int .u64 6, .int .i64 3, .int .i64 9] 85)).alloc (.cells #[.int .u64 14, .int .i64 4, .int .i64 12] 85)).alloc (.cells #[.int .u64 15, .int .i64 4, .int .i64 64] 85)).heap.size := by have := hfT.size; exact this
            go_wp2_with fail
            refine wp_loop_rounds 4 ?_
            rw [rounds_succ]
            go_wp2_with fail
            rw [rounds_succ]
            go_wp2_with fail
            rw [rounds_succ]
            go_wp2_with fail
            rw [rounds_succ]
            go_wp2_with fail
            generalize ((((w1.alloc (.cells #[.int .u64 2, .int .i64 2, .int .i64 7] 85)).alloc (.cells #[.int .u64 6, .int .i64 3, .int .i64 9] 85)).alloc (.cells #[.int .u64 14, .int .i64 4, .int .i64 12] 85)).alloc (.cells #[.int .u64 15, .int .i64 4, .int .i64 64] 85)) = w2 at hBx hW2 hfT hsg hfw ⊢
            generalize (w1.heap.size + 1 + 1 + 1) = bx at hBx hbg ⊢
            have m0 : w2.cell? ⟨bx, 0, none⟩ = some (.int .u64 15) := hBx.cell 0
            have m1 : w2.cell? ⟨bx, 1, none⟩ = some (.int .i64 4) := hBx.cell 1
            clear hf0 hf1 hfw hW hW1 hsz
            go_region_with (first | (go_at_call 27; refine (put_x 15 15 4 4 rfl rfl (by decide) (by decide) (by decide) (by omega) (hW2.quiet ((Frm.refl [] _).drew))).mono ?_; rintro e wu ⟨rfl, vu, hWu, hfu, hgu⟩))
            all_goals
              have hBu := hBx.drew.frm hfu (not_foot hbg (own_blk_ne hW2.own hBx (by decide)))
              have mu : wu.cell? ⟨bx, 2, none⟩ = some (.int .i64 64) := hBu.cell 2
              have hlu : (bits ++ bitsOf 15 4).length ≤ 2000000 := by rw [List.length_append, bitsOf_length]; omega
              go_wp2_with fail
            all_goals go_region_with (first | (go_at_call 27; refine (put_x _ (u64 d) 64 64 (by rw [IntKind.wrap_u64]; unfold u64; omega) rfl (by decide) (u64_lt d) (by decide) hlu (hWu.quiet ((Frm.refl [] _).drew))).mono ?_; rintro e wz ⟨rfl, vz, hWz, hfz, hgz⟩))
            all_goals
              go_wp2_with fail
              refine bodyPost_ret (results_none rfl _ _ _) rfl ?_
              have k1 := hfT.drew.trans hfu (fun x hx => .inl hx)
              have gA := Grew.trans (wr := w2.drew) hsg (Grew.refl w v) hgu
              exact ⟨rfl, vz, hWz, foot_trans k1.drew gA hfz, Grew.trans (wr := wu.drew) k1.size gA hgz⟩
          · have b1 : -64 ≤ d := by omega
            have e1 : ¬ d < 64 := by omega
            have b2 : -256 ≤ d := by omega
            have e2 : ¬ d < 256 := by omega
            have b3 : -2048 ≤ d := by omega
            have e3 : ¬ d < 2048 := by omega
            clear c1 c2 c3
            rw [ht, ← List.append_assoc]
            have hsz := fun W => sizes_any W
            have i0 := size0
            have i1 := size1
            have i2 := size2
            have i3 := size3
            unfold sizesV at hsz i0 i1 i2 i3
            clear ht hdl hc0
            go_enter Tryd.func28, Tryd.ntmps28
            have hsub : s - step = d := hd
            go_wp2_with fail
            clear hsub
            refine (hsz _).mono ?_
            rintro e w1 ⟨rfl, hf1⟩
            have hfw : Frm [] w1 ((((w1.alloc (.cells #[.int .u64 2, .int .i64 2, .int .i64 7] 85)).alloc (.cells #[.int .u64 6, .int .i64 3, .int .i64 9] 85)).alloc (.cells #[.int .u64 14, .int .i64 4, .int .i64 12] 85)).alloc (.cells #[.int .u64 15, .int .i64 4, .int .i64 64] 85)) := ((((Frm.refl _ _).alloc _).alloc _).alloc _).alloc _
            have hBx : Blk ((((w1.alloc (.cells #[.int .u64 2, .int .i64 2, .int .i64 7] 85)).alloc (.cells #[.int .u64 6, .int .i64 3, .int .i64 9] 85)).alloc (.cells #[.int .u64 14, .int .i64 4, .int .i64 12] 85)).alloc (.cells #[.int .u64 15, .int .i64 4, .int .i64 64] 85)) (w1.heap.size + 1 + 1 + 1) 85 #[.int .u64 15, .int .i64 4, .int .i64 64] := by
              have := Blk.new (((w1.alloc (.cells #[.int .u64 2, .int .i64 2, .int .i64 7] 85)).alloc (.cells #[.int .u64 6, .int .i64 3, .int .i64 9] 85)).alloc (.cells #[.int .u64 14, .int .i64 4, .int .i64 12] 85)) 85 #[.int .u64 15, .int .i64 4, .int .i64 64]
              simpa only [World.size_alloc] using this
            have hW1 := hW.quiet hf1
            have hW2 := hW1.quiet hfw
            have hbg : (w1.heap.size + 1 + 1 + 1) ≠ g := by have := hW1.blk.lt; omega
            have hfT := (hf0.trans hf1 (by simp)).trans hfw (by simp)
            have hsg : w.heap.size ≤ ((((w1.alloc (.cells #[.int .u64 2, .int .i64 2, .int .i64 7] 85)).alloc (.cells #[.int .u64 6, .int .i64 3, .int .i64 9] 85)).alloc (.cells #[.int .u64 14, .int .i64 4, .int .i64 12] 85)).alloc (.cells #[.int .u64 15, .int .i64 4, .int .i64 64] 85)).heap.size := by have := hfT.size; exact this
            go_wp2_with fail
            refine wp_loop_rounds 4 ?_
            rw [rounds_succ]
            go_wp2_with fail
            rw [rounds_succ]
            go_wp2_with fail
            rw [rounds_succ]
            go_wp2_with fail
            rw [rounds_succ]
            go_wp2_with fail
            generalize ((((w1.alloc (.cells #[.int .u64 2, .int .i64 2, .int .i64 7] 85)).alloc (.cells #[.int .u64 6, .int .i64 3, .int .i64 9] 85)).alloc (.cells #[.int .u64 14, .int .i64 4, .int .i64 12] 85)).alloc (.cells #[.int .u64 15, .int .i64 4, .int .i64 64] 85)) = w2 at hBx hW2 hfT hsg hfw ⊢
            generalize (w1.heap.size + 1 + 1 + 1) = bx at hBx hbg ⊢
            have m0 : w2.cell? ⟨bx, 0, none⟩ = some (.int .u64 15) := hBx.cell 0
            have m1 : w2.cell? ⟨bx, 1, none⟩ = some (.int .i64 4) := hBx.cell 1
            clear hf0 hf1 hfw hW hW1 hsz
            go_region_with (first | (go_at_call 27; refine (put_x 15 15 4 4 rfl rfl (by decide) (by decide) (by decide) (by omega) (hW2.quiet ((Frm.refl [] _).drew))).mono ?_; rintro e wu ⟨rfl, vu, hWu, hfu, hgu⟩))
            all_goals
              have hBu := hBx.drew.frm hfu (not_foot hbg (own_blk_ne hW2.own hBx (by decide)))
              have mu : wu.cell? ⟨bx, 2, none⟩ = some (.int .i64 64) := hBu.cell 2
              have hlu : (bits ++ bitsOf 15 4).length ≤ 2000000 := by rw [List.length_append, bitsOf_length]; omega
              go_wp2_with fail
            all_goals go_region_with (first | (go_at_call 27; refine (put_x _ (u64 d) 64 64 (by rw [IntKind.wrap_u64]; unfold u64; omega) rfl (by decide) (u64_lt d) (by decide) hlu (hWu.quiet ((Frm.refl [] _).drew))).mono ?_; rintro e wz ⟨rfl, vz, hWz, hfz, hgz⟩))
            all_goals
              go_wp2_with fail
              refine bodyPost_ret (results_none rfl _ _ _) rfl ?_
              have k1 := hfT.drew.trans hfu (fun x hx => .inl hx)
              have gA := Grew.trans (wr := w2.drew) hsg (Grew.refl w v) hgu
              exact ⟨rfl, vz, hWz, foot_trans k1.drew gA hfz, Grew.trans (wr := wu.drew) k1.size gA hgz⟩

end Go.Proofs.YtdnllmibchmnnaaDoor
