/-
  The contract of agg.Encode.
-/
import Derived.Test.YtceidhjgdgnplaaAggp
import Derived.Test.YtceidhjgdgnplaaQui
import Derived.Deep.RegionWith
namespace Go.Proofs.Ytceidhjgdgnplaa
set_option linter.unusedVariables false
set_option linter.unusedSimpArgs false
open Go.RowKit Go.BigFrame

/-- A builder in block b with these bytes, and a window in block ah, both new since w. -/
structure EncSt (w wr : World) (b ah : Nat) (p v : Value) (bs : List Nat) (y : Win) : Prop where
  bld : BldAt wr b p v bs
  box : Blk wr ah 62 y.arr
  b0 : w.heap.size ≤ b
  a0 : w.heap.size ≤ ah
  ne : ah ≠ b
  fv : Fresh w.heap.size v
  frm : Frm [] w wr

section
variable {w wr w1 : World} {b ah : Nat} {p p1 v v1 : Value} {bs bs1 : List Nat} {y z : Win}
theorem EncSt.quiet (h : EncSt w wr b ah p v bs y) (hf : Frm [] wr w1) : EncSt w w1 b ah p v bs y :=
  ⟨h.bld.quiet hf, h.box.frm hf (by simp), h.b0, h.a0, h.ne, h.fv, h.frm.trans hf (by simp)⟩
theorem EncSt.nin (h : EncSt w wr b ah p v bs y) : ah ∉ b :: v.ownBlock.toList := not_foot h.ne (own_blk_ne h.bld.own h.box (by decide))
theorem EncSt.put (h : EncSt w wr b ah p v bs y) (hb : BldAt w1 b p1 v1 bs1) (hf : Frm (b :: v.ownBlock.toList) wr w1) (hg : Grew wr v v1) : EncSt w w1 b ah p1 v1 bs1 y :=
  ⟨hb, h.box.frm hf h.nin, h.b0, h.a0, h.ne, h.fv.grew hg h.frm.size, h.frm.trans hf (h.fv.foot h.b0)⟩
theorem EncSt.store (h : EncSt w wr b ah p v bs y) (hx : Blk w1 ah 62 z.arr) (hf : Frm [ah] wr w1) : EncSt w w1 b ah p v bs z :=
  ⟨h.bld.away hf (by simpa using Ne.symm h.ne) (fun k hk => by
      have := own_blk_ne h.bld.own h.box (by decide)
      simp only [List.mem_singleton]
      rintro rfl
      exact this hk), hx, h.b0, h.a0, h.ne, h.fv, h.frm.trans hf (fun x hx => by
      have : x = ah := by simpa using hx
      exact .inr (this ▸ h.a0))⟩
/-- A block that is no part of it and holds no bytes stands through a write. -/
theorem EncSt.far (h : EncSt w wr b ah p v bs y) {x t : Nat} {cs : Array Value} (hx : Blk wr x t cs) (hne : x ≠ b) (ht : t ≠ 5) (hf : Frm (b :: v.ownBlock.toList) wr w1) : Blk w1 x t cs :=
  hx.frm hf (not_foot hne (own_blk_ne h.bld.own hx (Ne.symm ht)))
end

theorem cells6 {w : World} {A : Option Addr} {n : Nat} {F : Nat → Win} (h : CellsAt w A n 6 (fun i j => (F i).cell j)) {i : Nat} (hi : i < n) :
    ∃ b off, A = some ⟨b, off, none⟩ ∧ b < w.heap.size ∧ w.cell? ⟨b, off + i * 6, none⟩ = some (.int .i64 (F i).st) ∧ w.cell? ⟨b, off + i * 6 + 1, none⟩ = some (.int .i64 (F i).ct) ∧
      w.cell? ⟨b, off + i * 6 + 2, none⟩ = some (.int .u64 ((F i).sm : Int)) ∧ w.cell? ⟨b, off + i * 6 + 3, none⟩ = some (.int .u64 ((F i).mn : Int)) ∧ w.cell? ⟨b, off + i * 6 + 4, none⟩ = some (.int .u64 ((F i).mx : Int)) ∧ w.cell? ⟨b, off + i * 6 + 5, none⟩ = some (.int .u64 ((F i).la : Int)) := by
  obtain ⟨b, off, hA, hb, hc⟩ := h (by omega)
  have h0 := hc i 0 hi (by decide)
  have h1 := hc i 1 hi (by decide)
  have h2 := hc i 2 hi (by decide)
  have h3 := hc i 3 hi (by decide)
  have h4 := hc i 4 hi (by decide)
  have h5 := hc i 5 hi (by decide)
  rw [← Nat.add_assoc] at h0 h1 h2 h3 h4 h5
  exact ⟨b, off, hA, hb, h0, h1, h2, h3, h4, h5⟩

theorem index_four {P : Program} {t e q : TypeId} (ht : P.underlying t = some (.array 4 e)) (he : P.underlying e = some (.pointer q)) (hz : (P.info? e).map (·.size) = some 1) (a b c d : Value) (j : Nat) (hj : j < 4) (x : Int) (hx : x = j) (W : World) :
    (Instr.index t (.agg #[a, b, c, d]) (.int .i64 x)).run P W = .ok ([a, b, c, d].getD j undef) W := by
  subst hx
  obtain ⟨i, hi, hs⟩ := Option.map_eq_some_iff.1 hz
  obtain rfl | rfl | rfl | rfl : j = 0 ∨ j = 1 ∨ j = 2 ∨ j = 3 := by omega
  all_goals simp [Instr.index, run_underlying ht, run_underlying he, asIntOf, sizeOf, typeInfo, hi, hs, isAgg, go_sem]

set_option maxRecDepth 100000 in
set_option maxHeartbeats 1500000 in
theorem encode_any (A : Option Addr) (n cap : Nat) (F : Nat → Win) (hok : ∀ i, i < n → (F i).Ok) (hn : n * 48 ≤ 140737488351232) (w : World) (hc : CellsAt w A n 6 (fun i j => (F i).cell j)) :
    Calls Try.prog 25 #[.slice A n cap] w fun e w' => e = .returned (tellW F n) ∧ Frm [] w w' := by
  have hlen := encAll_length F n
  have Hlen := hide hlen
  clear hlen
  go_enter Try.func25, Try.ntmps25
  go_wp2_with fail
  have hB := bld_new w
  have hf0 : Frm [] w (w.alloc (.cells #[.pointer none, .slice none 0 0] 73)) := (Frm.refl _ _).alloc _
  refine (uint_any n _ (by first | rfl | omega) (by omega) _).mono ?_
  rintro e w1 ⟨rfl, hf1⟩
  have hB1 := hB.quiet hf1
  have hu := uintB_le n
  go_wp2_with fail
  refine (bwrite_any _ _ hB1 (by rw [bstr_size]; simp; omega)).mono ?_
  rintro e w2 ⟨rfl, v2, hB2, hf2, hg2⟩
  rw [bl_bstr _ (uintB_lt n), List.nil_append] at hB2
  go_wp2_with fail
  have hE : EncSt w (w2.alloc (.cells win0.arr 62)) w.heap.size w2.heap.size (.pointer (some ⟨w.heap.size, 0, none⟩)) v2 (uintB n) win0 := by
    have hBa := hB2.quiet (((Frm.refl [] w2).alloc (.cells win0.arr 62)))
    have hsz1 : w.heap.size < w2.heap.size := hB2.blk.lt
    refine ⟨hBa, Blk.new w2 _ _, Nat.le_refl _, Nat.le_of_lt hsz1, Nat.ne_of_gt hsz1, ?_, ?_⟩
    · exact ((Fresh.nil _).grew hg2 (hf0.trans hf1 (by simp)).size)
    · exact ((hf0.trans hf1 (by simp)).trans hf2 ((Fresh.nil _).foot (Nat.le_refl _))).alloc _
  rw [show win0.arr = #[.int .i64 0, .int .i64 0, .int .u64 0, .int .u64 0, .int .u64 0, .int .u64 0] from rfl] at hE
  generalize w2.alloc (.cells #[.int .i64 0, .int .i64 0, .int .u64 0, .int .u64 0, .int .u64 0, .int .u64 0] 62) = w3 at hE ⊢
  generalize w2.heap.size = ah at hE ⊢
  obtain ⟨b, hb⟩ : ∃ b, b = w.heap.size := ⟨_, rfl⟩
  rw [← hb] at hE ⊢
  clear hb hB hB1 hB2 hf0 hf1 hf2 hg2
  go_loopw [19] (fun x wr => ∃ (k : Nat) (v : Value), k ≤ n ∧ x = .int .i64 (k : Int) ∧ EncSt w wr b ah (.pointer (some ⟨b, 0, none⟩)) v (encAll F n k) (ahd F k) ∧ Hid (ffault F k = 0) ∧ Hid (0 ≤ (ahd F k).st)) (fun x _ => n - (intOf x).toNat)
  case atStart => exact ⟨0, v2, by omega, rfl, hE, hide rfl, hide (Int.le_refl 0)⟩
  case round =>
    obtain ⟨k, v, hk, rfl, hS, hff, hys0⟩ := hrel
    have hys := hys0.out
    clear hys0
    have hlk := Hlen.out k
    by_cases hlt : k < n
    · obtain ⟨sb, off, rfl, hsb, c0, c1, c2, c3, c4, c5⟩ := cells6 (hc.frm hS.frm) hlt
      have hOk := hok k hlt
      have hst : encAll F n (k + 1) = encAll F n k ++ winB (F k) (ahd F k) := rfl
      have hfs : ffault F (k + 1) = faultAt F k := by rw [ffault, if_pos hff.out]
      have hft : faultAt F k = winFault (F k) (ahd F k) (decide (k = 0)) := rfl
      have hah : ahd F (k + 1) = F k := rfl
      obtain ⟨fi, hfi⟩ : ∃ fi, fi = decide (k = 0) := ⟨_, rfl⟩
      have hyk : (fi = true → ahd F k = win0) ∧ (ahd F k).Ok := by
        cases k with
        | zero => exact ⟨fun _ => rfl, win0_ok⟩
        | succ k => exact ⟨fun h => by rw [hfi] at h; simp at h, hok k (by omega)⟩
      have hfirst : ((k : Int) == 0) = fi := by rw [hfi]; by_cases h : k = 0 <;> simp [h]
      have Hfirst := hide hfirst
      have Hfi := hide hfi
      rw [← hfi] at hft
      clear hfirst hfi
      generalize encAll F n k = bs at hS hlk hst
      generalize F k = x at c0 c1 c2 c3 c4 c5 hOk hst hft hah
      generalize ahd F k = y at hS hst hft hyk hys
      have Hst := hide hst
      have Hfs := hide (hfs.trans hft)
      have Hah := hide hah
      clear hst hfs hft hah
      obtain ⟨st, ct, sm, mn, mx, la⟩ := x
      obtain ⟨st2, ct2, sm2, mn2, mx2, la2⟩ := y
      simp only at c0 c1 c2 c3 c4 c5 hys
      have hS1 := hS.quiet ((Frm.refl [] wr).alloc (.cells #[.int .i64 st, .int .i64 ct, .int .u64 (sm : Int), .int .u64 (mn : Int), .int .u64 (mx : Int), .int .u64 (la : Int)] 62))
      have hX1 := Blk.new wr 62 #[.int .i64 st, .int .i64 ct, .int .u64 (sm : Int), .int .u64 (mn : Int), .int .u64 (mx : Int), .int .u64 (la : Int)]
      have hne1 : wr.heap.size ≠ b := Nat.ne_of_gt hS.bld.blk.lt
      have hne2 : wr.heap.size ≠ ah := Nat.ne_of_gt hS.box.lt
      have y0 : (wr.alloc (.cells #[.int .i64 st, .int .i64 ct, .int .u64 (sm : Int), .int .u64 (mn : Int), .int .u64 (mx : Int), .int .u64 (la : Int)] 62)).cell? ⟨ah, 0, none⟩ = some (.int .i64 st2) := hS1.box.cell 0
      have y1 : (wr.alloc (.cells #[.int .i64 st, .int .i64 ct, .int .u64 (sm : Int), .int .u64 (mn : Int), .int .u64 (mx : Int), .int .u64 (la : Int)] 62)).cell? ⟨ah, 1, none⟩ = some (.int .i64 ct2) := hS1.box.cell 1
      have y2 : (wr.alloc (.cells #[.int .i64 st, .int .i64 ct, .int .u64 (sm : Int), .int .u64 (mn : Int), .int .u64 (mx : Int), .int .u64 (la : Int)] 62)).cell? ⟨ah, 2, none⟩ = some (.int .u64 (sm2 : Int)) := hS1.box.cell 2
      have y3 : (wr.alloc (.cells #[.int .i64 st, .int .i64 ct, .int .u64 (sm : Int), .int .u64 (mn : Int), .int .u64 (mx : Int), .int .u64 (la : Int)] 62)).cell? ⟨ah, 3, none⟩ = some (.int .u64 (mn2 : Int)) := hS1.box.cell 3
      have y4 : (wr.alloc (.cells #[.int .i64 st, .int .i64 ct, .int .u64 (sm : Int), .int .u64 (mn : Int), .int .u64 (mx : Int), .int .u64 (la : Int)] 62)).cell? ⟨ah, 4, none⟩ = some (.int .u64 (mx2 : Int)) := hS1.box.cell 4
      have y5 : (wr.alloc (.cells #[.int .i64 st, .int .i64 ct, .int .u64 (sm : Int), .int .u64 (mn : Int), .int .u64 (mx : Int), .int .u64 (la : Int)] 62)).cell? ⟨ah, 5, none⟩ = some (.int .u64 (la2 : Int)) := hS1.box.cell 5
      go_wp2_with fail
      generalize wr.alloc (.cells #[.int .i64 st, .int .i64 ct, .int .u64 (sm : Int), .int .u64 (mn : Int), .int .u64 (mx : Int), .int .u64 (la : Int)] 62) = wa at hS1 hX1 y0 y1 y2 y3 y4 y5 ⊢
      generalize wr.heap.size = xa at hX1 hne1 hne2 ⊢
      clear y0 y1 y2 y3 y4 y5
      have hfo := fun W => follows_any ⟨st, ct, sm, mn, mx, la⟩ ⟨st2, ct2, sm2, mn2, mx2, la2⟩ fi W
      simp only [Win.arr] at hfo
      rw [Hfirst.out]
      refine (hfo _).mono ?_
      rintro e w4 ⟨rfl, hf4⟩
      have hS4 := hS1.quiet hf4
      have hX4 := hX1.frm hf4 (by simp)
      have hwz : winFault ⟨st, ct, sm, mn, mx, la⟩ ⟨st2, ct2, sm2, mn2, mx2, la2⟩ fi = 0 → _ := winFault_zero
      generalize winFault ⟨st, ct, sm, mn, mx, la⟩ ⟨st2, ct2, sm2, mn2, mx2, la2⟩ fi = er at Hfs hwz ⊢
      by_cases h0 : er = 0
      · obtain ⟨q1, q2, q3, q4, q5⟩ := hwz h0
        subst h0
        simp only at q1 q2 q3 q4 q5
        have q6 : st2 ≤ st := by
          cases fi
          · have := q3 rfl
            omega
          · have := congrArg Win.st (hyk.1 rfl)
            simp only [win0] at this
            omega
        have x0 : w4.cell? ⟨xa, 0, none⟩ = some (.int .i64 st) := hX4.cell 0
        have z0 : w4.cell? ⟨ah, 0, none⟩ = some (.int .i64 st2) := hS4.box.cell 0
        go_wp2_with fail
        refine (uint_any (st - st2).toNat _ (by first | omega | (unfold wrap64; omega)) (by omega) _).mono ?_
        rintro e w5 ⟨rfl, hf5⟩
        have hS5 := hS4.quiet hf5
        have hX5 := hX4.frm hf5 (by simp)
        go_wp2_with fail
        have hd := uintB_le (st - st2).toNat
        have hd2 := uintB_le ct.toNat
        refine (bwrite_any _ _ hS5.bld (by rw [bstr_size]; omega)).mono ?_
        rintro e w6 ⟨rfl, v6, hB6, hf6, hg6⟩
        rw [bl_bstr _ (uintB_lt _)] at hB6
        have hS6 := hS5.put hB6 hf6 hg6
        have hX6 := hS5.far hX5 hne1 (by decide) hf6
        have x1 : w6.cell? ⟨xa, 1, none⟩ = some (.int .i64 ct) := hX6.cell 1
        go_wp2_with fail
        refine (uint_any ct.toNat _ (by first | omega | (unfold wrap64; omega)) (by omega) _).mono ?_
        rintro e w7 ⟨rfl, hf7⟩
        have hS7 := hS6.quiet hf7
        have hX7 := hX6.frm hf7 (by simp)
        go_wp2_with fail
        refine (bwrite_any _ _ hS7.bld (by rw [bstr_size, List.length_append]; omega)).mono ?_
        rintro e w8 ⟨rfl, v8, hB8, hf8, hg8⟩
        rw [bl_bstr _ (uintB_lt _)] at hB8
        have hS8 := hS7.put hB8 hf8 hg8
        have hX8 := hS7.far hX7 hne1 (by decide) hf8
        go_wp2_with fail
        refine (fields_any ah ⟨st2, ct2, sm2, mn2, mx2, la2⟩ w8 hS8.box).mono ?_
        rintro e w9 ⟨rfl, hf9⟩
        have hS9 := hS8.quiet hf9
        have hX9 := hX8.frm hf9 (by simp)
        have hSa := hS9.quiet ((Frm.refl [] w9).alloc (.cells #[.pointer (some ⟨ah, 2, none⟩), .pointer (some ⟨ah, 3, none⟩), .pointer (some ⟨ah, 4, none⟩), .pointer (some ⟨ah, 5, none⟩)] 81))
        have hXa := hX9.alloc (.cells #[.pointer (some ⟨ah, 2, none⟩), .pointer (some ⟨ah, 3, none⟩), .pointer (some ⟨ah, 4, none⟩), .pointer (some ⟨ah, 5, none⟩)] 81)
        have hOa := Blk.new w9 81 #[.pointer (some ⟨ah, 2, none⟩), .pointer (some ⟨ah, 3, none⟩), .pointer (some ⟨ah, 4, none⟩), .pointer (some ⟨ah, 5, none⟩)]
        have hob : w9.heap.size ≠ b := Nat.ne_of_gt hS9.bld.blk.lt
        -- THE INNER LOOP
        go_wp2_with fail
        generalize w9.alloc (.cells #[.pointer (some ⟨ah, 2, none⟩), .pointer (some ⟨ah, 3, none⟩), .pointer (some ⟨ah, 4, none⟩), .pointer (some ⟨ah, 5, none⟩)] 81) = wa9 at hSa hXa hOa ⊢
        generalize w9.heap.size = oa at hOa hob ⊢
        refine (fields_any xa ⟨st, ct, sm, mn, mx, la⟩ wa9 hXa).mono ?_
        rintro e wb ⟨rfl, hfb⟩
        have hSb := hSa.quiet hfb
        have hXb := hXa.frm hfb (by simp)
        have hOb := hOa.frm hfb (by simp)
        have hbl : (bs ++ uintB (st - st2).toNat ++ uintB ct.toNat).length ≤ 30 + 60 * k := by rw [List.length_append, List.length_append]; omega
        have hwin : winB ⟨st, ct, sm, mn, mx, la⟩ ⟨st2, ct2, sm2, mn2, mx2, la2⟩ = uintB (st - st2).toNat ++ uintB ct.toNat ++ xors ⟨st, ct, sm, mn, mx, la⟩ ⟨st2, ct2, sm2, mn2, mx2, la2⟩ 4 := rfl
        have hbase : encAll F n (k + 1) = (bs ++ uintB (st - st2).toNat ++ uintB ct.toNat) ++ xors ⟨st, ct, sm, mn, mx, la⟩ ⟨st2, ct2, sm2, mn2, mx2, la2⟩ 4 := by rw [Hst.out, hwin]; simp only [List.append_assoc]
        have Hbase := hide hbase
        generalize bs ++ uintB (st - st2).toNat ++ uintB ct.toNat = base at hSb hbl Hbase
        clear hbase hwin hd hd2 hS8 hX8 hS9 hX9 hSa hXa hOa hS7 hX7 hS6 hX6 hS5 hX5 hS4 hX4 hB6 hB8 hX1 hS1 x0 z0 x1 Hst
        go_wp2_with fail
        go_loopw [47] (fun q wq => ∃ (j : Nat) (vj : Value), j ≤ 4 ∧ q = .int .i64 (j : Int) ∧ EncSt w wq b ah (.pointer (some ⟨b, 0, none⟩)) vj (base ++ xors ⟨st, ct, sm, mn, mx, la⟩ ⟨st2, ct2, sm2, mn2, mx2, la2⟩ j) ⟨st2, ct2, sm2, mn2, mx2, la2⟩ ∧ Blk wq xa 62 (Win.arr ⟨st, ct, sm, mn, mx, la⟩) ∧ Blk wq oa 81 #[.pointer (some ⟨ah, 2, none⟩), .pointer (some ⟨ah, 3, none⟩), .pointer (some ⟨ah, 4, none⟩), .pointer (some ⟨ah, 5, none⟩)]) (fun q _ => 4 - (intOf q).toNat)
        case atStart => exact ⟨0, _, by omega, rfl, by simpa [xors] using hSb, hXb, hOb⟩
        case round =>
          obtain ⟨j, vj, hj, rfl, hSj, hXj, hOj⟩ := hrel
          have hxl := xors_length ⟨st, ct, sm, mn, mx, la⟩ ⟨st2, ct2, sm2, mn2, mx2, la2⟩ j
          by_cases hj4 : j < 4
          · obtain ⟨q, hq⟩ : ∃ q : Int, (j : Int) = q := ⟨_, rfl⟩
            rw [hq]
            obtain rfl | rfl | rfl | rfl : j = 0 ∨ j = 1 ∨ j = 2 ∨ j = 3 := by omega
            · have m0 : wr.cell? ⟨xa, 2, none⟩ = some (.int .u64 (sm : Int)) := hXj.cell 2
              have m1 : wr.cell? ⟨oa, 0, none⟩ = some (.pointer (some ⟨ah, 2, none⟩)) := hOj.cell 0
              have m2 : wr.cell? ⟨ah, 2, none⟩ = some (.int .u64 (sm2 : Int)) := hSj.box.cell 2
              have hxs : xors ⟨st, ct, sm, mn, mx, la⟩ ⟨st2, ct2, sm2, mn2, mx2, la2⟩ 1 = xors ⟨st, ct, sm, mn, mx, la⟩ ⟨st2, ct2, sm2, mn2, mx2, la2⟩ 0 ++ uintB (sm ^^^ sm2) := rfl
              have hxx : sm ^^^ sm2 < 18446744073709551616 := Nat.xor_lt_two_pow (n := 64) hOk.sm hyk.2.sm
              have hxe := u64_xor_nat sm sm2 hOk.sm hyk.2.sm
              have hxb := uintB_le (sm ^^^ sm2)
              have Hxs := hide hxs
              have Hxe := hide hxe
              clear hxs hxe
              obtain rfl : q = 0 := by omega
              have hix := index_four Try.underlying81 Try.underlying80 (by kernel_rfl) (.pointer (some ⟨xa, 2, none⟩)) (.pointer (some ⟨xa, 3, none⟩)) (.pointer (some ⟨xa, 4, none⟩)) (.pointer (some ⟨xa, 5, none⟩)) 0 (by decide) 0 rfl (P := Try.prog)
              simp only [List.getD_cons_zero, List.getD_cons_succ] at hix
              go_wp2_with fail
              go_region_with (first | (go_at_call 37; refine (uint_any (sm ^^^ sm2) _ Hxe.out hxx _).mono ?_; rintro e wu ⟨rfl, hfu⟩; have hSu := (hSj.quiet ((Frm.refl [] _).drew)).quiet hfu; have hXu := (hXj.drew).frm hfu (by simp); have hOu := (hOj.drew).frm hfu (by simp)) | (go_at_call 36; refine (bwrite_any _ _ hSu.bld (by rw [bstr_size, List.length_append]; omega)).mono ?_; rintro e wv ⟨rfl, v', hBv, hfv, hgv⟩))
              all_goals rw [bl_bstr _ (uintB_lt _), List.append_assoc, ← Hxs.out] at hBv
              all_goals go_wp2_with fail
              all_goals exact ⟨⟨1, v', by decide, rfl, hSu.put hBv hfv hgv, hSu.far hXu hne1 (by decide) hfv, hSu.far hOu hob (by decide) hfv⟩, by simp [intOf]⟩
            · have m0 : wr.cell? ⟨xa, 3, none⟩ = some (.int .u64 (mn : Int)) := hXj.cell 3
              have m1 : wr.cell? ⟨oa, 1, none⟩ = some (.pointer (some ⟨ah, 3, none⟩)) := hOj.cell 1
              have m2 : wr.cell? ⟨ah, 3, none⟩ = some (.int .u64 (mn2 : Int)) := hSj.box.cell 3
              have hxs : xors ⟨st, ct, sm, mn, mx, la⟩ ⟨st2, ct2, sm2, mn2, mx2, la2⟩ 2 = xors ⟨st, ct, sm, mn, mx, la⟩ ⟨st2, ct2, sm2, mn2, mx2, la2⟩ 1 ++ uintB (mn ^^^ mn2) := rfl
              have hxx : mn ^^^ mn2 < 18446744073709551616 := Nat.xor_lt_two_pow (n := 64) hOk.mn hyk.2.mn
              have hxe := u64_xor_nat mn mn2 hOk.mn hyk.2.mn
              have hxb := uintB_le (mn ^^^ mn2)
              have Hxs := hide hxs
              have Hxe := hide hxe
              clear hxs hxe
              obtain rfl : q = 1 := by omega
              have hix := index_four Try.underlying81 Try.underlying80 (by kernel_rfl) (.pointer (some ⟨xa, 2, none⟩)) (.pointer (some ⟨xa, 3, none⟩)) (.pointer (some ⟨xa, 4, none⟩)) (.pointer (some ⟨xa, 5, none⟩)) 1 (by decide) 1 rfl (P := Try.prog)
              simp only [List.getD_cons_zero, List.getD_cons_succ] at hix
              go_wp2_with fail
              go_region_with (first | (go_at_call 37; refine (uint_any (mn ^^^ mn2) _ Hxe.out hxx _).mono ?_; rintro e wu ⟨rfl, hfu⟩; have hSu := (hSj.quiet ((Frm.refl [] _).drew)).quiet hfu; have hXu := (hXj.drew).frm hfu (by simp); have hOu := (hOj.drew).frm hfu (by simp)) | (go_at_call 36; refine (bwrite_any _ _ hSu.bld (by rw [bstr_size, List.length_append]; omega)).mono ?_; rintro e wv ⟨rfl, v', hBv, hfv, hgv⟩))
              all_goals rw [bl_bstr _ (uintB_lt _), List.append_assoc, ← Hxs.out] at hBv
              all_goals go_wp2_with fail
              all_goals exact ⟨⟨2, v', by decide, rfl, hSu.put hBv hfv hgv, hSu.far hXu hne1 (by decide) hfv, hSu.far hOu hob (by decide) hfv⟩, by simp [intOf]⟩
            · have m0 : wr.cell? ⟨xa, 4, none⟩ = some (.int .u64 (mx : Int)) := hXj.cell 4
              have m1 : wr.cell? ⟨oa, 2, none⟩ = some (.pointer (some ⟨ah, 4, none⟩)) := hOj.cell 2
              have m2 : wr.cell? ⟨ah, 4, none⟩ = some (.int .u64 (mx2 : Int)) := hSj.box.cell 4
              have hxs : xors ⟨st, ct, sm, mn, mx, la⟩ ⟨st2, ct2, sm2, mn2, mx2, la2⟩ 3 = xors ⟨st, ct, sm, mn, mx, la⟩ ⟨st2, ct2, sm2, mn2, mx2, la2⟩ 2 ++ uintB (mx ^^^ mx2) := rfl
              have hxx : mx ^^^ mx2 < 18446744073709551616 := Nat.xor_lt_two_pow (n := 64) hOk.mx hyk.2.mx
              have hxe := u64_xor_nat mx mx2 hOk.mx hyk.2.mx
              have hxb := uintB_le (mx ^^^ mx2)
              have Hxs := hide hxs
              have Hxe := hide hxe
              clear hxs hxe
              obtain rfl : q = 2 := by omega
              have hix := index_four Try.underlying81 Try.underlying80 (by kernel_rfl) (.pointer (some ⟨xa, 2, none⟩)) (.pointer (some ⟨xa, 3, none⟩)) (.pointer (some ⟨xa, 4, none⟩)) (.pointer (some ⟨xa, 5, none⟩)) 2 (by decide) 2 rfl (P := Try.prog)
              simp only [List.getD_cons_zero, List.getD_cons_succ] at hix
              go_wp2_with fail
              go_region_with (first | (go_at_call 37; refine (uint_any (mx ^^^ mx2) _ Hxe.out hxx _).mono ?_; rintro e wu ⟨rfl, hfu⟩; have hSu := (hSj.quiet ((Frm.refl [] _).drew)).quiet hfu; have hXu := (hXj.drew).frm hfu (by simp); have hOu := (hOj.drew).frm hfu (by simp)) | (go_at_call 36; refine (bwrite_any _ _ hSu.bld (by rw [bstr_size, List.length_append]; omega)).mono ?_; rintro e wv ⟨rfl, v', hBv, hfv, hgv⟩))
              all_goals rw [bl_bstr _ (uintB_lt _), List.append_assoc, ← Hxs.out] at hBv
              all_goals go_wp2_with fail
              all_goals exact ⟨⟨3, v', by decide, rfl, hSu.put hBv hfv hgv, hSu.far hXu hne1 (by decide) hfv, hSu.far hOu hob (by decide) hfv⟩, by simp [intOf]⟩
            · have m0 : wr.cell? ⟨xa, 5, none⟩ = some (.int .u64 (la : Int)) := hXj.cell 5
              have m1 : wr.cell? ⟨oa, 3, none⟩ = some (.pointer (some ⟨ah, 5, none⟩)) := hOj.cell 3
              have m2 : wr.cell? ⟨ah, 5, none⟩ = some (.int .u64 (la2 : Int)) := hSj.box.cell 5
              have hxs : xors ⟨st, ct, sm, mn, mx, la⟩ ⟨st2, ct2, sm2, mn2, mx2, la2⟩ 4 = xors ⟨st, ct, sm, mn, mx, la⟩ ⟨st2, ct2, sm2, mn2, mx2, la2⟩ 3 ++ uintB (la ^^^ la2) := rfl
              have hxx : la ^^^ la2 < 18446744073709551616 := Nat.xor_lt_two_pow (n := 64) hOk.la hyk.2.la
              have hxe := u64_xor_nat la la2 hOk.la hyk.2.la
              have hxb := uintB_le (la ^^^ la2)
              have Hxs := hide hxs
              have Hxe := hide hxe
              clear hxs hxe
              obtain rfl : q = 3 := by omega
              have hix := index_four Try.underlying81 Try.underlying80 (by kernel_rfl) (.pointer (some ⟨xa, 2, none⟩)) (.pointer (some ⟨xa, 3, none⟩)) (.pointer (some ⟨xa, 4, none⟩)) (.pointer (some ⟨xa, 5, none⟩)) 3 (by decide) 3 rfl (P := Try.prog)
              simp only [List.getD_cons_zero, List.getD_cons_succ] at hix
              go_wp2_with fail
              go_region_with (first | (go_at_call 37; refine (uint_any (la ^^^ la2) _ Hxe.out hxx _).mono ?_; rintro e wu ⟨rfl, hfu⟩; have hSu := (hSj.quiet ((Frm.refl [] _).drew)).quiet hfu; have hXu := (hXj.drew).frm hfu (by simp); have hOu := (hOj.drew).frm hfu (by simp)) | (go_at_call 36; refine (bwrite_any _ _ hSu.bld (by rw [bstr_size, List.length_append]; omega)).mono ?_; rintro e wv ⟨rfl, v', hBv, hfv, hgv⟩))
              all_goals rw [bl_bstr _ (uintB_lt _), List.append_assoc, ← Hxs.out] at hBv
              all_goals go_wp2_with fail
              all_goals exact ⟨⟨4, v', by decide, rfl, hSu.put hBv hfv hgv, hSu.far hXu hne1 (by decide) hfv, hSu.far hOu hob (by decide) hfv⟩, by simp [intOf]⟩
          · obtain rfl : j = 4 := by omega
            have l0 := hXj.cell 0
            have k0 := hSj.box.cell 0
            have f0 := hSj.box.frozen 0
            have l1 := hXj.cell 1
            have k1 := hSj.box.cell 1
            have f1 := hSj.box.frozen 1
            have l2 := hXj.cell 2
            have k2 := hSj.box.cell 2
            have f2 := hSj.box.frozen 2
            have l3 := hXj.cell 3
            have k3 := hSj.box.cell 3
            have f3 := hSj.box.frozen 3
            have l4 := hXj.cell 4
            have k4 := hSj.box.cell 4
            have f4 := hSj.box.frozen 4
            have l5 := hXj.cell 5
            have k5 := hSj.box.cell 5
            have f5 := hSj.box.frozen 5
            simp only [Win.arr] at l0 l1 l2 l3 l4 l5 k0 k1 k2 k3 k4 k5
            go_wp2_with fail
            refine ⟨⟨k + 1, vj, by omega, by go_num, ?_, hide (by rw [Hfs.out]), hide (by rw [Hah.out]; exact q1)⟩, by simp [intOf]; omega⟩
            rw [Hbase.out, Hah.out]
            refine hSj.store ?_ ?_
            · have hbb := (((((hSj.box.set_ 0 (.int .i64 st)).set_ 1 (.int .i64 ct)).set_ 2 (.int .u64 (sm : Int))).set_ 3 (.int .u64 (mn : Int))).set_ 4 (.int .u64 (mx : Int))).set_ 5 (.int .u64 (la : Int))
              simpa [Win.arr] using hbb
            · exact ((((((Frm.refl [ah] wr).setCell (p := ⟨ah, 0, none⟩) (.inl (List.mem_cons_self ..)) _).setCell (p := ⟨ah, 1, none⟩) (.inl (List.mem_cons_self ..)) _).setCell (p := ⟨ah, 2, none⟩) (.inl (List.mem_cons_self ..)) _).setCell (p := ⟨ah, 3, none⟩) (.inl (List.mem_cons_self ..)) _).setCell (p := ⟨ah, 4, none⟩) (.inl (List.mem_cons_self ..)) _).setCell (p := ⟨ah, 5, none⟩) (.inl (List.mem_cons_self ..)) _
      · have hne0 : (er != 0) = true := by rw [bne_iff_ne]; exact h0
        have hfn : ffault F n = er := by
          have h1 := Hfs.out
          rw [ffault_stays F (k + 1) (by rw [h1]; exact h0) n (by omega), h1]
        have ht : tellW F n = .tuple #[.string (bstr []), .int .i64 er] := by unfold tellW; rw [hfn, if_neg h0]
        have Ht := hide ht
        clear ht hfn
        go_wp2_with fail
        go_ret2
        exact ⟨by rw [Ht.out]; rfl, hS4.frm⟩
    · obtain rfl : k = n := by omega
      have ht : tellW F k = .tuple #[.string (bstr (encAll F k k)), .int .i64 0] := by unfold tellW; rw [if_pos hff.out]
      have Ht := hide ht
      have hby := encAll_byte F k k
      have hpo := encAll_pos F k k
      clear ht
      go_wp2_with fail
      refine (bstring_any _ hS.bld hpo hby).mono ?_
      rintro e w4 ⟨rfl, hf4⟩
      go_wp2_with fail
      go_ret2
      exact ⟨by rw [Ht.out]; rfl, hS.frm.trans hf4 (hS.fv.row)⟩

end Go.Proofs.Ytceidhjgdgnplaa
