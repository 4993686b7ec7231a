/-
  The contract of agg.Decode.
-/
import Derived.Test.YtceidhjgdgnplaaNumw
import Derived.Test.YtceidhjgdgnplaaWlaw
import Derived.Test.YtceidhjgdgnplaaRefe
import Derived.Laws.Panics
import Derived.Outline
namespace Go.Proofs.Ytceidhjgdgnplaa
set_option linter.unusedVariables false
set_option linter.unusedSimpArgs false
open Go.RowKit Go.BigFrame

/-- What is known at the head of Decode's loop: the three variables, the window ahead, the row of those that are read; all new since w. -/
structure DecSt (w wr : World) (be bs ba bh : Nat) (s : ByteArray) (a : Nat) (y : Win) (v : Value) (k : Nat) (F : Nat → Win) : Prop where
  nst : NumSt wr be bs ba s a 0
  box : Blk wr bh 62 y.arr
  row : WRow wr 62 v k F
  e0 : w.heap.size ≤ be
  s0 : w.heap.size ≤ bs
  a0 : w.heap.size ≤ ba
  h0 : w.heap.size ≤ bh
  ne : v.ownBlock ≠ some bh
  fv : Fresh w.heap.size v
  frm : Frm [] w wr

section
variable {w wr w1 : World} {be bs ba bh a a1 k : Nat} {s : ByteArray} {y z : Win} {v v1 : Value} {F : Nat → Win}
theorem NumSt.ne_h {e : Nat} (h : NumSt wr be bs ba s a e) {b : Nat} {cs : Array Value} (hb : Blk wr b 62 cs) : be ≠ b ∧ bs ≠ b ∧ ba ≠ b :=
  ⟨h.eB.ne_ hb (by decide), h.sB.ne_ hb (by decide), h.aB.ne_ hb (by decide)⟩
theorem NumSt.ne_row {e : Nat} (h : NumSt wr be bs ba s a e) (hr : WRow wr 62 v k F) : v.ownBlock ≠ some be ∧ v.ownBlock ≠ some bs ∧ v.ownBlock ≠ some ba :=
  ⟨own_blk_ne hr h.eB (by decide), own_blk_ne hr h.sB (by decide), own_blk_ne hr h.aB (by decide)⟩
end

/-- The window in the making: j of its fields of bits are read. -/
def part (y : Win) (l : List Nat) (a j : Nat) : Win :=
  ⟨y.st, y.ct, if 0 < j then y.sm ^^^ (num l a 2).1 else y.sm, if 1 < j then y.mn ^^^ (num l a 3).1 else y.mn, if 2 < j then y.mx ^^^ (num l a 4).1 else y.mx, if 3 < j then y.la ^^^ (num l a 5).1 else y.la⟩

/-- What is known while a window is read: j + 2 of its numbers are. -/
structure InSt (w wq : World) (be bs ba bh xw : Nat) (s : ByteArray) (a j : Nat) (y : Win) (v : Value) (k : Nat) (F : Nat → Win) : Prop where
  nst : NumSt wq be bs ba s (num (bl s) a (j + 1)).2.1 (num (bl s) a (j + 1)).2.2
  win : Blk wq xw 62 (part y (bl s) a j).arr
  box : Blk wq bh 62 y.arr
  row : WRow wq 62 v k F
  e0 : w.heap.size ≤ be
  s0 : w.heap.size ≤ bs
  a0 : w.heap.size ≤ ba
  h0 : w.heap.size ≤ bh
  x0 : w.heap.size ≤ xw
  ne : v.ownBlock ≠ some bh
  nx : v.ownBlock ≠ some xw
  xh : xw ≠ bh
  fv : Fresh w.heap.size v
  frm : Frm [] w wq

section
variable {w wq w1 : World} {be bs ba bh xw a j k : Nat} {s : ByteArray} {y : Win} {v : Value} {F : Nat → Win}
theorem clos_num (hs : s.size ≤ 4611686018427387904) (j : Nat) (W : World) (h : NumSt W be bs ba s (num (bl s) a j).2.1 (num (bl s) a j).2.2) :
    Calls Try.prog 47 #[.pointer (some ⟨be, 0, none⟩), .pointer (some ⟨bs, 0, none⟩), .pointer (some ⟨ba, 0, none⟩)] W fun e' w' =>
      e' = .returned (.int .u64 ((num (bl s) a (j + 1)).1 : Nat)) ∧ NumSt w' be bs ba s (num (bl s) a (j + 1)).2.1 (num (bl s) a (j + 1)).2.2 ∧ Frm [ba, be] W w' :=
  clos_any be bs ba s _ _ hs W h
theorem clos_first (hs : s.size ≤ 4611686018427387904) (W : World) (h : NumSt W be bs ba s a 0) :
    Calls Try.prog 47 #[.pointer (some ⟨be, 0, none⟩), .pointer (some ⟨bs, 0, none⟩), .pointer (some ⟨ba, 0, none⟩)] W fun e' w' =>
      e' = .returned (.int .u64 ((num (bl s) a 0).1 : Nat)) ∧ NumSt w' be bs ba s (num (bl s) a 0).2.1 (num (bl s) a 0).2.2 ∧ Frm [ba, be] W w' :=
  clos_any be bs ba s a 0 hs W h
end

theorem InSt.lists {w wq : World} {be bs ba bh xw a j k : Nat} {s : ByteArray} {y : Win} {v : Value} {F : Nat → Win} (h : InSt w wq be bs ba bh xw s a j y v k F) :
    (∀ x ∈ [ba, be], x ∈ ([] : List Nat) ∨ w.heap.size ≤ x) ∧ bh ∉ [ba, be] ∧ xw ∉ [ba, be] ∧ ∀ x, v.ownBlock = some x → x ∉ [ba, be] := by
  have nb := h.nst.ne_h h.box
  have nx := h.nst.ne_h h.win
  have nr := h.nst.ne_row h.row
  refine ⟨?_, ?_, ?_, ?_⟩
  · intro x hx
    simp only [List.mem_cons, List.not_mem_nil, or_false] at hx
    rcases hx with rfl | rfl
    · exact .inr h.a0
    · exact .inr h.e0
  · simp only [List.mem_cons, List.not_mem_nil, or_false]
    rintro (h | h)
    · exact nb.2.2 h.symm
    · exact nb.1 h.symm
  · simp only [List.mem_cons, List.not_mem_nil, or_false]
    rintro (h | h)
    · exact nx.2.2 h.symm
    · exact nx.1 h.symm
  · intro x hx
    simp only [List.mem_cons, List.not_mem_nil, or_false]
    rintro (h | h)
    · exact nr.2.2 (h ▸ hx)
    · exact nr.1 (h ▸ hx)

theorem InSt.step {w wq wu : World} {be bs ba bh xw a j k : Nat} {s : ByteArray} {y : Win} {v : Value} {F : Nat → Win} (h : InSt w wq be bs ba bh xw s a j y v k F)
    (hn : NumSt wu be bs ba s (num (bl s) a (j + 1 + 1)).2.1 (num (bl s) a (j + 1 + 1)).2.2) (hf : Frm [ba, be] wq wu) (u : Value) (hu : (part y (bl s) a j).arr.setIfInBounds (j + 2) u = (part y (bl s) a (j + 1)).arr) :
    InSt w (wu.setCell ⟨xw, j + 2, none⟩ u) be bs ba bh xw s a (j + 1) y v k F := by
  obtain ⟨q5, nbl, nxl, nrl⟩ := h.lists
  have nx := h.nst.ne_h h.win
  have hw := (h.win.frm hf nxl).set_ (j + 2) u
  rw [hu] at hw
  refine ⟨⟨hn.eB.far (p := ⟨xw, j + 2, none⟩) nx.1 u, hn.sB.far (p := ⟨xw, j + 2, none⟩) nx.2.1 u, hn.aB.far (p := ⟨xw, j + 2, none⟩) nx.2.2 u⟩, hw, (h.box.frm hf nbl).far (p := ⟨xw, j + 2, none⟩) (Ne.symm h.xh) u, ?_, h.e0, h.s0, h.a0, h.h0, h.x0, h.ne, h.nx, h.xh, h.fv, ?_⟩
  · exact ownsRow_setCell_other (h.row.frm hf nrl) (a := ⟨xw, j + 2, none⟩) h.nx u
  · exact (h.frm.trans hf q5).setCell (p := ⟨xw, j + 2, none⟩) (.inr h.x0) u

theorem derr_stop {l : List Nat} {n a k : Nat} (hr : readU l 0 = (n, a, 0)) (hk : k < n) (h : (dst l a (k + 1)).er ≠ 0) : derr l = (dst l a (k + 1)).er := by
  unfold derr
  rw [hr]
  simp only
  rw [dst_stays h n (by omega), if_neg (by simp), if_pos h]
theorem derr_end {l : List Nat} {n a : Nat} (hr : readU l 0 = (n, a, 0)) (h : (dst l a n).er = 0) : derr l = if (dst l a n).at_ ≠ l.length then 21 else 0 := by
  unfold derr
  rw [hr]
  simp only
  rw [if_neg (by simp), if_neg (by simpa using h)]

theorem WRow.set6 {w : World} {e : TypeId} {v : Value} {n b : Nat} {F : Nat → Win} (h : WRow w e v n F) (hb : v.ownBlock ≠ some b) (u0 u1 u2 u3 u4 u5 : Value) :
    WRow ((((((w.setCell ⟨b, 0, none⟩ u0).setCell ⟨b, 1, none⟩ u1).setCell ⟨b, 2, none⟩ u2).setCell ⟨b, 3, none⟩ u3).setCell ⟨b, 4, none⟩ u4).setCell ⟨b, 5, none⟩ u5) e v n F :=
  ownsRow_setCell_other (ownsRow_setCell_other (ownsRow_setCell_other (ownsRow_setCell_other (ownsRow_setCell_other (ownsRow_setCell_other h (a := ⟨b, 0, none⟩) hb _) (a := ⟨b, 1, none⟩) hb _) (a := ⟨b, 2, none⟩) hb _) (a := ⟨b, 3, none⟩) hb _) (a := ⟨b, 4, none⟩) hb _) (a := ⟨b, 5, none⟩) hb _

/-- What Decode tells: a new row of windows, and the error. -/
def tellD (e : TypeId) (s : ByteArray) (w : World) (r : Ending) (w' : World) : Prop :=
  ∃ v, r = .returned (.tuple #[v, .int .i64 (derr (bl s))]) ∧ WRow w' e v (if derr (bl s) = 0 then (readU (bl s) 0).1 else 0) (dwin (bl s) (readU (bl s) 0).2.1) ∧ Fresh w.heap.size v ∧ Frm [] w w'

theorem tellD_fault {e : TypeId} {s : ByteArray} {w w' : World} {r : Ending} {x : Int} (hr : r = .returned (.tuple #[.slice none 0 0, .int .i64 x])) (hx : derr (bl s) = x) (h0 : x ≠ 0) (hf : Frm [] w w') : tellD e s w r w' := by
  refine ⟨.slice none 0 0, by rw [hr, hx], ?_, Fresh.nil _, hf⟩
  rw [if_neg (by rw [hx]; exact h0)]
  exact WRow.nil _ _ _

set_option maxRecDepth 100000 in
set_option maxHeartbeats 8000000 in
theorem decode_any (s : ByteArray) (hs : s.size ≤ 4611686018427387904) (hM : ∀ k, k ≤ (readU (bl s) 0).1 → (dst (bl s) (readU (bl s) 0).2.1 k).er = 0 → k * 48 ≤ 140737488351232) (w : World) :
    Calls Try.prog 33 #[.string s] w (tellD 62 s w) := by
  have hmf : ∀ (fn : Fn) (first cap : Array Value) (w : World), (Instr.makeFunc fn first cap).run Try.prog w = .ok (.func fn first cap) w := fun _ _ _ _ => rfl
  have hrd := readuint_wide s 0 hs
  have hnx := readU_next (bl s) 0
  have hlt := readU_lt (bl s) 0
  obtain ⟨n, a, e, hr⟩ : ∃ n a e, readU (bl s) 0 = (n, a, e) := ⟨_, _, _, rfl⟩
  rw [hr] at hrd hM hnx hlt
  unfold tellU at hrd
  simp only at hrd hM hnx hlt
  by_cases he : e = 0
  · have hnx' := hnx he
    rw [bl_length] at hnx'
    subst he
    have Hr := hide hr
    have HM := hide hM
    clear hr hM hnx
    go_enter Try.func33, Try.ntmps33
    go_wp2_with fail
    refine (hrd _).mono ?_
    rintro e w1 ⟨rfl, rfl⟩
    clear hrd
    go_wp2_with fail
    have hD : DecSt w ((((w.alloc (.cells #[.string s] 9)).alloc (.cells #[.int .i64 0] 49)).alloc (.cells #[.int .i64 (a : Int)] 3)).alloc (.cells #[.int .i64 0, .int .i64 0, .int .u64 0, .int .u64 0, .int .u64 0, .int .u64 0] 62))
        (w.heap.size + 1) w.heap.size (w.heap.size + 1 + 1) (w.heap.size + 1 + 1 + 1) s a win0 (.slice none 0 0) 0 (dwin (bl s) a) := by
      have k1 := Blk.new w 9 #[.string s]
      have k2 := Blk.new (w.alloc (.cells #[.string s] 9)) 49 #[.int .i64 0]
      have k3 := Blk.new ((w.alloc (.cells #[.string s] 9)).alloc (.cells #[.int .i64 0] 49)) 3 #[.int .i64 (a : Int)]
      have k4 := Blk.new (((w.alloc (.cells #[.string s] 9)).alloc (.cells #[.int .i64 0] 49)).alloc (.cells #[.int .i64 (a : Int)] 3)) 62 #[.int .i64 0, .int .i64 0, .int .u64 0, .int .u64 0, .int .u64 0, .int .u64 0]
      simp only [World.size_alloc] at k2 k3 k4
      exact ⟨⟨(k2.alloc _).alloc _, ((k1.alloc _).alloc _).alloc _, k3.alloc _⟩, k4, WRow.nil _ _ _, by omega, Nat.le_refl _, by omega, by omega, by simp [Value.ownBlock], Fresh.nil _, ((((Frm.refl _ _).alloc _).alloc _).alloc _).alloc _⟩
    generalize ((((w.alloc (.cells #[.string s] 9)).alloc (.cells #[.int .i64 0] 49)).alloc (.cells #[.int .i64 (a : Int)] 3)).alloc (.cells #[.int .i64 0, .int .i64 0, .int .u64 0, .int .u64 0, .int .u64 0, .int .u64 0] 62)) = W4 at hD ⊢
    generalize w.heap.size + 1 + 1 + 1 = bh at hD ⊢
    generalize w.heap.size + 1 + 1 = ba at hD ⊢
    generalize w.heap.size + 1 = be at hD ⊢
    generalize w.heap.size = bs at hD ⊢
    go_loopw [2, 8] (fun v i wr => ∃ k : Nat, k ≤ n ∧ i = .int .u64 (k : Int) ∧ Hid ((dst (bl s) a k).er = 0) ∧ DecSt w wr be bs ba bh s (dst (bl s) a k).at_ (dst (bl s) a k).y v k (dwin (bl s) a)) (fun _ i _ => n - (intOf i).toNat)
    case atStart => exact ⟨0, by omega, rfl, hide rfl, hD⟩
    case round =>
      obtain ⟨k, hk, rfl, her, hS⟩ := hrel
      obtain ⟨A1, c1, rfl⟩ := hS.row.shape
      by_cases hlt : k < n
      · have hst : dst (bl s) a (k + 1) = ⟨(num (bl s) (dst (bl s) a k).at_ 5).2.1, mkW (dst (bl s) a k).y (bl s) (dst (bl s) a k).at_, erW (dst (bl s) a k).y (bl s) (dst (bl s) a k).at_ (decide (k = 0))⟩ := by rw [dst, if_pos her.out]
        have Hst := hide hst
        have hyo := dst_y her.out
        have hfirst : ((k : Int) == 0) = decide (k = 0) := by by_cases h : k = 0 <;> simp [h]
        have Hfirst := hide hfirst
        clear hfirst
        clear hst her
        generalize (dst (bl s) a k).at_ = ak at hS Hst
        generalize (dst (bl s) a k).y = y at hS Hst hyo
        have l0 := hS.box.cell 0
        have l1 := hS.box.cell 1
        have l2 := hS.box.cell 2
        have l3 := hS.box.cell 3
        have l4 := hS.box.cell 4
        have l5 := hS.box.cell 5
        have hX := Blk.new wr 62 y.arr
        have hSX := Frm.alloc (Frm.refl [] wr) (.cells y.arr 62)
        have hxh : wr.heap.size ≠ bh := Nat.ne_of_gt hS.box.lt
        have hxv : (Value.slice A1 k c1).ownBlock ≠ some wr.heap.size := fun e => absurd (hS.row.lt e) (Nat.lt_irrefl _)
        obtain ⟨st2, ct2, sm2, mn2, mx2, la2⟩ := y
        simp only [Win.arr] at l0 l1 l2 l3 l4 l5 hX hSX
        go_wp2_with fail
        -- THE ROUND
        have hN := hS.nst.quiet hSX
        have hB := hS.box.frm hSX (by simp)
        have hR := hS.row.quiet hSX
        have hF := hS.frm.trans hSX (by simp)
        have hx0 : w.heap.size ≤ wr.heap.size := hS.frm.size
        clear l0 l1 l2 l3 l4 l5 hSX
        generalize wr.alloc (.cells #[.int .i64 st2, .int .i64 ct2, .int .u64 (sm2 : Int), .int .u64 (mn2 : Int), .int .u64 (mx2 : Int), .int .u64 (la2 : Int)] 62) = wa at hN hB hR hF hX ⊢
        generalize wr.heap.size = xw at hX hxh hxv hx0 ⊢
        refine (clos_first hs _ hN).mono ?_
        rintro e w5 ⟨rfl, hN5, hf5⟩
        have nb := hN.ne_h hB
        have nx := hN.ne_h hX
        have nr := hN.ne_row hR
        have q5 : ∀ x ∈ [ba, be], x ∈ ([] : List Nat) ∨ w.heap.size ≤ x := by
          intro x hx
          simp only [List.mem_cons, List.not_mem_nil, or_false] at hx
          rcases hx with rfl | rfl
          · exact .inr hS.a0
          · exact .inr hS.e0
        have nbl : bh ∉ [ba, be] := by simp only [List.mem_cons, List.not_mem_nil, or_false]; rintro (h | h); exact nb.2.2 h.symm; exact nb.1 h.symm
        have nxl : xw ∉ [ba, be] := by simp only [List.mem_cons, List.not_mem_nil, or_false]; rintro (h | h); exact nx.2.2 h.symm; exact nx.1 h.symm
        have nrl : ∀ x, (Value.slice A1 k c1).ownBlock = some x → x ∉ [ba, be] := by
          intro x hx
          simp only [List.mem_cons, List.not_mem_nil, or_false]
          rintro (h | h)
          · exact nr.2.2 (h ▸ hx)
          · exact nr.1 (h ▸ hx)
        have hB5 := hB.frm hf5 nbl
        have hX5 := hX.frm hf5 nxl
        have hR5 := hR.frm hf5 nrl
        have hF5 := hF.trans hf5 q5
        go_wp2_with fail
        refine (clos_num hs 0 _ hN5).mono ?_
        rintro e w6 ⟨rfl, hN6, hf6⟩
        have hB6 := hB5.frm hf6 nbl
        have hX6 := hX5.frm hf6 nxl
        have hR6 := hR5.frm hf6 nrl
        have hF6 := hF5.trans hf6 q5
        go_wp2_with fail
        refine (fields_any xw ⟨st2, ct2, sm2, mn2, mx2, la2⟩ w6 hX6).mono ?_
        rintro e w7 ⟨rfl, hf7⟩
        have hI : InSt w w7 be bs ba bh xw s ak 0 ⟨st2, ct2, sm2, mn2, mx2, la2⟩ (.slice A1 k c1) k (dwin (bl s) a) :=
          ⟨hN6.quiet hf7, by simpa [part, Win.arr] using hX6.frm hf7 (by simp), hB6.frm hf7 (by simp), hR6.quiet hf7, hS.e0, hS.s0, hS.a0, hS.h0, hx0, hS.ne, hxv, hxh, hS.fv, hF6.trans hf7 (by simp)⟩
        have hne1 := hS.ne
        clear hN5 hN6 hB5 hB6 hX5 hX6 hR5 hR6 hF5 hF6 hB hX hR hF hN hf5 hf6 hf7 hS
        go_wp2_with fail
        go_loopw [36] (fun q wq => ∃ j : Nat, j ≤ 4 ∧ q = .int .i64 (j : Int) ∧ InSt w wq be bs ba bh xw s ak j ⟨st2, ct2, sm2, mn2, mx2, la2⟩ (.slice A1 k c1) k (dwin (bl s) a)) (fun q _ => 4 - (intOf q).toNat)
        case atStart => exact ⟨0, by omega, rfl, hI⟩
        case round =>
          obtain ⟨j, hj, rfl, hJ⟩ := hrel
          by_cases hj4 : j < 4
          · obtain ⟨q, hq⟩ : ∃ q : Int, (j : Int) = q := ⟨_, rfl⟩
            rw [hq]
            obtain rfl | rfl | rfl | rfl : j = 0 ∨ j = 1 ∨ j = 2 ∨ j = 3 := by omega
            · have m2 : wr.cell? ⟨xw, 2, none⟩ = some (.int .u64 (sm2 : Int)) := hJ.win.cell 2
              have fz := hJ.win.frozen 2
              obtain rfl : q = 0 := by omega
              have hix := index_four Try.underlying81 Try.underlying80 (by kernel_rfl) (.pointer (some ⟨xw, 2, none⟩)) (.pointer (some ⟨xw, 3, none⟩)) (.pointer (some ⟨xw, 4, none⟩)) (.pointer (some ⟨xw, 5, none⟩)) 0 (by decide) 0 rfl (P := Try.prog)
              simp only [List.getD_cons_zero, List.getD_cons_succ] at hix
              go_wp2_with fail
              go_region_with (first | (go_at_call 47; refine (clos_num hs 1 _ (hJ.nst.quiet ((Frm.refl [] _).drew))).mono ?_; rintro e wu ⟨rfl, hNu, hfu⟩; have hXu := (hJ.win.drew).frm hfu nxl; have mu : wu.cell? ⟨xw, 2, none⟩ = some (.int .u64 (sm2 : Int)) := hXu.cell 2; have fu := hXu.frozen 2))
              all_goals go_wp2_with fail
              all_goals exact ⟨⟨1, by decide, rfl, hJ.step hNu (((Frm.refl [ba, be] _).drew).trans hfu (fun x hx => .inl hx)) _ (by simp [part, Win.arr, u64_xor_nat sm2 (num (bl s) ak 2).1 hyo.1.sm num_lt])⟩, by simp [intOf]⟩
            · have m2 : wr.cell? ⟨xw, 3, none⟩ = some (.int .u64 (mn2 : Int)) := hJ.win.cell 3
              have fz := hJ.win.frozen 3
              obtain rfl : q = 1 := by omega
              have hix := index_four Try.underlying81 Try.underlying80 (by kernel_rfl) (.pointer (some ⟨xw, 2, none⟩)) (.pointer (some ⟨xw, 3, none⟩)) (.pointer (some ⟨xw, 4, none⟩)) (.pointer (some ⟨xw, 5, none⟩)) 1 (by decide) 1 rfl (P := Try.prog)
              simp only [List.getD_cons_zero, List.getD_cons_succ] at hix
              go_wp2_with fail
              go_region_with (first | (go_at_call 47; refine (clos_num hs 2 _ (hJ.nst.quiet ((Frm.refl [] _).drew))).mono ?_; rintro e wu ⟨rfl, hNu, hfu⟩; have hXu := (hJ.win.drew).frm hfu nxl; have mu : wu.cell? ⟨xw, 3, none⟩ = some (.int .u64 (mn2 : Int)) := hXu.cell 3; have fu := hXu.frozen 3))
              all_goals go_wp2_with fail
              all_goals exact ⟨⟨2, by decide, rfl, hJ.step hNu (((Frm.refl [ba, be] _).drew).trans hfu (fun x hx => .inl hx)) _ (by simp [part, Win.arr, u64_xor_nat mn2 (num (bl s) ak 3).1 hyo.1.mn num_lt])⟩, by simp [intOf]⟩
            · have m2 : wr.cell? ⟨xw, 4, none⟩ = some (.int .u64 (mx2 : Int)) := hJ.win.cell 4
              have fz := hJ.win.frozen 4
              obtain rfl : q = 2 := by omega
              have hix := index_four Try.underlying81 Try.underlying80 (by kernel_rfl) (.pointer (some ⟨xw, 2, none⟩)) (.pointer (some ⟨xw, 3, none⟩)) (.pointer (some ⟨xw, 4, none⟩)) (.pointer (some ⟨xw, 5, none⟩)) 2 (by decide) 2 rfl (P := Try.prog)
              simp only [List.getD_cons_zero, List.getD_cons_succ] at hix
              go_wp2_with fail
              go_region_with (first | (go_at_call 47; refine (clos_num hs 3 _ (hJ.nst.quiet ((Frm.refl [] _).drew))).mono ?_; rintro e wu ⟨rfl, hNu, hfu⟩; have hXu := (hJ.win.drew).frm hfu nxl; have mu : wu.cell? ⟨xw, 4, none⟩ = some (.int .u64 (mx2 : Int)) := hXu.cell 4; have fu := hXu.frozen 4))
              all_goals go_wp2_with fail
              all_goals exact ⟨⟨3, by decide, rfl, hJ.step hNu (((Frm.refl [ba, be] _).drew).trans hfu (fun x hx => .inl hx)) _ (by simp [part, Win.arr, u64_xor_nat mx2 (num (bl s) ak 4).1 hyo.1.mx num_lt])⟩, by simp [intOf]⟩
            · have m2 : wr.cell? ⟨xw, 5, none⟩ = some (.int .u64 (la2 : Int)) := hJ.win.cell 5
              have fz := hJ.win.frozen 5
              obtain rfl : q = 3 := by omega
              have hix := index_four Try.underlying81 Try.underlying80 (by kernel_rfl) (.pointer (some ⟨xw, 2, none⟩)) (.pointer (some ⟨xw, 3, none⟩)) (.pointer (some ⟨xw, 4, none⟩)) (.pointer (some ⟨xw, 5, none⟩)) 3 (by decide) 3 rfl (P := Try.prog)
              simp only [List.getD_cons_zero, List.getD_cons_succ] at hix
              go_wp2_with fail
              go_region_with (first | (go_at_call 47; refine (clos_num hs 4 _ (hJ.nst.quiet ((Frm.refl [] _).drew))).mono ?_; rintro e wu ⟨rfl, hNu, hfu⟩; have hXu := (hJ.win.drew).frm hfu nxl; have mu : wu.cell? ⟨xw, 5, none⟩ = some (.int .u64 (la2 : Int)) := hXu.cell 5; have fu := hXu.frozen 5))
              all_goals go_wp2_with fail
              all_goals exact ⟨⟨4, by decide, rfl, hJ.step hNu (((Frm.refl [ba, be] _).drew).trans hfu (fun x hx => .inl hx)) _ (by simp [part, Win.arr, u64_xor_nat la2 (num (bl s) ak 5).1 hyo.1.la num_lt])⟩, by simp [intOf]⟩
          · obtain rfl : j = 4 := by omega
            have her5 : (num (bl s) ak 5).2.2 ≠ 0 → (dst (bl s) a (k + 1)).er = ((num (bl s) ak 5).2.2 : Nat) := fun h => by rw [Hst.out]; simp only [erW]; rw [if_pos h]
            have her1 : (num (bl s) ak 5).2.2 = 0 → 1125899906842624 < (num (bl s) ak 0).1 → (dst (bl s) a (k + 1)).er = 91 := fun h h2 => by rw [Hst.out]; simp only [erW]; rw [if_neg (by simpa using h), if_pos h2]
            have her2 : (num (bl s) ak 5).2.2 = 0 → ¬ 1125899906842624 < (num (bl s) ak 0).1 → (dst (bl s) a (k + 1)).er = winFault ⟨st2 + ((num (bl s) ak 0).1 : Nat), (min (num (bl s) ak 1).1 4611686018427387905 : Nat), sm2 ^^^ (num (bl s) ak 2).1, mn2 ^^^ (num (bl s) ak 3).1, mx2 ^^^ (num (bl s) ak 4).1, la2 ^^^ (num (bl s) ak 5).1⟩ ⟨st2, ct2, sm2, mn2, mx2, la2⟩ (decide (k = 0)) := fun h h2 => by rw [Hst.out]; simp only [erW]; rw [if_neg (by simpa using h), if_neg h2]; rfl
            have hfin : ∀ x, (dst (bl s) a (k + 1)).er = x → x ≠ 0 → derr (bl s) = x := fun x hx h0 => by rw [derr_stop Hr.out hlt (by rw [hx]; exact h0), hx]
            have ce : wr.cell? ⟨be, 0, none⟩ = some (.int .i64 (((num (bl s) ak 5).2.2 : Nat) : Int)) := hJ.nst.eB.cell 0
            have cf := hJ.nst.eB.frozen 0
            have Hfin := hide hfin
            have hdn : (dst (bl s) a (k + 1)).at_ = (num (bl s) ak 5).2.1 ∧ (dst (bl s) a (k + 1)).y = ⟨st2 + ((num (bl s) ak 0).1 : Nat), (min (num (bl s) ak 1).1 4611686018427387905 : Nat), sm2 ^^^ (num (bl s) ak 2).1, mn2 ^^^ (num (bl s) ak 3).1, mx2 ^^^ (num (bl s) ak 4).1, la2 ^^^ (num (bl s) ak 5).1⟩ := by rw [Hst.out]; exact ⟨rfl, rfl⟩
            have Hdn := hide hdn
            have hb0 : (num (bl s) ak 0).1 < 18446744073709551616 := num_lt
            have hb1 : (num (bl s) ak 1).1 < 18446744073709551616 := num_lt
            clear hfin hdn Hst
            by_cases he5 : (num (bl s) ak 5).2.2 = 0
            · rw [he5] at ce
              by_cases hfar : 1125899906842624 < (num (bl s) ak 0).1
              · have He := hide (her1 he5 hfar)
                clear her5 her1 her2
                go_wp2_with fail
                refine bodyPost_ret (v := .tuple #[.slice none 0 0, .int .i64 91]) (by simp [results, Try.results33, go_sem, ce, cf]) rfl ?_
                exact tellD_fault rfl (Hfin.out _ He.out (by decide)) (by decide) (hJ.frm.setCell (p := ⟨be, 0, none⟩) (.inr hJ.e0) _)
              · have he := her2 he5 hfar
                obtain ⟨hyk, hy1, hy2⟩ := hyo
                have l0 : wr.cell? ⟨xw, 0, none⟩ = some (.int .i64 st2) := hJ.win.cell 0
                have l1 : wr.cell? ⟨xw, 1, none⟩ = some (.int .i64 ct2) := hJ.win.cell 1
                have l2 : wr.cell? ⟨xw, 2, none⟩ = some (.int .u64 ((sm2 ^^^ (num (bl s) ak 2).1 : Nat) : Int)) := hJ.win.cell 2
                have l3 : wr.cell? ⟨xw, 3, none⟩ = some (.int .u64 ((mn2 ^^^ (num (bl s) ak 3).1 : Nat) : Int)) := hJ.win.cell 3
                have l4 : wr.cell? ⟨xw, 4, none⟩ = some (.int .u64 ((mx2 ^^^ (num (bl s) ak 4).1 : Nat) : Int)) := hJ.win.cell 4
                have l5 : wr.cell? ⟨xw, 5, none⟩ = some (.int .u64 ((la2 ^^^ (num (bl s) ak 5).1 : Nat) : Int)) := hJ.win.cell 5
                have d0 : wr.cell? ⟨bh, 0, none⟩ = some (.int .i64 st2) := hJ.box.cell 0
                have d1 : wr.cell? ⟨bh, 1, none⟩ = some (.int .i64 ct2) := hJ.box.cell 1
                have d2 : wr.cell? ⟨bh, 2, none⟩ = some (.int .u64 (sm2 : Int)) := hJ.box.cell 2
                have d3 : wr.cell? ⟨bh, 3, none⟩ = some (.int .u64 (mn2 : Int)) := hJ.box.cell 3
                have d4 : wr.cell? ⟨bh, 4, none⟩ = some (.int .u64 (mx2 : Int)) := hJ.box.cell 4
                have d5 : wr.cell? ⟨bh, 5, none⟩ = some (.int .u64 (la2 : Int)) := hJ.box.cell 5
                have fz0 := hJ.win.frozen 0
                have fz1 := hJ.win.frozen 1
                clear her5 her1 her2
                by_cases hmn : (num (bl s) ak 1).1 ≤ 4611686018427387905
                · have hm : (min (num (bl s) ak 1).1 4611686018427387905 : Nat) = (num (bl s) ak 1).1 := by omega
                  have hdn := Hdn.out
                  rw [hm] at he hdn
                  clear Hdn
                  have Hdn := hide hdn
                  clear hdn
                  generalize hwf : winFault ⟨st2 + ((num (bl s) ak 0).1 : Nat), ((num (bl s) ak 1).1 : Nat), sm2 ^^^ (num (bl s) ak 2).1, mn2 ^^^ (num (bl s) ak 3).1, mx2 ^^^ (num (bl s) ak 4).1, la2 ^^^ (num (bl s) ak 5).1⟩ ⟨st2, ct2, sm2, mn2, mx2, la2⟩ (decide (k = 0)) = er at he
                  have He := hide he
                  have Hwf := hide hwf
                  clear he hwf hm
                  go_wp2_with fail
                  rw [Hfirst.out]
                  have hfo := fun W => follows_any ⟨st2 + ((num (bl s) ak 0).1 : Nat), ((num (bl s) ak 1).1 : Nat), sm2 ^^^ (num (bl s) ak 2).1, mn2 ^^^ (num (bl s) ak 3).1, mx2 ^^^ (num (bl s) ak 4).1, la2 ^^^ (num (bl s) ak 5).1⟩ ⟨st2, ct2, sm2, mn2, mx2, la2⟩ (decide (k = 0)) W
                  rw [Hwf.out] at hfo
                  simp only [Win.arr] at hfo
                  refine (hfo _).mono ?_
                  rintro e w8 ⟨rfl, hf8⟩
                  clear hfo l0 l1 l2 l3 l4 l5 d0 d1 d2 d3 d4 d5 fz0 fz1 ce cf
                  have nxq := hJ.nst.ne_h hJ.win
                  have N8 : NumSt w8 be bs ba s (num (bl s) ak 5).2.1 (num (bl s) ak 5).2.2 := NumSt.quiet ⟨(hJ.nst.eB.far (p := ⟨xw, 0, none⟩) nxq.1 _).far (p := ⟨xw, 1, none⟩) nxq.1 _, (hJ.nst.sB.far (p := ⟨xw, 0, none⟩) nxq.2.1 _).far (p := ⟨xw, 1, none⟩) nxq.2.1 _, (hJ.nst.aB.far (p := ⟨xw, 0, none⟩) nxq.2.2 _).far (p := ⟨xw, 1, none⟩) nxq.2.2 _⟩ hf8
                  rw [he5] at N8
                  have X8 : Blk w8 xw 62 (Win.arr ⟨st2 + ((num (bl s) ak 0).1 : Nat), ((num (bl s) ak 1).1 : Nat), sm2 ^^^ (num (bl s) ak 2).1, mn2 ^^^ (num (bl s) ak 3).1, mx2 ^^^ (num (bl s) ak 4).1, la2 ^^^ (num (bl s) ak 5).1⟩) := by
                    have h := ((hJ.win.set_ 0 (.int .i64 (st2 + ((num (bl s) ak 0).1 : Nat)))).set_ 1 (.int .i64 (((num (bl s) ak 1).1 : Nat)))).frm hf8 (by simp)
                    simpa [part, Win.arr] using h
                  have B8 := ((hJ.box.far (p := ⟨xw, 0, none⟩) (Ne.symm hJ.xh) (.int .i64 (st2 + ((num (bl s) ak 0).1 : Nat)))).far (p := ⟨xw, 1, none⟩) (Ne.symm hJ.xh) (.int .i64 (((num (bl s) ak 1).1 : Nat)))).frm hf8 (by simp)
                  have R8 : WRow w8 62 (.slice A1 k c1) k (dwin (bl s) a) := WRow.quiet (ownsRow_setCell_other (ownsRow_setCell_other hJ.row (a := ⟨xw, 0, none⟩) hJ.nx _) (a := ⟨xw, 1, none⟩) hJ.nx _) hf8
                  have F8 : Frm [] w w8 := ((hJ.frm.setCell (p := ⟨xw, 0, none⟩) (.inr hJ.x0) _).setCell (p := ⟨xw, 1, none⟩) (.inr hJ.x0) _).trans hf8 (by simp)
                  by_cases h0 : er = 0
                  · subst h0
                    have hFk : dwin (bl s) a k = ⟨st2 + ((num (bl s) ak 0).1 : Nat), ((num (bl s) ak 1).1 : Nat), sm2 ^^^ (num (bl s) ak 2).1, mn2 ^^^ (num (bl s) ak 3).1, mx2 ^^^ (num (bl s) ak 4).1, la2 ^^^ (num (bl s) ak 5).1⟩ := Hdn.out.2
                    obtain ⟨v9, w9, hr9, R9, hf9, hg9⟩ := append_win (ty := 48) Try.underlying48 wininfo w8 R8 _ hFk (HM.out (k + 1) (by omega) He.out)
                    simp only [Win.arr] at hr9
                    have Hr9 := hide hr9
                    have HFk := hide hFk
                    clear hr9 hFk
                    have nrq := N8.ne_row R8
                    have nbv : bh ∉ (Value.slice A1 k c1).ownBlock.toList := not_row hJ.ne
                    have nxv : xw ∉ (Value.slice A1 k c1).ownBlock.toList := not_row hJ.nx
                    have N9 := N8.away hf9 (not_row nrq.1) (not_row nrq.2.1) (not_row nrq.2.2)
                    have X9 := X8.frm hf9 nxv
                    have B9 := B8.frm hf9 nbv
                    have a0 : w8.cell? ⟨xw, 0, none⟩ = some (.int .i64 (st2 + ((num (bl s) ak 0).1 : Nat))) := X8.cell 0
                    have a1 : w8.cell? ⟨xw, 1, none⟩ = some (.int .i64 (((num (bl s) ak 1).1 : Nat))) := X8.cell 1
                    have a2 : w8.cell? ⟨xw, 2, none⟩ = some (.int .u64 ((sm2 ^^^ (num (bl s) ak 2).1 : Nat) : Int)) := X8.cell 2
                    have a3 : w8.cell? ⟨xw, 3, none⟩ = some (.int .u64 ((mn2 ^^^ (num (bl s) ak 3).1 : Nat) : Int)) := X8.cell 3
                    have a4 : w8.cell? ⟨xw, 4, none⟩ = some (.int .u64 ((mx2 ^^^ (num (bl s) ak 4).1 : Nat) : Int)) := X8.cell 4
                    have a5 : w8.cell? ⟨xw, 5, none⟩ = some (.int .u64 ((la2 ^^^ (num (bl s) ak 5).1 : Nat) : Int)) := X8.cell 5
                    have b0 : w9.cell? ⟨xw, 0, none⟩ = some (.int .i64 (st2 + ((num (bl s) ak 0).1 : Nat))) := X9.cell 0
                    have b1 : w9.cell? ⟨xw, 1, none⟩ = some (.int .i64 (((num (bl s) ak 1).1 : Nat))) := X9.cell 1
                    have b2 : w9.cell? ⟨xw, 2, none⟩ = some (.int .u64 ((sm2 ^^^ (num (bl s) ak 2).1 : Nat) : Int)) := X9.cell 2
                    have b3 : w9.cell? ⟨xw, 3, none⟩ = some (.int .u64 ((mn2 ^^^ (num (bl s) ak 3).1 : Nat) : Int)) := X9.cell 3
                    have b4 : w9.cell? ⟨xw, 4, none⟩ = some (.int .u64 ((mx2 ^^^ (num (bl s) ak 4).1 : Nat) : Int)) := X9.cell 4
                    have b5 : w9.cell? ⟨xw, 5, none⟩ = some (.int .u64 ((la2 ^^^ (num (bl s) ak 5).1 : Nat) : Int)) := X9.cell 5
                    have g0 := B9.frozen 0
                    have g1 := B9.frozen 1
                    have g2 := B9.frozen 2
                    have g3 := B9.frozen 3
                    have g4 := B9.frozen 4
                    have g5 := B9.frozen 5
                    have t0 : w9.cell? ⟨bh, 0, none⟩ = some (.int .i64 st2) := B9.cell 0
                    have t1 : w9.cell? ⟨bh, 1, none⟩ = some (.int .i64 ct2) := B9.cell 1
                    have t2 : w9.cell? ⟨bh, 2, none⟩ = some (.int .u64 (sm2 : Int)) := B9.cell 2
                    have t3 : w9.cell? ⟨bh, 3, none⟩ = some (.int .u64 (mn2 : Int)) := B9.cell 3
                    have t4 : w9.cell? ⟨bh, 4, none⟩ = some (.int .u64 (mx2 : Int)) := B9.cell 4
                    have t5 : w9.cell? ⟨bh, 5, none⟩ = some (.int .u64 (la2 : Int)) := B9.cell 5
                    have nv9 : v9.ownBlock ≠ some bh := by
                      rcases hg9 with h | ⟨q, h, hq⟩
                      · rw [h]; exact hJ.ne
                      · rw [h]
                        intro e
                        have := B8.lt
                        have : q = bh := by simpa using e
                        omega
                    go_wp2_with (at_builtin; refine wp_append_known rfl (.tmp 70) (.tmp 72) 48 48 rfl rfl rfl Hr9.out ?_)
                    refine ⟨⟨k + 1, by omega, by go_num, hide He.out, ?_⟩, by simp [intOf]; omega⟩
                    rw [Hdn.out.1, Hdn.out.2]
                    have nbq := N9.ne_h B9
                    have q0 := hJ.e0
                    refine ⟨⟨?_, ?_, ?_⟩, B9.store6 (x := ⟨st2 + ((num (bl s) ak 0).1 : Nat), ((num (bl s) ak 1).1 : Nat), sm2 ^^^ (num (bl s) ak 2).1, mn2 ^^^ (num (bl s) ak 3).1, mx2 ^^^ (num (bl s) ak 4).1, la2 ^^^ (num (bl s) ak 5).1⟩), ?_, hJ.e0, hJ.s0, hJ.a0, hJ.h0, nv9, hJ.fv.grew hg9 F8.size, ?_⟩
                    · exact (((((N9.eB.far (p := ⟨bh, 0, none⟩) nbq.1 _).far (p := ⟨bh, 1, none⟩) nbq.1 _).far (p := ⟨bh, 2, none⟩) nbq.1 _).far (p := ⟨bh, 3, none⟩) nbq.1 _).far (p := ⟨bh, 4, none⟩) nbq.1 _).far (p := ⟨bh, 5, none⟩) nbq.1 _
                    · exact (((((N9.sB.far (p := ⟨bh, 0, none⟩) nbq.2.1 _).far (p := ⟨bh, 1, none⟩) nbq.2.1 _).far (p := ⟨bh, 2, none⟩) nbq.2.1 _).far (p := ⟨bh, 3, none⟩) nbq.2.1 _).far (p := ⟨bh, 4, none⟩) nbq.2.1 _).far (p := ⟨bh, 5, none⟩) nbq.2.1 _
                    · exact (((((N9.aB.far (p := ⟨bh, 0, none⟩) nbq.2.2 _).far (p := ⟨bh, 1, none⟩) nbq.2.2 _).far (p := ⟨bh, 2, none⟩) nbq.2.2 _).far (p := ⟨bh, 3, none⟩) nbq.2.2 _).far (p := ⟨bh, 4, none⟩) nbq.2.2 _).far (p := ⟨bh, 5, none⟩) nbq.2.2 _
                    · exact WRow.set6 R9 nv9 _ _ _ _ _ _
                    · exact (F8.trans hf9 hJ.fv.row).store6 (.inr hJ.h0) _ _ _ _ _ _
                  · have e0 : w8.cell? ⟨be, 0, none⟩ = some (.int .i64 0) := N8.eB.cell 0
                    have e1 := N8.eB.frozen 0
                    have hne0 : (er != 0) = true := by rw [bne_iff_ne]; exact h0
                    go_wp2_with fail
                    refine bodyPost_ret (v := .tuple #[.slice none 0 0, .int .i64 er]) (by simp [results, Try.results33, go_sem, e0, e1]) rfl ?_
                    exact tellD_fault rfl (Hfin.out _ He.out h0) h0 (F8.setCell (p := ⟨be, 0, none⟩) (.inr hJ.e0) _)
                · have hm : (min (num (bl s) ak 1).1 4611686018427387905 : Nat) = 4611686018427387905 := by omega
                  have hdn := Hdn.out
                  rw [hm] at he hdn
                  clear Hdn
                  have Hdn := hide hdn
                  clear hdn
                  generalize hwf : winFault ⟨st2 + ((num (bl s) ak 0).1 : Nat), (4611686018427387905 : Nat), sm2 ^^^ (num (bl s) ak 2).1, mn2 ^^^ (num (bl s) ak 3).1, mx2 ^^^ (num (bl s) ak 4).1, la2 ^^^ (num (bl s) ak 5).1⟩ ⟨st2, ct2, sm2, mn2, mx2, la2⟩ (decide (k = 0)) = er at he
                  have He := hide he
                  have Hwf := hide hwf
                  clear he hwf hm
                  go_wp2_with fail
                  rw [Hfirst.out]
                  have hfo := fun W => follows_any ⟨st2 + ((num (bl s) ak 0).1 : Nat), (4611686018427387905 : Nat), sm2 ^^^ (num (bl s) ak 2).1, mn2 ^^^ (num (bl s) ak 3).1, mx2 ^^^ (num (bl s) ak 4).1, la2 ^^^ (num (bl s) ak 5).1⟩ ⟨st2, ct2, sm2, mn2, mx2, la2⟩ (decide (k = 0)) W
                  rw [Hwf.out] at hfo
                  simp only [Win.arr] at hfo
                  refine (hfo _).mono ?_
                  rintro e w8 ⟨rfl, hf8⟩
                  clear hfo l0 l1 l2 l3 l4 l5 d0 d1 d2 d3 d4 d5 fz0 fz1 ce cf
                  have nxq := hJ.nst.ne_h hJ.win
                  have N8 : NumSt w8 be bs ba s (num (bl s) ak 5).2.1 (num (bl s) ak 5).2.2 := NumSt.quiet ⟨(hJ.nst.eB.far (p := ⟨xw, 0, none⟩) nxq.1 _).far (p := ⟨xw, 1, none⟩) nxq.1 _, (hJ.nst.sB.far (p := ⟨xw, 0, none⟩) nxq.2.1 _).far (p := ⟨xw, 1, none⟩) nxq.2.1 _, (hJ.nst.aB.far (p := ⟨xw, 0, none⟩) nxq.2.2 _).far (p := ⟨xw, 1, none⟩) nxq.2.2 _⟩ hf8
                  rw [he5] at N8
                  have X8 : Blk w8 xw 62 (Win.arr ⟨st2 + ((num (bl s) ak 0).1 : Nat), (4611686018427387905 : Nat), sm2 ^^^ (num (bl s) ak 2).1, mn2 ^^^ (num (bl s) ak 3).1, mx2 ^^^ (num (bl s) ak 4).1, la2 ^^^ (num (bl s) ak 5).1⟩) := by
                    have h := ((hJ.win.set_ 0 (.int .i64 (st2 + ((num (bl s) ak 0).1 : Nat)))).set_ 1 (.int .i64 (4611686018427387905))).frm hf8 (by simp)
                    simpa [part, Win.arr] using h
                  have B8 := ((hJ.box.far (p := ⟨xw, 0, none⟩) (Ne.symm hJ.xh) (.int .i64 (st2 + ((num (bl s) ak 0).1 : Nat)))).far (p := ⟨xw, 1, none⟩) (Ne.symm hJ.xh) (.int .i64 (4611686018427387905))).frm hf8 (by simp)
                  have R8 : WRow w8 62 (.slice A1 k c1) k (dwin (bl s) a) := WRow.quiet (ownsRow_setCell_other (ownsRow_setCell_other hJ.row (a := ⟨xw, 0, none⟩) hJ.nx _) (a := ⟨xw, 1, none⟩) hJ.nx _) hf8
                  have F8 : Frm [] w w8 := ((hJ.frm.setCell (p := ⟨xw, 0, none⟩) (.inr hJ.x0) _).setCell (p := ⟨xw, 1, none⟩) (.inr hJ.x0) _).trans hf8 (by simp)
                  by_cases h0 : er = 0
                  · subst h0
                    have hFk : dwin (bl s) a k = ⟨st2 + ((num (bl s) ak 0).1 : Nat), (4611686018427387905 : Nat), sm2 ^^^ (num (bl s) ak 2).1, mn2 ^^^ (num (bl s) ak 3).1, mx2 ^^^ (num (bl s) ak 4).1, la2 ^^^ (num (bl s) ak 5).1⟩ := Hdn.out.2
                    obtain ⟨v9, w9, hr9, R9, hf9, hg9⟩ := append_win (ty := 48) Try.underlying48 wininfo w8 R8 _ hFk (HM.out (k + 1) (by omega) He.out)
                    simp only [Win.arr] at hr9
                    have Hr9 := hide hr9
                    have HFk := hide hFk
                    clear hr9 hFk
                    have nrq := N8.ne_row R8
                    have nbv : bh ∉ (Value.slice A1 k c1).ownBlock.toList := not_row hJ.ne
                    have nxv : xw ∉ (Value.slice A1 k c1).ownBlock.toList := not_row hJ.nx
                    have N9 := N8.away hf9 (not_row nrq.1) (not_row nrq.2.1) (not_row nrq.2.2)
                    have X9 := X8.frm hf9 nxv
                    have B9 := B8.frm hf9 nbv
                    have a0 : w8.cell? ⟨xw, 0, none⟩ = some (.int .i64 (st2 + ((num (bl s) ak 0).1 : Nat))) := X8.cell 0
                    have a1 : w8.cell? ⟨xw, 1, none⟩ = some (.int .i64 (4611686018427387905)) := X8.cell 1
                    have a2 : w8.cell? ⟨xw, 2, none⟩ = some (.int .u64 ((sm2 ^^^ (num (bl s) ak 2).1 : Nat) : Int)) := X8.cell 2
                    have a3 : w8.cell? ⟨xw, 3, none⟩ = some (.int .u64 ((mn2 ^^^ (num (bl s) ak 3).1 : Nat) : Int)) := X8.cell 3
                    have a4 : w8.cell? ⟨xw, 4, none⟩ = some (.int .u64 ((mx2 ^^^ (num (bl s) ak 4).1 : Nat) : Int)) := X8.cell 4
                    have a5 : w8.cell? ⟨xw, 5, none⟩ = some (.int .u64 ((la2 ^^^ (num (bl s) ak 5).1 : Nat) : Int)) := X8.cell 5
                    have b0 : w9.cell? ⟨xw, 0, none⟩ = some (.int .i64 (st2 + ((num (bl s) ak 0).1 : Nat))) := X9.cell 0
                    have b1 : w9.cell? ⟨xw, 1, none⟩ = some (.int .i64 (4611686018427387905)) := X9.cell 1
                    have b2 : w9.cell? ⟨xw, 2, none⟩ = some (.int .u64 ((sm2 ^^^ (num (bl s) ak 2).1 : Nat) : Int)) := X9.cell 2
                    have b3 : w9.cell? ⟨xw, 3, none⟩ = some (.int .u64 ((mn2 ^^^ (num (bl s) ak 3).1 : Nat) : Int)) := X9.cell 3
                    have b4 : w9.cell? ⟨xw, 4, none⟩ = some (.int .u64 ((mx2 ^^^ (num (bl s) ak 4).1 : Nat) : Int)) := X9.cell 4
                    have b5 : w9.cell? ⟨xw, 5, none⟩ = some (.int .u64 ((la2 ^^^ (num (bl s) ak 5).1 : Nat) : Int)) := X9.cell 5
                    have g0 := B9.frozen 0
                    have g1 := B9.frozen 1
                    have g2 := B9.frozen 2
                    have g3 := B9.frozen 3
                    have g4 := B9.frozen 4
                    have g5 := B9.frozen 5
                    have t0 : w9.cell? ⟨bh, 0, none⟩ = some (.int .i64 st2) := B9.cell 0
                    have t1 : w9.cell? ⟨bh, 1, none⟩ = some (.int .i64 ct2) := B9.cell 1
                    have t2 : w9.cell? ⟨bh, 2, none⟩ = some (.int .u64 (sm2 : Int)) := B9.cell 2
                    have t3 : w9.cell? ⟨bh, 3, none⟩ = some (.int .u64 (mn2 : Int)) := B9.cell 3
                    have t4 : w9.cell? ⟨bh, 4, none⟩ = some (.int .u64 (mx2 : Int)) := B9.cell 4
                    have t5 : w9.cell? ⟨bh, 5, none⟩ = some (.int .u64 (la2 : Int)) := B9.cell 5
                    have nv9 : v9.ownBlock ≠ some bh := by
                      rcases hg9 with h | ⟨q, h, hq⟩
                      · rw [h]; exact hJ.ne
                      · rw [h]
                        intro e
                        have := B8.lt
                        have : q = bh := by simpa using e
                        omega
                    go_wp2_with (at_builtin; refine wp_append_known rfl (.tmp 70) (.tmp 72) 48 48 rfl rfl rfl Hr9.out ?_)
                    refine ⟨⟨k + 1, by omega, by go_num, hide He.out, ?_⟩, by simp [intOf]; omega⟩
                    rw [Hdn.out.1, Hdn.out.2]
                    have nbq := N9.ne_h B9
                    have q0 := hJ.e0
                    refine ⟨⟨?_, ?_, ?_⟩, B9.store6 (x := ⟨st2 + ((num (bl s) ak 0).1 : Nat), (4611686018427387905 : Nat), sm2 ^^^ (num (bl s) ak 2).1, mn2 ^^^ (num (bl s) ak 3).1, mx2 ^^^ (num (bl s) ak 4).1, la2 ^^^ (num (bl s) ak 5).1⟩), ?_, hJ.e0, hJ.s0, hJ.a0, hJ.h0, nv9, hJ.fv.grew hg9 F8.size, ?_⟩
                    · exact (((((N9.eB.far (p := ⟨bh, 0, none⟩) nbq.1 _).far (p := ⟨bh, 1, none⟩) nbq.1 _).far (p := ⟨bh, 2, none⟩) nbq.1 _).far (p := ⟨bh, 3, none⟩) nbq.1 _).far (p := ⟨bh, 4, none⟩) nbq.1 _).far (p := ⟨bh, 5, none⟩) nbq.1 _
                    · exact (((((N9.sB.far (p := ⟨bh, 0, none⟩) nbq.2.1 _).far (p := ⟨bh, 1, none⟩) nbq.2.1 _).far (p := ⟨bh, 2, none⟩) nbq.2.1 _).far (p := ⟨bh, 3, none⟩) nbq.2.1 _).far (p := ⟨bh, 4, none⟩) nbq.2.1 _).far (p := ⟨bh, 5, none⟩) nbq.2.1 _
                    · exact (((((N9.aB.far (p := ⟨bh, 0, none⟩) nbq.2.2 _).far (p := ⟨bh, 1, none⟩) nbq.2.2 _).far (p := ⟨bh, 2, none⟩) nbq.2.2 _).far (p := ⟨bh, 3, none⟩) nbq.2.2 _).far (p := ⟨bh, 4, none⟩) nbq.2.2 _).far (p := ⟨bh, 5, none⟩) nbq.2.2 _
                    · exact WRow.set6 R9 nv9 _ _ _ _ _ _
                    · exact (F8.trans hf9 hJ.fv.row).store6 (.inr hJ.h0) _ _ _ _ _ _
                  · have e0 : w8.cell? ⟨be, 0, none⟩ = some (.int .i64 0) := N8.eB.cell 0
                    have e1 := N8.eB.frozen 0
                    have hne0 : (er != 0) = true := by rw [bne_iff_ne]; exact h0
                    go_wp2_with fail
                    refine bodyPost_ret (v := .tuple #[.slice none 0 0, .int .i64 er]) (by simp [results, Try.results33, go_sem, e0, e1]) rfl ?_
                    exact tellD_fault rfl (Hfin.out _ He.out h0) h0 (F8.setCell (p := ⟨be, 0, none⟩) (.inr hJ.e0) _)
            · have He := hide (her5 he5)
              clear her5 her1 her2
              have hz : ((((num (bl s) ak 5).2.2 : Nat) : Int) != 0) = true := by rw [bne_iff_ne]; omega
              go_wp2_with fail
              go_region
              all_goals go_wp2_with fail
              all_goals refine bodyPost_ret (v := .tuple #[.slice none 0 0, .int .i64 (((num (bl s) ak 5).2.2 : Nat) : Int)]) (by simp [results, Try.results33, go_sem, ce, cf]) rfl ?_
              all_goals exact tellD_fault rfl (Hfin.out _ He.out (by omega)) (by omega) (hJ.frm.drew.setCell (p := ⟨be, 0, none⟩) (.inr hJ.e0) _)
      · obtain rfl : k = n := by omega
        have hde := derr_end Hr.out her.out
        rw [bl_length] at hde
        have Hde := hide hde
        clear hde
        generalize hak : (dst (bl s) a k).at_ = ak at hS Hde
        have Hak := hide hak
        clear hak
        have e0 : wr.cell? ⟨be, 0, none⟩ = some (.int .i64 0) := hS.nst.eB.cell 0
        have e1 : wr.cell? ⟨bs, 0, none⟩ = some (.string s) := hS.nst.sB.cell 0
        have e2 : wr.cell? ⟨ba, 0, none⟩ = some (.int .i64 (ak : Int)) := hS.nst.aB.cell 0
        have f0 := hS.nst.eB.frozen 0
        by_cases hend : ak = s.size
        · have hd0 : derr (bl s) = 0 := by rw [Hde.out, if_neg (by simpa using hend)]
          have hz : ((ak : Int) != (s.size : Int)) = false := by rw [bne_eq_false_iff_eq]; omega
          have Hd0 := hide hd0
          clear hd0 hend
          go_wp2_with fail
          refine bodyPost_ret (v := .tuple #[.slice A1 k c1, .int .i64 0]) (by simp [results, Try.results33, go_sem, e0, f0]) rfl ?_
          refine ⟨.slice A1 k c1, by rw [Hd0.out], ?_, hS.fv, hS.frm.setCell (p := ⟨be, 0, none⟩) (.inr hS.e0) _⟩
          rw [if_pos Hd0.out, Hr.out]
          exact ownsRow_setCell_other hS.row (a := ⟨be, 0, none⟩) (hS.nst.ne_row hS.row).1 _
        · have hz : ((ak : Int) != (s.size : Int)) = true := by rw [bne_iff_ne]; omega
          have Hd0 := hide (show derr (bl s) = 21 by rw [Hde.out, if_pos (by simpa using hend)])
          clear hend
          go_wp2_with fail
          refine bodyPost_ret (v := .tuple #[.slice none 0 0, .int .i64 21]) (by simp [results, Try.results33, go_sem, e0, f0]) rfl ?_
          exact tellD_fault rfl Hd0.out (by decide) (hS.frm.setCell (p := ⟨be, 0, none⟩) (.inr hS.e0) _)
  · have hz : ((e : Int) != 0) = true := by rw [bne_iff_ne]; omega
    have Hd := hide (show derr (bl s) = (e : Int) by unfold derr; rw [hr]; simp only; rw [if_pos (by simpa using he)])
    clear hr hM hnx
    go_enter Try.func33, Try.ntmps33
    go_wp2_with fail
    refine (hrd _).mono ?_
    rintro e' w1 ⟨rfl, rfl⟩
    clear hrd
    go_wp2_with fail
    go_region
    all_goals go_wp2_with fail
    all_goals refine bodyPost_ret (v := .tuple #[.slice none 0 0, .int .i64 (e : Int)]) (by simp [results, Try.results33, go_sem]) rfl ?_
    all_goals exact tellD_fault rfl Hd.out (by omega) (((((Frm.refl _ _).alloc _).alloc _).alloc _).drew)

end Go.Proofs.Ytceidhjgdgnplaa
