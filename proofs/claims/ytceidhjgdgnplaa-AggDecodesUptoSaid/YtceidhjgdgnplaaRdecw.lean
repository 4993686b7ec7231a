/-
  The contract of the document's Decode of windows.
-/
import Derived.Test.YtceidhjgdgnplaaNumw
import Derived.Test.YtceidhjgdgnplaaWlaw
import Derived.Test.YtceidhjgdgnplaaRefe
import Derived.Deep.Cut
import Derived.Outline
namespace Go.Proofs.Ytceidhjgdgnplaa
set_option linter.unusedVariables false
set_option linter.unusedSimpArgs false
open Go.RowKit Go.BigFrame

/-- What Decode tells of bytes of which n windows from the place a on are to be read: a new row of windows, and the error. -/
structure RdSt (w wr : World) (r : Nat) (s : ByteArray) (a : Nat) (v : Value) (k : Nat) (F : Nat → Win) : Prop where
  rd : RdrAt wr r s a 0
  row : WRow wr 84 v k F
  r0 : w.heap.size ≤ r
  fv : Fresh w.heap.size v
  frm : Frm [] w wr

/-- What is known while a window is read in block xw: j + 1 of its numbers are. -/
structure MidSt (w wq : World) (r xw : Nat) (s : ByteArray) (a j : Nat) (X : Win) (v : Value) (k : Nat) (F : Nat → Win) : Prop where
  rd : RdrAt wq r s (num (bl s) a j).2.1 (num (bl s) a j).2.2
  win : Blk wq xw 84 X.arr
  row : WRow wq 84 v k F
  r0 : w.heap.size ≤ r
  x0 : w.heap.size ≤ xw
  nx : v.ownBlock ≠ some xw
  fv : Fresh w.heap.size v
  frm : Frm [] w wq

section
variable {w wq wu : World} {r xw a j k : Nat} {s : ByteArray} {X Y : Win} {v : Value} {F : Nat → Win}
theorem rnum_num (hs : s.size ≤ 4611686018427387904) (j : Nat) (W : World) (h : RdrAt W r s (num (bl s) a j).2.1 (num (bl s) a j).2.2) :
    Calls Try.prog 48 #[.pointer (some ⟨r, 0, none⟩)] W fun e' w' =>
      e' = .returned (.int .u64 ((num (bl s) a (j + 1)).1 : Nat)) ∧ RdrAt w' r s (num (bl s) a (j + 1)).2.1 (num (bl s) a (j + 1)).2.2 ∧ Frm [r] W w' :=
  rnum_any r s _ _ hs W h
theorem rnum_first (hs : s.size ≤ 4611686018427387904) (W : World) (h : RdrAt W r s a 0) :
    Calls Try.prog 48 #[.pointer (some ⟨r, 0, none⟩)] W fun e' w' =>
      e' = .returned (.int .u64 ((num (bl s) a 0).1 : Nat)) ∧ RdrAt w' r s (num (bl s) a 0).2.1 (num (bl s) a 0).2.2 ∧ Frm [r] W w' :=
  rnum_any r s a 0 hs W h

theorem RdrAt.ne_win {e : Nat} (h : RdrAt wq r s a e) {cs : Array Value} (hb : Blk wq xw 84 cs) : r ≠ xw := Blk.ne_ (t := 93) h hb (by decide)
theorem RdrAt.ne_row {e : Nat} (h : RdrAt wq r s a e) (hr : WRow wq 84 v k F) : v.ownBlock ≠ some r := own_blk_ne hr (t := 93) h (by decide)
theorem RdrAt.far {e : Nat} (h : RdrAt wq r s a e) {p : Addr} (hp : r ≠ p.block) (u : Value) : RdrAt (wq.setCell p u) r s a e := Blk.far (t := 93) h hp u

theorem RdrAt.far6 {e : Nat} (h : RdrAt wq r s a e) (hp : r ≠ xw) (u0 u1 u2 u3 u4 u5 : Value) :
    RdrAt ((((((wq.setCell ⟨xw, 0, none⟩ u0).setCell ⟨xw, 1, none⟩ u1).setCell ⟨xw, 2, none⟩ u2).setCell ⟨xw, 3, none⟩ u3).setCell ⟨xw, 4, none⟩ u4).setCell ⟨xw, 5, none⟩ u5) r s a e :=
  (((((h.far (p := ⟨xw, 0, none⟩) hp _).far (p := ⟨xw, 1, none⟩) hp _).far (p := ⟨xw, 2, none⟩) hp _).far (p := ⟨xw, 3, none⟩) hp _).far (p := ⟨xw, 4, none⟩) hp _).far (p := ⟨xw, 5, none⟩) hp _
theorem WRow.put6 {e : TypeId} {n : Nat} (h : WRow wq e v n F) (hb : v.ownBlock ≠ some xw) (u0 u1 u2 u3 u4 u5 : Value) :
    WRow ((((((wq.setCell ⟨xw, 0, none⟩ u0).setCell ⟨xw, 1, none⟩ u1).setCell ⟨xw, 2, none⟩ u2).setCell ⟨xw, 3, none⟩ u3).setCell ⟨xw, 4, none⟩ u4).setCell ⟨xw, 5, none⟩ u5) e v n F :=
  ownsRow_setCell_other (ownsRow_setCell_other (ownsRow_setCell_other (ownsRow_setCell_other (ownsRow_setCell_other (ownsRow_setCell_other h (a := ⟨xw, 0, none⟩) hb _) (a := ⟨xw, 1, none⟩) hb _) (a := ⟨xw, 2, none⟩) hb _) (a := ⟨xw, 3, none⟩) hb _) (a := ⟨xw, 4, none⟩) hb _) (a := ⟨xw, 5, none⟩) hb _

theorem single_r (h0 : w.heap.size ≤ r) : ∀ x ∈ [r], x ∈ ([] : List Nat) ∨ w.heap.size ≤ x := by
  intro x hx
  have : x = r := by simpa using hx
  exact .inr (this ▸ h0)

theorem MidSt.read (h : MidSt w wq r xw s a j X v k F) (hn : RdrAt wu r s (num (bl s) a (j + 1)).2.1 (num (bl s) a (j + 1)).2.2) (hf : Frm [r] wq wu) : MidSt w wu r xw s a (j + 1) X v k F := by
  have n1 := h.rd.ne_win h.win
  have n2 := h.rd.ne_row h.row
  exact ⟨hn, h.win.frm hf (by simpa using Ne.symm n1), h.row.frm hf (fun x hx => by
    simp only [List.mem_singleton]
    rintro rfl
    exact n2 hx), h.r0, h.x0, h.nx, h.fv, h.frm.trans hf (single_r h.r0)⟩
theorem MidSt.start {W : World} (h1 : RdrAt W r s a 0) (h2 : Blk W xw 84 X.arr) (h3 : WRow W 84 v k F) (r0 : w.heap.size ≤ r) (x0 : w.heap.size ≤ xw) (nx : v.ownBlock ≠ some xw) (fv : Fresh w.heap.size v) (hF : Frm [] w W)
    (hn : RdrAt wu r s (num (bl s) a 0).2.1 (num (bl s) a 0).2.2) (hf : Frm [r] W wu) : MidSt w wu r xw s a 0 X v k F := by
  have n1 := h1.ne_win h2
  have n2 := h1.ne_row h3
  exact ⟨hn, h2.frm hf (by simpa using Ne.symm n1), h3.frm hf (fun x hx => by
    simp only [List.mem_singleton]
    rintro rfl
    exact n2 hx), r0, x0, nx, fv, hF.trans hf (single_r r0)⟩
theorem MidSt.put (h : MidSt w wq r xw s a j X v k F) (i : Nat) (u : Value) (hu : X.arr.setIfInBounds i u = Y.arr) : MidSt w (wq.setCell ⟨xw, i, none⟩ u) r xw s a j Y v k F := by
  have n1 := h.rd.ne_win h.win
  have hw := h.win.set_ i u
  rw [hu] at hw
  exact ⟨h.rd.far (p := ⟨xw, i, none⟩) n1 u, hw, ownsRow_setCell_other h.row (a := ⟨xw, i, none⟩) h.nx u, h.r0, h.x0, h.nx, h.fv, h.frm.setCell (p := ⟨xw, i, none⟩) (.inr h.x0) u⟩
theorem MidSt.drewN (h : MidSt w wq r xw s a j X v k F) (q : Nat) : MidSt w (wq.drewN q) r xw s a j X v k F :=
  ⟨Blk.drewN (t := 93) h.rd q, h.win.drewN q, h.row.quiet ((Frm.refl _ _).drewN q), h.r0, h.x0, h.nx, h.fv, h.frm.drewN q⟩

theorem put0 (X : Win) (z : Int) : X.arr.setIfInBounds 0 (.int .i64 z) = Win.arr { X with st := z } := rfl
theorem put1 (X : Win) (z : Int) : X.arr.setIfInBounds 1 (.int .i64 z) = Win.arr { X with ct := z } := rfl
theorem put2 (X : Win) (x z : Nat) (hx : x < 18446744073709551616) (hz : z < 18446744073709551616) : X.arr.setIfInBounds 2 (.int .u64 (bits BinOp.xor IntKind.u64 (x : Int) (z : Int))) = Win.arr { X with sm := x ^^^ z } := by rw [u64_xor_nat x z hx hz]; rfl
theorem put3 (X : Win) (x z : Nat) (hx : x < 18446744073709551616) (hz : z < 18446744073709551616) : X.arr.setIfInBounds 3 (.int .u64 (bits BinOp.xor IntKind.u64 (x : Int) (z : Int))) = Win.arr { X with mn := x ^^^ z } := by rw [u64_xor_nat x z hx hz]; rfl
theorem put4 (X : Win) (x z : Nat) (hx : x < 18446744073709551616) (hz : z < 18446744073709551616) : X.arr.setIfInBounds 4 (.int .u64 (bits BinOp.xor IntKind.u64 (x : Int) (z : Int))) = Win.arr { X with mx := x ^^^ z } := by rw [u64_xor_nat x z hx hz]; rfl
theorem put5 (X : Win) (x z : Nat) (hx : x < 18446744073709551616) (hz : z < 18446744073709551616) : X.arr.setIfInBounds 5 (.int .u64 (bits BinOp.xor IntKind.u64 (x : Int) (z : Int))) = Win.arr { X with la := x ^^^ z } := by rw [u64_xor_nat x z hx hz]; rfl
end

/-- A count that is no window's may stand as 0: the fault is the same. -/
theorem winFault_ct (st : Int) (sm mn mx la : Nat) (n1 : Nat) (y : Win) (fi : Bool) (h : 4611686018427387904 < n1) :
    winFault ⟨st, 0, sm, mn, mx, la⟩ y fi = winFault ⟨st, (min n1 4611686018427387905 : Nat), sm, mn, mx, la⟩ y fi := by
  unfold winFault
  simp only
  split
  · rfl
  · split
    · rfl
    · rw [if_pos (by omega), if_pos (by omega)]
/-- The windows with another at the place k. -/
def putW (F : Nat → Win) (k : Nat) (X : Win) : Nat → Win := fun i => if i = k then X else F i
theorem putW_at (F : Nat → Win) (k : Nat) (X : Win) : putW F k X k = X := by simp [putW]
theorem putW_low (F : Nat → Win) (k : Nat) (X : Win) (i : Nat) (h : i < k) : putW F k X i = F i := by
  unfold putW; rw [if_neg (by omega)]
theorem ahd_putW (F : Nat → Win) (k : Nat) (X : Win) : ahd (putW F k X) k = ahd F k := by
  cases k with
  | zero => rfl
  | succ k => exact putW_low F (k + 1) X k (by omega)

def lenV : Value → Nat
  | .slice _ n _ => n
  | _ => 0

/-- What Decode tells: a new row of windows, and the error. -/
def tellR (s : ByteArray) (w : World) (r : Ending) (w' : World) : Prop :=
  ∃ v, r = .returned (.tuple #[v, .int .i64 (derr (bl s))]) ∧ WRow w' 84 v (if derr (bl s) = 0 then (readU (bl s) 0).1 else 0) (dwin (bl s) (readU (bl s) 0).2.1) ∧ Fresh w.heap.size v ∧ Frm [] w w'
theorem tellR_fault {s : ByteArray} {w w' : World} {r : Ending} {x : Int} (hr : r = .returned (.tuple #[.slice none 0 0, .int .i64 x])) (hx : derr (bl s) = x) (h0 : x ≠ 0) (hf : Frm [] w w') : tellR s w r w' := by
  refine ⟨.slice none 0 0, by rw [hr, hx], ?_, Fresh.nil _, hf⟩
  rw [if_neg (by rw [hx]; exact h0)]
  exact WRow.nil _ _ _

/-- At the loop's head: all went well so far; or the last window was none, and the reader bears its fault. -/
def HeadR (s : ByteArray) (n a : Nat) (w wr : World) (r : Nat) (v : Value) : Prop :=
  (∃ k, k ≤ n ∧ (a ≤ s.size ∧ readU (bl s) 0 = (n, a, 0)) ∧ (dst (bl s) a k).er = 0 ∧ RdSt w wr r s (dst (bl s) a k).at_ v k (dwin (bl s) a)) ∨
  (∃ (A : Option Addr) (m c : Nat) (p : Nat) (e : Int), v = .slice A m c ∧ m ≤ n ∧ e ≠ 0 ∧ derr (bl s) = e ∧ Blk wr r 93 #[.string s, .int .i64 (p : Int), .int .i64 e] ∧ Frm [] w wr)

theorem derr_stop' {l : List Nat} {n a k : Nat} (hr : readU l 0 = (n, a, 0)) (hk : k < n) (h : (dst l a (k + 1)).er ≠ 0) : derr l = (dst l a (k + 1)).er := by
  unfold derr
  rw [hr]
  simp only
  rw [dst_stays h n (by omega), if_neg (by simp), if_pos h]
theorem derr_end' {l : List Nat} {n a : Nat} (hr : readU l 0 = (n, a, 0)) (h : (dst l a n).er = 0) : derr l = if (dst l a n).at_ ≠ l.length then 21 else 0 := by
  unfold derr
  rw [hr]
  simp only
  rw [if_neg (by simp), if_neg (by simpa using h)]

set_option maxRecDepth 100000 in
set_option maxHeartbeats 8000000 in
theorem rdecode_any (s : ByteArray) (hs : s.size ≤ 4611686018427387904) (hM : ∀ k, k ≤ (readU (bl s) 0).1 → (dst (bl s) (readU (bl s) 0).2.1 k).er = 0 → (k + 1) * 48 ≤ 140737488351232) (w : World) :
    Calls Try.prog 34 #[.string s] w (tellR s w) := by
  have hrd := rnum_first (r := w.heap.size) (a := 0) hs (w.alloc (.cells #[.string s, .int .i64 0, .int .i64 0] 93)) (Blk.new w 93 #[.string s, .int .i64 0, .int .i64 0])
  have hnx := readU_next (bl s) 0
  have hlt := readU_lt (bl s) 0
  have h00 : num (bl s) 0 0 = readU (bl s) 0 := by simp [num, nxt]
  rw [h00] at hrd
  obtain ⟨n, a, e, hr⟩ : ∃ n a e, readU (bl s) 0 = (n, a, e) := ⟨_, _, _, rfl⟩
  rw [hr] at hrd hM hnx hlt
  simp only at hrd hM hnx hlt
  have hf0 : Frm [] w (w.alloc (.cells #[.string s, .int .i64 0, .int .i64 0] 93)) := (Frm.refl _ _).alloc _
  have Hr := hide hr
  have HM := hide hM
  clear hr hM h00
  go_enter Try.func34, Try.ntmps34
  go_wp2_with fail
  refine hrd.mono ?_
  rintro e' w1 ⟨rfl, hR1, hf1⟩
  have hF1 := hf0.trans hf1 (single_r (Nat.le_refl _))
  clear hrd hf0 hf1
  go_wp2_with fail
  have hD : HeadR s n a w w1 w.heap.size (.slice none 0 0) := by
    by_cases he : e = 0
    · have hnx' := hnx he
      rw [bl_length] at hnx'
      subst he
      exact .inl ⟨0, by omega, ⟨by omega, Hr.out⟩, rfl, ⟨hR1, WRow.nil _ _ _, Nat.le_refl _, Fresh.nil _, hF1⟩⟩
    · refine .inr ⟨none, 0, 0, a, (e : Int), rfl, by omega, by omega, ?_, hR1, hF1⟩
      unfold derr
      rw [Hr.out]
      simp only
      rw [if_pos (by simpa using he)]
  clear hnx
  · generalize w.heap.size = r at hD ⊢
    clear hR1 hF1
    go_loopw [6] (fun v wr => HeadR s n a w wr r v) (fun v _ => n - lenV v)
    case atStart => exact hD
    case round =>
      rcases hrel with ⟨k, hk, ⟨hal, hr0⟩, her0, hS⟩ | ⟨A1, m, c1, p, e, rfl, hm, he0, hde, hB, hFr⟩
      · have her := hide her0
        have Hr := hide hr0
        clear her0 hr0
        obtain ⟨A1, c1, rfl⟩ := hS.row.shape
        have e0 : wr.cell? ⟨r, 0, none⟩ = some (.string s) := Blk.cell (t := 93) hS.rd 0
        have e1 : wr.cell? ⟨r, 1, none⟩ = some (.int .i64 (((dst (bl s) a k).at_ : Nat) : Int)) := Blk.cell (t := 93) hS.rd 1
        have e2 : wr.cell? ⟨r, 2, none⟩ = some (.int .i64 0) := Blk.cell (t := 93) hS.rd 2
        by_cases hlt : k < n
        · have hkM : (k + 1) * 48 ≤ 140737488351232 := HM.out k (by omega) her.out
          have hst : dst (bl s) a (k + 1) = ⟨(num (bl s) (dst (bl s) a k).at_ 5).2.1, mkW (dst (bl s) a k).y (bl s) (dst (bl s) a k).at_, erW (dst (bl s) a k).y (bl s) (dst (bl s) a k).at_ (decide (k = 0))⟩ := by rw [dst, if_pos her.out]
          have Hst := hide hst
          have hyo := dst_y her.out
          have hah := ahd_dwin (bl s) a k
          have hzz : k = 0 → (dst (bl s) a k).y = win0 := fun h => by rw [h]; rfl
          have hpv : 0 < k → dwin (bl s) a (k - 1) = (dst (bl s) a k).y := fun h => by unfold dwin; rw [show k - 1 + 1 = k from by omega]
          clear hst her
          generalize (dst (bl s) a k).at_ = ak at hS Hst e1
          generalize (dst (bl s) a k).y = y at hah Hst hyo hzz hpv
          have hX := Blk.new wr 84 win0.arr
          have hfX := Frm.alloc (Frm.refl [] wr) (.cells win0.arr 84)
          have hxv : (Value.slice A1 k c1).ownBlock ≠ some wr.heap.size := fun e => absurd (hS.row.lt e) (Nat.lt_irrefl _)
          have hS0 : RdrAt (wr.alloc (.cells win0.arr 84)) r s ak 0 := Blk.frm (t := 93) hS.rd hfX (by simp)
          have hR0 := hS.row.quiet hfX
          have hF0 := hS.frm.trans hfX (by simp)
          have hx0 : w.heap.size ≤ wr.heap.size := hS.frm.size
          obtain ⟨st2, ct2, sm2, mn2, mx2, la2⟩ := y
          have Hah := hide hah
          clear hah
          simp only [Win.arr, win0] at hX hfX hS0 hR0 hF0
          -- THE WINDOW AHEAD
          by_cases hk0 : k = 0
          · have hy0 := hzz hk0
            have hX' : Blk (wr.alloc (.cells #[.int .i64 0, .int .i64 0, .int .u64 0, .int .u64 0, .int .u64 0, .int .u64 0] 84)) wr.heap.size 84 (Win.arr ⟨st2, ct2, sm2, mn2, mx2, la2⟩) := by rw [hy0]; exact hX
            clear hX hy0 hpv hzz
            have hX := hX'
            have hkle : (k : Int) ≤ 0 := by omega
            have Hk0 := hide hk0
            clear hX' hk0
            go_wp2_with fail
            generalize wr.alloc (.cells #[.int .i64 0, .int .i64 0, .int .u64 0, .int .u64 0, .int .u64 0, .int .u64 0] 84) = wa at hS0 hR0 hF0 hX ⊢
            generalize wr.heap.size = xw at hX hxv hx0 ⊢
            clear e0 e1 e2
            have her5 : (num (bl s) ak 5).2.2 ≠ 0 → (dst (bl s) a (k + 1)).er = ((num (bl s) ak 5).2.2 : Nat) := fun h => by rw [Hst.out]; simp only [erW]; rw [if_pos h]
            have her1 : (num (bl s) ak 5).2.2 = 0 → 1125899906842624 < (num (bl s) ak 0).1 → (dst (bl s) a (k + 1)).er = 91 := fun h h2 => by rw [Hst.out]; simp only [erW]; rw [if_neg (by simpa using h), if_pos h2]
            have her2 : (num (bl s) ak 5).2.2 = 0 → ¬ 1125899906842624 < (num (bl s) ak 0).1 → (dst (bl s) a (k + 1)).er = winFault ⟨st2 + ((num (bl s) ak 0).1 : Nat), (min (num (bl s) ak 1).1 4611686018427387905 : Nat), sm2 ^^^ (num (bl s) ak 2).1, mn2 ^^^ (num (bl s) ak 3).1, mx2 ^^^ (num (bl s) ak 4).1, la2 ^^^ (num (bl s) ak 5).1⟩ ⟨st2, ct2, sm2, mn2, mx2, la2⟩ (decide (k = 0)) := fun h h2 => by rw [Hst.out]; simp only [erW]; rw [if_neg (by simpa using h), if_neg h2]; rfl
            have hfin : ∀ x, (dst (bl s) a (k + 1)).er = x → x ≠ 0 → derr (bl s) = x := fun x hx h0 => by rw [derr_stop' Hr.out hlt (by rw [hx]; exact h0), hx]
            have Hfin := hide hfin
            have hdn : (dst (bl s) a (k + 1)).at_ = (num (bl s) ak 5).2.1 ∧ (dst (bl s) a (k + 1)).y = ⟨st2 + ((num (bl s) ak 0).1 : Nat), (min (num (bl s) ak 1).1 4611686018427387905 : Nat), sm2 ^^^ (num (bl s) ak 2).1, mn2 ^^^ (num (bl s) ak 3).1, mx2 ^^^ (num (bl s) ak 4).1, la2 ^^^ (num (bl s) ak 5).1⟩ := by rw [Hst.out]; exact ⟨rfl, rfl⟩
            have Hdn := hide hdn
            have hb0 : (num (bl s) ak 0).1 < 18446744073709551616 := num_lt
            have hb1 : (num (bl s) ak 1).1 < 18446744073709551616 := num_lt
            clear hfin hdn Hst
            refine (rnum_first hs _ hS0).mono ?_
            rintro e w5 ⟨rfl, hN5, hf5⟩
            have hA0 : MidSt w w5 r xw s ak 0 ⟨st2, ct2, sm2, mn2, mx2, la2⟩ (.slice A1 k c1) k (dwin (bl s) a) := MidSt.start hS0 hX hR0 hS.r0 hx0 hxv hS.fv hF0 hN5 hf5
            have hr0 := hS.r0
            clear hS0 hX hR0 hF0 hN5 hf5 hS
            by_cases hfar : 1125899906842624 < (num (bl s) ak 0).1
            · have hfd : decide ((1125899906842624 : Int) < (((num (bl s) ak 0).1 : Nat) : Int)) = true := decide_eq_true (by omega)
              go_wp2_with fail
              refine (rnum_num hs 0 _ hA0.rd).mono ?_
              rintro e v1 ⟨rfl, hN, hf⟩
              have hA1 := hA0.read hN hf
              clear hA0 hN hf
              go_wp2_with fail
              refine (rnum_num hs 1 _ hA1.rd).mono ?_
              rintro e v2 ⟨rfl, hN, hf⟩
              have hA2 := hA1.read hN hf
              clear hA1 hN hf
              go_wp2_with fail
              refine (rnum_num hs 2 _ hA2.rd).mono ?_
              rintro e v3 ⟨rfl, hN, hf⟩
              have hA3 := hA2.read hN hf
              clear hA2 hN hf
              go_wp2_with fail
              refine (rnum_num hs 3 _ hA3.rd).mono ?_
              rintro e v4 ⟨rfl, hN, hf⟩
              have hA4 := hA3.read hN hf
              clear hA3 hN hf
              go_wp2_with fail
              refine (rnum_num hs 4 _ hA4.rd).mono ?_
              rintro e v5 ⟨rfl, hN, hf⟩
              have hA5 := hA4.read hN hf
              clear hA4 hN hf
              have ce : v5.cell? ⟨r, 2, none⟩ = some (.int .i64 (((num (bl s) ak 5).2.2 : Nat) : Int)) := Blk.cell (t := 93) hA5.rd 2
              by_cases he5 : (num (bl s) ak 5).2.2 = 0
              · rw [he5] at ce
                have l0 : v5.cell? ⟨xw, 0, none⟩ = some (.int .i64 (st2)) := hA5.win.cell 0
                have l1 : v5.cell? ⟨xw, 1, none⟩ = some (.int .i64 ct2) := hA5.win.cell 1
                have l2 : v5.cell? ⟨xw, 2, none⟩ = some (.int .u64 (sm2 : Int)) := hA5.win.cell 2
                have l3 : v5.cell? ⟨xw, 3, none⟩ = some (.int .u64 (mn2 : Int)) := hA5.win.cell 3
                have l4 : v5.cell? ⟨xw, 4, none⟩ = some (.int .u64 (mx2 : Int)) := hA5.win.cell 4
                have l5 : v5.cell? ⟨xw, 5, none⟩ = some (.int .u64 (la2 : Int)) := hA5.win.cell 5
                have f0 := hA5.win.frozen 0
                have f1 := hA5.win.frozen 1
                have f2 := hA5.win.frozen 2
                have f3 := hA5.win.frozen 3
                have f4 := hA5.win.frozen 4
                have f5 := hA5.win.frozen 5
                have He := hide (her1 he5 hfar)
                clear her5 her1 her2
                by_cases hmn : (num (bl s) ak 1).1 ≤ 4611686018427387904
                · go_wp2_with fail
                  go_ret2
                  exact tellR_fault rfl (Hfin.out _ He.out (by decide)) (by decide) (((((((hA5.frm.setCell (p := ⟨xw, 2, none⟩) (.inr hA5.x0) _).setCell (p := ⟨xw, 3, none⟩) (.inr hA5.x0) _).setCell (p := ⟨xw, 4, none⟩) (.inr hA5.x0) _).setCell (p := ⟨xw, 5, none⟩) (.inr hA5.x0) _).setCell (p := ⟨xw, 1, none⟩) (.inr hA5.x0) _)).setCell (p := ⟨xw, 1, none⟩) (.inr hA5.x0) _)
                · go_wp2_with fail
                  go_ret2
                  exact tellR_fault rfl (Hfin.out _ He.out (by decide)) (by decide) (((((hA5.frm.setCell (p := ⟨xw, 2, none⟩) (.inr hA5.x0) _).setCell (p := ⟨xw, 3, none⟩) (.inr hA5.x0) _).setCell (p := ⟨xw, 4, none⟩) (.inr hA5.x0) _).setCell (p := ⟨xw, 5, none⟩) (.inr hA5.x0) _).setCell (p := ⟨xw, 1, none⟩) (.inr hA5.x0) _)
              · have He := hide (her5 he5)
                clear her5 her1 her2
                have hz : ((((num (bl s) ak 5).2.2 : Nat) : Int) != 0) = true := by rw [bne_iff_ne]; omega
                go_wp2_with fail
                go_quiet (fail)
                go_wp2
                go_ret2
                exact tellR_fault rfl (Hfin.out _ He.out (by omega)) (by omega) (hA5.frm.drewN _)
            · have hfd : decide ((1125899906842624 : Int) < (((num (bl s) ak 0).1 : Nat) : Int)) = false := decide_eq_false (by omega)
              have hy1 := hyo.2.1
              have hy2 := hyo.2.2
              have l0 : w5.cell? ⟨xw, 0, none⟩ = some (.int .i64 st2) := hA0.win.cell 0
              have f0 := hA0.win.frozen 0
              have hA' := hA0.put 0 _ (put0 _ (st2 + ((num (bl s) ak 0).1 : Nat)))
              simp only at hA'
              clear hA0
              have hA0 := hA'
              clear hA'
              go_wp2_with fail
              refine (rnum_num hs 0 _ hA0.rd).mono ?_
              rintro e v1 ⟨rfl, hN, hf⟩
              have hA1 := hA0.read hN hf
              clear hA0 hN hf
              go_wp2_with fail
              refine (rnum_num hs 1 _ hA1.rd).mono ?_
              rintro e v2 ⟨rfl, hN, hf⟩
              have hA2 := hA1.read hN hf
              clear hA1 hN hf
              go_wp2_with fail
              refine (rnum_num hs 2 _ hA2.rd).mono ?_
              rintro e v3 ⟨rfl, hN, hf⟩
              have hA3 := hA2.read hN hf
              clear hA2 hN hf
              go_wp2_with fail
              refine (rnum_num hs 3 _ hA3.rd).mono ?_
              rintro e v4 ⟨rfl, hN, hf⟩
              have hA4 := hA3.read hN hf
              clear hA3 hN hf
              go_wp2_with fail
              refine (rnum_num hs 4 _ hA4.rd).mono ?_
              rintro e v5 ⟨rfl, hN, hf⟩
              have hA5 := hA4.read hN hf
              clear hA4 hN hf
              have ce : v5.cell? ⟨r, 2, none⟩ = some (.int .i64 (((num (bl s) ak 5).2.2 : Nat) : Int)) := Blk.cell (t := 93) hA5.rd 2
              by_cases he5 : (num (bl s) ak 5).2.2 = 0
              · rw [he5] at ce
                have l0 : v5.cell? ⟨xw, 0, none⟩ = some (.int .i64 (st2 + ((num (bl s) ak 0).1 : Nat))) := hA5.win.cell 0
                have l1 : v5.cell? ⟨xw, 1, none⟩ = some (.int .i64 ct2) := hA5.win.cell 1
                have l2 : v5.cell? ⟨xw, 2, none⟩ = some (.int .u64 (sm2 : Int)) := hA5.win.cell 2
                have l3 : v5.cell? ⟨xw, 3, none⟩ = some (.int .u64 (mn2 : Int)) := hA5.win.cell 3
                have l4 : v5.cell? ⟨xw, 4, none⟩ = some (.int .u64 (mx2 : Int)) := hA5.win.cell 4
                have l5 : v5.cell? ⟨xw, 5, none⟩ = some (.int .u64 (la2 : Int)) := hA5.win.cell 5
                have f0 := hA5.win.frozen 0
                have f1 := hA5.win.frozen 1
                have f2 := hA5.win.frozen 2
                have f3 := hA5.win.frozen 3
                have f4 := hA5.win.frozen 4
                have f5 := hA5.win.frozen 5
                have he := her2 he5 hfar
                clear her5 her1 her2
                by_cases hmn : (num (bl s) ak 1).1 ≤ 4611686018427387904
                · have hm : (min (num (bl s) ak 1).1 4611686018427387905 : Nat) = (num (bl s) ak 1).1 := by omega
                  rw [hm] at he
                  have hdn := Hdn.out
                  rw [hm] at hdn
                  clear hm Hdn
                  have Hdn := hide hdn
                  clear hdn
                  go_upto_region 29 with (fail)
                  have hW := ((((((hA5.put 2 _ (put2 _ sm2 (num (bl s) ak 2).1 hyo.1.sm num_lt)).put 3 _ (put3 _ mn2 (num (bl s) ak 3).1 hyo.1.mn num_lt)).put 4 _ (put4 _ mx2 (num (bl s) ak 4).1 hyo.1.mx num_lt)).put 5 _ (put5 _ la2 (num (bl s) ak 5).1 hyo.1.la num_lt)).put 1 _ (put1 _ 0)).put 1 _ (put1 _ ((num (bl s) ak 1).1 : Nat)))
                  simp only at hW
                  clear l0 l1 l2 l3 l4 l5 f0 f1 f2 f3 f4 f5 ce
                  generalize ((((((v5.setCell ⟨xw, 2, none⟩ (.int .u64 (bits BinOp.xor IntKind.u64 (sm2 : Int) (((num (bl s) ak 2).1 : Nat) : Int)))).setCell ⟨xw, 3, none⟩ (.int .u64 (bits BinOp.xor IntKind.u64 (mn2 : Int) (((num (bl s) ak 3).1 : Nat) : Int)))).setCell ⟨xw, 4, none⟩ (.int .u64 (bits BinOp.xor IntKind.u64 (mx2 : Int) (((num (bl s) ak 4).1 : Nat) : Int)))).setCell ⟨xw, 5, none⟩ (.int .u64 (bits BinOp.xor IntKind.u64 (la2 : Int) (((num (bl s) ak 5).1 : Nat) : Int)))).setCell ⟨xw, 1, none⟩ (.int .i64 0)).setCell ⟨xw, 1, none⟩ (.int .i64 (((num (bl s) ak 1).1 : Nat) : Int))) = v6 at hW ⊢
                  have x0 : v6.cell? ⟨xw, 0, none⟩ = some (.int .i64 (st2 + ((num (bl s) ak 0).1 : Nat))) := hW.win.cell 0
                  have x1 : v6.cell? ⟨xw, 1, none⟩ = some (.int .i64 (((num (bl s) ak 1).1 : Nat))) := hW.win.cell 1
                  have x2 : v6.cell? ⟨xw, 2, none⟩ = some (.int .u64 ((sm2 ^^^ (num (bl s) ak 2).1 : Nat) : Int)) := hW.win.cell 2
                  have x3 : v6.cell? ⟨xw, 3, none⟩ = some (.int .u64 ((mn2 ^^^ (num (bl s) ak 3).1 : Nat) : Int)) := hW.win.cell 3
                  have x4 : v6.cell? ⟨xw, 4, none⟩ = some (.int .u64 ((mx2 ^^^ (num (bl s) ak 4).1 : Nat) : Int)) := hW.win.cell 4
                  have x5 : v6.cell? ⟨xw, 5, none⟩ = some (.int .u64 ((la2 ^^^ (num (bl s) ak 5).1 : Nat) : Int)) := hW.win.cell 5
                  obtain ⟨v9, w9, hr9, R9, hf9, hg9⟩ := append_win (ty := 55) Try.underlying55 winfor _ (hW.row.congr (fun i hi => (putW_low (dwin (bl s) a) k ⟨st2 + ((num (bl s) ak 0).1 : Nat), ((num (bl s) ak 1).1 : Nat), sm2 ^^^ (num (bl s) ak 2).1, mn2 ^^^ (num (bl s) ak 3).1, mx2 ^^^ (num (bl s) ak 4).1, la2 ^^^ (num (bl s) ak 5).1⟩ i hi).symm)) ⟨st2 + ((num (bl s) ak 0).1 : Nat), ((num (bl s) ak 1).1 : Nat), sm2 ^^^ (num (bl s) ak 2).1, mn2 ^^^ (num (bl s) ak 3).1, mx2 ^^^ (num (bl s) ak 4).1, la2 ^^^ (num (bl s) ak 5).1⟩ (putW_at _ _ _) hkM
                  simp only [Win.arr] at hr9
                  obtain ⟨A9, c9, rfl⟩ := R9.shape
                  have nr9 := hW.rd.ne_row hW.row
                  have RD9 : RdrAt w9 r s (num (bl s) ak 5).2.1 (num (bl s) ak 5).2.2 := Blk.frm (t := 93) hW.rd hf9 (not_row nr9)
                  have F9 := hW.frm.trans hf9 hW.fv.row
                  have fv9 := hW.fv.grew hg9 hW.frm.size
                  rw [he5] at RD9
                  have hfa := fault_any A9 (k + 1) c9 (putW (dwin (bl s) a) k ⟨st2 + ((num (bl s) ak 0).1 : Nat), ((num (bl s) ak 1).1 : Nat), sm2 ^^^ (num (bl s) ak 2).1, mn2 ^^^ (num (bl s) ak 3).1, mx2 ^^^ (num (bl s) ak 4).1, la2 ^^^ (num (bl s) ak 5).1⟩) k (by omega) hkM w9 R9.cellsAt
                  have hft : faultAt (putW (dwin (bl s) a) k ⟨st2 + ((num (bl s) ak 0).1 : Nat), ((num (bl s) ak 1).1 : Nat), sm2 ^^^ (num (bl s) ak 2).1, mn2 ^^^ (num (bl s) ak 3).1, mx2 ^^^ (num (bl s) ak 4).1, la2 ^^^ (num (bl s) ak 5).1⟩) k = winFault ⟨st2 + ((num (bl s) ak 0).1 : Nat), ((num (bl s) ak 1).1 : Nat), sm2 ^^^ (num (bl s) ak 2).1, mn2 ^^^ (num (bl s) ak 3).1, mx2 ^^^ (num (bl s) ak 4).1, la2 ^^^ (num (bl s) ak 5).1⟩ ⟨st2, ct2, sm2, mn2, mx2, la2⟩ (decide (k = 0)) := by unfold faultAt; rw [putW_at, ahd_putW, Hah.out]
                  rw [hft] at hfa
                  generalize hwf : winFault ⟨st2 + ((num (bl s) ak 0).1 : Nat), ((num (bl s) ak 1).1 : Nat), sm2 ^^^ (num (bl s) ak 2).1, mn2 ^^^ (num (bl s) ak 3).1, mx2 ^^^ (num (bl s) ak 4).1, la2 ^^^ (num (bl s) ak 5).1⟩ ⟨st2, ct2, sm2, mn2, mx2, la2⟩ (decide (k = 0)) = er at he hfa
                  have Hwf := hide hwf
                  have He := hide he
                  have Hr9 := hide hr9
                  have HB := hide (And.intro hfa (And.intro R9 (And.intro RD9 (And.intro F9 fv9))))
                  clear hwf he hr9 hft hW hfa R9 RD9 F9 fv9 hf9 hg9 nr9
                  go_wp2_with (at_builtin; refine wp_append_known rfl (.tmp 101) (.tmp 103) 55 55 rfl rfl rfl Hr9.out ?_)
                  obtain ⟨hfa, R9, RD9, F9, fv9⟩ := HB.out
                  refine hfa.mono ?_
                  rintro e w10 ⟨rfl, hf10⟩
                  have RD10 : RdrAt w10 r s (num (bl s) ak 5).2.1 0 := Blk.frm (t := 93) RD9 hf10 (by simp)
                  have z2 := Blk.frozen (t := 93) RD10 2
                  have z3 : w10.cell? ⟨r, 2, none⟩ = some (.int .i64 0) := Blk.cell (t := 93) RD10 2
                  have RB := Blk.set_ (t := 93) RD10 2 (.int .i64 er)
                  have R10 := R9.quiet hf10
                  have nr10 := RD10.ne_row R10
                  have FE := (F9.trans hf10 (by simp)).setCell (p := ⟨r, 2, none⟩) (.inr hr0) (.int .i64 er)
                  have RW := ownsRow_setCell_other R10 (a := ⟨r, 2, none⟩) nr10 (.int .i64 er)
                  clear hfa x0 x1 x2 x3 x4 x5
                  go_wp2_with fail
                  refine ⟨?_, by simp [lenV]; omega⟩
                  by_cases h0 : er = 0
                  · subst h0
                    refine .inl ⟨k + 1, by omega, ⟨hal, Hr.out⟩, He.out, ?_⟩
                    rw [Hdn.out.1]
                    refine ⟨by have hb := RB; simp at hb; exact hb, WRow.congr RW (fun i hi => ?_), hr0, fv9, FE⟩
                    by_cases hik : i = k
                    · subst hik
                      rw [putW_at, ← Hdn.out.2]
                      rfl
                    · exact putW_low _ _ _ _ (by omega)
                  · refine .inr ⟨A9, k + 1, c9, (num (bl s) ak 5).2.1, er, rfl, by omega, h0, Hfin.out _ He.out h0, ?_, FE⟩
                    simpa using RB
                · rw [← winFault_ct _ _ _ _ _ _ _ _ (by omega)] at he
                  go_upto_region 29 with (fail)
                  have hW := (((((hA5.put 2 _ (put2 _ sm2 (num (bl s) ak 2).1 hyo.1.sm num_lt)).put 3 _ (put3 _ mn2 (num (bl s) ak 3).1 hyo.1.mn num_lt)).put 4 _ (put4 _ mx2 (num (bl s) ak 4).1 hyo.1.mx num_lt)).put 5 _ (put5 _ la2 (num (bl s) ak 5).1 hyo.1.la num_lt)).put 1 _ (put1 _ 0))
                  simp only at hW
                  clear l0 l1 l2 l3 l4 l5 f0 f1 f2 f3 f4 f5 ce
                  generalize (((((v5.setCell ⟨xw, 2, none⟩ (.int .u64 (bits BinOp.xor IntKind.u64 (sm2 : Int) (((num (bl s) ak 2).1 : Nat) : Int)))).setCell ⟨xw, 3, none⟩ (.int .u64 (bits BinOp.xor IntKind.u64 (mn2 : Int) (((num (bl s) ak 3).1 : Nat) : Int)))).setCell ⟨xw, 4, none⟩ (.int .u64 (bits BinOp.xor IntKind.u64 (mx2 : Int) (((num (bl s) ak 4).1 : Nat) : Int)))).setCell ⟨xw, 5, none⟩ (.int .u64 (bits BinOp.xor IntKind.u64 (la2 : Int) (((num (bl s) ak 5).1 : Nat) : Int)))).setCell ⟨xw, 1, none⟩ (.int .i64 0)) = v6 at hW ⊢
                  have x0 : v6.cell? ⟨xw, 0, none⟩ = some (.int .i64 (st2 + ((num (bl s) ak 0).1 : Nat))) := hW.win.cell 0
                  have x1 : v6.cell? ⟨xw, 1, none⟩ = some (.int .i64 (0)) := hW.win.cell 1
                  have x2 : v6.cell? ⟨xw, 2, none⟩ = some (.int .u64 ((sm2 ^^^ (num (bl s) ak 2).1 : Nat) : Int)) := hW.win.cell 2
                  have x3 : v6.cell? ⟨xw, 3, none⟩ = some (.int .u64 ((mn2 ^^^ (num (bl s) ak 3).1 : Nat) : Int)) := hW.win.cell 3
                  have x4 : v6.cell? ⟨xw, 4, none⟩ = some (.int .u64 ((mx2 ^^^ (num (bl s) ak 4).1 : Nat) : Int)) := hW.win.cell 4
                  have x5 : v6.cell? ⟨xw, 5, none⟩ = some (.int .u64 ((la2 ^^^ (num (bl s) ak 5).1 : Nat) : Int)) := hW.win.cell 5
                  obtain ⟨v9, w9, hr9, R9, hf9, hg9⟩ := append_win (ty := 55) Try.underlying55 winfor _ (hW.row.congr (fun i hi => (putW_low (dwin (bl s) a) k ⟨st2 + ((num (bl s) ak 0).1 : Nat), 0, sm2 ^^^ (num (bl s) ak 2).1, mn2 ^^^ (num (bl s) ak 3).1, mx2 ^^^ (num (bl s) ak 4).1, la2 ^^^ (num (bl s) ak 5).1⟩ i hi).symm)) ⟨st2 + ((num (bl s) ak 0).1 : Nat), 0, sm2 ^^^ (num (bl s) ak 2).1, mn2 ^^^ (num (bl s) ak 3).1, mx2 ^^^ (num (bl s) ak 4).1, la2 ^^^ (num (bl s) ak 5).1⟩ (putW_at _ _ _) hkM
                  simp only [Win.arr] at hr9
                  obtain ⟨A9, c9, rfl⟩ := R9.shape
                  have nr9 := hW.rd.ne_row hW.row
                  have RD9 : RdrAt w9 r s (num (bl s) ak 5).2.1 (num (bl s) ak 5).2.2 := Blk.frm (t := 93) hW.rd hf9 (not_row nr9)
                  have F9 := hW.frm.trans hf9 hW.fv.row
                  have fv9 := hW.fv.grew hg9 hW.frm.size
                  rw [he5] at RD9
                  have hfa := fault_any A9 (k + 1) c9 (putW (dwin (bl s) a) k ⟨st2 + ((num (bl s) ak 0).1 : Nat), 0, sm2 ^^^ (num (bl s) ak 2).1, mn2 ^^^ (num (bl s) ak 3).1, mx2 ^^^ (num (bl s) ak 4).1, la2 ^^^ (num (bl s) ak 5).1⟩) k (by omega) hkM w9 R9.cellsAt
                  have hft : faultAt (putW (dwin (bl s) a) k ⟨st2 + ((num (bl s) ak 0).1 : Nat), 0, sm2 ^^^ (num (bl s) ak 2).1, mn2 ^^^ (num (bl s) ak 3).1, mx2 ^^^ (num (bl s) ak 4).1, la2 ^^^ (num (bl s) ak 5).1⟩) k = winFault ⟨st2 + ((num (bl s) ak 0).1 : Nat), 0, sm2 ^^^ (num (bl s) ak 2).1, mn2 ^^^ (num (bl s) ak 3).1, mx2 ^^^ (num (bl s) ak 4).1, la2 ^^^ (num (bl s) ak 5).1⟩ ⟨st2, ct2, sm2, mn2, mx2, la2⟩ (decide (k = 0)) := by unfold faultAt; rw [putW_at, ahd_putW, Hah.out]
                  rw [hft] at hfa
                  generalize hwf : winFault ⟨st2 + ((num (bl s) ak 0).1 : Nat), 0, sm2 ^^^ (num (bl s) ak 2).1, mn2 ^^^ (num (bl s) ak 3).1, mx2 ^^^ (num (bl s) ak 4).1, la2 ^^^ (num (bl s) ak 5).1⟩ ⟨st2, ct2, sm2, mn2, mx2, la2⟩ (decide (k = 0)) = er at he hfa
                  have Hwf := hide hwf
                  have He := hide he
                  have Hr9 := hide hr9
                  have HB := hide (And.intro hfa (And.intro R9 (And.intro RD9 (And.intro F9 fv9))))
                  clear hwf he hr9 hft hW hfa R9 RD9 F9 fv9 hf9 hg9 nr9
                  go_wp2_with (at_builtin; refine wp_append_known rfl (.tmp 101) (.tmp 103) 55 55 rfl rfl rfl Hr9.out ?_)
                  obtain ⟨hfa, R9, RD9, F9, fv9⟩ := HB.out
                  refine hfa.mono ?_
                  rintro e w10 ⟨rfl, hf10⟩
                  have RD10 : RdrAt w10 r s (num (bl s) ak 5).2.1 0 := Blk.frm (t := 93) RD9 hf10 (by simp)
                  have z2 := Blk.frozen (t := 93) RD10 2
                  have z3 : w10.cell? ⟨r, 2, none⟩ = some (.int .i64 0) := Blk.cell (t := 93) RD10 2
                  have RB := Blk.set_ (t := 93) RD10 2 (.int .i64 er)
                  have R10 := R9.quiet hf10
                  have nr10 := RD10.ne_row R10
                  have FE := (F9.trans hf10 (by simp)).setCell (p := ⟨r, 2, none⟩) (.inr hr0) (.int .i64 er)
                  have RW := ownsRow_setCell_other R10 (a := ⟨r, 2, none⟩) nr10 (.int .i64 er)
                  clear hfa x0 x1 x2 x3 x4 x5
                  go_wp2_with fail
                  refine ⟨?_, by simp [lenV]; omega⟩
                  by_cases h0 : er = 0
                  · subst h0
                    refine .inl ⟨k + 1, by omega, ⟨hal, Hr.out⟩, He.out, ?_⟩
                    rw [Hdn.out.1]
                    exact absurd (winFault_zero Hwf.out).2.2.2.1 (by simp)
                  · refine .inr ⟨A9, k + 1, c9, (num (bl s) ak 5).2.1, er, rfl, by omega, h0, Hfin.out _ He.out h0, ?_, FE⟩
                    simpa using RB
              · have He := hide (her5 he5)
                clear her5 her1 her2
                have hz : ((((num (bl s) ak 5).2.2 : Nat) : Int) != 0) = true := by rw [bne_iff_ne]; omega
                go_wp2_with fail
                go_quiet (fail)
                go_wp2
                go_ret2
                exact tellR_fault rfl (Hfin.out _ He.out (by omega)) (by omega) (hA5.frm.drewN _)
          · have hk1 : 0 < k := by omega
            have hpr := hpv hk1
            obtain ⟨m, hm⟩ : ∃ m, k = m + 1 := ⟨k - 1, by omega⟩
            rw [show k - 1 = m from by omega] at hpr
            obtain ⟨g, hA1, hg, hcell⟩ := hS.row.blk hk1
            subst hA1
            have hmk : m < k := by omega
            have c0 : wr.cell? ⟨g, m * 6, none⟩ = some (.int .i64 st2) := by have := hcell m 0 hmk (by decide); rw [hpr] at this; exact this
            have c1' : wr.cell? ⟨g, m * 6 + 1, none⟩ = some (.int .i64 ct2) := by have := hcell m 1 hmk (by decide); rw [hpr] at this; exact this
            have c2 : wr.cell? ⟨g, m * 6 + 2, none⟩ = some (.int .u64 (sm2 : Int)) := by have := hcell m 2 hmk (by decide); rw [hpr] at this; exact this
            have c3 : wr.cell? ⟨g, m * 6 + 3, none⟩ = some (.int .u64 (mn2 : Int)) := by have := hcell m 3 hmk (by decide); rw [hpr] at this; exact this
            have c4 : wr.cell? ⟨g, m * 6 + 4, none⟩ = some (.int .u64 (mx2 : Int)) := by have := hcell m 4 hmk (by decide); rw [hpr] at this; exact this
            have c5 : wr.cell? ⟨g, m * 6 + 5, none⟩ = some (.int .u64 (la2 : Int)) := by have := hcell m 5 hmk (by decide); rw [hpr] at this; exact this
            have hX' := Blk.new wr 84 #[.int .i64 st2, .int .i64 ct2, .int .u64 (sm2 : Int), .int .u64 (mn2 : Int), .int .u64 (mx2 : Int), .int .u64 (la2 : Int)]
            have hfY := Frm.alloc (Frm.refl [] wr) (.cells #[.int .i64 st2, .int .i64 ct2, .int .u64 (sm2 : Int), .int .u64 (mn2 : Int), .int .u64 (mx2 : Int), .int .u64 (la2 : Int)] 84)
            have hS0' : RdrAt (wr.alloc (.cells #[.int .i64 st2, .int .i64 ct2, .int .u64 (sm2 : Int), .int .u64 (mn2 : Int), .int .u64 (mx2 : Int), .int .u64 (la2 : Int)] 84)) r s ak 0 := Blk.frm (t := 93) hS.rd hfY (by simp)
            have hR0' := hS.row.quiet hfY
            have hF0' := hS.frm.trans hfY (by simp)
            have Hm := hide hm
            have hk2 : (k : Int) - 1 = (m : Int) := by omega
            have hk3 : (0 : Int) < (k : Int) := by omega
            have hk4 : (0 : Int) ≤ (m : Int) := by omega
            have hk5 : (m : Int) < (k : Int) := by omega
            clear hcell hpr hpv hzz hm hX hS0 hR0 hF0 hk0 hfY hfX
            have hX := hX'
            have hS0 := hS0'
            have hR0 := hR0'
            have hF0 := hF0'
            clear hX' hS0' hR0' hF0'
            go_wp2_with fail
            clear hk2 c0 c1' c2 c3 c4 c5
            generalize (wr.alloc (.cells #[.int .i64 st2, .int .i64 ct2, .int .u64 (sm2 : Int), .int .u64 (mn2 : Int), .int .u64 (mx2 : Int), .int .u64 (la2 : Int)] 84)) = wa at hS0 hR0 hF0 hX ⊢
            generalize wr.heap.size = xw at hX hxv hx0 ⊢
            clear e0 e1 e2
            have her5 : (num (bl s) ak 5).2.2 ≠ 0 → (dst (bl s) a (k + 1)).er = ((num (bl s) ak 5).2.2 : Nat) := fun h => by rw [Hst.out]; simp only [erW]; rw [if_pos h]
            have her1 : (num (bl s) ak 5).2.2 = 0 → 1125899906842624 < (num (bl s) ak 0).1 → (dst (bl s) a (k + 1)).er = 91 := fun h h2 => by rw [Hst.out]; simp only [erW]; rw [if_neg (by simpa using h), if_pos h2]
            have her2 : (num (bl s) ak 5).2.2 = 0 → ¬ 1125899906842624 < (num (bl s) ak 0).1 → (dst (bl s) a (k + 1)).er = winFault ⟨st2 + ((num (bl s) ak 0).1 : Nat), (min (num (bl s) ak 1).1 4611686018427387905 : Nat), sm2 ^^^ (num (bl s) ak 2).1, mn2 ^^^ (num (bl s) ak 3).1, mx2 ^^^ (num (bl s) ak 4).1, la2 ^^^ (num (bl s) ak 5).1⟩ ⟨st2, ct2, sm2, mn2, mx2, la2⟩ (decide (k = 0)) := fun h h2 => by rw [Hst.out]; simp only [erW]; rw [if_neg (by simpa using h), if_neg h2]; rfl
            have hfin : ∀ x, (dst (bl s) a (k + 1)).er = x → x ≠ 0 → derr (bl s) = x := fun x hx h0 => by rw [derr_stop' Hr.out hlt (by rw [hx]; exact h0), hx]
            have Hfin := hide hfin
            have hdn : (dst (bl s) a (k + 1)).at_ = (num (bl s) ak 5).2.1 ∧ (dst (bl s) a (k + 1)).y = ⟨st2 + ((num (bl s) ak 0).1 : Nat), (min (num (bl s) ak 1).1 4611686018427387905 : Nat), sm2 ^^^ (num (bl s) ak 2).1, mn2 ^^^ (num (bl s) ak 3).1, mx2 ^^^ (num (bl s) ak 4).1, la2 ^^^ (num (bl s) ak 5).1⟩ := by rw [Hst.out]; exact ⟨rfl, rfl⟩
            have Hdn := hide hdn
            have hb0 : (num (bl s) ak 0).1 < 18446744073709551616 := num_lt
            have hb1 : (num (bl s) ak 1).1 < 18446744073709551616 := num_lt
            clear hfin hdn Hst
            refine (rnum_first hs _ hS0).mono ?_
            rintro e w5 ⟨rfl, hN5, hf5⟩
            have hA0 : MidSt w w5 r xw s ak 0 ⟨st2, ct2, sm2, mn2, mx2, la2⟩ (.slice (some ⟨g, 0, none⟩) k c1) k (dwin (bl s) a) := MidSt.start hS0 hX hR0 hS.r0 hx0 hxv hS.fv hF0 hN5 hf5
            have hr0 := hS.r0
            clear hS0 hX hR0 hF0 hN5 hf5 hS
            by_cases hfar : 1125899906842624 < (num (bl s) ak 0).1
            · have hfd : decide ((1125899906842624 : Int) < (((num (bl s) ak 0).1 : Nat) : Int)) = true := decide_eq_true (by omega)
              go_wp2_with fail
              refine (rnum_num hs 0 _ hA0.rd).mono ?_
              rintro e v1 ⟨rfl, hN, hf⟩
              have hA1 := hA0.read hN hf
              clear hA0 hN hf
              go_wp2_with fail
              refine (rnum_num hs 1 _ hA1.rd).mono ?_
              rintro e v2 ⟨rfl, hN, hf⟩
              have hA2 := hA1.read hN hf
              clear hA1 hN hf
              go_wp2_with fail
              refine (rnum_num hs 2 _ hA2.rd).mono ?_
              rintro e v3 ⟨rfl, hN, hf⟩
              have hA3 := hA2.read hN hf
              clear hA2 hN hf
              go_wp2_with fail
              refine (rnum_num hs 3 _ hA3.rd).mono ?_
              rintro e v4 ⟨rfl, hN, hf⟩
              have hA4 := hA3.read hN hf
              clear hA3 hN hf
              go_wp2_with fail
              refine (rnum_num hs 4 _ hA4.rd).mono ?_
              rintro e v5 ⟨rfl, hN, hf⟩
              have hA5 := hA4.read hN hf
              clear hA4 hN hf
              have ce : v5.cell? ⟨r, 2, none⟩ = some (.int .i64 (((num (bl s) ak 5).2.2 : Nat) : Int)) := Blk.cell (t := 93) hA5.rd 2
              by_cases he5 : (num (bl s) ak 5).2.2 = 0
              · rw [he5] at ce
                have l0 : v5.cell? ⟨xw, 0, none⟩ = some (.int .i64 (st2)) := hA5.win.cell 0
                have l1 : v5.cell? ⟨xw, 1, none⟩ = some (.int .i64 ct2) := hA5.win.cell 1
                have l2 : v5.cell? ⟨xw, 2, none⟩ = some (.int .u64 (sm2 : Int)) := hA5.win.cell 2
                have l3 : v5.cell? ⟨xw, 3, none⟩ = some (.int .u64 (mn2 : Int)) := hA5.win.cell 3
                have l4 : v5.cell? ⟨xw, 4, none⟩ = some (.int .u64 (mx2 : Int)) := hA5.win.cell 4
                have l5 : v5.cell? ⟨xw, 5, none⟩ = some (.int .u64 (la2 : Int)) := hA5.win.cell 5
                have f0 := hA5.win.frozen 0
                have f1 := hA5.win.frozen 1
                have f2 := hA5.win.frozen 2
                have f3 := hA5.win.frozen 3
                have f4 := hA5.win.frozen 4
                have f5 := hA5.win.frozen 5
                have He := hide (her1 he5 hfar)
                clear her5 her1 her2
                by_cases hmn : (num (bl s) ak 1).1 ≤ 4611686018427387904
                · go_wp2_with fail
                  go_ret2
                  exact tellR_fault rfl (Hfin.out _ He.out (by decide)) (by decide) (((((((hA5.frm.setCell (p := ⟨xw, 2, none⟩) (.inr hA5.x0) _).setCell (p := ⟨xw, 3, none⟩) (.inr hA5.x0) _).setCell (p := ⟨xw, 4, none⟩) (.inr hA5.x0) _).setCell (p := ⟨xw, 5, none⟩) (.inr hA5.x0) _).setCell (p := ⟨xw, 1, none⟩) (.inr hA5.x0) _)).setCell (p := ⟨xw, 1, none⟩) (.inr hA5.x0) _)
                · go_wp2_with fail
                  go_ret2
                  exact tellR_fault rfl (Hfin.out _ He.out (by decide)) (by decide) (((((hA5.frm.setCell (p := ⟨xw, 2, none⟩) (.inr hA5.x0) _).setCell (p := ⟨xw, 3, none⟩) (.inr hA5.x0) _).setCell (p := ⟨xw, 4, none⟩) (.inr hA5.x0) _).setCell (p := ⟨xw, 5, none⟩) (.inr hA5.x0) _).setCell (p := ⟨xw, 1, none⟩) (.inr hA5.x0) _)
              · have He := hide (her5 he5)
                clear her5 her1 her2
                have hz : ((((num (bl s) ak 5).2.2 : Nat) : Int) != 0) = true := by rw [bne_iff_ne]; omega
                go_wp2_with fail
                go_quiet (fail)
                go_wp2
                go_ret2
                exact tellR_fault rfl (Hfin.out _ He.out (by omega)) (by omega) (hA5.frm.drewN _)
            · have hfd : decide ((1125899906842624 : Int) < (((num (bl s) ak 0).1 : Nat) : Int)) = false := decide_eq_false (by omega)
              have hy1 := hyo.2.1
              have hy2 := hyo.2.2
              have l0 : w5.cell? ⟨xw, 0, none⟩ = some (.int .i64 st2) := hA0.win.cell 0
              have f0 := hA0.win.frozen 0
              have hA' := hA0.put 0 _ (put0 _ (st2 + ((num (bl s) ak 0).1 : Nat)))
              simp only at hA'
              clear hA0
              have hA0 := hA'
              clear hA'
              go_wp2_with fail
              refine (rnum_num hs 0 _ hA0.rd).mono ?_
              rintro e v1 ⟨rfl, hN, hf⟩
              have hA1 := hA0.read hN hf
              clear hA0 hN hf
              go_wp2_with fail
              refine (rnum_num hs 1 _ hA1.rd).mono ?_
              rintro e v2 ⟨rfl, hN, hf⟩
              have hA2 := hA1.read hN hf
              clear hA1 hN hf
              go_wp2_with fail
              refine (rnum_num hs 2 _ hA2.rd).mono ?_
              rintro e v3 ⟨rfl, hN, hf⟩
              have hA3 := hA2.read hN hf
              clear hA2 hN hf
              go_wp2_with fail
              refine (rnum_num hs 3 _ hA3.rd).mono ?_
              rintro e v4 ⟨rfl, hN, hf⟩
              have hA4 := hA3.read hN hf
              clear hA3 hN hf
              go_wp2_with fail
              refine (rnum_num hs 4 _ hA4.rd).mono ?_
              rintro e v5 ⟨rfl, hN, hf⟩
              have hA5 := hA4.read hN hf
              clear hA4 hN hf
              have ce : v5.cell? ⟨r, 2, none⟩ = some (.int .i64 (((num (bl s) ak 5).2.2 : Nat) : Int)) := Blk.cell (t := 93) hA5.rd 2
              by_cases he5 : (num (bl s) ak 5).2.2 = 0
              · rw [he5] at ce
                have l0 : v5.cell? ⟨xw, 0, none⟩ = some (.int .i64 (st2 + ((num (bl s) ak 0).1 : Nat))) := hA5.win.cell 0
                have l1 : v5.cell? ⟨xw, 1, none⟩ = some (.int .i64 ct2) := hA5.win.cell 1
                have l2 : v5.cell? ⟨xw, 2, none⟩ = some (.int .u64 (sm2 : Int)) := hA5.win.cell 2
                have l3 : v5.cell? ⟨xw, 3, none⟩ = some (.int .u64 (mn2 : Int)) := hA5.win.cell 3
                have l4 : v5.cell? ⟨xw, 4, none⟩ = some (.int .u64 (mx2 : Int)) := hA5.win.cell 4
                have l5 : v5.cell? ⟨xw, 5, none⟩ = some (.int .u64 (la2 : Int)) := hA5.win.cell 5
                have f0 := hA5.win.frozen 0
                have f1 := hA5.win.frozen 1
                have f2 := hA5.win.frozen 2
                have f3 := hA5.win.frozen 3
                have f4 := hA5.win.frozen 4
                have f5 := hA5.win.frozen 5
                have he := her2 he5 hfar
                clear her5 her1 her2
                by_cases hmn : (num (bl s) ak 1).1 ≤ 4611686018427387904
                · have hm : (min (num (bl s) ak 1).1 4611686018427387905 : Nat) = (num (bl s) ak 1).1 := by omega
                  rw [hm] at he
                  have hdn := Hdn.out
                  rw [hm] at hdn
                  clear hm Hdn
                  have Hdn := hide hdn
                  clear hdn
                  go_upto_region 29 with (fail)
                  have hW := ((((((hA5.put 2 _ (put2 _ sm2 (num (bl s) ak 2).1 hyo.1.sm num_lt)).put 3 _ (put3 _ mn2 (num (bl s) ak 3).1 hyo.1.mn num_lt)).put 4 _ (put4 _ mx2 (num (bl s) ak 4).1 hyo.1.mx num_lt)).put 5 _ (put5 _ la2 (num (bl s) ak 5).1 hyo.1.la num_lt)).put 1 _ (put1 _ 0)).put 1 _ (put1 _ ((num (bl s) ak 1).1 : Nat)))
                  simp only at hW
                  clear l0 l1 l2 l3 l4 l5 f0 f1 f2 f3 f4 f5 ce
                  generalize ((((((v5.setCell ⟨xw, 2, none⟩ (.int .u64 (bits BinOp.xor IntKind.u64 (sm2 : Int) (((num (bl s) ak 2).1 : Nat) : Int)))).setCell ⟨xw, 3, none⟩ (.int .u64 (bits BinOp.xor IntKind.u64 (mn2 : Int) (((num (bl s) ak 3).1 : Nat) : Int)))).setCell ⟨xw, 4, none⟩ (.int .u64 (bits BinOp.xor IntKind.u64 (mx2 : Int) (((num (bl s) ak 4).1 : Nat) : Int)))).setCell ⟨xw, 5, none⟩ (.int .u64 (bits BinOp.xor IntKind.u64 (la2 : Int) (((num (bl s) ak 5).1 : Nat) : Int)))).setCell ⟨xw, 1, none⟩ (.int .i64 0)).setCell ⟨xw, 1, none⟩ (.int .i64 (((num (bl s) ak 1).1 : Nat) : Int))) = v6 at hW ⊢
                  have x0 : v6.cell? ⟨xw, 0, none⟩ = some (.int .i64 (st2 + ((num (bl s) ak 0).1 : Nat))) := hW.win.cell 0
                  have x1 : v6.cell? ⟨xw, 1, none⟩ = some (.int .i64 (((num (bl s) ak 1).1 : Nat))) := hW.win.cell 1
                  have x2 : v6.cell? ⟨xw, 2, none⟩ = some (.int .u64 ((sm2 ^^^ (num (bl s) ak 2).1 : Nat) : Int)) := hW.win.cell 2
                  have x3 : v6.cell? ⟨xw, 3, none⟩ = some (.int .u64 ((mn2 ^^^ (num (bl s) ak 3).1 : Nat) : Int)) := hW.win.cell 3
                  have x4 : v6.cell? ⟨xw, 4, none⟩ = some (.int .u64 ((mx2 ^^^ (num (bl s) ak 4).1 : Nat) : Int)) := hW.win.cell 4
                  have x5 : v6.cell? ⟨xw, 5, none⟩ = some (.int .u64 ((la2 ^^^ (num (bl s) ak 5).1 : Nat) : Int)) := hW.win.cell 5
                  obtain ⟨v9, w9, hr9, R9, hf9, hg9⟩ := append_win (ty := 55) Try.underlying55 winfor _ (hW.row.congr (fun i hi => (putW_low (dwin (bl s) a) k ⟨st2 + ((num (bl s) ak 0).1 : Nat), ((num (bl s) ak 1).1 : Nat), sm2 ^^^ (num (bl s) ak 2).1, mn2 ^^^ (num (bl s) ak 3).1, mx2 ^^^ (num (bl s) ak 4).1, la2 ^^^ (num (bl s) ak 5).1⟩ i hi).symm)) ⟨st2 + ((num (bl s) ak 0).1 : Nat), ((num (bl s) ak 1).1 : Nat), sm2 ^^^ (num (bl s) ak 2).1, mn2 ^^^ (num (bl s) ak 3).1, mx2 ^^^ (num (bl s) ak 4).1, la2 ^^^ (num (bl s) ak 5).1⟩ (putW_at _ _ _) hkM
                  simp only [Win.arr] at hr9
                  obtain ⟨A9, c9, rfl⟩ := R9.shape
                  have nr9 := hW.rd.ne_row hW.row
                  have RD9 : RdrAt w9 r s (num (bl s) ak 5).2.1 (num (bl s) ak 5).2.2 := Blk.frm (t := 93) hW.rd hf9 (not_row nr9)
                  have F9 := hW.frm.trans hf9 hW.fv.row
                  have fv9 := hW.fv.grew hg9 hW.frm.size
                  rw [he5] at RD9
                  have hfa := fault_any A9 (k + 1) c9 (putW (dwin (bl s) a) k ⟨st2 + ((num (bl s) ak 0).1 : Nat), ((num (bl s) ak 1).1 : Nat), sm2 ^^^ (num (bl s) ak 2).1, mn2 ^^^ (num (bl s) ak 3).1, mx2 ^^^ (num (bl s) ak 4).1, la2 ^^^ (num (bl s) ak 5).1⟩) k (by omega) hkM w9 R9.cellsAt
                  have hft : faultAt (putW (dwin (bl s) a) k ⟨st2 + ((num (bl s) ak 0).1 : Nat), ((num (bl s) ak 1).1 : Nat), sm2 ^^^ (num (bl s) ak 2).1, mn2 ^^^ (num (bl s) ak 3).1, mx2 ^^^ (num (bl s) ak 4).1, la2 ^^^ (num (bl s) ak 5).1⟩) k = winFault ⟨st2 + ((num (bl s) ak 0).1 : Nat), ((num (bl s) ak 1).1 : Nat), sm2 ^^^ (num (bl s) ak 2).1, mn2 ^^^ (num (bl s) ak 3).1, mx2 ^^^ (num (bl s) ak 4).1, la2 ^^^ (num (bl s) ak 5).1⟩ ⟨st2, ct2, sm2, mn2, mx2, la2⟩ (decide (k = 0)) := by unfold faultAt; rw [putW_at, ahd_putW, Hah.out]
                  rw [hft] at hfa
                  generalize hwf : winFault ⟨st2 + ((num (bl s) ak 0).1 : Nat), ((num (bl s) ak 1).1 : Nat), sm2 ^^^ (num (bl s) ak 2).1, mn2 ^^^ (num (bl s) ak 3).1, mx2 ^^^ (num (bl s) ak 4).1, la2 ^^^ (num (bl s) ak 5).1⟩ ⟨st2, ct2, sm2, mn2, mx2, la2⟩ (decide (k = 0)) = er at he hfa
                  have Hwf := hide hwf
                  have He := hide he
                  have Hr9 := hide hr9
                  have HB := hide (And.intro hfa (And.intro R9 (And.intro RD9 (And.intro F9 fv9))))
                  clear hwf he hr9 hft hW hfa R9 RD9 F9 fv9 hf9 hg9 nr9
                  go_wp2_with (at_builtin; refine wp_append_known rfl (.tmp 101) (.tmp 103) 55 55 rfl rfl rfl Hr9.out ?_)
                  obtain ⟨hfa, R9, RD9, F9, fv9⟩ := HB.out
                  refine hfa.mono ?_
                  rintro e w10 ⟨rfl, hf10⟩
                  have RD10 : RdrAt w10 r s (num (bl s) ak 5).2.1 0 := Blk.frm (t := 93) RD9 hf10 (by simp)
                  have z2 := Blk.frozen (t := 93) RD10 2
                  have z3 : w10.cell? ⟨r, 2, none⟩ = some (.int .i64 0) := Blk.cell (t := 93) RD10 2
                  have RB := Blk.set_ (t := 93) RD10 2 (.int .i64 er)
                  have R10 := R9.quiet hf10
                  have nr10 := RD10.ne_row R10
                  have FE := (F9.trans hf10 (by simp)).setCell (p := ⟨r, 2, none⟩) (.inr hr0) (.int .i64 er)
                  have RW := ownsRow_setCell_other R10 (a := ⟨r, 2, none⟩) nr10 (.int .i64 er)
                  clear hfa x0 x1 x2 x3 x4 x5
                  go_wp2_with fail
                  refine ⟨?_, by simp [lenV]; omega⟩
                  by_cases h0 : er = 0
                  · subst h0
                    refine .inl ⟨k + 1, by omega, ⟨hal, Hr.out⟩, He.out, ?_⟩
                    rw [Hdn.out.1]
                    refine ⟨by have hb := RB; simp at hb; exact hb, WRow.congr RW (fun i hi => ?_), hr0, fv9, FE⟩
                    by_cases hik : i = k
                    · subst hik
                      rw [putW_at, ← Hdn.out.2]
                      rfl
                    · exact putW_low _ _ _ _ (by omega)
                  · refine .inr ⟨A9, k + 1, c9, (num (bl s) ak 5).2.1, er, rfl, by omega, h0, Hfin.out _ He.out h0, ?_, FE⟩
                    simpa using RB
                · rw [← winFault_ct _ _ _ _ _ _ _ _ (by omega)] at he
                  go_upto_region 29 with (fail)
                  have hW := (((((hA5.put 2 _ (put2 _ sm2 (num (bl s) ak 2).1 hyo.1.sm num_lt)).put 3 _ (put3 _ mn2 (num (bl s) ak 3).1 hyo.1.mn num_lt)).put 4 _ (put4 _ mx2 (num (bl s) ak 4).1 hyo.1.mx num_lt)).put 5 _ (put5 _ la2 (num (bl s) ak 5).1 hyo.1.la num_lt)).put 1 _ (put1 _ 0))
                  simp only at hW
                  clear l0 l1 l2 l3 l4 l5 f0 f1 f2 f3 f4 f5 ce
                  generalize (((((v5.setCell ⟨xw, 2, none⟩ (.int .u64 (bits BinOp.xor IntKind.u64 (sm2 : Int) (((num (bl s) ak 2).1 : Nat) : Int)))).setCell ⟨xw, 3, none⟩ (.int .u64 (bits BinOp.xor IntKind.u64 (mn2 : Int) (((num (bl s) ak 3).1 : Nat) : Int)))).setCell ⟨xw, 4, none⟩ (.int .u64 (bits BinOp.xor IntKind.u64 (mx2 : Int) (((num (bl s) ak 4).1 : Nat) : Int)))).setCell ⟨xw, 5, none⟩ (.int .u64 (bits BinOp.xor IntKind.u64 (la2 : Int) (((num (bl s) ak 5).1 : Nat) : Int)))).setCell ⟨xw, 1, none⟩ (.int .i64 0)) = v6 at hW ⊢
                  have x0 : v6.cell? ⟨xw, 0, none⟩ = some (.int .i64 (st2 + ((num (bl s) ak 0).1 : Nat))) := hW.win.cell 0
                  have x1 : v6.cell? ⟨xw, 1, none⟩ = some (.int .i64 (0)) := hW.win.cell 1
                  have x2 : v6.cell? ⟨xw, 2, none⟩ = some (.int .u64 ((sm2 ^^^ (num (bl s) ak 2).1 : Nat) : Int)) := hW.win.cell 2
                  have x3 : v6.cell? ⟨xw, 3, none⟩ = some (.int .u64 ((mn2 ^^^ (num (bl s) ak 3).1 : Nat) : Int)) := hW.win.cell 3
                  have x4 : v6.cell? ⟨xw, 4, none⟩ = some (.int .u64 ((mx2 ^^^ (num (bl s) ak 4).1 : Nat) : Int)) := hW.win.cell 4
                  have x5 : v6.cell? ⟨xw, 5, none⟩ = some (.int .u64 ((la2 ^^^ (num (bl s) ak 5).1 : Nat) : Int)) := hW.win.cell 5
                  obtain ⟨v9, w9, hr9, R9, hf9, hg9⟩ := append_win (ty := 55) Try.underlying55 winfor _ (hW.row.congr (fun i hi => (putW_low (dwin (bl s) a) k ⟨st2 + ((num (bl s) ak 0).1 : Nat), 0, sm2 ^^^ (num (bl s) ak 2).1, mn2 ^^^ (num (bl s) ak 3).1, mx2 ^^^ (num (bl s) ak 4).1, la2 ^^^ (num (bl s) ak 5).1⟩ i hi).symm)) ⟨st2 + ((num (bl s) ak 0).1 : Nat), 0, sm2 ^^^ (num (bl s) ak 2).1, mn2 ^^^ (num (bl s) ak 3).1, mx2 ^^^ (num (bl s) ak 4).1, la2 ^^^ (num (bl s) ak 5).1⟩ (putW_at _ _ _) hkM
                  simp only [Win.arr] at hr9
                  obtain ⟨A9, c9, rfl⟩ := R9.shape
                  have nr9 := hW.rd.ne_row hW.row
                  have RD9 : RdrAt w9 r s (num (bl s) ak 5).2.1 (num (bl s) ak 5).2.2 := Blk.frm (t := 93) hW.rd hf9 (not_row nr9)
                  have F9 := hW.frm.trans hf9 hW.fv.row
                  have fv9 := hW.fv.grew hg9 hW.frm.size
                  rw [he5] at RD9
                  have hfa := fault_any A9 (k + 1) c9 (putW (dwin (bl s) a) k ⟨st2 + ((num (bl s) ak 0).1 : Nat), 0, sm2 ^^^ (num (bl s) ak 2).1, mn2 ^^^ (num (bl s) ak 3).1, mx2 ^^^ (num (bl s) ak 4).1, la2 ^^^ (num (bl s) ak 5).1⟩) k (by omega) hkM w9 R9.cellsAt
                  have hft : faultAt (putW (dwin (bl s) a) k ⟨st2 + ((num (bl s) ak 0).1 : Nat), 0, sm2 ^^^ (num (bl s) ak 2).1, mn2 ^^^ (num (bl s) ak 3).1, mx2 ^^^ (num (bl s) ak 4).1, la2 ^^^ (num (bl s) ak 5).1⟩) k = winFault ⟨st2 + ((num (bl s) ak 0).1 : Nat), 0, sm2 ^^^ (num (bl s) ak 2).1, mn2 ^^^ (num (bl s) ak 3).1, mx2 ^^^ (num (bl s) ak 4).1, la2 ^^^ (num (bl s) ak 5).1⟩ ⟨st2, ct2, sm2, mn2, mx2, la2⟩ (decide (k = 0)) := by unfold faultAt; rw [putW_at, ahd_putW, Hah.out]
                  rw [hft] at hfa
                  generalize hwf : winFault ⟨st2 + ((num (bl s) ak 0).1 : Nat), 0, sm2 ^^^ (num (bl s) ak 2).1, mn2 ^^^ (num (bl s) ak 3).1, mx2 ^^^ (num (bl s) ak 4).1, la2 ^^^ (num (bl s) ak 5).1⟩ ⟨st2, ct2, sm2, mn2, mx2, la2⟩ (decide (k = 0)) = er at he hfa
                  have Hwf := hide hwf
                  have He := hide he
                  have Hr9 := hide hr9
                  have HB := hide (And.intro hfa (And.intro R9 (And.intro RD9 (And.intro F9 fv9))))
                  clear hwf he hr9 hft hW hfa R9 RD9 F9 fv9 hf9 hg9 nr9
                  go_wp2_with (at_builtin; refine wp_append_known rfl (.tmp 101) (.tmp 103) 55 55 rfl rfl rfl Hr9.out ?_)
                  obtain ⟨hfa, R9, RD9, F9, fv9⟩ := HB.out
                  refine hfa.mono ?_
                  rintro e w10 ⟨rfl, hf10⟩
                  have RD10 : RdrAt w10 r s (num (bl s) ak 5).2.1 0 := Blk.frm (t := 93) RD9 hf10 (by simp)
                  have z2 := Blk.frozen (t := 93) RD10 2
                  have z3 : w10.cell? ⟨r, 2, none⟩ = some (.int .i64 0) := Blk.cell (t := 93) RD10 2
                  have RB := Blk.set_ (t := 93) RD10 2 (.int .i64 er)
                  have R10 := R9.quiet hf10
                  have nr10 := RD10.ne_row R10
                  have FE := (F9.trans hf10 (by simp)).setCell (p := ⟨r, 2, none⟩) (.inr hr0) (.int .i64 er)
                  have RW := ownsRow_setCell_other R10 (a := ⟨r, 2, none⟩) nr10 (.int .i64 er)
                  clear hfa x0 x1 x2 x3 x4 x5
                  go_wp2_with fail
                  refine ⟨?_, by simp [lenV]; omega⟩
                  by_cases h0 : er = 0
                  · subst h0
                    refine .inl ⟨k + 1, by omega, ⟨hal, Hr.out⟩, He.out, ?_⟩
                    rw [Hdn.out.1]
                    exact absurd (winFault_zero Hwf.out).2.2.2.1 (by simp)
                  · refine .inr ⟨A9, k + 1, c9, (num (bl s) ak 5).2.1, er, rfl, by omega, h0, Hfin.out _ He.out h0, ?_, FE⟩
                    simpa using RB
              · have He := hide (her5 he5)
                clear her5 her1 her2
                have hz : ((((num (bl s) ak 5).2.2 : Nat) : Int) != 0) = true := by rw [bne_iff_ne]; omega
                go_wp2_with fail
                go_quiet (fail)
                go_wp2
                go_ret2
                exact tellR_fault rfl (Hfin.out _ He.out (by omega)) (by omega) (hA5.frm.drewN _)
        · obtain rfl : k = n := by omega
          have hat := dst_at (a := a) (s := bl s) (by rw [bl_length]; exact hal) her.out
          have hde := derr_end' Hr.out her.out
          rw [bl_length] at hde hat
          have Hde := hide hde
          clear hde
          generalize hak : (dst (bl s) a k).at_ = ak at hS Hde e1 hat
          have Hak := hide hak
          clear hak
          by_cases hend : ak < s.size
          · have Hd0 := hide (show derr (bl s) = 21 by rw [Hde.out, if_pos (by omega)])
            go_wp2_with fail
            go_ret2
            exact tellR_fault rfl Hd0.out (by decide) hS.frm
          · have Hd0 := hide (show derr (bl s) = 0 by rw [Hde.out, if_neg (by omega)])
            go_wp2_with fail
            go_ret2
            refine ⟨.slice A1 k c1, by rw [Hd0.out]; rfl, ?_, hS.fv, hS.frm⟩
            rw [if_pos Hd0.out, Hr.out]
            exact hS.row
      · have e2 : wr.cell? ⟨r, 2, none⟩ = some (.int .i64 e) := hB.cell 2
        have z1 : (e == 0) = false := by rw [beq_eq_false_iff_ne]; exact he0
        have z2 : (e != 0) = true := by rw [bne_iff_ne]; exact he0
        have Hde := hide hde
        have He0 := hide he0
        clear hde he0
        by_cases hmn : m < n
        · go_wp2_with fail
          go_quiet (fail)
          go_wp2
          go_ret2
          exact tellR_fault rfl Hde.out He0.out (hFr.drewN _)
        · go_wp2_with fail
          go_quiet (fail)
          go_wp2
          go_ret2
          exact tellR_fault rfl Hde.out He0.out (hFr.drewN _)

end Go.Proofs.Ytceidhjgdgnplaa
