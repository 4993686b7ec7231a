/-
  EncSums' walk: the sum of parts is that of the whole, and it is the remainder that the document defines.
-/
import Derived.Test.YtceidhjgdgnplaaDoorWakb
import Derived.Test.YtceidhjgdgnplaaDoorStrs
import Derived.Deep.Upon
namespace Go.Proofs.YtceidhjgdgnplaaDoor
set_option linter.unusedVariables false
set_option linter.unusedSimpArgs false
open Go.RowKit

/-- The whole behind the first k parts. -/
def wholeOf (f : Nat → ByteArray) : Nat → ByteArray
  | 0 => { data := #[] }
  | k + 1 => if (wholeOf f k).size < 65536 then wholeOf f k ++ f k else wholeOf f k

theorem wholeOf_size (f : Nat → ByteArray) (n : Nat) (hf : ∀ i, i < n → (f i).size ≤ 140737488351232) (k : Nat) (hk : k ≤ n) : (wholeOf f k).size ≤ 140737488416768 := by
  induction k with
  | zero => exact (by decide : (0 : Nat) ≤ 140737488416768)
  | succ k ih =>
    have h1 := hf k (by omega)
    have h2 := ih (by omega)
    simp only [wholeOf]
    split
    · rw [ByteArray.size_append]; omega
    · exact h2

theorem wholeOf_crc (f : Nat → ByteArray) (k : Nat) (h : (wholeOf f k).size < 65536) : crcParts f k = crcList 4294967295 (bl (wholeOf f k)) := by
  induction k with
  | zero => rfl
  | succ k ih =>
    simp only [wholeOf] at h ⊢
    by_cases h1 : (wholeOf f k).size < 65536
    · rw [if_pos h1, bl_append, crcList_append, ← ih h1]
      rfl
    · rw [if_neg h1] at h
      exact absurd h h1

/-- append of a slice onto the nil slice, the operation guarded by a test that is decided. -/
theorem wp_append_copy {P : Program} {ops : Array Oper} {rest : List Oper} {o : Oper} {a : Act} {Q : Exit → Act → World → Prop} {w : World} (hw : Region.wanted o (yielded ops a.tmps) = true) (s x : Operand) (t e : TypeId)
    (ho : o.op = .call { callee := .builtin .append, args := #[s, x], argTypes := #[t, t] })
    {i : TypeInfo} {z : Value} (ht : P.underlying t = some (.slice e)) (hi : P.info? e = some i) (hz : i.zero = some z)
    (hsize : i.size = 1) (hs : a.eval s = .slice none 0 0) (A : Option Addr) (n c : Nat) (f : Nat → Value) (hc : CellsAt w A n 1 (fun i _ => f i)) (hx : a.eval x = .slice A n c)
    (h63 : (n : Int) ≤ 9223372036854775807) (hbytes : n * i.bytes ≤ 281474976710656)
    (h : ∀ (A' : Option Addr) (c' : Nat) (w' : World), CellsAt w' A' n 1 (fun i _ => f i) → Frm [] w w' → wpList P ops Q rest (a.put o.dst (.slice A' n c')) w') :
    wpList P ops Q (o :: rest) a w := by
  refine wpList_step fun K hK => ?_
  rw [if_pos hw]
  by_cases hn : n = 0
  · subst hn
    have hsrc : Src P i.size t (.slice A 0 c) 0 [] w := by
      cases A with
      | none => exact Src.ofNil w ht c
      | some ad => exact Src.ofSlice w ht ad 0 c [] (by simp) (fun j u h => by simp at h) (fun u h => by cases h)
    have hr := run_append_nothing (P := P) w t t o.type e i ht hi none 0 0 (Nat.le_refl _) (.slice A 0 c) hsrc
    unfold Oper.wp execOp
    simp only [ho, resolve, invoke, builtin, Sem.run_bind, Sem.run_pure, Result.andThen_ok, List.map_toArray, List.map_cons, List.map_nil, hs, hx, hr]
    exact hK _ _ (h _ _ _ (fun h => absurd h (by omega)) (Frm.refl _ _))
  · obtain ⟨b, off, rfl, hb, hcell⟩ := hc (by omega)
    have hnews : ∀ j u, ((List.range n).map f)[j]? = some u → w.cell? ((⟨b, off, none⟩ : Addr).add j) = some u := by
      intro j u hj
      have hjn : j < n := by
        have := (List.getElem?_eq_some_iff.1 hj).1
        simpa using this
      have h0 := hcell j 0 hjn (by decide)
      rw [add_plain']
      have hu : f j = u := by simpa [hjn] using hj
      rw [← hu]
      simpa using h0
    have hr := run_append_nil (P := P) w t o.type e i z ht hi hz ⟨b, off, none⟩ n c ((List.range n).map f) (by simp [hsize]) hnews (by omega) h63 hbytes
    unfold Oper.wp execOp
    simp only [ho, resolve, invoke, builtin, Sem.run_bind, Sem.run_pure, Result.andThen_ok, List.map_toArray, List.map_cons, List.map_nil, hs, hx, hr]
    refine hK _ _ (h _ _ _ (fun _ => ?_) (((Frm.refl _ _).drew).alloc _))
    refine ⟨w.heap.size, 0, rfl, by simp, fun j k hj hk => ?_⟩
    obtain rfl : k = 0 := by omega
    have hblk := (Blk.new w.drew e (((List.range n).map f).toArray ++ Builtin.zeroCells z.cells (grownCap w n 0 e - n))).cell j
    have e1 : (((List.range n).map f).toArray ++ Builtin.zeroCells z.cells (grownCap w n 0 e - n))[j]? = some (f j) := by
      rw [Array.getElem?_append_left (by simpa using hj)]
      simp [hj]
    rw [e1] at hblk
    simpa using hblk

theorem strInfo : (Tryd.prog.info? 9).map (fun i => (i.zero, i.size, i.bytes)) = some (some (.string { data := #[] }), 1, 16) := by kernel_rfl

set_option maxRecDepth 100000 in
set_option maxHeartbeats 2000000 in
theorem sums_walk (A : Option Addr) (n cap : Nat) (f : Nat → ByteArray) (hn : n * 16 ≤ 140737488351232) (hf : ∀ i, i < n → (f i).size ≤ 140737488351232) (w : World) (hN : NibAt w) (hc : CellsAt w A n 1 (fun i _ => .string (f i))) :
    Calls Tryd.prog 3 #[.slice A n cap] w fun e w' => e = .returned (.bool true) ∧ Frm [] w w' := by
  have hsz := wholeOf_size f n hf
  have Hsz := hide hsz
  clear hsz
  obtain ⟨info, hi0, hinfo⟩ := Option.map_eq_some_iff.1 strInfo
  simp only [Prod.mk.injEq] at hinfo
  obtain ⟨hz0, hz1, hz2⟩ := hinfo
  go_enter Tryd.func3, Tryd.ntmps3
  go_wp2
  go_loop [3, 8] (fun x y => ∃ k : Nat, k ≤ n ∧ y = .int .i64 (k : Int) ∧ x = .string (wholeOf f k)) (fun _ y => n - (intOf y).toNat)
  case atStart => exact ⟨0, by omega, rfl, rfl⟩
  case round =>
    obtain ⟨k, hk, rfl, rfl⟩ := hrel
    have hsk := Hsz.out k hk
    by_cases hlt : k < n
    · obtain ⟨b, off, rfl, hb, c0⟩ := cells1 hc hlt
      have hfk := hf k hlt
      have hst : wholeOf f (k + 1) = if (wholeOf f k).size < 65536 then wholeOf f k ++ f k else wholeOf f k := rfl
      obtain ⟨s, hs⟩ : ∃ s, s = f k := ⟨_, rfl⟩
      rw [← hs] at c0 hfk hst
      clear hs
      generalize wholeOf f k = W at hsk hst ⊢
      by_cases h6 : W.size < 65536
      · rw [if_pos h6] at hst
        have Hst := hide hst
        clear hst
        have hb6 : decide ((W.size : Int) < 65536) = true := by rw [decide_eq_true_eq]; omega
        go_wp2
        go_round
        case measure => simp [intOf]; omega
        case rel => exact ⟨k + 1, by omega, by go_num, by rw [Hst.out]⟩
      · rw [if_neg h6] at hst
        have Hst := hide hst
        clear hst
        have hb6 : decide ((W.size : Int) < 65536) = false := by rw [decide_eq_false_iff_not]; omega
        go_wp2
        go_round
        case measure => simp [intOf]; omega
        case rel => exact ⟨k + 1, by omega, by go_num, by rw [Hst.out]⟩
    · obtain rfl : k = n := by omega
      have hw := wholeOf_crc f k
      obtain ⟨W, hW⟩ : ∃ W, W = wholeOf f k := ⟨_, rfl⟩
      rw [← hW] at hw hsk ⊢
      have Hw := hide hw
      clear hw hW
      by_cases h6 : W.size < 65536
      · have hb6 : decide (65536 ≤ (W.size : Int)) = false := by rw [decide_eq_false_iff_not]; omega
        have hcr := Hw.out h6
        have Hcr := hide hcr
        clear hcr
        go_wp2_with fail
        refine (wakb_any _ hN).mono ?_
        rintro e w1 ⟨rfl, hf1⟩
        go_wp2_with fail
        refine (crc_one w1 W _ (by omega) (hN.frm hf1)).mono ?_
        rintro e w' ⟨rfl, rfl⟩
        go_wp2_with fail
        refine (rcrc_any W (by omega) _).mono ?_
        rintro e w' ⟨rfl, rfl⟩
        have hf3 : Frm [] w (w1.alloc (.cells #[.string W] 9)) := hf1.alloc _
        generalize w1.alloc (.cells #[.string W] 9) = w3 at hf3 ⊢
        have hc3 := hc.frm hf3
        go_wp2_with (at_builtin; refine wp_append_copy rfl (.const (.slice none 0 0)) (.tmp 33) 22 9 rfl Tryd.underlying22 hi0 hz0 hz1 rfl A k cap (fun i => .string (f i)) hc3 rfl (by omega) (by rw [hz2]; omega) ?_; intro A' c' w4 hc4 hf4)
        have hf5 := hf3.trans hf4 (by simp)
        refine (crc_any A' k c' f (fun i hi => by have := hf i hi; omega) (by omega) w4 (hN.frm hf5) hc4).mono ?_
        rintro e w' ⟨rfl, rfl⟩
        go_wp2_with fail
        refine (rcrc_any W (by omega) _).mono ?_
        rintro e w' ⟨rfl, rfl⟩
        rw [Hcr.out, show (crcList 4294967295 (bl W) ^^^ 4294967295 : Nat) = crcOf (bl W) from rfl]
        go_wp2_with fail
        go_ret
        exact ⟨rfl, hf5⟩
      · have hb6 : decide (65536 ≤ (W.size : Int)) = true := by rw [decide_eq_true_eq]; omega
        go_wp2_with fail
        refine (wakb_any _ hN).mono ?_
        rintro e w1 ⟨rfl, hf1⟩
        go_wp2_with fail
        refine (crc_one w1 W _ (by omega) (hN.frm hf1)).mono ?_
        rintro e w' ⟨rfl, rfl⟩
        go_wp2_with fail
        refine (rcrc_any W (by omega) _).mono ?_
        rintro e w' ⟨rfl, rfl⟩
        go_wp2_with fail
        go_ret
        exact ⟨rfl, hf1.alloc _⟩

end Go.Proofs.YtceidhjgdgnplaaDoor
