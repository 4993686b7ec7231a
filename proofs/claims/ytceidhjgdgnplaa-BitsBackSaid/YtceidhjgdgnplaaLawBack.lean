/-
  BitsBack's walk: what is written is read again, field by field.
-/
import Derived.Test.YtceidhjgdgnplaaBack
namespace Go.Proofs.Ytceidhjgdgnplaa
open Go.RowKit

/-- One writer, new since w. -/
structure OneW (w wr : World) (g : Nat) (v : Value) (l : List Bool) : Prop where
  wrt : WriterAt wr g 26 [] v l
  g0 : w.heap.size ≤ g
  fv : Fresh w.heap.size v
  frm : Frm [] w wr

section
variable {w wr w1 : World} {g : Nat} {v v1 : Value} {l l1 : List Bool}
theorem OneW.quiet (h : OneW w wr g v l) (hf : Frm [] wr w1) : OneW w w1 g v l :=
  ⟨⟨h.wrt.blk.frm hf (by simp), own_frm h.wrt.own hf (by simp)⟩, h.g0, h.fv, h.frm.trans hf (by simp)⟩
theorem OneW.put (h : OneW w wr g v l) (hw : WriterAt w1 g 26 [] v1 l1) (hf : Frm (g :: v.ownBlock.toList) wr w1) (hg : Grew wr v v1) : OneW w w1 g v1 l1 :=
  ⟨hw, h.g0, h.fv.grew hg h.frm.size, h.frm.trans hf (h.fv.foot h.g0)⟩
end

/-- One reader, new since w. -/
structure OneR (w wr : World) (g : Nat) (s : ByteArray) (a : Nat) : Prop where
  rd : Blk wr g 70 #[.string s, .int .i64 (a : Int)]
  g0 : w.heap.size ≤ g
  frm : Frm [] w wr

section
variable {w wr w1 : World} {g a b : Nat} {s : ByteArray}
theorem OneR.quiet (h : OneR w wr g s a) (hf : Frm [] wr w1) : OneR w w1 g s a := ⟨h.rd.frm hf (by simp), h.g0, h.frm.trans hf (by simp)⟩
theorem OneR.take (h : OneR w wr g s a) (hb : Blk w1 g 70 #[.string s, .int .i64 (b : Int)]) (hf : Frm [g] wr w1) : OneR w w1 g s b :=
  ⟨hb, h.g0, h.frm.trans hf (fun x hx => by
    have := h.g0
    right
    have : x = g := by simpa using hx
    omega)⟩
end

theorem want_and (V m : Nat) (hV : V < 18446744073709551616) (hm : m < 64) :
    bits BinOp.and IntKind.u64 (V : Int) (IntKind.u64.wrap (IntKind.u64.wrap (2 ^ m) - 1)) = ((V % 2 ^ m : Nat) : Int) := by
  have h1 : (2 : Nat) ^ m ≤ 2 ^ 63 := Nat.pow_le_pow_right (by decide) (by omega)
  have h2 : (2 : Nat) ^ 63 = 9223372036854775808 := by decide
  have h3 : 0 < (2 : Nat) ^ m := Nat.two_pow_pos m
  have e : ((2 : Int) ^ m) = ((2 ^ m : Nat) : Int) := by simp
  have w1 : IntKind.u64.wrap (IntKind.u64.wrap (2 ^ m) - 1) = ((2 ^ m - 1 : Nat) : Int) := by
    rw [e]
    generalize (2 : Nat) ^ m = M at h1 h3
    rw [IntKind.wrap_u64, IntKind.wrap_u64]; omega
  rw [w1, u64_and_nat V (2 ^ m - 1) hV (by omega), Nat.and_two_pow_sub_one_eq_mod]

set_option maxRecDepth 100000 in
set_option maxHeartbeats 2000000 in
theorem back_walk (A : Option Addr) (n cap : Nat) (V : Nat → Nat) (N : Nat → Int) (hn : n * 16 ≤ 140737488351232) (w : World) (hc : FieldsAt w A n V N) :
    Calls Try.prog 7 #[.slice A n cap] w fun e w' => e = .returned (.bool true) ∧ Frm [] w w' := by
  go_enter Try.func7, Try.ntmps7
  go_wp2
  go_loopw [19] (fun i wr => ∃ (k : Nat) (v : Value), k ≤ n ∧ i = .int .i64 k ∧ OneW w wr w.heap.size v (putAll V N k)) (fun i _ => n - (intOf i).toNat)
  case atStart => exact ⟨0, .slice none 0 0, by omega, rfl, ⟨writer_new w _, Nat.le_refl _, Fresh.nil _, (Frm.refl _ _).alloc _⟩⟩
  case round =>
    obtain ⟨k, v, hk, rfl, h2⟩ := hrel
    have hpl := putAll_length V N k
    have hpk := pack_length (putAll V N k)
    have hlim : (putAll V N k).length ≤ 1125899906842624 ∧ (pack (putAll V N k)).length + 9 ≤ 140737488355328 := by omega
    clear hpk
    by_cases hlt : k < n
    · obtain ⟨b, off, rfl, hb, c0, c1⟩ := cells2 (hc.1.frm h2.frm) hlt
      simp only [↓reduceIte, Nat.one_ne_zero] at c0 c1
      have hVk := (hc.2 k hlt).1
      have h3 := h2.quiet ((Frm.refl _ _).alloc (.cells #[.int .u64 ((V k : Nat) : Int), .int .i64 (N k)] 29))
      go_wp2_with fail
      refine (put_any _ _ _ _ _ (V k) (N k) hVk (by decide) hlim.1 hlim.2 _ h3.wrt).mono ?_
      rintro e w1 ⟨rfl, v1, hwr1, hf1, hg1⟩
      have h4 := h3.put hwr1 hf1 hg1
      go_wp2_with fail
      go_roundw
      case measure => simp [intOf]; omega
      case rel => exact ⟨k + 1, v1, by omega, by go_num, h4⟩
    · obtain rfl : k = n := by omega
      go_wp2_with fail
      refine (wbytes_any _ h2.wrt).mono ?_
      rintro e w' ⟨rfl, rfl⟩
      go_wp2_with fail
      refine (open_any _ _).mono ?_
      rintro e w1 ⟨rfl, rfl⟩
      have hR : OneR w (wr.alloc (.cells #[.string (bstr (pack (putAll V N k))), .int .i64 0] 70)) wr.heap.size (bstr (pack (putAll V N k))) 0 :=
        ⟨Blk.new wr _ _, h2.frm.size, h2.frm.alloc _⟩
      go_wp2_with fail
      refine (waka_any _).mono ?_
      rintro e w2 ⟨rfl, hf2⟩
      have hR2 := hR.quiet hf2
      clear hR h2 hf2
      have hsz := back_size V N k
      obtain ⟨s, hs⟩ : ∃ s, s = bstr (pack (putAll V N k)) := ⟨_, rfl⟩
      rw [← hs] at hR2 hsz ⊢
      have hs1 : s.size ≤ ((putAll V N k).length + 7) / 8 := by omega
      have hs2 : ((putAll V N k).length + 7) / 8 ≤ s.size := by omega
      have Hs := hide hs
      clear hs hsz hlt hlim
      go_wp2_with fail
      go_loopw [41] (fun i wq => ∃ j : Nat, j ≤ k ∧ i = .int .i64 j ∧ OneR w wq wr.heap.size s (putAll V N j).length) (fun i _ => k - (intOf i).toNat)
      case atStart => exact ⟨0, by omega, rfl, hR2⟩
      case round =>
        clear hR2
        obtain ⟨j, hj, rfl, hR⟩ := hrel
        have hmono := putAll_mono V N j k hj
        by_cases hlt : j < k
        · obtain ⟨b, off, rfl, hb, c0, c1⟩ := cells2 (hc.1.frm hR.frm) hlt
          simp only [↓reduceIte, Nat.one_ne_zero] at c0 c1
          have hVk := (hc.2 j hlt).1
          have hmono2 := putAll_mono V N (j + 1) k hlt
          have hval := back_field V N j k hlt
          rw [← Hs.out] at hval
          have hval2 := congrArg numOf hval
          rw [back_value] at hval2
          have hlen : (putAll V N (j + 1)).length = (putAll V N j).length + wid (N j) := by rw [putAll, List.length_append, bitsOf_length]
          have hfit : (putAll V N j).length + wid (N j) ≤ 8 * s.size := by omega
          have Hlen := hide hlen
          have Hval := hide hval2
          clear hval hval2 hlen
          have hR1 := hR.quiet ((Frm.refl _ _).alloc (.cells #[.int .u64 ((V j : Nat) : Int), .int .i64 (N j)] 29))
          have hbx := Blk.new wr 29 #[.int .u64 ((V j : Nat) : Int), .int .i64 (N j)]
          have hgw := hR.rd.lt
          go_wp2_with fail
          refine (take_any _ s _ (N j) _ hR1.rd (by omega) (by omega) hfit).mono ?_
          rintro e w4 ⟨rfl, hb4, hf4⟩
          have hR3 := hR1.take hb4 hf4
          have hbx1 := hbx.frm hf4 (by simp only [List.mem_singleton]; omega)
          have d0 : w4.cell? ⟨wr.heap.size, 0, none⟩ = some (.int .u64 ((V j : Nat) : Int)) := hbx1.cell 0
          have d1 : w4.cell? ⟨wr.heap.size, 1, none⟩ = some (.int .i64 (N j)) := hbx1.cell 1
          rw [Hval.out]
          by_cases h64 : N j < 64
          · obtain ⟨m, hm⟩ : ∃ m, m = wid (N j) := ⟨_, rfl⟩
            have hm64 : m < 64 := by rw [hm]; unfold wid; omega
            have rmax : ∀ (ts : Array TypeId) (t : TypeId) (W : World), (Builtin.max_ ts t #[.int .i64 0, .int .i64 (N j)]).run Try.prog W = .ok (.int .i64 (m : Int)) W := fun ts t W => by
              have : (m : Int) = max 0 (N j) := by rw [hm]; unfold wid; omega
              rw [run_max_int2, this]; congr 2; split <;> omega
            have hdec : (((wantOf (V j) (N j) : Nat) : Int) != bits BinOp.and IntKind.u64 ((V j : Nat) : Int) (IntKind.u64.wrap (IntKind.u64.wrap (2 ^ m) - 1))) = false := by
              rw [bne_eq_false_iff_eq, want_and _ _ hVk hm64, hm]; rfl
            clear hm
            go_wp2_with fail
            go_roundw
            case measure => simp [intOf]; omega
            case rel => exact ⟨j + 1, by omega, by go_num, by rw [Hlen.out]; exact hR3⟩
          · rw [want_wide (V j) (N j) hVk (by omega)]
            go_wp2_with fail
            go_roundw
            case measure => simp [intOf]; omega
            case rel => exact ⟨j + 1, by omega, by go_num, by rw [Hlen.out]; exact hR3⟩
        · obtain rfl : j = k := by omega
          have hfit : (putAll V N j).length ≤ 8 * s.size := by omega
          obtain ⟨m, hm⟩ : ∃ m, m = 8 * s.size - (putAll V N j).length := ⟨_, rfl⟩
          have hm8 : m < 8 := by omega
          have hsz : s.size = ((putAll V N j).length + 7) / 8 := by omega
          have hrest := back_rest V N j m (by omega)
          rw [← Hs.out] at hrest
          have hwm : wid (m : Int) = m := by unfold wid; omega
          have Hrest := hide hrest
          have Hwm := hide hwm
          clear hrest hwm hsz
          go_wp2_with fail
          refine (left_any _ s _ _ hR.rd (by omega) hfit).mono ?_
          rintro e w4 ⟨rfl, q, rfl⟩
          have hR1 := hR.quiet ((Frm.refl _ _).drewN q)
          rw [← hm]
          have Hm := hide hm
          clear hm
          go_wp2_with fail
          refine (take_any _ s _ (m : Int) _ hR1.rd (by omega) hfit (by rw [Hwm.out, Hm.out]; omega)).mono ?_
          rintro e w5 ⟨rfl, hb5, hf5⟩
          have hR2 := hR1.take hb5 hf5
          rw [Hwm.out] at hR2 ⊢
          rw [Hrest.out]
          go_wp2_with fail
          refine (left_any _ s _ _ hR2.rd (by omega) (by rw [Hm.out]; omega)).mono ?_
          rintro e w6 ⟨rfl, q2, rfl⟩
          have hz : 8 * s.size - ((putAll V N j).length + m) = 0 := by rw [Hm.out]; omega
          rw [hz]
          clear hz
          go_wp2_with fail
          go_ret
          exact ⟨rfl, hR2.frm.drewN q2⟩

end Go.Proofs.Ytceidhjgdgnplaa
