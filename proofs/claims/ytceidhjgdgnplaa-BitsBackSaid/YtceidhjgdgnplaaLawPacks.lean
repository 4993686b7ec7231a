/-
  BitsPacks' walk: whatever fields are written, the bytes and the length are the document's behind each of them.
-/
import Derived.Test.YtceidhjgdgnplaaFields
namespace Go.Proofs.Ytceidhjgdgnplaa
open Go.RowKit

/-- The bits of the first k fields. -/
def putAll (V : Nat → Nat) (N : Nat → Int) : Nat → List Bool
  | 0 => []
  | k + 1 => putAll V N k ++ bitsOf (V k) (wid (N k))

theorem wid_le (n : Int) : wid n ≤ 64 := by unfold wid; omega

theorem putAll_length (V : Nat → Nat) (N : Nat → Int) (k : Nat) : (putAll V N k).length ≤ 64 * k := by
  induction k with
  | zero => simp [putAll]
  | succ k ih =>
    have := wid_le (N k)
    simp only [putAll, List.length_append, bitsOf_length]; omega

/-- A writer in block g with the bits l and a row of bits m, apart from one another, both new since w. -/
structure Two (w wr : World) (g : Nat) (v lv : Value) (l m : List Bool) : Prop where
  wrt : WriterAt wr g 26 [] v l
  row : BitRow wr lv m
  g0 : w.heap.size ≤ g
  d1 : lv.ownBlock ≠ some g
  d2 : ∀ b, lv.ownBlock = some b → v.ownBlock ≠ some b
  fv : Fresh w.heap.size v
  fl : Fresh w.heap.size lv
  frm : Frm [] w wr

theorem not_foot {g x : Nat} {v : Value} (h1 : x ≠ g) (h2 : v.ownBlock ≠ some x) : x ∉ g :: v.ownBlock.toList := by
  intro h
  rcases List.mem_cons.1 h with h | h
  · exact h1 h
  · exact h2 (by simpa using h)
theorem not_row {x : Nat} {v : Value} (h2 : v.ownBlock ≠ some x) : x ∉ v.ownBlock.toList := fun h => h2 (by simpa using h)

section
variable {w wr w1 : World} {g : Nat} {v lv v1 lv1 : Value} {l m l1 m1 : List Bool}
theorem Two.quiet (h : Two w wr g v lv l m) (hf : Frm [] wr w1) : Two w w1 g v lv l m :=
  ⟨⟨h.wrt.blk.frm hf (by simp), own_frm h.wrt.own hf (by simp)⟩, own_frm h.row hf (by simp), h.g0, h.d1, h.d2, h.fv, h.fl, h.frm.trans hf (by simp)⟩
theorem Two.put (h : Two w wr g v lv l m) (hw : WriterAt w1 g 26 [] v1 l1) (hf : Frm (g :: v.ownBlock.toList) wr w1) (hg : Grew wr v v1) : Two w w1 g v1 lv l1 m := by
  have hrow := h.row
  refine ⟨hw, own_frm h.row hf (fun k hk => not_foot (fun e => h.d1 (e ▸ hk)) (h.d2 k hk)), h.g0, h.d1, fun b hb => ?_, h.fv.grew hg h.frm.size, h.fl, h.frm.trans hf (h.fv.foot h.g0)⟩
  rcases hg with hg | ⟨k, hk, hks⟩
  · rw [hg]; exact h.d2 b hb
  · rw [hk]
    intro e
    have : b < wr.heap.size := own_lt (show wr.ownsRow 0 5 1 lv m.length (u8s (b2n m)) from hrow) hb
    have : k = b := by simpa using e
    omega
theorem Two.list (h : Two w wr g v lv l m) (hw : BitRow w1 lv1 m1) (hf : Frm lv.ownBlock.toList wr w1) (hg : Grew wr lv lv1) : Two w w1 g v lv1 l m1 := by
  refine ⟨⟨h.wrt.blk.frm hf (not_row h.d1), own_frm h.wrt.own hf (fun k hk => not_row (fun e => h.d2 k e hk))⟩, hw, h.g0, ?_, fun b hb => ?_, h.fv, h.fl.grew hg h.frm.size, h.frm.trans hf h.fl.row⟩
  · rcases hg with hg | ⟨k, hk, hks⟩
    · rw [hg]; exact h.d1
    · rw [hk]
      intro e
      have := h.wrt.blk.lt
      have : k = g := by simpa using e
      omega
  · rcases hg with hg | ⟨k, hk, hks⟩
    · exact h.d2 b (hg ▸ hb)
    · intro e
      have := own_lt h.wrt.own e
      have : k = b := by rw [hk] at hb; simpa using hb
      omega
end

set_option maxRecDepth 100000 in
set_option maxHeartbeats 2000000 in
theorem packs_walk (A : Option Addr) (n cap : Nat) (V : Nat → Nat) (N : Nat → Int) (hn : n ≤ 1099511627776) (w : World) (hc : FieldsAt w A n V N) :
    Calls Try.prog 3 #[.slice A n cap] w fun e w' => e = .returned (.bool true) ∧ Frm [] w w' := by
  go_enter Try.func3, Try.ntmps3
  go_wp2
  go_loopw [4, 11] (fun lv i wr => ∃ (k : Nat) (v : Value), k ≤ n ∧ i = .int .i64 k ∧ Two w wr w.heap.size v lv (putAll V N k) (putAll V N k)) (fun _ i _ => n - (intOf i).toNat)
  case atStart => exact ⟨0, .slice none 0 0, by omega, rfl, ⟨writer_new w _, World.ownsRow_nil _ _ _ _, Nat.le_refl _, by simp [Value.ownBlock], fun b hb => by simp [Value.ownBlock] at hb, Fresh.nil _, Fresh.nil _, (Frm.refl _ _).alloc _⟩⟩
  case round =>
    obtain ⟨k, v, hk, rfl, h2⟩ := hrel
    have hpl := putAll_length V N k
    have hpk := pack_length (putAll V N k)
    by_cases hlt : k < n
    · obtain ⟨b, off, rfl, hb, c0, c1⟩ := cells2 (hc.1.frm h2.frm) hlt
      simp only [↓reduceIte, Nat.one_ne_zero] at c0 c1
      have hVk := (hc.2 k hlt).1
      have hlim : (putAll V N k).length ≤ 1125899906842624 ∧ (pack (putAll V N k)).length + 9 ≤ 140737488355328 := by omega
      have hp1 := putAll_length V N (k + 1)
      have hpa : putAll V N (k + 1) = putAll V N k ++ bitsOf (V k) (wid (N k)) := rfl
      rw [hpa] at hp1
      have Hpa := hide hpa
      clear hpk hpa
      have h3 := h2.quiet ((Frm.refl _ _).alloc (.cells #[.int .u64 ((V k : Nat) : Int), .int .i64 (N k)] 29))
      have hbx := Blk.new wr 29 #[.int .u64 ((V k : Nat) : Int), .int .i64 (N k)]
      go_wp2_with fail
      refine (put_any _ _ _ _ _ (V k) (N k) hVk (by decide) hlim.1 hlim.2 _ h3.wrt).mono ?_
      rintro e w1 ⟨rfl, v1, hwr1, hf1, hg1⟩
      have hn1 : wr.heap.size ∉ w.heap.size :: v.ownBlock.toList := not_foot (by have := h2.wrt.blk.lt; omega) (fun e => by have := own_lt h2.wrt.own e; omega)
      have hbx1 := hbx.frm hf1 hn1
      have h4 := h3.put hwr1 hf1 hg1
      have d0 : w1.cell? ⟨wr.heap.size, 0, none⟩ = some (.int .u64 ((V k : Nat) : Int)) := hbx1.cell 0
      have d1 : w1.cell? ⟨wr.heap.size, 1, none⟩ = some (.int .i64 (N k)) := hbx1.cell 1
      go_wp2_with fail
      refine (rput_any _ _ (V k) (N k) hVk (by omega) _ h4.row).mono ?_
      rintro e w2 ⟨lv2, rfl, hrow2, hf2, hg2⟩
      have h5 := h4.list hrow2 hf2 hg2
      obtain ⟨A2, c2, rfl⟩ := own_shape (show w2.ownsRow 0 5 1 lv2 _ (u8s (b2n (putAll V N k ++ bitsOf (V k) (wid (N k))))) from hrow2)
      clear d0 d1 c0 c1
      rw [← Hpa.out] at h5 hp1 ⊢
      go_wp2_with (first | (go_at_call 15; refine (wlen_any _ h5.wrt).mono ?_; rintro e w' ⟨rfl, rfl⟩) | (go_at_call 16; refine (wbytes_any _ h5.wrt).mono ?_; rintro e w' ⟨rfl, rfl⟩) | (go_at_call 17; refine (rbytes_any _ _ (by omega) _ h5.row).mono ?_; rintro e w3 ⟨rfl, hf3⟩))
      go_roundw
      case measure => simp [intOf]; omega
      case rel => exact ⟨k + 1, v1, by omega, by go_num, h5.quiet hf3⟩
    · go_wp2_with (go_at_call 18; refine (waka_any _).mono ?_; rintro e w1 ⟨rfl, hf1⟩)
      go_ret
      exact ⟨rfl, h2.frm.trans hf1 (by simp)⟩

end Go.Proofs.Ytceidhjgdgnplaa
