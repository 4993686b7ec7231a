/-
  BitsReads' walk: whatever bytes are read in whatever pieces, each piece is the document's number.
-/
import Derived.Test.YtceidhjgdgnplaaLawPacks
namespace Go.Proofs.Ytceidhjgdgnplaa
open Go.RowKit

theorem cells1 {w : World} {A : Option Addr} {n : Nat} {f : Nat → Nat → Value} (h : CellsAt w A n 1 f) {i : Nat} (hi : i < n) :
    ∃ b off, A = some ⟨b, off, none⟩ ∧ b < w.heap.size ∧ w.cell? ⟨b, off + i, none⟩ = some (f i 0) := by
  obtain ⟨b, off, hA, hb, hc⟩ := h (by omega)
  exact ⟨b, off, hA, hb, by simpa using hc i 0 hi (by decide)⟩

/-- A reader in block g at the place a, and a row of the bits of its bytes. -/
structure Reads2 (w wr : World) (g : Nat) (s : ByteArray) (a : Nat) (lv : Value) : Prop where
  rd : Blk wr g 70 #[.string s, .int .i64 (a : Int)]
  row : BitRow wr lv (unpack (bl s))
  g0 : w.heap.size ≤ g
  d1 : lv.ownBlock ≠ some g
  frm : Frm [] w wr

section
variable {w wr w1 : World} {g a b : Nat} {s : ByteArray} {lv : Value}
theorem Reads2.quiet (h : Reads2 w wr g s a lv) (hf : Frm [] wr w1) : Reads2 w w1 g s a lv :=
  ⟨h.rd.frm hf (by simp), own_frm h.row hf (by simp), h.g0, h.d1, h.frm.trans hf (by simp)⟩
theorem Reads2.drewN (h : Reads2 w wr g s a lv) (n : Nat) : Reads2 w (wr.drewN n) g s a lv := h.quiet ((Frm.refl _ _).drewN n)
theorem Reads2.take (h : Reads2 w wr g s a lv) (hb : Blk w1 g 70 #[.string s, .int .i64 (b : Int)]) (hf : Frm [g] wr w1) : Reads2 w w1 g s b lv :=
  ⟨hb, own_frm h.row hf (fun k hk => by
    have := h.d1
    simp only [List.mem_singleton]
    rintro rfl
    exact this hk), h.g0, h.d1, h.frm.trans hf (fun x hx => by
    have := h.g0
    right
    have : x = g := by simpa using hx
    omega)⟩
end

theorem rnumber_cut (v : Value) (s : ByteArray) (a n : Nat) (hn : n ≤ 64) (ha : a + n ≤ 8 * s.size) (hl : 8 * s.size ≤ 140737488355328) (w : World) (hw : BitRow w v (unpack (bl s))) :
    Calls Try.prog 24 #[v, .int .i64 (a : Int), .int .i64 (n : Int)] w fun e w' => e = .returned (.int .u64 ((numOf (cut s a n) : Nat) : Int)) ∧ w = w' :=
  rnumber_any v (unpack (bl s)) a n hn (by rw [unpack_length, bl_length]; exact ha) (by rw [unpack_length, bl_length]; exact hl) w hw

set_option maxRecDepth 100000 in
set_option maxHeartbeats 2000000 in
theorem reads_walk (s : ByteArray) (hs : s.size ≤ 1099511627776) (A : Option Addr) (n cap : Nat) (N : Nat → Int) (hn : n ≤ 140737488355328) (w : World) (hc : CellsAt w A n 1 (fun i _ => .int .i64 (N i))) :
    Calls Try.prog 6 #[.string s, .slice A n cap] w fun e w' => e = .returned (.bool true) ∧ Frm [] w w' := by
  go_enter Try.func6, Try.ntmps6
  go_wp2_with fail
  refine (open_any s _).mono ?_
  rintro e w1 ⟨rfl, rfl⟩
  go_wp2_with fail
  refine (waka_any _).mono ?_
  rintro e w2 ⟨rfl, hf2⟩
  go_wp2_with fail
  refine (rlist_any s (by omega) _).mono ?_
  rintro e w3 ⟨lv, rfl, hrow, hfl, hf3⟩
  have hr0 : Reads2 w w3 w.heap.size s 0 lv := by
    have hb := ((Blk.new w 70 #[.string s, .int .i64 0]).frm hf2 (by simp))
    refine ⟨hb.frm hf3 (by simp), hrow, Nat.le_refl _, fun e => ?_, (((Frm.refl [] w).alloc _).trans hf2 (by simp)).trans hf3 (by simp)⟩
    have h1 := hfl _ e
    have h2 := hb.lt
    omega
  have hL := unpack_length (bl s)
  rw [bl_length] at hL
  obtain ⟨A2, c2, rfl⟩ := own_shape (show w3.ownsRow 0 5 1 lv _ (u8s (b2n (unpack (bl s)))) from hrow)
  have hL1 : (unpack (bl s)).length ≤ 8 * s.size := by omega
  have hL2 : 8 * s.size ≤ (unpack (bl s)).length := by omega
  clear hL hrow hfl hf2 hf3
  go_wp2_with fail
  go_loopw [7, 25] (fun av i wr => ∃ j a : Nat, j ≤ n ∧ a ≤ 8 * s.size ∧ i = .int .i64 j ∧ av = .int .i64 a ∧ Reads2 w wr w.heap.size s a (.slice A2 (unpack (bl s)).length c2)) (fun _ i _ => n - (intOf i).toNat)
  case atStart => exact ⟨0, 0, by omega, by omega, rfl, rfl, hr0⟩
  case round =>
    clear hr0
    obtain ⟨j, a, hj, ha, rfl, rfl, h1⟩ := hrel
    by_cases hlt : j < n
    · obtain ⟨b, off, rfl, hb, c0⟩ := cells1 (hc.frm h1.frm) hlt
      obtain ⟨k, hk⟩ : ∃ k, k = wid (N j) := ⟨_, rfl⟩
      have hk64 : k ≤ 64 := hk ▸ wid_le _
      by_cases hfit : a + k ≤ 8 * s.size
      · go_wp2_with fail
        refine (take_any w.heap.size s a (N j) _ h1.rd (by omega) ha (hk ▸ hfit)).mono ?_
        rintro e w4 ⟨rfl, hb4, hf4⟩
        have h2 := h1.take hb4 hf4
        go_wp2_with fail
        refine (rwidth_any (N j) _).mono ?_
        rintro e w' ⟨rfl, rfl⟩
        rw [← hk] at h2 ⊢
        have Hk := hide hk
        clear hk hb4 hf4
        go_wp2_with fail
        refine (rnumber_cut _ s a k hk64 hfit (by omega) _ h2.row).mono ?_
        rintro e w' ⟨rfl, rfl⟩
        have hdec : (((8 * s.size - (a + k) : Nat) : Int) != ((unpack (bl s)).length : Int) - ((a : Int) + (k : Int))) = false := by
          rw [bne_eq_false_iff_eq]; omega
        go_wp2_with fail
        refine (left_any w.heap.size s (a + k) _ h2.rd (by omega) hfit).mono ?_
        rintro e w' ⟨rfl, q, rfl⟩
        go_wp2_with fail
        go_roundw
        case measure => simp [intOf]; omega
        case rel => exact ⟨j + 1, a + k, by omega, hfit, by go_num, by go_num, h2.drewN q⟩
      · go_wp2_with fail
        refine (take_short w.heap.size s a (N j) _ h1.rd (by omega) ha (by omega)).mono ?_
        rintro e w4 ⟨rfl, q, rfl⟩
        have h2 := h1.drewN q
        go_wp2_with fail
        refine (rwidth_any (N j) _).mono ?_
        rintro e w' ⟨rfl, rfl⟩
        rw [← hk]
        have Hk := hide hk
        clear hk
        have hdec : (((8 * s.size - a : Nat) : Int) != ((unpack (bl s)).length : Int) - (a : Int)) = false := by
          rw [bne_eq_false_iff_eq]; omega
        go_wp2_with fail
        refine (left_any w.heap.size s a _ h2.rd (by omega) ha).mono ?_
        rintro e w' ⟨rfl, q2, rfl⟩
        go_wp2_with fail
        go_roundw
        case measure => simp [intOf]; omega
        case rel => exact ⟨j + 1, a, by omega, ha, by go_num, rfl, h1.drewN _⟩
    · go_wp2
      go_ret
      exact ⟨rfl, h1.frm⟩

end Go.Proofs.Ytceidhjgdgnplaa
