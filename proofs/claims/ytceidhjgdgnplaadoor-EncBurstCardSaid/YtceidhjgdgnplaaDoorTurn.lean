/-
  The contract of EncBurst's helper that turns bits.
-/
import Derived.Test.YtceidhjgdgnplaaDoorBurst
import Derived.Test.YtceidhjgdgnplaaDoorQui
import Derived.Test.YtceidhjgdgnplaaDoorArgs
import Derived.Laws.IdiomStrings
namespace Go.Proofs.YtceidhjgdgnplaaDoor
set_option linter.unusedVariables false
set_option linter.unusedSimpArgs false
open Go.RowKit

/-- Block g begins with these bytes, none of them frozen. -/
structure ByteRow (w : World) (g : Nat) (l : List Nat) : Prop where
  lt : g < w.heap.size
  cell : ∀ i, i < l.length → w.cell? ⟨g, i, none⟩ = some (.int .u8 ((l.getD i 0 : Nat) : Int))
  frz : ∀ i, i < l.length → w.frozen? ⟨g, i, none⟩ = false

theorem ByteRow.drew {w : World} {g : Nat} {l : List Nat} (h : ByteRow w g l) : ByteRow w.drew g l := ⟨h.lt, h.cell, h.frz⟩
theorem ByteRow.set {w : World} {g : Nat} {l : List Nat} (h : ByteRow w g l) (j y : Nat) (hj : j < l.length) : ByteRow (w.setCell ⟨g, j, none⟩ (.int .u8 (y : Int))) g (l.set j y) := by
  refine ⟨by simpa [World.setCell] using h.lt, fun i hi => ?_, fun i hi => ?_⟩
  · rw [List.length_set] at hi
    by_cases hij : i = j
    · subst hij
      rw [World.cell?_setCell_same _ _ _ (h.cell i hi)]
      simp [hi]
    · rw [World.cell?_setCell_other _ _ _ _ (fun e => hij (by injection e with _ e2 _; exact e2.symm)), h.cell i hi]
      simp [List.getD_eq_getElem?_getD, List.getElem?_set_ne (Ne.symm hij)]
  · rw [List.length_set] at hi
    rw [World.frozen?_setCell]
    exact h.frz i hi

theorem byteRow_new (w : World) (s : ByteArray) (cap : Nat) (e : TypeId) : ByteRow (w.alloc (.cells (bytesRow s cap) e ((bytesRow s cap).size, (bytesRow s cap).size + 1))) w.heap.size (bl s) := by
  have hget : ∀ i, i < (bl s).length → (bytesRow s cap)[i]? = some (.int .u8 (((bl s).getD i 0 : Nat) : Int)) := by
    intro i hi
    rw [bl_length] at hi
    have hi' : i < s.data.size := hi
    unfold bytesRow
    rw [Array.getElem?_append_left (by simpa using hi'), bl_get s i hi]
    simp only [Array.getElem?_map, Array.getElem?_eq_getElem hi', Option.map_some]
    rfl
  have hblk : (w.alloc (.cells (bytesRow s cap) e ((bytesRow s cap).size, (bytesRow s cap).size + 1))).heap[w.heap.size]? = some (.cells (bytesRow s cap) e ((bytesRow s cap).size, (bytesRow s cap).size + 1)) := heap_alloc_new w _
  refine ⟨by simp, fun i hi => ?_, fun i hi => ?_⟩
  · rw [← hget i hi]
    exact cell_of_row _ _ i _ e _ hblk
  · have hlt := (Array.getElem?_eq_some_iff.1 (hget i hi)).1
    unfold World.frozen?
    rw [show (⟨w.heap.size, i, none⟩ : Addr).block = w.heap.size from rfl, hblk]
    simp only [Bool.and_eq_false_iff, decide_eq_false_iff_not]
    left
    omega

/-- string(b) of such a row. -/
theorem byteRow_string {P : Program} {w : World} {g : Nat} {l : List Nat} (h : ByteRow w g l) (hl : ∀ x ∈ l, x < 256) {src dst e : TypeId} (hs : P.underlying src = some (.slice e)) (he : P.underlying e = some (.int .u8)) (hd : P.underlying dst = some .string) (n cap : Nat) (hn : n = l.length) :
    (convert src dst (.slice (some ⟨g, 0, none⟩) n cap)).run P w = .ok (.string (bstr l)) w := by
  subst hn
  have := run_convert_bytes_back (P := P) w src dst e ⟨g, 0, none⟩ cap (l.map UInt8.ofNat) hs he hd (fun j hj => by
    have hj' : j < l.length := by simpa using hj
    rw [add_plain', Nat.zero_add, h.cell j hj']
    have := hl _ (List.getElem_mem hj')
    simp [List.getD_eq_getElem?_getD, hj']
    omega)
  rw [List.length_map] at this
  exact this

theorem turn_index (a i : Nat) : a / 8 + (a % 8 + i) / 8 = (a + i) / 8 ∧ (a % 8 + i) % 8 = (a + i) % 8 := by omega

theorem xor_bit (y r : Nat) (hy : y < 256) (hr : r < 8) : bits BinOp.xor IntKind.u8 (y : Int) (2 ^ r % 256) = ((y ^^^ 2 ^ r : Nat) : Int) := by
  have h2 : 2 ^ r < 256 := Nat.pow_lt_pow_right (a := 2) (m := r) (n := 8) (by decide) hr
  have e : ((2 : Int) ^ r % 256) = ((2 ^ r : Nat) : Int) := by
    have h3 : ((2 : Int) ^ r) = ((2 ^ r : Nat) : Int) := by simp
    rw [h3]
    generalize 2 ^ r = z at h2 ⊢
    omega
  rw [e, u8_xor_nat _ _ hy h2]

theorem mask_bit (M i : Nat) (hM : M < 4294967296) : bits BinOp.and IntKind.u32 ((M : Int) / 2 ^ i) 1 = ((M / 2 ^ i % 2 : Nat) : Int) := by
  have h : M / 2 ^ i < 4294967296 := Nat.lt_of_le_of_lt (Nat.div_le_self _ _) hM
  rw [show ((M : Int) / 2 ^ i) = ((M / 2 ^ i : Nat) : Int) from by simp, show (1 : Int) = ((1 : Nat) : Int) from rfl, u32_and_nat _ _ h (by decide), nat_mask1]

set_option maxRecDepth 100000 in
set_option maxHeartbeats 4000000 in
theorem turned_any (s : ByteArray) (hs : s.size ≤ 140737488355328) (a : Nat) (ha : a ≤ 1152921504606846976) (M : Nat) (hM : M < 4294967296) (w : World) :
    Calls Tryd.prog 43 #[.string s, .int .i64 (a : Int), .int .u32 (M : Int)] w fun e w' => e = .returned (.tuple #[.string (bstr (turnL (bl s) a M 32).1), .bool (turnL (bl s) a M 32).2]) ∧ Frm [] w w' := by
  have hbl := bl_length s
  have hconv := fun W => run_bytes_of_string (P := Tryd.prog) W 9 73 5 s Tryd.underlying9 Tryd.underlying73 Tryd.underlying5
  have hrow := (byteRow_new w s (grownCap w s.size 0 5) 5).drew
  have hf0 : Frm [] w (w.alloc (.cells (bytesRow s (grownCap w s.size 0 5)) 5 ((bytesRow s (grownCap w s.size 0 5)).size, (bytesRow s (grownCap w s.size 0 5)).size + 1))).drew := ((Frm.refl _ _).alloc _).drew
  go_enter Tryd.func43, Tryd.ntmps43
  go_wp2_with fail
  generalize (w.alloc (.cells (bytesRow s (grownCap w s.size 0 5)) 5 ((bytesRow s (grownCap w s.size 0 5)).size, (bytesRow s (grownCap w s.size 0 5)).size + 1))).drew = w0 at hrow hf0 ⊢
  generalize grownCap w s.size 0 5 = cap
  obtain ⟨g, hg⟩ : ∃ g, g = w.heap.size := ⟨_, rfl⟩
  rw [← hg] at hrow ⊢
  have hgw : w.heap.size ≤ g := by omega
  clear hg
  clear hconv
  go_loopw [9, 13] (fun x y wr => ∃ i : Nat, i ≤ 32 ∧ y = .int .i64 (i : Int) ∧ x = .bool (turnL (bl s) a M i).2 ∧ ByteRow wr g (turnL (bl s) a M i).1 ∧ Frm [] w wr) (fun _ y _ => 32 - (intOf y).toNat)
  case atStart => exact ⟨0, by omega, rfl, rfl, hrow, hf0⟩
  case round =>
    obtain ⟨i, hi, rfl, rfl, hR, hF⟩ := hrel
    obtain ⟨hlen, hl256, _⟩ := turnL_spec (bl s) (bl_lt s) a M i
    rw [hbl] at hlen
    have hst : turnL (bl s) a M (i + 1) = if M / 2 ^ i % 2 = 1 ∧ (a + i) / 8 < (bl s).length then ((turnL (bl s) a M i).1.set ((a + i) / 8) ((turnL (bl s) a M i).1.getD ((a + i) / 8) 0 ^^^ 2 ^ ((a + i) % 8)), true) else turnL (bl s) a M i := rfl
    rw [hbl] at hst
    generalize hR0 : turnL (bl s) a M i = R at hR hlen hst hl256 ⊢
    obtain ⟨l, any⟩ := R
    have HR0 := hide hR0
    clear hR0
    simp only at hR hlen hst hl256 ⊢
    have Hst := hide hst
    clear hst
    by_cases h32 : i < 32
    · have hq : bits BinOp.and IntKind.u32 ((M : Int) / 2 ^ i) 1 = ((M / 2 ^ i % 2 : Nat) : Int) := mask_bit M i hM
      by_cases hb : M / 2 ^ i % 2 = 1
      · rw [hb] at hq
        have hq1 : (bits BinOp.and IntKind.u32 ((M : Int) / 2 ^ i) 1 == 1) = true := by rw [hq]; rfl
        clear hq
        by_cases hin : (a + i) / 8 < s.size
        · have g1 : decide ((a : Int) / 8 < (s.size : Int)) = true := by rw [decide_eq_true_eq]; omega
          have g2 : decide (((a : Int) % 8 + (i : Int)) / 8 < (s.size : Int) - (a : Int) / 8) = true := by rw [decide_eq_true_eq]; omega
          obtain ⟨j, hj⟩ : ∃ j, j = (a + i) / 8 := ⟨_, rfl⟩
          obtain ⟨r, hr⟩ : ∃ r, r = (a + i) % 8 := ⟨_, rfl⟩
          have Hst2 : turnL (bl s) a M (i + 1) = (l.set j (l.getD j 0 ^^^ 2 ^ r), true) := by rw [Hst.out, if_pos ⟨hb, hin⟩, hj, hr]
          have hix : (a : Int) / 8 + ((a : Int) % 8 + (i : Int)) / 8 = (j : Int) := by omega
          have hrx : ((a : Int) % 8 + (i : Int)) % 8 = (r : Int) := by omega
          have hjl : j < l.length := by omega
          have hr8 : r < 8 := by omega
          have hcell := hR.cell j hjl
          have hfz := hR.frz j hjl
          have hset := hR.set j (l.getD j 0 ^^^ 2 ^ r) hjl
          obtain ⟨y, hy⟩ : ∃ y, y = l.getD j 0 := ⟨_, rfl⟩
          rw [← hy] at hcell hset Hst2
          have hjs : j < s.size := by omega
          have hy256 : y < 256 := by
            rw [hy, List.getD_eq_getElem?_getD, List.getElem?_eq_getElem hjl]
            exact hl256 _ (List.getElem_mem hjl)
          have HH := hide Hst2
          clear Hst2 Hst hj hr hb hin hy
          go_wp2_with fail
          go_region
          go_wp2_with fail
          go_roundw
          case measure => simp [intOf]; omega
          case rel => exact ⟨i + 1, by omega, by go_num, by rw [HH.out], by rw [HH.out, xor_bit y r hy256 hr8]; exact hset.drew, (hF.setCell (.inr hgw) _).drew⟩
        · have H0 : turnL (bl s) a M (i + 1) = (l, any) := by rw [Hst.out, if_neg (fun h => hin h.2)]
          by_cases h8 : a / 8 < s.size
          · have g1 : decide ((a : Int) / 8 < (s.size : Int)) = true := by rw [decide_eq_true_eq]; omega
            have g2 : decide (((a : Int) % 8 + (i : Int)) / 8 < (s.size : Int) - (a : Int) / 8) = false := by rw [decide_eq_false_iff_not]; omega
            have HH := hide H0
            clear H0 Hst hb hin h8
            go_wp2_with fail
            go_roundw
            case measure => simp [intOf]; omega
            case rel => exact ⟨i + 1, by omega, by go_num, by rw [HH.out], by rw [HH.out]; exact hR, hF⟩
          · have g1 : decide ((a : Int) / 8 < (s.size : Int)) = false := by rw [decide_eq_false_iff_not]; omega
            have HH := hide H0
            clear H0 Hst hb hin h8
            go_wp2_with fail
            go_roundw
            case measure => simp [intOf]; omega
            case rel => exact ⟨i + 1, by omega, by go_num, by rw [HH.out], by rw [HH.out]; exact hR, hF⟩
      · have hq1 : (bits BinOp.and IntKind.u32 ((M : Int) / 2 ^ i) 1 == 1) = false := by rw [hq, beq_eq_false_iff_ne]; omega
        have H0 : turnL (bl s) a M (i + 1) = (l, any) := by rw [Hst.out, if_neg (fun h => hb h.1)]
        have HH := hide H0
        clear H0 Hst hb hq
        go_wp2_with fail
        go_roundw
        case measure => simp [intOf]; omega
        case rel => exact ⟨i + 1, by omega, by go_num, by rw [HH.out], by rw [HH.out]; exact hR, hF⟩
    · obtain rfl : i = 32 := by omega
      have hstr := fun n cap hn => byteRow_string (P := Tryd.prog) hR hl256 Tryd.underlying73 Tryd.underlying5 Tryd.underlying9 n cap hn
      have hstr2 := hstr s.size cap (by omega)
      clear hstr Hst
      go_wp2_with fail
      go_ret2
      exact ⟨by rw [HR0.out]; rfl, hF⟩

end Go.Proofs.YtceidhjgdgnplaaDoor
