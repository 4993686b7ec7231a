/-
  The contracts of enc.Crc and of the document's Crc.
-/
import Derived.Test.YtceidhjgdgnplaaDoorBase
import Derived.Test.YtceidhjgdgnplaaDoorArgs
import Derived.Test.YtceidhjgdgnplaaDoorCrcp
namespace Go.Proofs.YtceidhjgdgnplaaDoor
set_option linter.unusedVariables false
set_option linter.unusedSimpArgs false
open Go.RowKit

/-- The table of the nibbles' remainders lies where the program has it. -/
def NibAt (w : World) : Prop := 0 < w.heap.size ∧ ∀ i, i < 16 → w.cell? ⟨0, i, none⟩ = some (.int .u32 (nib i : Int))

theorem NibAt.frm {w w1 : World} (h : NibAt w) (hf : Frm [] w w1) : NibAt w1 :=
  ⟨Nat.lt_of_lt_of_le h.1 hf.size, fun i hi => (hf.cell (p := ⟨0, i, none⟩) h.1 (by simp)).trans (h.2 i hi)⟩

theorem nib_step (c : Nat) (h : c < 4294967296) : bits BinOp.xor IntKind.u32 (nib (c % 16) : Int) ((c : Int) / 16) = ((crc4 c : Nat) : Int) := by
  rw [show ((c : Int) / 16) = ((c / 16 : Nat) : Int) from by omega, u32_xor_nat _ _ (nib_lt _ (Nat.mod_lt _ (by decide))) (by omega), crc4_nib]

theorem xor_byte (c b : Nat) (h : c < 4294967296) (hb : b < 256) : bits BinOp.xor IntKind.u32 (c : Int) (b : Int) = ((c ^^^ b : Nat) : Int) := u32_xor_nat c b h (by omega)

theorem low_nibble (c : Nat) (h : c < 4294967296) : bits BinOp.and IntKind.u32 (c : Int) 15 = ((c % 16 : Nat) : Int) := by
  rw [show (15 : Int) = ((15 : Nat) : Int) from rfl, u32_and_nat c 15 h (by decide), nat_mask4]

theorem crc_end (c : Nat) (h : c < 4294967296) : bits BinOp.xor IntKind.u32 IntKind.u32.max (c : Int) = ((c ^^^ 4294967295 : Nat) : Int) := by
  rw [show IntKind.u32.max = ((4294967295 : Nat) : Int) from rfl, u32_xor_nat _ _ (by decide) h, Nat.xor_comm]

/-- The sum's register behind the first k parts. -/
def crcParts (f : Nat → ByteArray) : Nat → Nat
  | 0 => 4294967295
  | k + 1 => crcList (crcParts f k) (bl (f k))
theorem crcParts_lt (f : Nat → ByteArray) (k : Nat) : crcParts f k < 4294967296 := by
  induction k with
  | zero => exact (by decide : (4294967295 : Nat) < 4294967296)
  | succ k ih => exact crcList_lt _ (bl_lt _) _ ih

set_option maxRecDepth 100000 in
set_option maxHeartbeats 2000000 in
theorem crc_any (A : Option Addr) (n cap : Nat) (f : Nat → ByteArray) (hf : ∀ i, i < n → (f i).size ≤ 9223372036854775807) (hn : n ≤ 140737488355328) (w : World) (hN : NibAt w) (hc : CellsAt w A n 1 (fun i _ => .string (f i))) :
    Calls Tryd.prog 21 #[.slice A n cap] w fun e w' => e = .returned (.int .u32 ((crcParts f n ^^^ 4294967295 : Nat) : Int)) ∧ w = w' := by
  go_enter Tryd.func21, Tryd.ntmps21
  go_wp2
  go_loop [3, 9] (fun x y => ∃ k : Nat, k ≤ n ∧ y = .int .i64 (k : Int) ∧ x = .int .u32 ((crcParts f k : Nat) : Int)) (fun _ y => n - (intOf y).toNat)
  case atStart => exact ⟨0, by omega, rfl, rfl⟩
  case round =>
    obtain ⟨k, hk, rfl, rfl⟩ := hrel
    by_cases hlt : k < n
    · obtain ⟨b, off, rfl, hb, c0⟩ := cells1 hc hlt
      have hsz := hf k hlt
      obtain ⟨s, hs⟩ : ∃ s, s = f k := ⟨_, rfl⟩
      rw [← hs] at c0 hsz
      have hbl := bl_length s
      have hp : crcParts f (k + 1) = crcList (crcParts f k) (bl s) := by rw [hs]; rfl
      have hlt0 := crcParts_lt f k
      have Hp := hide hp
      have Hbl := hide hbl
      clear hs hp hbl
      go_wp2
      go_loop [3, 15] (fun x y => ∃ i : Nat, i ≤ s.size ∧ y = .int .i64 (i : Int) ∧ x = .int .u32 ((crcList (crcParts f k) ((bl s).take i) : Nat) : Int)) (fun _ y => s.size - (intOf y).toNat)
      case atStart => exact ⟨0, by omega, rfl, rfl⟩
      case round =>
        obtain ⟨i, hi, rfl, rfl⟩ := hrel
        by_cases hil : i < s.size
        · obtain ⟨y, hy⟩ : ∃ y, y = (bl s).getD i 0 := ⟨_, rfl⟩
          have hix := idx_str Tryd.underlying9 s i (i : Int) rfl hil y hy
          have hst := crc_take (bl s) (crcParts f k) i (by rw [Hbl.out]; exact hil)
          have hcl := crcList_lt ((bl s).take i) (fun x hx => bl_lt s x (List.mem_of_mem_take hx)) _ hlt0
          have hy256 : y < 256 := by
            have hl : i < (bl s).length := by rw [Hbl.out]; exact hil
            rw [hy, List.getD_eq_getElem?_getD, List.getElem?_eq_getElem hl]
            exact bl_lt s _ (List.getElem_mem hl)
          rw [← hy] at hst
          generalize crcList (crcParts f k) ((bl s).take i) = C at hst hcl ⊢
          have Hst := hide hst
          clear hst hy
          have e1 := xor_byte C y hcl hy256
          have hC1 : C ^^^ y < 4294967296 := Nat.xor_lt_two_pow (n := 32) hcl (by omega)
          generalize hc1 : C ^^^ y = C1 at e1 hC1
          have e2 := low_nibble C1 hC1
          have e3 := nib_step C1 hC1
          have n1 := hN.2 (C1 % 16) (Nat.mod_lt _ (by decide))
          have hC2 := crc4_lt C1 hC1
          generalize hc2 : crc4 C1 = C2 at e3 hC2
          have e4 := low_nibble C2 hC2
          have e5 := nib_step C2 hC2
          have n2 := hN.2 (C2 % 16) (Nat.mod_lt _ (by decide))
          generalize hc3 : crc4 C2 = C3 at e5
          have hfin : crcByte C y = C3 := by rw [crcByte, hc1, hc2, hc3]
          have Hfin := hide hfin
          clear hc1 hc2 hc3 hfin
          go_wp2
          go_round
          case measure => simp [intOf]; omega
          case rel => exact ⟨i + 1, by omega, by go_num, by rw [Hst.out, Hfin.out]⟩
        · obtain rfl : i = s.size := by omega
          go_wp2
          go_round
          case measure => simp [intOf]; omega
          case rel => exact ⟨k + 1, by omega, by go_num, by rw [Hp.out, List.take_of_length_le (by rw [Hbl.out]; exact Nat.le_refl _)]⟩
    · obtain rfl : k = n := by omega
      go_wp2
      go_ret
      exact ⟨ret_int (crc_end _ (crcParts_lt f k)), rfl⟩

theorem bit_xor (c : Nat) (h : c < 4294967296) : bits BinOp.xor IntKind.u32 (((c / 2 : Nat) : Int)) 2197175160 = ((c / 2 ^^^ 2197175160 : Nat) : Int) := by
  rw [show (2197175160 : Int) = ((2197175160 : Nat) : Int) from rfl, u32_xor_nat _ _ (by omega) (by decide)]

/-- Behind k of the eight bits. -/
def crcBits (c : Nat) : Nat → Nat
  | 0 => c
  | k + 1 => crcBit (crcBits c k)
theorem crcBits_lt (c k : Nat) (h : c < 4294967296) : crcBits c k < 4294967296 := by
  induction k with
  | zero => exact h
  | succ k ih => exact crcBit_lt _ ih

set_option maxRecDepth 100000 in
set_option maxHeartbeats 2000000 in
theorem rcrc_any (s : ByteArray) (hs : s.size ≤ 9223372036854775807) (w : World) :
    Calls Tryd.prog 22 #[.string s] w fun e w' => e = .returned (.int .u32 ((crcOf (bl s) : Nat) : Int)) ∧ w = w' := by
  have hbl := bl_length s
  have Hbl := hide hbl
  clear hbl
  go_enter Tryd.func22, Tryd.ntmps22
  go_wp2
  go_loop [3, 4] (fun x y => ∃ i : Nat, i ≤ s.size ∧ y = .int .i64 (i : Int) ∧ x = .int .u32 ((crcList 4294967295 ((bl s).take i) : Nat) : Int)) (fun _ y => s.size - (intOf y).toNat)
  case atStart => exact ⟨0, by omega, rfl, rfl⟩
  case round =>
    obtain ⟨i, hi, rfl, rfl⟩ := hrel
    by_cases hil : i < s.size
    · obtain ⟨y, hy⟩ : ∃ y, y = (bl s).getD i 0 := ⟨_, rfl⟩
      have hix := idx_str Tryd.underlying9 s i (i : Int) rfl hil y hy
      have hst := crc_take (bl s) 4294967295 i (by rw [Hbl.out]; exact hil)
      have hcl := crcList_lt ((bl s).take i) (fun x hx => bl_lt s x (List.mem_of_mem_take hx)) 4294967295 (by decide)
      have hy256 : y < 256 := by
        have hl : i < (bl s).length := by rw [Hbl.out]; exact hil
        rw [hy, List.getD_eq_getElem?_getD, List.getElem?_eq_getElem hl]
        exact bl_lt s _ (List.getElem_mem hl)
      rw [← hy] at hst
      generalize crcList 4294967295 ((bl s).take i) = C at hst hcl ⊢
      have e1 := xor_byte C y hcl hy256
      have hC1 : C ^^^ y < 4294967296 := Nat.xor_lt_two_pow (n := 32) hcl (by omega)
      generalize hc1 : C ^^^ y = C1 at e1 hC1
      have hfin : crcByte C y = crcBits C1 8 := by rw [← hc1]; rfl
      rw [hfin] at hst
      have Hst := hide hst
      clear hst hy hc1 hfin
      go_wp2
      go_loop [3, 5] (fun x z => ∃ k : Nat, k ≤ 8 ∧ z = .int .i64 (k : Int) ∧ x = .int .u32 ((crcBits C1 k : Nat) : Int)) (fun _ z => 8 - (intOf z).toNat)
      case atStart => exact ⟨0, by omega, rfl, rfl⟩
      case round =>
        obtain ⟨k, hk, rfl, rfl⟩ := hrel
        by_cases hk8 : k < 8
        · have hD := crcBits_lt C1 k hC1
          have hstep : crcBits C1 (k + 1) = crcBit (crcBits C1 k) := rfl
          generalize crcBits C1 k = D at hD hstep ⊢
          have hx := bit_xor D hD
          by_cases hodd : D % 2 = 1
          · have hb : ((D : Int) % 2 == 1) = true := by rw [beq_iff_eq]; omega
            have hv : crcBits C1 (k + 1) = D / 2 ^^^ 2197175160 := by rw [hstep, crcBit, if_pos hodd]
            have Hv := hide hv
            clear hstep hodd hv
            go_wp2
            go_round
            case measure => simp [intOf]; omega
            case rel => exact ⟨k + 1, by omega, by go_num, by rw [Hv.out]; exact congrArg (Value.int .u32) hx⟩
          · have hb : ((D : Int) % 2 == 1) = false := by rw [beq_eq_false_iff_ne]; omega
            have hv : crcBits C1 (k + 1) = D / 2 := by rw [hstep, crcBit, if_neg hodd]
            have Hv := hide hv
            clear hstep hodd hv hx
            go_wp2
            go_round
            case measure => simp [intOf]; omega
            case rel => exact ⟨k + 1, by omega, by go_num, by rw [Hv.out]; go_num⟩
        · obtain rfl : k = 8 := by omega
          go_wp2
          go_round
          case measure => simp [intOf]; omega
          case rel => exact ⟨i + 1, by omega, by go_num, by rw [Hst.out]⟩
    · obtain rfl : i = s.size := by omega
      have hcl := crcList_lt ((bl s).take s.size) (fun x hx => bl_lt s x (List.mem_of_mem_take hx)) 4294967295 (by decide)
      go_wp2
      go_ret
      rw [List.take_of_length_le (by rw [Hbl.out]; exact Nat.le_refl _)] at hcl ⊢
      exact ⟨ret_int (by rw [show (4294967295 : Int) = ((4294967295 : Nat) : Int) from rfl, u32_xor_nat _ _ hcl (by decide)]; rfl), rfl⟩

end Go.Proofs.YtceidhjgdgnplaaDoor
