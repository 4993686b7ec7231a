/-
  The contracts of the seals: what is sealed, what is unsealed.
-/
import Derived.Test.YtceidhjgdgnplaaDoorFrm
import Derived.Test.YtceidhjgdgnplaaDoorNum
import Derived.Deep.RegionWith
namespace Go.Proofs.YtceidhjgdgnplaaDoor
set_option linter.unusedVariables false
set_option linter.unusedSimpArgs false
open Go.RowKit

/-- A sealed body. -/
def sealS (p : ByteArray) : ByteArray := p ++ bstr (fourB (crcOf (bl p)))

set_option maxRecDepth 100000 in
set_option maxHeartbeats 2000000 in
theorem seal_any (p : ByteArray) (hp : p.size ≤ 140737488355328) (w : World) (hN : NibAt w) :
    Calls Tryd.prog 25 #[.string p] w fun e w' => e = .returned (.string (sealS p)) ∧ Frm [] w w' := by
  go_enter Tryd.func25, Tryd.ntmps25
  go_wp2_with fail
  refine (crc_one w p _ (by omega) hN).mono ?_
  rintro e w' ⟨rfl, rfl⟩
  go_wp2_with fail
  refine (four_any (crcOf (bl p)) (crcOf_bl_lt p) _ rfl _).mono ?_
  rintro e w2 ⟨rfl, hf2⟩
  have hz2 : (bstr (fourB (crcOf (bl p)))).size ≤ 4 := by rw [fourB_size]; exact Nat.le_refl _
  go_wp2_with fail
  go_ret
  exact ⟨rfl, ((Frm.refl _ _).alloc _).trans hf2 (by simp)⟩

set_option maxRecDepth 100000 in
set_option maxHeartbeats 2000000 in
theorem rseal_any (p : ByteArray) (hp : p.size ≤ 140737488355328) (w : World) :
    Calls Tryd.prog 26 #[.string p] w fun e w' => e = .returned (.string (sealS p)) ∧ Frm [] w w' := by
  go_enter Tryd.func26, Tryd.ntmps26
  go_wp2_with fail
  refine (rcrc_any p (by omega) _).mono ?_
  rintro e w' ⟨rfl, rfl⟩
  go_wp2_with fail
  refine (rfour_any (crcOf (bl p)) (crcOf_bl_lt p) _ rfl _).mono ?_
  rintro e w2 ⟨rfl, hf2⟩
  have hz2 : (bstr (fourB (crcOf (bl p)))).size ≤ 4 := by rw [fourB_size]; exact Nat.le_refl _
  go_wp2_with fail
  go_ret
  exact ⟨rfl, hf2⟩

theorem crc_at (w : World) (A : Option Addr) (c : Nat) (s : ByteArray) (hs : s.size ≤ 9223372036854775807) (hN : NibAt w) (hc : CellsAt w A 1 1 (fun _ _ => .string s)) :
    Calls Tryd.prog 21 #[.slice A 1 c] w fun e w' => e = .returned (.int .u32 ((crcOf (bl s) : Nat) : Int)) ∧ w = w' :=
  crc_any A 1 c (fun _ => s) (fun _ _ => hs) (by decide) w hN hc

/-- What Unseal tells. -/
def tellS (s : ByteArray) : Value :=
  if s.size < 4 then .tuple #[.string (bstr []), .int .i64 20]
  else if crcOf ((bl s).take (s.size - 4)) = numAt (bl s) (s.size - 4) then .tuple #[.string (s.extract 0 (s.size - 4)), .int .i64 0]
  else .tuple #[.string (bstr []), .int .i64 22]

theorem slice_to {P : Program} {t : TypeId} (ht : P.underlying t = some .string) (s : ByteArray) (n : Nat) (x : Int) (hx : x = n) (h : n ≤ s.size) (W : World) :
    (Instr.slice t (.string s) none (some (.int .i64 x)) none).run P W = .ok (.string (s.extract 0 n)) W := by
  subst hx
  rw [run_slice_string_h W t s ht .i64 (n : Int) (by omega) (by omega)]
  rfl
theorem slice_from {P : Program} {t : TypeId} (ht : P.underlying t = some .string) (s : ByteArray) (n : Nat) (x : Int) (hx : x = n) (h : n ≤ s.size) (W : World) :
    (Instr.slice t (.string s) (some (.int .i64 x)) none none).run P W = .ok (.string (s.extract n s.size)) W := by
  subst hx
  rw [run_slice_string_l W t s ht .i64 (n : Int) (by omega) (by omega)]
  rfl

set_option maxRecDepth 100000 in
set_option maxHeartbeats 2000000 in
theorem unseal_any (s : ByteArray) (hs : s.size ≤ 140737488355328) (w : World) (hN : NibAt w) :
    Calls Tryd.prog 23 #[.string s] w fun e w' => e = .returned (tellS s) ∧ Frm [] w w' := by
  by_cases h4 : s.size < 4
  · have ht : tellS s = .tuple #[.string (bstr []), .int .i64 20] := by unfold tellS; rw [if_pos h4]
    rw [ht]
    clear ht
    go_enter Tryd.func23, Tryd.ntmps23
    go_wp2
    go_ret2
    exact ⟨rfl, Frm.refl _ _⟩
  · obtain ⟨m, hm⟩ : ∃ m, s.size = m + 4 := ⟨s.size - 4, by omega⟩
    have hsl := slice_to (P := Tryd.prog) Tryd.underlying9 s m (m : Int) rfl (by omega)
    have hsr := slice_from (P := Tryd.prog) Tryd.underlying9 s m (m : Int) rfl (by omega)
    have hnum := number_any (s.extract m s.size) (by rw [ByteArray.size_extract]; omega)
    rw [bl_from, numAt_drop, Nat.add_zero] at hnum
    have hcz : (s.extract 0 m).size ≤ 9223372036854775807 := by rw [ByteArray.size_extract]; omega
    have hsub : s.size - 4 = m := by omega
    have ht : tellS s = if crcOf ((bl s).take m) = numAt (bl s) m then .tuple #[.string (s.extract 0 m), .int .i64 0] else .tuple #[.string (bstr []), .int .i64 22] := by unfold tellS; rw [if_neg h4, hsub]
    have hbu := bl_upto s m
    generalize s.extract 0 m = front at hsl hcz ht hbu
    generalize s.extract m s.size = back at hsr hnum
    rw [← hbu] at ht
    generalize hx : numAt (bl s) m = X at hnum ht
    clear hx
    have Ht := hide ht
    clear ht hbu hsub
    have hcA := cells_one w front
    by_cases hc : crcOf (bl front) = X
    · have ht := Ht.out
      rw [if_pos hc] at ht
      rw [ht]
      have hne : ((crcOf (bl front) : Int) != (X : Int)) = false := by rw [bne_eq_false_iff_eq]; omega
      clear ht hc
      go_enter Tryd.func23, Tryd.ntmps23
      go_wp2_with fail
      go_region_with (first | (go_at_call 21; refine (crc_at _ _ _ front hcz (hN.frm (by (repeat (first | exact Frm.refl _ _ | apply Frm.drew | apply Frm.drewN | apply Frm.alloc)))) (hcA.frm (by (repeat (first | exact Frm.refl _ _ | apply Frm.drew | apply Frm.drewN | apply Frm.alloc))))).mono ?_; rintro e w' ⟨rfl, rfl⟩) | (go_at_call 60; refine (hnum _).mono ?_; rintro e w' ⟨rfl, rfl⟩))
      all_goals go_wp2_with fail
      all_goals go_ret2
      all_goals exact ⟨rfl, by (repeat (first | exact Frm.refl _ _ | apply Frm.drew | apply Frm.drewN | apply Frm.alloc))⟩
    · have ht := Ht.out
      rw [if_neg hc] at ht
      rw [ht]
      have hne : ((crcOf (bl front) : Int) != (X : Int)) = true := by rw [bne_iff_ne]; omega
      clear ht hc
      go_enter Tryd.func23, Tryd.ntmps23
      go_wp2_with fail
      go_region_with (first | (go_at_call 21; refine (crc_at _ _ _ front hcz (hN.frm (by (repeat (first | exact Frm.refl _ _ | apply Frm.drew | apply Frm.drewN | apply Frm.alloc)))) (hcA.frm (by (repeat (first | exact Frm.refl _ _ | apply Frm.drew | apply Frm.drewN | apply Frm.alloc))))).mono ?_; rintro e w' ⟨rfl, rfl⟩) | (go_at_call 60; refine (hnum _).mono ?_; rintro e w' ⟨rfl, rfl⟩))
      all_goals go_wp2_with fail
      all_goals go_ret2
      all_goals exact ⟨rfl, by (repeat (first | exact Frm.refl _ _ | apply Frm.drew | apply Frm.drewN | apply Frm.alloc))⟩

end Go.Proofs.YtceidhjgdgnplaaDoor
