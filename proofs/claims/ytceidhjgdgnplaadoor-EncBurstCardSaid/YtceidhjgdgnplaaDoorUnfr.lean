/-
  The contracts of the document's Unseal and of both Unframes.
-/
import Derived.Test.YtceidhjgdgnplaaDoorSeal
import Derived.Test.YtceidhjgdgnplaaDoorText
namespace Go.Proofs.YtceidhjgdgnplaaDoor
set_option linter.unusedVariables false
set_option linter.unusedSimpArgs false
open Go.RowKit

set_option maxRecDepth 100000 in
set_option maxHeartbeats 2000000 in
theorem runseal_any (s : ByteArray) (hs : s.size ≤ 140737488355328) (w : World) :
    Calls Tryd.prog 24 #[.string s] w fun e w' => e = .returned (tellS s) ∧ Frm [] w w' := by
  by_cases h4 : s.size < 4
  · have ht : tellS s = .tuple #[.string (bstr []), .int .i64 20] := by unfold tellS; rw [if_pos h4]
    rw [ht]
    clear ht
    go_enter Tryd.func24, Tryd.ntmps24
    go_wp2
    go_ret2
    exact ⟨rfl, Frm.refl _ _⟩
  · obtain ⟨m, hm⟩ : ∃ m, s.size = m + 4 := ⟨s.size - 4, by omega⟩
    have hsl := slice_to (P := Tryd.prog) Tryd.underlying9 s m (m : Int) rfl (by omega)
    have hnum := rnumber_any s m (m : Int) rfl (by omega) (by omega)
    have hcz : (s.extract 0 m).size ≤ 9223372036854775807 := by rw [ByteArray.size_extract]; omega
    have hsub : s.size - 4 = m := by omega
    have ht : tellS s = if crcOf ((bl s).take m) = numAt (bl s) m then .tuple #[.string (s.extract 0 m), .int .i64 0] else .tuple #[.string (bstr []), .int .i64 22] := by unfold tellS; rw [if_neg h4, hsub]
    have hbu := bl_upto s m
    have hX := numAt_lt s m
    generalize s.extract 0 m = front at hsl hcz ht hbu
    rw [← hbu] at ht
    generalize hx : numAt (bl s) m = X at hnum ht hX
    clear hx
    have Ht := hide ht
    clear ht hbu hsub
    have hC := crcOf_bl_lt front
    have hcrc := rcrc_any front hcz
    generalize crcOf (bl front) = C at Ht hC hcrc
    by_cases hc : C = X
    · have ht := Ht.out
      rw [if_pos hc] at ht
      rw [ht]
      have hne : ((C : Int) != (X : Int)) = false := by rw [bne_eq_false_iff_eq]; omega
      clear ht hc
      go_enter Tryd.func24, Tryd.ntmps24
      go_wp2_with fail
      refine (hcrc _).mono ?_
      rintro e w' ⟨rfl, rfl⟩
      go_wp2_with fail
      refine (hnum _).mono ?_
      rintro e w' ⟨rfl, q, rfl⟩
      go_wp2_with fail
      go_ret2
      exact ⟨rfl, (Frm.refl _ _).drewN _⟩
    · have ht := Ht.out
      rw [if_neg hc] at ht
      rw [ht]
      have hne : ((C : Int) != (X : Int)) = true := by rw [bne_iff_ne]; omega
      clear ht hc
      go_enter Tryd.func24, Tryd.ntmps24
      go_wp2_with fail
      refine (hcrc _).mono ?_
      rintro e w' ⟨rfl, rfl⟩
      go_wp2_with fail
      refine (hnum _).mono ?_
      rintro e w' ⟨rfl, q, rfl⟩
      go_wp2_with fail
      go_ret2
      exact ⟨rfl, (Frm.refl _ _).drewN _⟩

/-- What Unframe tells at the place k. -/
def tellFat (s : ByteArray) (k : Nat) : Value :=
  if numAt (bl s) k = 0 ∨ 1048576 < numAt (bl s) k then .tuple #[.string (bstr []), .int .i64 0, .int .i64 21]
  else if s.size < k + numAt (bl s) k + 9 then .tuple #[.string (bstr []), .int .i64 0, .int .i64 20]
  else if (bl s).getD (k + 8 + numAt (bl s) k) 0 ≠ 1 then .tuple #[.string (bstr []), .int .i64 0, .int .i64 21]
  else if crcOf (bl (s.extract (k + 4) (k + 4 + numAt (bl s) k))) ≠ numAt (bl s) (k + 4 + numAt (bl s) k) then .tuple #[.string (bstr []), .int .i64 0, .int .i64 22]
  else .tuple #[.string (s.extract (k + 4) (k + 4 + numAt (bl s) k)), .int .i64 ((k + 9 + numAt (bl s) k : Nat) : Int), .int .i64 0]
/-- What Unframe tells. -/
def tellUF (s : ByteArray) (a : Int) : Value :=
  if a < 0 ∨ (s.size : Int) < a + 4 then .tuple #[.string (bstr []), .int .i64 0, .int .i64 20] else tellFat s a.toNat

theorem slice_mid2 {P : Program} {t : TypeId} (ht : P.underlying t = some .string) (s : ByteArray) (m n : Nat) (x y : Int) (hx : x = m) (hy : y = (m + n : Nat)) (h : m + n ≤ s.size) (W : World) :
    (Instr.slice t (.string s) (some (.int .i64 x)) (some (.int .i64 y)) none).run P W = .ok (.string (s.extract m (m + n))) W := by
  subst hx hy
  rw [run_slice_string (h := ht) (h0 := by omega) (h1 := by omega) (h2 := by omega)]
  rfl
theorem extract_rest (s : ByteArray) (k N : Nat) : (s.extract k s.size).extract 0 N = s.extract k (k + N) := by
  apply bl_inj
  rw [bl_upto, bl_from, bl_extract, Nat.add_sub_cancel_left]
theorem getD_bl_rest (s : ByteArray) (k i : Nat) : (bl (s.extract k s.size)).getD i 0 = (bl s).getD (k + i) 0 := by rw [bl_from, getD_dropN]

theorem ret_str3 {s : ByteArray} {x y : Int} (hx : x = y) : Ending.returned (.tuple #[.string s, .int .i64 x, .int .i64 0]) = .returned (.tuple #[.string s, .int .i64 y, .int .i64 0]) := by
  subst hx; rfl

set_option maxRecDepth 100000 in
set_option maxHeartbeats 4000000 in
theorem unframe_any (s : ByteArray) (a : Int) (hs : s.size ≤ 140737488355328) (w : World) (hN : NibAt w) :
    Calls Tryd.prog 33 #[.string s, .int .i64 a] w fun e w' => e = .returned (tellUF s a) ∧ Frm [] w w' := by
  by_cases ho : a < 0 ∨ (s.size : Int) < a + 4
  · have ht : tellUF s a = .tuple #[.string (bstr []), .int .i64 0, .int .i64 20] := by unfold tellUF; rw [if_pos ho]
    rw [ht]
    clear ht
    by_cases h0 : a < 0
    · clear ho
      go_enter Tryd.func33, Tryd.ntmps33
      go_wp2
      go_ret3
      exact ⟨rfl, Frm.refl _ _⟩
    · have ho' : (s.size : Int) < a + 4 := by omega
      clear ho
      by_cases h1 : (s.size : Int) < a
      · skip
        go_enter Tryd.func33, Tryd.ntmps33
        go_wp2
        go_ret3
        exact ⟨rfl, Frm.refl _ _⟩
      · skip
        go_enter Tryd.func33, Tryd.ntmps33
        go_wp2
        go_ret3
        exact ⟨rfl, Frm.refl _ _⟩
  · obtain ⟨k, rfl⟩ : ∃ k : Nat, a = (k : Int) := ⟨a.toNat, by omega⟩
    have hk : k + 4 ≤ s.size := by omega
    have ht : tellUF s (k : Int) = tellFat s k := by unfold tellUF; rw [if_neg ho]; rfl
    rw [ht]
    clear ht ho
    have ht := tellFat.eq_1 s k
    have hs1 := slice_from (P := Tryd.prog) Tryd.underlying9 s k (k : Int) rfl (by omega)
    have hs2 := slice_from (P := Tryd.prog) Tryd.underlying9 s (k + 4) ((k : Int) + 4) (by omega) (by omega)
    have hnum := number_any (s.extract k s.size) (by rw [ByteArray.size_extract]; omega)
    rw [bl_from, numAt_drop, Nat.add_zero] at hnum
    generalize s.extract k s.size = back0 at hs1 hnum
    have hrz : (s.extract (k + 4) s.size).size + (k + 4) = s.size := by rw [ByteArray.size_extract]; omega
    have hex := extract_rest s (k + 4)
    have hgd := getD_bl_rest s (k + 4)
    have hrb := bl_from s (k + 4)
    generalize s.extract (k + 4) s.size = rest at hs2 hrz hex hgd hrb
    have hNl := numAt_lt s k
    generalize hNN : numAt (bl s) k = N at hnum ht hNl
    have hnumq : ∀ W, Calls Tryd.prog 60 #[.string back0] W fun e w' => e = .returned (.int .u32 (N : Int)) ∧ w' = W := fun W => (hnum W).mono fun e w' h => ⟨h.1, h.2.symm⟩
    clear hnum
    have Ht := hide ht
    clear ht hNN
    by_cases hn : N = 0 ∨ 1048576 < N
    · have ht := Ht.out
      rw [if_pos hn] at ht
      rw [ht]
      clear ht
      rcases hn with hn | hn
      · have hb0 : ((N : Int) == 0) = true := by rw [beq_iff_eq]; omega
        clear hn
        go_enter Tryd.func33, Tryd.ntmps33
        go_wp2_with fail; go_quiet (first | (go_at_call 60; exact Calls.quiet_of_same (hnumq _)))
        go_wp2_with fail
        go_ret3
        exact ⟨rfl, by (repeat (first | exact Frm.refl _ _ | apply Frm.drew | apply Frm.drewN | apply Frm.alloc))⟩
      · have hb0 : ((N : Int) == 0) = false := by rw [beq_eq_false_iff_ne]; omega
        go_enter Tryd.func33, Tryd.ntmps33
        go_wp2_with fail; go_quiet (first | (go_at_call 60; exact Calls.quiet_of_same (hnumq _)))
        go_wp2_with fail
        go_ret3
        exact ⟨rfl, by (repeat (first | exact Frm.refl _ _ | apply Frm.drew | apply Frm.drewN | apply Frm.alloc))⟩
    · have hb0 : ((N : Int) == 0) = false := by rw [beq_eq_false_iff_ne]; omega
      have hn2 : N ≤ 1048576 := by omega
      have ht := Ht.out
      rw [if_neg hn] at ht
      clear Ht hn
      by_cases hl : s.size < k + N + 9
      · rw [if_pos hl] at ht
        rw [ht]
        clear ht
        go_enter Tryd.func33, Tryd.ntmps33
        go_wp2_with fail; go_quiet (first | (go_at_call 60; exact Calls.quiet_of_same (hnumq _)))
        go_wp2_with fail
        go_ret3
        exact ⟨rfl, by (repeat (first | exact Frm.refl _ _ | apply Frm.drew | apply Frm.drewN | apply Frm.alloc))⟩
      · rw [if_neg hl] at ht
        have Ht := hide ht
        clear ht
        obtain ⟨y, hy⟩ : ∃ y, y = (bl rest).getD (N + 4) 0 := ⟨_, rfl⟩
        have hix := idx_str Tryd.underlying9 rest (N + 4) ((N : Int) + 4) (by omega) (by omega) y hy
        rw [hgd, show k + 4 + (N + 4) = k + 8 + N from by omega] at hy
        have ht := Ht.out
        rw [← hy] at ht
        clear Ht hy
        have hsl := slice_to (P := Tryd.prog) Tryd.underlying9 rest N (N : Int) rfl (by omega)
        have hsr := slice_from (P := Tryd.prog) Tryd.underlying9 rest N (N : Int) rfl (by omega)
        have hnum2 := number_any (rest.extract N rest.size) (by rw [ByteArray.size_extract]; omega)
        rw [bl_from, numAt_drop, Nat.add_zero, hrb, numAt_drop] at hnum2
        generalize rest.extract N rest.size = back at hsr hnum2
        have hcz : (rest.extract 0 N).size ≤ 9223372036854775807 := by rw [ByteArray.size_extract]; omega
        rw [hex N] at hsl hcz
        generalize s.extract (k + 4) (k + 4 + N) = front at hsl hcz ht
        generalize numAt (bl s) (k + 4 + N) = X at hnum2 ht
        have hcA := fun q => (cells_one (World.drewN w q) front)
        have hcrc := fun W A c => crc_at W A c front hcz
        generalize crcOf (bl front) = C at hcrc ht
        have Ht := hide ht
        clear ht hex hgd hrb
        by_cases hy1 : y = 1
        · have hby : ((y : Int) != 1) = false := by rw [bne_eq_false_iff_eq]; omega
          have ht := Ht.out
          rw [if_neg (by simpa using hy1)] at ht
          clear Ht hy1
          by_cases hc : C = X
          · rw [if_neg (by simpa using hc)] at ht
            rw [ht]
            have hne : ((C : Int) != (X : Int)) = false := by rw [bne_eq_false_iff_eq]; omega
            clear ht hc
            go_enter Tryd.func33, Tryd.ntmps33
            go_wp2_with fail; go_quiet (first | (go_at_call 60; exact Calls.quiet_of_same (hnumq _)))
            go_wp2_with fail
            go_region_with (first | (go_at_call 21; refine (hcrc _ _ _ (hN.frm (by (repeat (first | exact Frm.refl _ _ | apply Frm.drew | apply Frm.drewN | apply Frm.alloc)))) ((hcA _).frm (by (repeat (first | exact Frm.refl _ _ | apply Frm.drew | apply Frm.drewN | apply Frm.alloc))))).mono ?_; rintro e w' ⟨rfl, rfl⟩) | (go_at_call 60; refine (hnum2 _).mono ?_; rintro e w' ⟨rfl, rfl⟩))
            all_goals go_wp2_with fail
            all_goals go_ret3
            all_goals exact ⟨ret_str3 (by omega), by (repeat (first | exact Frm.refl _ _ | apply Frm.drew | apply Frm.drewN | apply Frm.alloc))⟩
          · rw [if_pos (by simpa using hc)] at ht
            rw [ht]
            have hne : ((C : Int) != (X : Int)) = true := by rw [bne_iff_ne]; omega
            clear ht hc
            go_enter Tryd.func33, Tryd.ntmps33
            go_wp2_with fail; go_quiet (first | (go_at_call 60; exact Calls.quiet_of_same (hnumq _)))
            go_wp2_with fail
            go_region_with (first | (go_at_call 21; refine (hcrc _ _ _ (hN.frm (by (repeat (first | exact Frm.refl _ _ | apply Frm.drew | apply Frm.drewN | apply Frm.alloc)))) ((hcA _).frm (by (repeat (first | exact Frm.refl _ _ | apply Frm.drew | apply Frm.drewN | apply Frm.alloc))))).mono ?_; rintro e w' ⟨rfl, rfl⟩) | (go_at_call 60; refine (hnum2 _).mono ?_; rintro e w' ⟨rfl, rfl⟩))
            all_goals go_wp2_with fail
            all_goals go_ret3
            all_goals exact ⟨rfl, by (repeat (first | exact Frm.refl _ _ | apply Frm.drew | apply Frm.drewN | apply Frm.alloc))⟩
        · have hby : ((y : Int) != 1) = true := by rw [bne_iff_ne]; omega
          have ht := Ht.out
          rw [if_pos (by simpa using hy1)] at ht
          rw [ht]
          clear ht hy1
          go_enter Tryd.func33, Tryd.ntmps33
          go_wp2_with fail; go_quiet (first | (go_at_call 60; exact Calls.quiet_of_same (hnumq _)))
          go_wp2_with fail
          go_ret3
          exact ⟨rfl, by (repeat (first | exact Frm.refl _ _ | apply Frm.drew | apply Frm.drewN | apply Frm.alloc))⟩

set_option maxRecDepth 100000 in
set_option maxHeartbeats 4000000 in
theorem runframe_any (s : ByteArray) (a : Int) (hs : s.size ≤ 140737488355328) (w : World) :
    Calls Tryd.prog 34 #[.string s, .int .i64 a] w fun e w' => e = .returned (tellUF s a) ∧ Frm [] w w' := by
  by_cases ho : a < 0 ∨ (s.size : Int) < a + 4
  · have ht : tellUF s a = .tuple #[.string (bstr []), .int .i64 0, .int .i64 20] := by unfold tellUF; rw [if_pos ho]
    rw [ht]
    clear ht
    by_cases h0 : a < 0
    · clear ho
      go_enter Tryd.func34, Tryd.ntmps34
      go_wp2
      go_ret3
      exact ⟨rfl, Frm.refl _ _⟩
    · have ho' : (s.size : Int) < a + 4 := by omega
      clear ho
      by_cases h1 : (s.size : Int) ≤ a
      · skip
        go_enter Tryd.func34, Tryd.ntmps34
        go_wp2
        go_ret3
        exact ⟨rfl, Frm.refl _ _⟩
      · skip
        go_enter Tryd.func34, Tryd.ntmps34
        go_wp2
        go_ret3
        exact ⟨rfl, Frm.refl _ _⟩
  · obtain ⟨k, rfl⟩ : ∃ k : Nat, a = (k : Int) := ⟨a.toNat, by omega⟩
    have hk : k + 4 ≤ s.size := by omega
    have ht : tellUF s (k : Int) = tellFat s k := by unfold tellUF; rw [if_neg ho]; rfl
    rw [ht]
    clear ht ho
    have ht := tellFat.eq_1 s k
    have hnum := rnumber_any s k (k : Int) rfl (by omega) (by omega)
    have hNl := numAt_lt s k
    generalize hNN : numAt (bl s) k = N at hnum ht hNl
    have Ht := hide ht
    clear ht hNN
    by_cases hn : N = 0 ∨ 1048576 < N
    · have ht := Ht.out
      rw [if_pos hn] at ht
      rw [ht]
      clear ht
      rcases hn with hn | hn
      · have hb0 : ((N : Int) == 0) = true := by rw [beq_iff_eq]; omega
        clear hn
        go_enter Tryd.func34, Tryd.ntmps34
        go_wp2_with fail; refine (hnum _).mono ?_; rintro e w' ⟨rfl, q, rfl⟩
        go_wp2_with fail
        go_ret3
        exact ⟨rfl, by (repeat (first | exact Frm.refl _ _ | apply Frm.drew | apply Frm.drewN | apply Frm.alloc))⟩
      · have hb0 : ((N : Int) == 0) = false := by rw [beq_eq_false_iff_ne]; omega
        go_enter Tryd.func34, Tryd.ntmps34
        go_wp2_with fail; refine (hnum _).mono ?_; rintro e w' ⟨rfl, q, rfl⟩
        go_wp2_with fail
        go_ret3
        exact ⟨rfl, by (repeat (first | exact Frm.refl _ _ | apply Frm.drew | apply Frm.drewN | apply Frm.alloc))⟩
    · have hb0 : ((N : Int) == 0) = false := by rw [beq_eq_false_iff_ne]; omega
      have hn2 : N ≤ 1048576 := by omega
      have ht := Ht.out
      rw [if_neg hn] at ht
      clear Ht hn
      by_cases hl : s.size < k + N + 9
      · rw [if_pos hl] at ht
        rw [ht]
        clear ht
        go_enter Tryd.func34, Tryd.ntmps34
        go_wp2_with fail; refine (hnum _).mono ?_; rintro e w' ⟨rfl, q, rfl⟩
        go_wp2_with fail
        go_ret3
        exact ⟨rfl, by (repeat (first | exact Frm.refl _ _ | apply Frm.drew | apply Frm.drewN | apply Frm.alloc))⟩
      · rw [if_neg hl] at ht
        have Ht := hide ht
        clear ht
        obtain ⟨y, hy⟩ : ∃ y, y = (bl s).getD (k + 8 + N) 0 := ⟨_, rfl⟩
        have hix := idx_str Tryd.underlying9 s (k + 8 + N) ((k : Int) + 8 + (N : Int)) (by omega) (by omega) y hy
        have ht := Ht.out
        rw [← hy] at ht
        clear Ht hy
        have hsl := slice_mid2 (P := Tryd.prog) Tryd.underlying9 s (k + 4) N ((k : Int) + 4) ((k : Int) + 4 + (N : Int)) (by omega) (by omega) (by omega)
        have hnum2 := rnumber_any s (k + 4 + N) ((k : Int) + 4 + (N : Int)) (by omega) (by omega) (by omega)
        have hcz : (s.extract (k + 4) (k + 4 + N)).size ≤ 9223372036854775807 := by rw [ByteArray.size_extract]; omega
        generalize s.extract (k + 4) (k + 4 + N) = front at hsl hcz ht
        have hXl := numAt_lt s (k + 4 + N)
        generalize numAt (bl s) (k + 4 + N) = X at hnum2 ht hXl
        have hcrc := rcrc_any front hcz
        have hCl := crcOf_bl_lt front
        generalize crcOf (bl front) = C at hcrc ht hCl
        have Ht := hide ht
        clear ht
        by_cases hy1 : y = 1
        · have hby : ((y : Int) != 1) = false := by rw [bne_eq_false_iff_eq]; omega
          have ht := Ht.out
          rw [if_neg (by simpa using hy1)] at ht
          clear Ht hy1
          by_cases hc : C = X
          · rw [if_neg (by simpa using hc)] at ht
            rw [ht]
            have hne : ((C : Int) != (X : Int)) = false := by rw [bne_eq_false_iff_eq]; omega
            clear ht hc
            go_enter Tryd.func34, Tryd.ntmps34
            go_wp2_with fail; refine (hnum _).mono ?_; rintro e w' ⟨rfl, q, rfl⟩
            go_wp2_with fail
            refine (hcrc _).mono ?_; rintro e w' ⟨rfl, rfl⟩; go_wp2_with fail; refine (hnum2 _).mono ?_; rintro e w' ⟨rfl, q2, rfl⟩
            all_goals go_wp2_with fail
            all_goals go_ret3
            all_goals exact ⟨ret_str3 (by omega), by (repeat (first | exact Frm.refl _ _ | apply Frm.drew | apply Frm.drewN | apply Frm.alloc))⟩
          · rw [if_pos (by simpa using hc)] at ht
            rw [ht]
            have hne : ((C : Int) != (X : Int)) = true := by rw [bne_iff_ne]; omega
            clear ht hc
            go_enter Tryd.func34, Tryd.ntmps34
            go_wp2_with fail; refine (hnum _).mono ?_; rintro e w' ⟨rfl, q, rfl⟩
            go_wp2_with fail
            refine (hcrc _).mono ?_; rintro e w' ⟨rfl, rfl⟩; go_wp2_with fail; refine (hnum2 _).mono ?_; rintro e w' ⟨rfl, q2, rfl⟩
            all_goals go_wp2_with fail
            all_goals go_ret3
            all_goals exact ⟨rfl, by (repeat (first | exact Frm.refl _ _ | apply Frm.drew | apply Frm.drewN | apply Frm.alloc))⟩
        · have hby : ((y : Int) != 1) = true := by rw [bne_iff_ne]; omega
          have ht := Ht.out
          rw [if_pos (by simpa using hy1)] at ht
          rw [ht]
          clear ht hy1
          go_enter Tryd.func34, Tryd.ntmps34
          go_wp2_with fail; refine (hnum _).mono ?_; rintro e w' ⟨rfl, q, rfl⟩
          go_wp2_with fail
          go_ret3
          exact ⟨rfl, by (repeat (first | exact Frm.refl _ _ | apply Frm.drew | apply Frm.drewN | apply Frm.alloc))⟩

end Go.Proofs.YtceidhjgdgnplaaDoor
