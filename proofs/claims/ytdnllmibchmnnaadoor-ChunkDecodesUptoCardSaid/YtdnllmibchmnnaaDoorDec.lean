/-
  The contract of chunk.Decode.
-/
import Derived.Test.YtdnllmibchmnnaaDoorRdq
import Derived.Test.YtdnllmibchmnnaaDoorLws
namespace Go.Proofs.YtdnllmibchmnnaaDoor
set_option linter.unusedVariables false
set_option linter.unusedSimpArgs false
open Go.RowKit Go.BigFrame

/-- The error of decoding these bytes, and how many samples are answered. -/
def decE (l : List Nat) : Int := if (rdM l).2 ≠ 0 then (rdM l).2 else if ckB (ckN (rdF (rdL l)) (rdM l).1) = l then 0 else 21
def decN (l : List Nat) : Nat := if decE l = 0 then (rdM l).1 else 0

/-- What Decode leaves: a new row, its spare room cut off, and the error. -/
def NewDec (e : TypeId) (l : List Nat) (w : World) (r : Ending) (w' : World) : Prop :=
  ∃ A c, r = .returned (.tuple #[.slice A (decN l) (decN l), .int .i64 (decE l)]) ∧ SRow w' e (.slice A (decN l) c) (decN l) (rdF (rdL l)) ∧ Fresh w.heap.size (.slice A (decN l) c) ∧ Frm [] w w'

set_option maxHeartbeats 400000 in
theorem clip_any (A : Option Addr) (n c : Nat) (hn : n ≤ c) (hc : c ≤ 9223372036854775807) (w : World) :
    Calls Tryd.prog 44 #[.slice A n c] w fun e w' => e = .returned (.slice A n n) ∧ w = w' := by
  have h1 : (n : Int) ≤ (c : Int) := by omega
  have h2 : (0 : Int) ≤ (n : Int) := by omega
  go_enter Tryd.func44, Tryd.ntmps44
  go_wp2
  go_ret
  exact ⟨rfl, rfl⟩

theorem SRow.form {w : World} {e : TypeId} {v : Value} {n : Nat} {F : Nat → Smp} (h : SRow w e v n F) : ∃ A c, v = .slice A n c ∧ n ≤ c ∧ c ≤ maxLen := by
  rcases h.2 with ⟨rfl, rfl⟩ | ⟨g', cap, cur, rfl, _, hh, r1, r2, _⟩
  · exact ⟨_, _, rfl, Nat.le_refl _, by decide⟩
  · exact ⟨_, _, rfl, r1, r2⟩
theorem tellC_zero {F : Nat → Smp} {n : Nat} (h : ckFa F n = 0) : tellC F n = .tuple #[.string (bstr (ckB (ckN F n))), .int .i64 0] := by
  unfold tellC; rw [if_pos h]
theorem ckB_byte (c : Ck) : ∀ x ∈ ckB c, x < 256 := by
  intro x hx
  rcases List.mem_append.1 hx with h | h
  · exact uintB_lt _ x h
  · exact pack_lt _ x h

set_option maxRecDepth 100000 in
set_option maxHeartbeats 1000000 in
theorem cdecode_any (s : ByteArray) (hs : s.size ≤ 140737488355328) (w : World) (hD : DbAt w) :
    Calls Tryd.prog 24 #[.string s] w (NewDec 37 (bl s) w) := by
  have hread := cread_any s hs w
  obtain ⟨cc, hM1, hM2, hM3⟩ := rdM_form (bl s)
  have hokF := rd_ok hM1
  have hfa := rd_fa hM2 hM1 _ (Nat.le_refl _)
  have hdE : decE (bl s) = if (rdM (bl s)).2 ≠ 0 then (rdM (bl s)).2 else if ckB (ckN (rdF (rdL (bl s))) (rdM (bl s)).1) = bl s then 0 else 21 := rfl
  have hdN : decN (bl s) = if decE (bl s) = 0 then (rdM (bl s)).1 else 0 := rfl
  obtain ⟨l, hl⟩ : ∃ l, bl s = l := ⟨_, rfl⟩
  have hb := str_beq_iff (bstr (ckB (ckN (rdF (rdL l)) (rdM l).1))) s
  rw [bl_bstr _ (ckB_byte _)] at hb
  rw [hl] at hread hokF hfa hdE hdN hb hM2 ⊢
  have htell := tellC_zero hfa
  clear hM1 hM3 hl
  unfold NewRd at hread
  generalize hFF : rdF (rdL l) = F at *
  obtain ⟨r, hr⟩ : ∃ r, rdM l = r := ⟨_, rfl⟩
  rw [hr] at hread hokF hfa hdE hdN hb htell hM2
  clear hr
  obtain ⟨m, er⟩ := r
  simp only at hread hokF hfa hdE hdN hb htell hM2
  have HFF := hide hFF
  have Hread := hide hread
  clear hread hFF
  by_cases he : er = 0
  · rw [if_neg (by simp [he])] at hdE
    subst he
    have henc := fun (A : Option Addr) (cap : Nat) W hDW hc => cencode_any A m cap F hokF (by omega) W hDW hc
    rw [htell] at henc
    have Henc := hide henc
    have hz : ((0 : Int) != 0) = false := by decide
    by_cases hB : ckB (ckN F m) = l
    · rw [if_pos hB] at hdE
      rw [if_pos hdE] at hdN
      have hbt : ((bstr (ckB (ckN F m))).toList == s.toList) = true := by rw [hb, decide_eq_true hB]
      have hbt2 : (!((bstr (ckB (ckN F m))).toList == s.toList)) = false := by rw [hbt]; rfl
      have HE := hide hdE
      have HN := hide hdN
      clear henc htell hb hB hdE hdN
      generalize bstr (ckB (ckN F m)) = B at hbt hbt2 Henc
      go_enter Tryd.func24, Tryd.ntmps24
      go_wp2_with fail
      refine Hread.out.mono ?_
      rintro e w1 ⟨v, rfl, hrow, hfv, hf1⟩
      obtain ⟨A, c, rfl, hmc, hc63⟩ := hrow.form
      unfold maxLen at hc63
      go_wp2_with fail
      refine (Henc.out A c _ (hD.frm hf1) hrow.cellsAt).mono ?_
      rintro e w2 ⟨rfl, hf2⟩
      go_wp2_with fail
      refine (clip_any A m c hmc (by omega) _).mono ?_
      rintro e w' ⟨rfl, rfl⟩
      go_wp2_with fail
      go_ret2
      refine ⟨A, c, by rw [HE.out, HN.out]; rfl, by rw [HN.out, HFF.out]; exact hrow.quiet hf2, by rw [HN.out]; exact hfv, hf1.trans hf2 (by simp)⟩
    · rw [if_neg hB] at hdE
      rw [if_neg (by rw [hdE]; decide)] at hdN
      have hbt : ((bstr (ckB (ckN F m))).toList == s.toList) = false := by rw [hb, decide_eq_false hB]
      have hbt2 : (!((bstr (ckB (ckN F m))).toList == s.toList)) = true := by rw [hbt]; rfl
      have HE := hide hdE
      have HN := hide hdN
      clear henc htell hb hB hdE hdN
      generalize bstr (ckB (ckN F m)) = B at hbt hbt2 Henc
      go_enter Tryd.func24, Tryd.ntmps24
      go_wp2_with fail
      refine Hread.out.mono ?_
      rintro e w1 ⟨v, rfl, hrow, hfv, hf1⟩
      obtain ⟨A, c, rfl, hmc, hc63⟩ := hrow.form
      go_wp2_with fail
      refine (Henc.out A c _ (hD.frm hf1) hrow.cellsAt).mono ?_
      rintro e w2 ⟨rfl, hf2⟩
      go_wp2_with fail
      go_ret2
      refine ⟨none, 0, by rw [HE.out, HN.out]; rfl, by rw [HN.out]; exact SRow.nil _ _ _, by rw [HN.out]; exact Fresh.nil _, hf1.trans hf2 (by simp)⟩
  · rw [if_pos he] at hdE
    rw [if_neg (by rw [hdE]; exact he)] at hdN
    have hne : (er != 0) = true := by rw [bne_iff_ne]; exact he
    have HE := hide hdE
    have HN := hide hdN
    clear htell hb hdE hdN
    go_enter Tryd.func24, Tryd.ntmps24
    go_wp2_with fail
    refine Hread.out.mono ?_
    rintro e w1 ⟨v, rfl, hrow, hfv, hf1⟩
    go_wp2_with fail
    go_ret2
    refine ⟨none, 0, by rw [HE.out, HN.out]; rfl, by rw [HN.out]; exact SRow.nil _ _ _, by rw [HN.out]; exact Fresh.nil _, hf1⟩

end Go.Proofs.YtdnllmibchmnnaaDoor
