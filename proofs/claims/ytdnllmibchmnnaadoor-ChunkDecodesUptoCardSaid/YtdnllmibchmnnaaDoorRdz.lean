/-
  The contract of the document's Decode.
-/
import Derived.Test.YtdnllmibchmnnaaDoorRrq
import Derived.Test.YtdnllmibchmnnaaDoorDec
namespace Go.Proofs.YtdnllmibchmnnaaDoor
set_option linter.unusedVariables false
set_option linter.unusedSimpArgs false
open Go.RowKit Go.BigFrame

/-- What the document's Decode leaves: a new row and the error. -/
def RefDec (e : TypeId) (l : List Nat) (w : World) (r : Ending) (w' : World) : Prop :=
  ∃ A c, r = .returned (.tuple #[.slice A (decN l) c, .int .i64 (decE l)]) ∧ SRow w' e (.slice A (decN l) c) (decN l) (rdF (rdL l)) ∧ Frm [] w w'

set_option maxRecDepth 100000 in
set_option maxHeartbeats 1000000 in
theorem rdecode_any (s : ByteArray) (hs : 8 * s.size ≤ 140737488355328) (w : World) :
    Calls Tryd.prog 25 #[.string s] w (RefDec 45 (bl s) w) := by
  have hread := rrread_any s hs w
  obtain ⟨cc, hM1, hM2, hM3⟩ := rdM_form (bl s)
  have hokF := rd_ok hM1
  have hfa := rd_fa hM2 hM1 _ (Nat.le_refl _)
  have hdE : decE (bl s) = if (rdM (bl s)).2 ≠ 0 then (rdM (bl s)).2 else if ckB (ckN (rdF (rdL (bl s))) (rdM (bl s)).1) = bl s then 0 else 21 := rfl
  have hdN : decN (bl s) = if decE (bl s) = 0 then (rdM (bl s)).1 else 0 := rfl
  obtain ⟨l, hl⟩ : ∃ l, bl s = l := ⟨_, rfl⟩
  have hb := str_beq_iff (bstr (ckB (ckN (rdF (rdL l)) (rdM l).1))) s
  rw [bl_bstr _ (ckB_byte _)] at hb
  rw [hl] at hread hokF hfa hdE hdN hb hM2 ⊢
  clear hM1 hM3 hl
  unfold NewRd at hread
  generalize hFF : rdF (rdL l) = F at *
  obtain ⟨r, hr⟩ : ∃ r, rdM l = r := ⟨_, rfl⟩
  rw [hr] at hread hokF hfa hdE hdN hb hM2
  clear hr
  obtain ⟨m, er⟩ := r
  simp only at hread hokF hfa hdE hdN hb hM2
  have HFF := hide hFF
  have Hread := hide hread
  clear hread hFF
  by_cases he : er = 0
  · rw [if_neg (by simp [he])] at hdE
    subst he
    have henc := fun (A : Option Addr) (cap : Nat) W hc => rckbytes_any A m cap F hokF hfa W hc
    have Henc := hide henc
    have hz : ((0 : Int) != 0) = false := by decide
    by_cases hB : ckB (ckN F m) = l
    · rw [if_pos hB] at hdE
      rw [if_pos hdE] at hdN
      have hbt : ((bstr (ckB (ckN F m))).toList == s.toList) = true := by rw [hb, decide_eq_true hB]
      have hbt2 : (!((bstr (ckB (ckN F m))).toList == s.toList)) = false := by rw [hbt]; rfl
      have HE := hide hdE
      have HN := hide hdN
      clear henc hb hB hdE hdN
      generalize bstr (ckB (ckN F m)) = B at hbt hbt2 Henc
      go_enter Tryd.func25, Tryd.ntmps25
      go_wp2_with fail
      refine Hread.out.mono ?_
      rintro e w1 ⟨v, rfl, hrow, hfv, hf1⟩
      obtain ⟨A, c, rfl, hmc, hc63⟩ := hrow.form
      go_wp2_with fail
      refine (Henc.out A c _ hrow.cellsAt).mono ?_
      rintro e w2 ⟨rfl, hf2⟩
      go_wp2_with fail
      go_ret2
      refine ⟨A, c, by rw [HE.out, HN.out]; rfl, by rw [HN.out, HFF.out]; exact hrow.quiet hf2, hf1.trans hf2 (by simp)⟩
    · rw [if_neg hB] at hdE
      rw [if_neg (by rw [hdE]; decide)] at hdN
      have hbt : ((bstr (ckB (ckN F m))).toList == s.toList) = false := by rw [hb, decide_eq_false hB]
      have hbt2 : (!((bstr (ckB (ckN F m))).toList == s.toList)) = true := by rw [hbt]; rfl
      have HE := hide hdE
      have HN := hide hdN
      clear henc hb hB hdE hdN
      generalize bstr (ckB (ckN F m)) = B at hbt hbt2 Henc
      go_enter Tryd.func25, Tryd.ntmps25
      go_wp2_with fail
      refine Hread.out.mono ?_
      rintro e w1 ⟨v, rfl, hrow, hfv, hf1⟩
      obtain ⟨A, c, rfl, hmc, hc63⟩ := hrow.form
      go_wp2_with fail
      refine (Henc.out A c _ hrow.cellsAt).mono ?_
      rintro e w2 ⟨rfl, hf2⟩
      go_wp2_with fail
      go_ret2
      refine ⟨none, 0, by rw [HE.out, HN.out]; rfl, by rw [HN.out]; exact SRow.nil _ _ _, hf1.trans hf2 (by simp)⟩
  · rw [if_pos he] at hdE
    rw [if_neg (by rw [hdE]; exact he)] at hdN
    have hne : (er != 0) = true := by rw [bne_iff_ne]; exact he
    have HE := hide hdE
    have HN := hide hdN
    clear hb hdE hdN
    go_enter Tryd.func25, Tryd.ntmps25
    go_wp2_with fail
    refine Hread.out.mono ?_
    rintro e w1 ⟨v, rfl, hrow, hfv, hf1⟩
    go_wp2_with fail
    go_ret2
    refine ⟨none, 0, by rw [HE.out, HN.out]; rfl, by rw [HN.out]; exact SRow.nil _ _ _, hf1⟩

end Go.Proofs.YtdnllmibchmnnaaDoor
