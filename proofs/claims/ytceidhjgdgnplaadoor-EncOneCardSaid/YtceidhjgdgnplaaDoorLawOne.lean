/-
  EncOne's walk: bytes that are read as a number are the one form of that number.
-/
import Derived.Test.YtceidhjgdgnplaaDoorWakb
import Derived.Test.YtceidhjgdgnplaaDoorVarb
import Derived.Test.YtceidhjgdgnplaaDoorUnfr
import Derived.Test.YtceidhjgdgnplaaDoorQui
namespace Go.Proofs.YtceidhjgdgnplaaDoor
set_option linter.unusedVariables false
set_option linter.unusedSimpArgs false
open Go.RowKit Go.BigFrame

set_option maxRecDepth 100000 in
set_option maxHeartbeats 4000000 in
theorem one_walk (s : ByteArray) (hs : s.size ≤ 140737488355328) (a : Int) (w : World) (hN : NibAt w) :
    Calls Tryd.prog 8 #[.string s, .int .i64 a] w fun e w' => e = .returned (.bool true) ∧ Frm [] w w' := by
  have hc := readuint_any s a hs
  have hr := readint_any s a hs
  by_cases he : (readU (bl s) a).2.2 = 0
  · obtain ⟨n, J, rfl, hnx, hle, hform⟩ := readU_form (bl s) (bl_lt s) a he
    rw [bl_length] at hle
    have hlt := readU_lt (bl s) (n : Int)
    have hex : s.extract n (n + (J + 1)) = bstr (uintB (readU (bl s) (n : Int)).1) := by
      apply bl_inj
      rw [bl_bstr _ (uintB_lt _), hform, bl_extract, Nat.add_sub_cancel_left]
    generalize readU (bl s) (n : Int) = r at hc hr he hnx hlt hex
    obtain ⟨v, nx, er⟩ := r
    simp only at he hnx hlt hex
    subst he hnx
    have hz := zig_unzig v
    obtain ⟨hu1, hu2⟩ := unzig_lim v hlt
    have hti : tellI (v, n + (J + 1), 0) = .tuple #[.int .i64 (unzig v), .int .i64 ((n + (J + 1) : Nat) : Int), .int .i64 0] := rfl
    rw [hti] at hr
    simp only [tellU] at hc
    have hint := int_any (unzig v) hu1 hu2
    rw [hz] at hint
    have hsl := slice_mid2 (P := Tryd.prog) Tryd.underlying9 s n (J + 1) (n : Int) ((n : Int) + ((J : Int) + 1)) rfl (by omega) hle
    rw [hex] at hsl
    have huint := uint_any v _ rfl hlt
    generalize unzig v = u at hr hint
    generalize bstr (uintB v) = F at hsl huint hint
    have Hc := hide hc
    have Hr := hide hr
    clear hc hr hti hz hex hform
    have g1 : decide (0 ≤ (n : Int)) = true := by rw [decide_eq_true_eq]; omega
    have g2 : decide ((n : Int) < (n : Int) + ((J : Int) + 1)) = true := by rw [decide_eq_true_eq]; omega
    have g3 : decide ((n : Int) + ((J : Int) + 1) ≤ (s.size : Int)) = true := by rw [decide_eq_true_eq]; omega
    go_enter Tryd.func8, Tryd.ntmps8
    go_wp2_with fail
    refine (Hc.out _).mono ?_
    rintro e w' ⟨rfl, rfl⟩
    go_wp2_with fail
    refine (Hr.out _).mono ?_
    rintro e w' ⟨rfl, rfl⟩
    go_wp2_with fail
    refine wp_region_frm (by kernel_rfl) (by kernel_rfl) ?_
    repeat (go_big_quiet_step (first | (go_at_call 20; exact calls_frm (wakb_any _ (hN.frm (Wd.frm _)))) | (go_at_call 29; exact calls_frm (huint _)) | (go_at_call 37; exact calls_frm (hint _))))
    refine wpQuiet_nil ?_
    rintro _ ⟨u, rfl⟩
    go_wp2_with fail
    go_ret
    exact ⟨rfl, u.frm⟩
  · have herr := readU_err (bl s) a he
    generalize readU (bl s) a = r at hc hr he herr
    obtain ⟨v, nx, er⟩ := r
    simp only at he herr
    have hti : tellI (v, nx, er) = .tuple #[.int .i64 0, .int .i64 0, .int .i64 (er : Int)] := by simp [tellI, he]
    rw [hti] at hr
    rw [herr] at hc
    simp only [tellU] at hc
    have hne : ((er : Int) != 0) = true := by rw [bne_iff_ne]; omega
    have Hc := hide hc
    have Hr := hide hr
    clear hc hr hti herr he
    go_enter Tryd.func8, Tryd.ntmps8
    go_wp2_with fail
    refine (Hc.out _).mono ?_
    rintro e w' ⟨rfl, rfl⟩
    go_wp2_with fail
    refine (Hr.out _).mono ?_
    rintro e w' ⟨rfl, rfl⟩
    go_wp2_with fail
    refine (wakb_any _ hN).mono ?_
    rintro e w1 ⟨rfl, hf1⟩
    go_wp2_with fail
    go_ret
    exact ⟨rfl, hf1⟩

end Go.Proofs.YtceidhjgdgnplaaDoor
