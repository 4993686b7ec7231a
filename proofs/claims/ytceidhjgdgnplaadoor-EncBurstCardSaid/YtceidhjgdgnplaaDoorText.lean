/-
  The contracts of the texts with their length ahead.
-/
import Derived.Test.YtceidhjgdgnplaaDoorInt
import Derived.Laws.DeepStrings4
namespace Go.Proofs.YtceidhjgdgnplaaDoor
set_option linter.unusedVariables false
set_option linter.unusedSimpArgs false
open Go.RowKit

theorem readU_err (l : List Nat) (a : Int) (h : (readU l a).2.2 ≠ 0) : readU l a = (0, 0, (readU l a).2.2) := by
  by_cases ho : a < 0 ∨ (l.length : Int) ≤ a
  · rw [readU_out l a ho]
  · obtain ⟨n, rfl⟩ : ∃ n : Nat, a = (n : Int) := ⟨a.toNat, by omega⟩
    rw [readU_span l n _ (by omega) rfl] at h ⊢
    split
    · rfl
    · rename_i h1
      rw [if_neg h1] at h
      split
      · rfl
      · rename_i h2
        rw [if_neg h2] at h
        exact absurd rfl h

theorem readU_ok (l : List Nat) (a : Int) (h : (readU l a).2.2 = 0) :
    ∃ n J : Nat, a = (n : Int) ∧ spanN 9 (l.drop n) = J ∧ n + J < l.length ∧ ¬ (J = 9 ∧ 1 < l.getD (n + J) 0 ∨ 0 < J ∧ l.getD (n + J) 0 = 0) ∧ readU l a = (tailD (l.drop n) J 0, n + J + 1, 0) := by
  by_cases ho : a < 0 ∨ (l.length : Int) ≤ a
  · rw [readU_out l a ho] at h; exact absurd h (by decide)
  · obtain ⟨n, rfl⟩ : ∃ n : Nat, a = (n : Int) := ⟨a.toNat, by omega⟩
    have hsp := readU_span l n _ (by omega) rfl
    rw [hsp] at h
    by_cases h1 : l.length ≤ n + spanN 9 (l.drop n)
    · rw [if_pos h1] at h; exact absurd h (by decide)
    · rw [if_neg h1] at h hsp
      split at h
      · exact absurd h (by decide)
      · rename_i h2
        rw [if_neg h2] at hsp
        exact ⟨n, _, rfl, rfl, by omega, h2, hsp⟩

theorem readU_next (l : List Nat) (a : Int) (h : (readU l a).2.2 = 0) : 0 ≤ a ∧ a < ((readU l a).2.1 : Int) ∧ (readU l a).2.1 ≤ l.length := by
  obtain ⟨n, J, rfl, hJ, hl, hc, e⟩ := readU_ok l a h
  rw [e]
  simp only
  omega

/-- A text with its length ahead. -/
def textS (s : ByteArray) : ByteArray := bstr (uintB s.size) ++ s

theorem uint_size (v : Nat) : (bstr (uintB v)).size ≤ 10 := by rw [bstr_size]; exact uintB_le v

set_option maxRecDepth 100000 in
set_option maxHeartbeats 1000000 in
theorem text_any (s : ByteArray) (hs : s.size ≤ 140737488355328) (w : World) :
    Calls Tryd.prog 41 #[.string s] w fun e w' => e = .returned (.string (textS s)) ∧ Frm [] w w' := by
  have hu := uint_size s.size
  go_enter Tryd.func41, Tryd.ntmps41
  go_wp2_with fail
  refine (uint_any s.size _ (by first | rfl | omega) (by omega) _).mono ?_
  rintro e w1 ⟨rfl, hf⟩
  go_wp2_with fail
  go_ret
  exact ⟨rfl, hf⟩

set_option maxRecDepth 100000 in
set_option maxHeartbeats 1000000 in
theorem rtext_any (s : ByteArray) (hs : s.size ≤ 140737488355328) (w : World) :
    Calls Tryd.prog 42 #[.string s] w fun e w' => e = .returned (.string (textS s)) ∧ Frm [] w w' := by
  have hu := uint_size s.size
  go_enter Tryd.func42, Tryd.ntmps42
  go_wp2_with fail
  refine (ruint_any s.size _ (by first | rfl | omega) (by omega) _).mono ?_
  rintro e w1 ⟨rfl, hf⟩
  go_wp2_with fail
  go_ret
  exact ⟨rfl, hf⟩

/-- What ReadText tells. -/
def tellT (s : ByteArray) (r : Nat × Nat × Nat) : Value :=
  if r.2.2 ≠ 0 then .tuple #[.string (bstr []), .int .i64 0, .int .i64 (r.2.2 : Int)]
  else if s.size < r.1 + r.2.1 then .tuple #[.string (bstr []), .int .i64 0, .int .i64 20]
  else .tuple #[.string (s.extract r.2.1 (r.2.1 + r.1)), .int .i64 ((r.2.1 + r.1 : Nat) : Int), .int .i64 0]

theorem slice_mid {P : Program} {t : TypeId} (ht : P.underlying t = some .string) (s : ByteArray) (m n : Nat) (h : m + n ≤ s.size) (W : World) :
    (Instr.slice t (.string s) (some (.int .i64 (m : Int))) (some (.int .i64 ((m : Int) + (n : Int)))) none).run P W = .ok (.string (s.extract m (m + n))) W := by
  rw [run_slice_string (h := ht) (h0 := by omega) (h1 := by omega) (h2 := by omega)]
  rfl

set_option maxRecDepth 100000 in
set_option maxHeartbeats 1000000 in
theorem readtext_any (s : ByteArray) (a : Int) (hs : s.size ≤ 140737488355328) (w : World) :
    Calls Tryd.prog 39 #[.string s, .int .i64 a] w fun e w' => e = .returned (tellT s (readU (bl s) a)) ∧ w = w' := by
  have hlt := readU_lt (bl s) a
  have hn := readU_next (bl s) a
  rw [bl_length] at hn
  have hc := readuint_any s a hs w
  generalize readU (bl s) a = r at hlt hn hc ⊢
  obtain ⟨n, m, er⟩ := r
  have Hc := hide hc
  clear hc
  simp only at hlt hn
  by_cases he : er = 0
  · have hm : m ≤ s.size := (hn he).2.2
    subst he
    clear hn
    by_cases hlong : s.size < n + m
    · have ht : tellT s (n, m, 0) = .tuple #[.string (bstr []), .int .i64 0, .int .i64 20] := by unfold tellT; rw [if_neg (by simp), if_pos hlong]
      rw [ht]
      clear ht
      go_enter Tryd.func39, Tryd.ntmps39
      go_wp2_with fail
      refine (Hc.out).mono ?_
      rintro e w' ⟨rfl, rfl⟩
      simp only [tellU]
      go_wp2_with fail
      go_ret3
      exact ⟨rfl, rfl⟩
    · have ht : tellT s (n, m, 0) = .tuple #[.string (s.extract m (m + n)), .int .i64 ((m + n : Nat) : Int), .int .i64 0] := by unfold tellT; rw [if_neg (by simp), if_neg hlong]
      rw [ht]
      have hsl : ∀ W, (Instr.slice 9 (.string s) (some (.int .i64 (m : Int))) (some (.int .i64 ((m : Int) + (n : Int)))) none).run Tryd.prog W = .ok (.string (s.extract m (m + n))) W := slice_mid Tryd.underlying9 s m n (by omega)
      clear ht
      go_enter Tryd.func39, Tryd.ntmps39
      go_wp2_with fail
      refine (Hc.out).mono ?_
      rintro e w' ⟨rfl, rfl⟩
      simp only [tellU]
      go_wp2_with fail
      go_ret3
      exact ⟨rfl, rfl⟩
  · have hne : ((er : Int) != 0) = true := by rw [bne_iff_ne]; omega
    have ht : tellT s (n, m, er) = .tuple #[.string (bstr []), .int .i64 0, .int .i64 (er : Int)] := by unfold tellT; rw [if_pos (by simpa using he)]
    rw [ht]
    clear ht he hn
    go_enter Tryd.func39, Tryd.ntmps39
    go_wp2_with fail
    refine (Hc.out).mono ?_
    rintro e w' ⟨rfl, rfl⟩
    simp only [tellU]
    go_wp2_with fail
    go_ret3
    exact ⟨rfl, rfl⟩

set_option maxRecDepth 100000 in
set_option maxHeartbeats 1000000 in
theorem rreadtext_any (s : ByteArray) (a : Int) (hs : s.size ≤ 140737488355328) (w : World) :
    Calls Tryd.prog 40 #[.string s, .int .i64 a] w fun e w' => e = .returned (tellT s (readU (bl s) a)) ∧ w = w' := by
  have hlt := readU_lt (bl s) a
  have hn := readU_next (bl s) a
  rw [bl_length] at hn
  have hc := rreaduint_any s a hs w
  generalize readU (bl s) a = r at hlt hn hc ⊢
  obtain ⟨n, m, er⟩ := r
  have Hc := hide hc
  clear hc
  simp only at hlt hn
  by_cases he : er = 0
  · have hm : m ≤ s.size := (hn he).2.2
    subst he
    clear hn
    by_cases hlong : s.size < n + m
    · have ht : tellT s (n, m, 0) = .tuple #[.string (bstr []), .int .i64 0, .int .i64 20] := by unfold tellT; rw [if_neg (by simp), if_pos hlong]
      rw [ht]
      clear ht
      go_enter Tryd.func40, Tryd.ntmps40
      go_wp2_with fail
      refine (Hc.out).mono ?_
      rintro e w' ⟨rfl, rfl⟩
      simp only [tellU]
      go_wp2_with fail
      go_ret3
      exact ⟨rfl, rfl⟩
    · have ht : tellT s (n, m, 0) = .tuple #[.string (s.extract m (m + n)), .int .i64 ((m + n : Nat) : Int), .int .i64 0] := by unfold tellT; rw [if_neg (by simp), if_neg hlong]
      rw [ht]
      have hsl : ∀ W, (Instr.slice 9 (.string s) (some (.int .i64 (m : Int))) (some (.int .i64 ((m : Int) + (n : Int)))) none).run Tryd.prog W = .ok (.string (s.extract m (m + n))) W := slice_mid Tryd.underlying9 s m n (by omega)
      clear ht
      go_enter Tryd.func40, Tryd.ntmps40
      go_wp2_with fail
      refine (Hc.out).mono ?_
      rintro e w' ⟨rfl, rfl⟩
      simp only [tellU]
      go_wp2_with fail
      go_ret3
      exact ⟨rfl, rfl⟩
  · have hne : ((er : Int) != 0) = true := by rw [bne_iff_ne]; omega
    have ht : tellT s (n, m, er) = .tuple #[.string (bstr []), .int .i64 0, .int .i64 (er : Int)] := by unfold tellT; rw [if_pos (by simpa using he)]
    rw [ht]
    clear ht he hn
    go_enter Tryd.func40, Tryd.ntmps40
    go_wp2_with fail
    refine (Hc.out).mono ?_
    rintro e w' ⟨rfl, rfl⟩
    simp only [tellU]
    go_wp2_with fail
    go_ret3
    exact ⟨rfl, rfl⟩

end Go.Proofs.YtceidhjgdgnplaaDoor
