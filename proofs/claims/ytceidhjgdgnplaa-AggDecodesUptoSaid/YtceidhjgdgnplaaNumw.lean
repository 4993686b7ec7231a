/-
  The contracts of what reads the next number: Decode's closure and the document's reader.
-/
import Derived.Test.YtceidhjgdgnplaaDecp
import Derived.Test.YtceidhjgdgnplaaQui
import Derived.Outline
namespace Go.Proofs.Ytceidhjgdgnplaa
set_option linter.unusedVariables false
set_option linter.unusedSimpArgs false
open Go.RowKit Go.BigFrame

/-- The closure's three variables: the error, the text, the place. -/
structure NumSt (w : World) (be bs ba : Nat) (s : ByteArray) (a e : Nat) : Prop where
  eB : Blk w be 49 #[.int .i64 (e : Int)]
  sB : Blk w bs 9 #[.string s]
  aB : Blk w ba 3 #[.int .i64 (a : Int)]

theorem NumSt.quiet {w w1 : World} {be bs ba : Nat} {s : ByteArray} {a e : Nat} (h : NumSt w be bs ba s a e) (hf : Frm [] w w1) : NumSt w1 be bs ba s a e :=
  ⟨h.eB.frm hf (by simp), h.sB.frm hf (by simp), h.aB.frm hf (by simp)⟩
theorem NumSt.away {S : List Nat} {w w1 : World} {be bs ba : Nat} {s : ByteArray} {a e : Nat} (h : NumSt w be bs ba s a e) (hf : Frm S w w1) (h1 : be ∉ S) (h2 : bs ∉ S) (h3 : ba ∉ S) : NumSt w1 be bs ba s a e :=
  ⟨h.eB.frm hf h1, h.sB.frm hf h2, h.aB.frm hf h3⟩

set_option maxRecDepth 100000 in
set_option maxHeartbeats 1000000 in
theorem clos_any (be bs ba : Nat) (s : ByteArray) (a e : Nat) (hs : s.size ≤ 4611686018427387904) (w : World) (h : NumSt w be bs ba s a e) :
    Calls Try.prog 47 #[.pointer (some ⟨be, 0, none⟩), .pointer (some ⟨bs, 0, none⟩), .pointer (some ⟨ba, 0, none⟩)] w fun e' w' =>
      e' = .returned (.int .u64 ((nxt (bl s) a e).1 : Nat)) ∧ NumSt w' be bs ba s (nxt (bl s) a e).2.1 (nxt (bl s) a e).2.2 ∧ Frm [ba, be] w w' := by
  have c0 : w.cell? ⟨be, 0, none⟩ = some (.int .i64 (e : Int)) := h.eB.cell 0
  have c1 : w.cell? ⟨bs, 0, none⟩ = some (.string s) := h.sB.cell 0
  have c2 : w.cell? ⟨ba, 0, none⟩ = some (.int .i64 (a : Int)) := h.aB.cell 0
  have f0 := h.eB.frozen 0
  have f2 := h.aB.frozen 0
  have n1 : be ≠ ba := h.eB.ne_ h.aB (by decide)
  have n2 : bs ≠ ba := h.sB.ne_ h.aB (by decide)
  have n3 : bs ≠ be := h.sB.ne_ h.eB (by decide)
  by_cases h0 : e = 0
  · have hx : nxt (bl s) a e = readU (bl s) (a : Int) := by unfold nxt; rw [if_pos h0]
    rw [hx]
    subst h0
    clear hx
    have hrr := fun W => (readuint_wide s (a : Int) hs W)
    obtain ⟨q, hq⟩ : ∃ q, q = readU (bl s) (a : Int) := ⟨_, rfl⟩
    rw [← hq] at hrr ⊢
    clear hq
    obtain ⟨r1, r2, r3⟩ := q
    unfold tellU at hrr
    simp only at hrr ⊢
    go_enter Try.func47, Try.ntmps47
    go_wp2_with fail
    refine (hrr _).mono ?_
    rintro e' w1 ⟨rfl, rfl⟩
    go_wp2
    go_ret
    refine ⟨rfl, ⟨?_, ?_, ?_⟩, ?_⟩
    · have := (h.eB.far (p := ⟨ba, 0, none⟩) n1 (.int .i64 (r2 : Int))).set_ 0 (.int .i64 (r3 : Int))
      simpa using this
    · exact (h.sB.far (p := ⟨ba, 0, none⟩) n2 _).far (p := ⟨be, 0, none⟩) n3 _
    · have := (h.aB.set_ 0 (.int .i64 (r2 : Int))).far (p := ⟨be, 0, none⟩) (Ne.symm n1) (.int .i64 (r3 : Int))
      simpa using this
    · exact ((Frm.refl [ba, be] w).setCell (p := ⟨ba, 0, none⟩) (.inl (by simp)) _).setCell (p := ⟨be, 0, none⟩) (.inl (by simp)) _
  · have hx : nxt (bl s) a e = (0, a, e) := by unfold nxt; rw [if_neg h0]
    rw [hx]
    have he : (((e : Nat) : Int) == 0) = false := by rw [beq_eq_false_iff_ne]; omega
    clear hx
    go_enter Try.func47, Try.ntmps47
    go_wp2
    go_ret
    exact ⟨rfl, h, Frm.refl _ _⟩

/-- The document's reader in block r. -/
def RdrAt (w : World) (r : Nat) (s : ByteArray) (a e : Nat) : Prop := Blk w r 93 #[.string s, .int .i64 (a : Int), .int .i64 (e : Int)]

set_option maxRecDepth 100000 in
set_option maxHeartbeats 1000000 in
theorem rnum_any (r : Nat) (s : ByteArray) (a e : Nat) (hs : s.size ≤ 4611686018427387904) (w : World) (h : RdrAt w r s a e) :
    Calls Try.prog 48 #[.pointer (some ⟨r, 0, none⟩)] w fun e' w' =>
      e' = .returned (.int .u64 ((nxt (bl s) a e).1 : Nat)) ∧ RdrAt w' r s (nxt (bl s) a e).2.1 (nxt (bl s) a e).2.2 ∧ Frm [r] w w' := by
  unfold RdrAt at h ⊢
  have c0 : w.cell? ⟨r, 0, none⟩ = some (.string s) := h.cell 0
  have c1 : w.cell? ⟨r, 1, none⟩ = some (.int .i64 (a : Int)) := h.cell 1
  have c2 : w.cell? ⟨r, 2, none⟩ = some (.int .i64 (e : Int)) := h.cell 2
  have f0 := h.frozen 0
  have f1 := h.frozen 1
  have f2 := h.frozen 2
  by_cases h0 : e = 0
  · have hx : nxt (bl s) a e = readU (bl s) (a : Int) := by unfold nxt; rw [if_pos h0]
    rw [hx]
    subst h0
    clear hx
    have hrd := fun W => (readuint_wide s (a : Int) hs W)
    have hrr := fun W => (rreaduint_wide s (a : Int) hs W)
    obtain ⟨q, hq⟩ : ∃ q, q = readU (bl s) (a : Int) := ⟨_, rfl⟩
    rw [← hq] at hrr ⊢
    clear hq hrd
    obtain ⟨r1, r2, r3⟩ := q
    unfold tellU at hrr
    simp only at hrr ⊢
    go_enter Try.func48, Try.ntmps48
    go_wp2_with fail
    go_quiet ((go_at_call 52; exact Calls.quiet_of_same ((hrr _).mono fun _ _ ⟨x, y⟩ => ⟨x, y.symm⟩)))
    go_wp2
    go_ret
    refine ⟨rfl, ?_, ?_⟩
    · have := ((h.drewN nq).set_ 1 (.int .i64 (r2 : Int))).set_ 2 (.int .i64 (r3 : Int))
      simpa using this
    · exact (((Frm.refl [r] w).drewN _).setCell (p := ⟨r, 1, none⟩) (.inl (by simp)) _).setCell (p := ⟨r, 2, none⟩) (.inl (by simp)) _
  · have hx : nxt (bl s) a e = (0, a, e) := by unfold nxt; rw [if_neg h0]
    rw [hx]
    have he : (((e : Nat) : Int) == 0) = false := by rw [beq_eq_false_iff_ne]; omega
    have he' : (((e : Nat) : Int) != 0) = true := by rw [bne_iff_ne]; omega
    clear hx
    go_enter Try.func48, Try.ntmps48
    go_wp2
    go_ret
    exact ⟨rfl, h, Frm.refl _ _⟩

end Go.Proofs.Ytceidhjgdgnplaa
