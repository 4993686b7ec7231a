/-
  An argument of the laws of layer 1: a slice of Fields.
-/
import Derived.Test.YtceidhjgdgnplaaArgs
import Derived.Test.YtceidhjgdgnplaaFrame
import Derived.SizedLaws
namespace Go.Proofs.Ytceidhjgdgnplaa
open Go.ChangeShapes Go.WideShapes Go.ChangeAt Go.RowKit

/-- The two cells of element i. -/
theorem cells2 {w : World} {A : Option Addr} {n : Nat} {f : Nat → Nat → Value} (h : CellsAt w A n 2 f) {i : Nat} (hi : i < n) :
    ∃ b off, A = some ⟨b, off, none⟩ ∧ b < w.heap.size ∧ w.cell? ⟨b, off + i * 2, none⟩ = some (f i 0) ∧ w.cell? ⟨b, off + i * 2 + 1, none⟩ = some (f i 1) := by
  obtain ⟨b, off, hA, hb, hc⟩ := h (by omega)
  exact ⟨b, off, hA, hb, by simpa using hc i 0 hi (by decide), by simpa [Nat.add_assoc] using hc i 1 hi (by decide)⟩

theorem Try.bytesField : Try.prog.bytesOf 29 = 16 := by kernel_rfl

/-- The cells of a list of fields, as numbers. -/
def FieldsAt (w : World) (A : Option Addr) (n : Nat) (V : Nat → Nat) (N : Nat → Int) : Prop :=
  CellsAt w A n 2 (fun i j => if j = 0 then .int .u64 ((V i : Nat) : Int) else .int .i64 (N i)) ∧ ∀ i, i < n → V i < 18446744073709551616 ∧ -9223372036854775808 ≤ N i ∧ N i ≤ 9223372036854775807

theorem open_fields {H : Type} {enc : TypeId × Value → H} {w : World} {b0 : Nat} {v : Value} {d : DataW H} {p : List MemPlace}
    (hv : Value.okWide Try.prog w .any b0 22 v) (h : DataW.Trod enc Try.prog w 0 (fun _ => true) true 22 v d p) :
    ∃ (A : Option Addr) (n cap : Nat) (V : Nat → Nat) (N : Nat → Int), v = .slice A n cap ∧ FieldsAt w A n V N ∧ (n = 0 ∨ ∃ elems sp, d = .slice elems sp ∧ elems.length = n) := by
  obtain ⟨A, n, cap, f, rfl, hc, hwf, hd⟩ := open_int_structs (ks := fun j => if j = 0 then .u64 else .i64) Try.underlying22 Try.underlying29 (by kernel_rfl) (by kernel_rfl)
    (fun j f hj => by
      match j, hj with
      | 0, hj => cases hj; exact Try.underlying27
      | 1, hj => cases hj; exact Try.underlying3
      | j + 2, hj => simp at hj) (by decide) hv h
  refine ⟨A, n, cap, fun i => (f i 0).toNat, fun i => f i 1, rfl, ⟨?_, ?_⟩, ?_⟩
  · intro hn
    obtain ⟨b, off, hA, hb, hcell⟩ := hc hn
    refine ⟨b, off, hA, hb, fun i j hi hj => ?_⟩
    have := hcell i j hi (by simpa using hj)
    have hw := hwf i 0 hi (by simp)
    simp only [↓reduceIte, Lit.wf, Bool.and_eq_true, decide_eq_true_eq, IntKind.min, IntKind.max, IntKind.signed, IntKind.bits] at hw
    match j, hj with
    | 0, _ =>
      simp only [↓reduceIte] at this ⊢
      have e : ((f i 0).toNat : Int) = f i 0 := by have := hw.1; simp at this; omega
      rw [e]; simpa using this
    | 1, _ => simpa using this
    | j + 2, hj => omega
  · intro i hi
    have h0 := hwf i 0 hi (by simp)
    have h1 := hwf i 1 hi (by simp)
    have a0 : IntKind.u64.min = 0 := rfl
    have a1 : IntKind.u64.max = 18446744073709551615 := rfl
    have a2 : IntKind.i64.min = -9223372036854775808 := rfl
    have a3 : IntKind.i64.max = 9223372036854775807 := rfl
    simp only [↓reduceIte, Lit.wf, Bool.and_eq_true, decide_eq_true_eq, a0, a1] at h0
    simp only [Nat.one_ne_zero, ↓reduceIte, Lit.wf, Bool.and_eq_true, decide_eq_true_eq, a2, a3] at h1
    dsimp only
    omega
  · rcases hd with h | ⟨elems, sp, h1, h2, _⟩
    · exact .inl h
    · exact .inr ⟨elems, sp, h1, h2⟩

/-- The form's own reach. -/
theorem fields_reach {H : Type} {ts : List TypeId} {ds : List (DataW H)} (h : (DataW.weightsEach Try.prog ts ds).all (· ≤ reachBytes) = true) {j : Nat} {d : DataW H} {n : Nat} (ht : ts[j]? = some 22) (hd : ds[j]? = some d)
    (hn : n = 0 ∨ ∃ elems sp, d = .slice elems sp ∧ elems.length = n) : n * 16 ≤ 140737488351232 := by
  rcases hn with rfl | ⟨elems, sp, rfl, rfl⟩
  · omega
  · have := sized_slice h ht hd Try.underlying22
    rw [Try.bytesField] at this
    simp only [reachBytes] at this
    omega

end Go.Proofs.Ytceidhjgdgnplaa
