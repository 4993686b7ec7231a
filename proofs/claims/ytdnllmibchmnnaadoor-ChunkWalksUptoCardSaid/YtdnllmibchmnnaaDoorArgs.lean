/-
  Slices of structs that come in: their cells, one by one.
  Conditions: none.
-/
import Derived.Test.YtdnllmibchmnnaaDoorBase
import Derived.Deep.Slices
import Derived.Deep.Fields
import Derived.ChangeSame
import Derived.ProofKit
namespace Go.Proofs.YtdnllmibchmnnaaDoor
set_option linter.unusedVariables false
set_option linter.unusedSimpArgs false
open Go.RowKit Go.ChangeShapes Go.WideShapes Go.Deep

/-- The slice A of n elements of sz cells holds f i j in cell j of element i. -/
def CellsAt (w : World) (A : Option Addr) (n sz : Nat) (f : Nat → Nat → Value) : Prop :=
  0 < n → ∃ b off, A = some ⟨b, off, none⟩ ∧ b < w.heap.size ∧ ∀ i j, i < n → j < sz → w.cell? ⟨b, off + (i * sz + j), none⟩ = some (f i j)

theorem cells1 {w : World} {A : Option Addr} {n : Nat} {f : Nat → Nat → Value} (h : CellsAt w A n 1 f) {i : Nat} (hi : i < n) :
    ∃ b off, A = some ⟨b, off, none⟩ ∧ b < w.heap.size ∧ w.cell? ⟨b, off + i, none⟩ = some (f i 0) := by
  obtain ⟨b, off, hA, hb, hc⟩ := h (by omega)
  exact ⟨b, off, hA, hb, by simpa using hc i 0 hi (by decide)⟩

theorem CellsAt.frm {w w' : World} {A : Option Addr} {n sz : Nat} {f : Nat → Nat → Value} (h : CellsAt w A n sz f) (hf : Frm [] w w') : CellsAt w' A n sz f := by
  intro hn
  obtain ⟨b, off, hA, hb, hc⟩ := h hn
  exact ⟨b, off, hA, Nat.lt_of_lt_of_le hb hf.size, fun i j hi hj => (hf.cell (p := ⟨b, _, none⟩) hb (by simp)).trans (hc i j hi hj)⟩

section
variable {H : Type} {enc : TypeId × Value → H} {P : Program} {w : World} {base : Nat} {spare : Nat → Bool} {held : Bool}
theorem open_slice_fields {t e : TypeId} {fs : Array Field} {fuel : Nat} {cs : List Value} {x : DataW H × List MemPlace} (ht : P.underlying t = some (.slice e)) (he : P.underlying e = some (.struct fs))
    (hone : oneCellFields P fs = true) (hC : P.cellsOf e = fs.size) (h : DataW.trod enc P w base spare held fuel t cs = some x) :
    (cs = [.slice none 0 0] ∧ x = (.nil, [])) ∨
    ∃ (a : Addr) (len cap m : Nat) (D : Nat → DataW H) (Pl : Nat → List MemPlace), cs = [.slice (some a) len cap] ∧ base ≤ a.block ∧ len ≤ cap ∧ cap ≤ maxLen ∧ m = (if spare a.block then cap else len) ∧
      x = (.slice ((List.range len).map D) ((List.range (m - len)).map fun j => D (len + j)), MemPlace.row a (m * fs.size) ++ (List.range m).flatMap Pl) ∧
      ∀ i, i < m → ∃ (ys : List (DataW H × List MemPlace)) (n : Nat), D i = .agg (ys.map (·.1)) ∧ Pl i = ys.flatMap (·.2) ∧ ys.length = fs.size ∧
        ∀ (j : Nat) (f : Field), fs[j]? = some f → ∃ (v : Value) (y : DataW H × List MemPlace), w.cell? (a.add (i * fs.size + j)) = some v ∧ ys[j]? = some y ∧ DataW.trod enc P w base spare held n f.type [v] = some y := by
  rcases open_slice ht h with h0 | ⟨a, len, cap, m, n, D, Pl, hcs, hb, hl, hm, hmm, hx, hi⟩
  · exact .inl h0
  · refine .inr ⟨a, len, cap, m, D, Pl, hcs, hb, hl, hm, hmm, by rw [hC] at hx; exact hx, fun i him => ?_⟩
    obtain ⟨cs', hc, ht'⟩ := hi i him
    rw [hC] at hc
    obtain ⟨ys, n', hn', hy, hlen, hyl, hf⟩ := DataW.trod_struct he ht'
    obtain ⟨_, hcl, hat⟩ := World.cells?_some hc
    simp only [Prod.mk.injEq] at hy
    refine ⟨ys, n', hy.1, hy.2, hyl, fun j f hj => ?_⟩
    obtain ⟨ho, hk⟩ := hone_of hone j f hj
    have hjl : j < fs.size := (Array.getElem?_eq_some_iff.1 hj).1
    have hcell := hat j hjl
    have hv : cs'[j]? = some (cs'[j]'(by omega)) := List.getElem?_eq_getElem (by omega)
    have h1 := hf j f hj
    rw [ho, hk] at h1
    have hone' : (cs'.drop j).take 1 = [cs'[j]'(by omega)] := by
      rw [List.drop_eq_getElem_cons (by omega)]
      rfl
    rw [hone'] at h1
    have hys : ys[j]? = some (ys[j]'(by omega)) := List.getElem?_eq_getElem (by omega)
    refine ⟨_, _, ?_, hys, h1.trans hys⟩
    rw [← Go.Deep.add_add, hcell, hv]
end

theorem addr_plain {w : World} {a : Addr} {v : Value} (h : w.cell? a = some v) : a.spot = none := by
  obtain ⟨b, off, spot⟩ := a
  unfold World.cell? at h
  cases spot with
  | none => rfl
  | some s => simp only [Option.isSome_some, if_true] at h; split at h <;> cases h

theorem add_plain' (b off n : Nat) : (⟨b, off, none⟩ : Addr).add n = ⟨b, off + n, none⟩ := by
  unfold Addr.add; split <;> simp_all

/-- A slice of structs of integer fields that came in: its length is the datum's, its cells are numbers of their kinds. -/
theorem open_int_structs {H : Type} {enc : TypeId × Value → H} {P : Program} {w : World} {base : Nat} {spare : Nat → Bool} {held : Bool} {r : Reach} {b0 : Nat} {t e : TypeId} {fs : Array Field} {ks : Nat → IntKind} {v : Value} {d : DataW H} {p : List MemPlace}
    (ht : P.underlying t = some (.slice e)) (he : P.underlying e = some (.struct fs)) (hone : oneCellFields P fs = true) (hC : P.cellsOf e = fs.size)
    (hk : ∀ j f, fs[j]? = some f → P.underlying f.type = some (.int (ks j))) (hpos : 0 < fs.size)
    (hv : Value.okWide P w r b0 t v) (h : DataW.Trod enc P w base spare held t v d p) :
    ∃ (A : Option Addr) (len cap : Nat) (f : Nat → Nat → Int), v = .slice A len cap ∧ CellsAt w A len fs.size (fun i j => .int (ks j) (f i j)) ∧ (∀ i j, i < len → j < fs.size → (Lit.int (ks j) (f i j)).wf = true) ∧
      (len = 0 ∨ ∃ elems sp, d = .slice elems sp ∧ elems.length = len ∧
        ∀ i, i < len → elems[i]? = some (.agg ((List.range fs.size).map fun j => .lit (.int (ks j) (f i j))))) := by
  obtain ⟨A, len, cap, rfl⟩ := okWide_slice ht hv
  obtain ⟨fuel, hf⟩ := h
  rcases open_slice_fields ht he hone hC hf with ⟨hcs, _⟩ | ⟨a, len', cap', m, D, Pl, hcs, _, hl, hm, hmm, hx, hi⟩
  · simp only [Value.cells, List.cons.injEq, Value.slice.injEq, and_true] at hcs
    obtain ⟨rfl, rfl, rfl⟩ := hcs
    exact ⟨none, 0, 0, fun _ _ => 0, rfl, fun h => absurd h (by omega), fun i j hi => absurd hi (by omega), .inl rfl⟩
  · simp only [Value.cells, List.cons.injEq, Value.slice.injEq, and_true] at hcs
    obtain ⟨rfl, rfl, rfl⟩ := hcs
    have hlm : len ≤ m := by rw [hmm]; split <;> omega
    have hex : ∀ x : Nat × Nat, ∃ z : Int, x.1 < len → x.2 < fs.size → w.cell? (a.add (x.1 * fs.size + x.2)) = some (.int (ks x.2) z) ∧ (Lit.int (ks x.2) z).wf = true ∧
        ∃ ys : List (DataW H × List MemPlace), D x.1 = .agg (ys.map (·.1)) ∧ ys.length = fs.size ∧ (ys.map (·.1))[x.2]? = some (.lit (.int (ks x.2) z)) := by
      rintro ⟨i, j⟩
      by_cases hij : i < len ∧ j < fs.size
      · obtain ⟨ys, n, hD, _, hyl, hfj⟩ := hi i (by omega)
        obtain ⟨v, y, hcell, hys, htr⟩ := hfj j (fs[j]'hij.2) (Array.getElem?_eq_getElem hij.2)
        obtain ⟨z, hz, hyz, hwf⟩ := DataW.trod_int (hk j _ (Array.getElem?_eq_getElem hij.2)) htr
        simp only [List.cons.injEq, and_true] at hz
        subst hz
        exact ⟨z, fun _ _ => ⟨hcell, hwf, ys, hD, hyl, by rw [List.getElem?_map, hys, hyz]; rfl⟩⟩
      · exact ⟨0, fun h1 h2 => absurd ⟨h1, h2⟩ hij⟩
    obtain ⟨f, hf⟩ := Classical.axiomOfChoice hex
    refine ⟨some a, len, cap, fun i j => f (i, j), rfl, fun hn => ?_, fun i j hi hj => (hf (i, j) hi hj).2.1, ?_⟩
    · have h00 := (hf (0, 0) hn hpos).1
      have hs : a.spot = none := by
        have := addr_plain h00
        unfold Addr.add at this
        simpa using this
      obtain ⟨b, off, spot⟩ := a
      simp only at hs
      subst hs
      refine ⟨b, off, rfl, ?_, fun i j hi hj => ?_⟩
      · exact World.block_lt_of_cell? w _ (by rw [add_plain'] at h00; exact h00)
      · rw [← add_plain']; exact (hf (i, j) hi hj).1
    · right
      have hd := (Prod.mk.inj hx).1
      refine ⟨_, _, hd, by simp, fun i hil => ?_⟩
      rw [List.getElem?_map, List.getElem?_range hil]
      simp only [Option.map_some, Option.some.injEq]
      obtain ⟨_, _, ys, hD, hyl, _⟩ := hf (i, 0) hil hpos
      rw [hD]
      congr 1
      apply List.ext_getElem?
      intro j
      by_cases hj : j < fs.size
      · obtain ⟨_, _, ys', hD', hyl', hyj⟩ := hf (i, j) hil hj
        rw [hD] at hD'
        injection hD' with hD'
        rw [hD', hyj, List.getElem?_map, List.getElem?_range hj]; rfl
      · rw [List.getElem?_eq_none (by simp; omega), List.getElem?_eq_none (by simp; omega)]

end Go.Proofs.YtdnllmibchmnnaaDoor
