/-
  Samples: rows of them that a call made itself; append onto them.
-/
import Derived.Test.YtdnllmibchmnnaaDoorBld
import Derived.Test.YtdnllmibchmnnaaDoorArgs
import Derived.Lib.AppendStr
import Derived.Deep.DeepAppendWide
import Derived.Deep.Upon
import Derived.Laws.StructEq
import Derived.Laws.OwnMore
namespace Go.Proofs.YtdnllmibchmnnaaDoor
set_option linter.unusedVariables false
set_option linter.unusedSimpArgs false
open Go.RowKit

/-- A sample. -/
structure Smp where
  t : Int
  v : Nat
/-- Its fields are numbers of their types. -/
structure Smp.Ok (x : Smp) : Prop where
  t1 : -9223372036854775808 ≤ x.t
  t2 : x.t ≤ 9223372036854775807
  v : x.v < 18446744073709551616
def Smp.cell (x : Smp) : Nat → Value
  | 0 => .int .i64 x.t
  | _ => .int .u64 (x.v : Int)
def Smp.arr (x : Smp) : Array Value := #[.int .i64 x.t, .int .u64 (x.v : Int)]

/-- append onto a row of the call's own, whatever lies in the source: what comes back, and where it lies. -/
theorem append_row {P : Program} (w : World) (t ty e : TypeId) (i : TypeInfo) (z : Value) (size bytes : Nat) (ht : P.underlying t = some (.slice e)) (hi : P.info? e = some i) (hz : i.zero = some z)
    (hsize : i.size = size) (hby : i.bytes = bytes) (hzs : z.cells.size = size) (v : Value) (n : Nat) (xs : List Value) (hown : w.ownsRow 0 e size v n xs)
    (A : Option Addr) (m c : Nat) (news : List Value) (hl : news.length = m * size) (hnews : 0 < m → ∃ b off, A = some ⟨b, off, none⟩ ∧ ∀ j u, news[j]? = some u → w.cell? ⟨b, off + j, none⟩ = some u) (h1 : ∀ u ∈ news, u.oneCell' = true)
    (h63 : n + m ≤ maxLen) (hfit : ((n + m) + (n + m) / 4 + 192) * bytes ≤ 281474976710656) :
    ∃ v' w', (Builtin.append_ #[t, t] ty #[v, .slice A m c]).run P w = .ok v' w' ∧ w'.ownsRow 0 e size v' (n + m) (xs ++ news) ∧ Frm v.ownBlock.toList w w' ∧ Grew w v v' := by
  subst hsize
  subst hby
  have hm63 : n + m ≤ 9223372036854775807 := by simp only [maxLen] at h63; omega
  have hlen : (xs ++ news).length = (n + m) * i.size := by rw [List.length_append, hown.1, hl, Nat.add_mul]
  by_cases hm : m = 0
  · subst hm
    obtain rfl : news = [] := List.eq_nil_of_length_eq_zero (by simpa using hl)
    have hsrc : Src P i.size t (.slice A 0 c) 0 [] w := by
      cases A with
      | none => exact Src.ofNil w ht c
      | some ad => exact Src.ofSlice w ht ad 0 c [] (by simp) (fun j u h => by simp at h) (fun u h => by cases h)
    refine ⟨v, w, ?_, by simpa using hown, Frm.refl _ _, Grew.refl _ _⟩
    rcases hown.2 with ⟨rfl, rfl⟩ | ⟨g, cap, cur, rfl, _, _, hnc, _⟩
    · exact run_append_nothing (P := P) w t t ty e i ht hi none 0 0 (Nat.le_refl _) _ hsrc
    · exact run_append_nothing (P := P) w t t ty e i ht hi _ n cap hnc _ hsrc
  · obtain ⟨b, off, rfl, hcell⟩ := hnews (by omega)
    have hn' : ∀ j u, news[j]? = some u → w.cell? ((⟨b, off, none⟩ : Addr).add j) = some u := fun j u h => by rw [add_plain']; exact hcell j u h
    have fresh : ∀ C : Nat, n + m ≤ C → C ≤ maxLen →
        (w.drew.alloc (.cells (xs.toArray ++ news.toArray ++ Builtin.zeroCells z.cells (C - (n + m))) e)).ownsRow 0 e i.size (.slice (some ⟨w.heap.size, 0, none⟩) (n + m) C) (n + m) (xs ++ news) := by
      intro C hC hM
      refine ⟨hlen, .inr ⟨w.heap.size, C, _, rfl, Nat.zero_le _, heap_alloc_new w.drew _, hC, hM, ?_, ?_⟩⟩
      · simp only [Array.size_append, List.size_toArray, size_zeroCells, hzs, hown.1, hl, ← Nat.add_mul]
        congr 1
        omega
      · simp only [Array.toList_append, List.append_assoc]
        rw [← List.append_assoc, ← hlen]
        exact List.take_left
    rcases hown.2 with ⟨rfl, rfl⟩ | ⟨g, cap, cur, rfl, hbg, hg, hnc, hcm, hcs, htake⟩
    · obtain rfl : xs = [] := List.eq_nil_of_length_eq_zero (by simpa using hown.1)
      have hb : m * i.bytes ≤ 281474976710656 := Nat.le_trans (Nat.mul_le_mul_right _ (by omega)) hfit
      have hr := run_append_nil (P := P) w t ty e i z ht hi hz ⟨b, off, none⟩ m c news hl hn' (by omega) (by omega) hb
      have hf := fresh (grownCap w m 0 e) (by simpa using grownCap_ge w m 0 e) (grownCap_le_maxLen w m 0 e (by omega))
      simp only [Nat.zero_add, List.nil_append, Array.empty_append] at hf ⊢
      exact ⟨_, _, hr, hf, ((Frm.refl _ _).drew).alloc _, .inr ⟨_, rfl, Nat.le_refl _⟩⟩
    · by_cases hroom : n + m ≤ cap
      · have hfr : n * i.size + news.length ≤ cur.size := by rw [hl, hcs, ← Nat.add_mul]; exact Nat.mul_le_mul_right _ hroom
        have hr := run_append_room (P := P) w t ty e i ht hi g n cap cur hg ⟨b, off, none⟩ m c news hl hn' h1 hroom hfr
        refine ⟨_, _, hr, ⟨hlen, .inr ⟨g, cap, _, rfl, hbg, setRow_heap w g cur _ e _ hg, hroom, hcm, ?_, ?_⟩⟩, ⟨rfl, rfl, rfl, by simp, fun k _ hk => setRow_other w g k _ (fun e => hk (by simp [Value.ownBlock, e]))⟩, .inl rfl⟩
        · simp only [List.size_toArray, List.length_append, List.length_take, List.length_drop, Array.length_toList]
          omega
        · rw [htake, ← hlen]
          exact List.take_left
      · have holds : ∀ j u, xs[j]? = some u → w.cell? ((⟨g, 0, none⟩ : Addr).add j) = some u := hown.cells (g := g) rfl
        have hr := run_append_grow (P := P) w t ty e i z ht hi hz ⟨g, 0, none⟩ n cap xs hown.1 holds ⟨b, off, none⟩ m c news hl hn' (by omega) (by omega) (growslice_fits_wide (by omega) hfit)
        exact ⟨_, _, hr, fresh _ (grownCap_ge w _ cap e) (grownCap_le_maxLen w _ cap e h63), ((Frm.refl _ _).drew).alloc _, .inr ⟨_, rfl, Nat.le_refl _⟩⟩

/-! ## Rows of samples -/

/-- The cells of the first n samples. -/
def smpC (F : Nat → Smp) : Nat → List Value
  | 0 => []
  | k + 1 => smpC F k ++ (F k).arr.toList
/-- A row of n samples. -/
def SRow (w : World) (e : TypeId) (v : Value) (n : Nat) (F : Nat → Smp) : Prop := w.ownsRow 0 e 2 v n (smpC F n)

theorem arr_length (x : Smp) : x.arr.toList.length = 2 := rfl
theorem arr_get (x : Smp) (j : Nat) (hj : j < 2) : x.arr.toList[j]? = some (x.cell j) := by
  obtain rfl | rfl : j = 0 ∨ j = 1 := by omega
  all_goals rfl
theorem smpC_length (F : Nat → Smp) (n : Nat) : (smpC F n).length = n * 2 := by
  induction n with
  | zero => rfl
  | succ n ih => simp only [smpC, List.length_append, ih, arr_length]; omega
theorem smpC_get (F : Nat → Smp) (n i j : Nat) (hi : i < n) (hj : j < 2) : (smpC F n)[i * 2 + j]? = some ((F i).cell j) := by
  induction n with
  | zero => omega
  | succ n ih =>
    simp only [smpC]
    by_cases h : i = n
    · subst h
      rw [List.getElem?_append_right (by rw [smpC_length]; omega), smpC_length, show i * 2 + j - i * 2 = j from by omega]
      exact arr_get _ j hj
    · rw [List.getElem?_append_left (by rw [smpC_length]; omega)]
      exact ih (by omega)
theorem smpC_congr {F G : Nat → Smp} {n : Nat} (h : ∀ i, i < n → F i = G i) : smpC F n = smpC G n := by
  induction n with
  | zero => rfl
  | succ n ih => simp only [smpC]; rw [ih (fun i hi => h i (by omega)), h n (by omega)]
theorem cell_one (x : Smp) (j : Nat) : (x.cell j).oneCell' = true := by
  unfold Smp.cell; split <;> rfl
theorem arr_one (x : Smp) : ∀ u ∈ x.arr.toList, u.oneCell' = true := by
  intro u hu
  obtain ⟨j, hj, rfl⟩ := List.mem_iff_getElem.1 hu
  have h := arr_get x j hj
  rw [List.getElem?_eq_getElem hj] at h
  rw [Option.some.inj h]
  exact cell_one x j
theorem smpC_one (F : Nat → Smp) (n : Nat) : ∀ u ∈ smpC F n, u.oneCell' = true := by
  induction n with
  | zero => intro u hu; cases hu
  | succ n ih =>
    intro u hu
    rcases List.mem_append.1 hu with hu | hu
    · exact ih u hu
    · exact arr_one _ u hu

section
variable {w w' : World} {e : TypeId} {v : Value} {n : Nat} {F G : Nat → Smp}
theorem SRow.nil (w : World) (e : TypeId) (F : Nat → Smp) : SRow w e (.slice none 0 0) 0 F := World.ownsRow_nil _ _ _ _
theorem SRow.shape (h : SRow w e v n F) : ∃ A c, v = .slice A n c := own_shape h
theorem SRow.congr (h : SRow w e v n F) (hF : ∀ i, i < n → F i = G i) : SRow w e v n G := by unfold SRow at h ⊢; rw [← smpC_congr hF]; exact h
theorem SRow.frm {S : List Nat} (h : SRow w e v n F) (hf : Frm S w w') (hn : ∀ k, v.ownBlock = some k → k ∉ S) : SRow w' e v n F := own_frm h hf hn
theorem SRow.quiet (h : SRow w e v n F) (hf : Frm [] w w') : SRow w' e v n F := own_frm h hf (by simp)
theorem SRow.blk {A : Option Addr} {c : Nat} (h : SRow w e (.slice A n c) n F) (hn : 0 < n) : ∃ g, A = some ⟨g, 0, none⟩ ∧ g < w.heap.size ∧ ∀ i j, i < n → j < 2 → w.cell? ⟨g, i * 2 + j, none⟩ = some ((F i).cell j) := by
  obtain ⟨g, cap, cur, he, hg, _⟩ := own_form h hn
  simp only [Value.slice.injEq] at he
  obtain ⟨rfl, _, _⟩ := he
  refine ⟨g, rfl, (Array.getElem?_eq_some_iff.1 hg).1, fun i j hi hj => ?_⟩
  have := World.ownsRow.cells h (g := g) rfl (i * 2 + j) _ (smpC_get F n i j hi hj)
  rw [add_plain'] at this
  simpa using this
theorem SRow.cellsAt {A : Option Addr} {c : Nat} (h : SRow w e (.slice A n c) n F) : CellsAt w A n 2 (fun i j => (F i).cell j) := by
  intro hn
  obtain ⟨g, rfl, hg, hc⟩ := h.blk hn
  exact ⟨g, 0, rfl, hg, fun i j hi hj => by simpa using hc i j hi hj⟩
theorem SRow.lt (h : SRow w e v n F) {k : Nat} (hk : v.ownBlock = some k) : k < w.heap.size := own_lt h hk
end

theorem fit16 (n : Nat) (hn : n * 16 ≤ 140737488351232) : (n + n / 4 + 192) * 16 ≤ 281474976710656 := by omega
theorem max16 (n : Nat) (hn : n * 16 ≤ 140737488351232) : n ≤ maxLen := by unfold maxLen; omega
def smpZ : Value := .agg #[.int .i64 0, .int .u64 0]
theorem smpinfo : (Tryd.prog.info? 37).map (fun i => (i.zero, i.size, i.bytes)) = some (some smpZ, 2, 16) := by kernel_rfl
theorem smpfor : (Tryd.prog.info? 45).map (fun i => (i.zero, i.size, i.bytes)) = some (some smpZ, 2, 16) := by kernel_rfl

/-- One sample more onto a row. -/
theorem append_smp {e t ty : TypeId} (ht : Tryd.prog.underlying t = some (.slice e)) (hi : (Tryd.prog.info? e).map (fun i => (i.zero, i.size, i.bytes)) = some (some smpZ, 2, 16)) (w : World) {v : Value} {n : Nat} {F : Nat → Smp} (h : SRow w e v n F) (x : Smp) (hx : F n = x)
    (hn : (n + 1) * 16 ≤ 140737488351232) :
    ∃ v' w', (Builtin.append_ #[t, t] ty #[v, .slice (some ⟨w.heap.size, 0, none⟩) 1 1]).run Tryd.prog (w.alloc (.cells x.arr e)) = .ok v' w' ∧ SRow w' e v' (n + 1) F ∧ Frm v.ownBlock.toList w w' ∧ Grew w v v' := by
  have hfit := fit16 (n + 1) hn
  have h63 := max16 (n + 1) hn
  obtain ⟨i0, hi0, hz0, hz1, hz2⟩ := info_parts hi
  obtain ⟨v', w', hr, hown, hf, hg⟩ := append_row (P := Tryd.prog) (w.alloc (.cells x.arr e)) t ty e i0 smpZ 2 16 ht hi0 hz0 hz1 hz2 rfl v n (smpC F n) (World.ownsRow.alloc h _) (some ⟨w.heap.size, 0, none⟩) 1 1 x.arr.toList rfl
    (fun _ => ⟨w.heap.size, 0, rfl, fun j u hj => by
      have hb := (Blk.new w e x.arr).cell (0 + j)
      rw [hb, Nat.zero_add, ← hj, Array.getElem?_toList]⟩) (arr_one x) h63 hfit
  refine ⟨v', w', hr, ?_, ?_, ?_⟩
  · unfold SRow
    simp only [smpC]
    rw [hx]
    exact hown
  · exact (((Frm.refl v.ownBlock.toList w).alloc _).trans hf (fun x hx => .inl hx))
  · rcases hg with hg | ⟨k, hk, hks⟩
    · exact .inl hg
    · exact .inr ⟨k, hk, by simp at hks; omega⟩

/-- Smpdows that lie in a slice, appended onto a row that has nothing. -/
theorem append_smps {e t ty : TypeId} (ht : Tryd.prog.underlying t = some (.slice e)) (hi : (Tryd.prog.info? e).map (fun i => (i.zero, i.size, i.bytes)) = some (some smpZ, 2, 16)) (w : World) {v : Value} (A : Option Addr) (n c : Nat) (F : Nat → Smp) (h : SRow w e v 0 F)
    (hc : CellsAt w A n 2 (fun i j => (F i).cell j)) (hn : n * 16 ≤ 140737488351232) :
    ∃ v' w', (Builtin.append_ #[t, t] ty #[v, .slice A n c]).run Tryd.prog w = .ok v' w' ∧ SRow w' e v' n F ∧ Frm v.ownBlock.toList w w' ∧ Grew w v v' := by
  have hfit := fit16 n hn
  have h63 := max16 n hn
  obtain ⟨i0, hi0, hz0, hz1, hz2⟩ := info_parts hi
  obtain ⟨v', w', hr, hown, hf, hg⟩ := append_row (P := Tryd.prog) w t ty e i0 smpZ 2 16 ht hi0 hz0 hz1 hz2 rfl v 0 [] h A n c (smpC F n) (smpC_length F n)
    (fun h0 => by
      obtain ⟨b, off, rfl, hb, hcell⟩ := hc h0
      refine ⟨b, off, rfl, fun j u hj => ?_⟩
      have hlt : j < n * 2 := by
        have := (List.getElem?_eq_some_iff.1 hj).1
        rw [smpC_length] at this
        exact this
      have e1 := hcell (j / 2) (j % 2) (by omega) (Nat.mod_lt _ (by decide))
      have e2 := smpC_get F n (j / 2) (j % 2) (by omega) (Nat.mod_lt _ (by decide))
      rw [show j / 2 * 2 + j % 2 = j from by omega] at e1 e2
      rw [e1, ← hj, e2]) (smpC_one F n) (by rw [Nat.zero_add]; exact h63) (by rw [Nat.zero_add]; exact hfit)
  simp only [Nat.zero_add, List.nil_append] at hown
  exact ⟨v', w', hr, hown, hf, hg⟩


end Go.Proofs.YtdnllmibchmnnaaDoor
