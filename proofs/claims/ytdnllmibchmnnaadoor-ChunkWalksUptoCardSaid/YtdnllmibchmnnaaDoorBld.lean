/-
  strings.Builder: the contracts of what the program calls of it, at a builder that the call made itself.
-/
import Derived.Test.YtdnllmibchmnnaaDoorBase
import Derived.Lib.Builder
import Derived.Lib.UnsafeStr
import Derived.Laws.Externs
namespace Go.Proofs.YtdnllmibchmnnaaDoor
set_option linter.unusedVariables false
set_option linter.unusedSimpArgs false
open Go.RowKit

/-- A builder in block b that holds these bytes; p: its own address, once it was written to. -/
structure BldAt (w : World) (b : Nat) (p v : Value) (bs : List Nat) : Prop where
  blk : Blk w b 91 #[p, v]
  own : w.ownsRow 0 5 1 v bs.length (u8s bs)
  addr : p = .pointer none ∨ p = .pointer (some ⟨b, 0, none⟩)

theorem bldSize : (Tryd.prog.info? 91).map (fun i => i.size) = some 2 := by kernel_rfl
theorem bldLies : liesAt Tryd.prog Tryd.prog.depth 91 (2 / Tryd.prog.cellsOf 91) 0 91 1 = true := by kernel_rfl
theorem u8cells : Tryd.prog.cellsOf 5 = 1 := by kernel_rfl

theorem Blk.shape {w : World} {g t : Nat} {cs : Array Value} (h : Blk w g t cs) : w.shape? g = some (t, cs.size) := by
  unfold Blk at h
  simp [World.shape?, h]

theorem bld_new (w : World) : BldAt (w.alloc (.cells #[.pointer none, .slice none 0 0] 91)) w.heap.size (.pointer none) (.slice none 0 0) [] :=
  ⟨Blk.new w _ _, World.ownsRow_nil _ _ _ _, .inl rfl⟩

section
variable {w w1 : World} {b : Nat} {p v : Value} {bs : List Nat}
theorem BldAt.quiet (h : BldAt w b p v bs) (hf : Frm [] w w1) : BldAt w1 b p v bs := ⟨h.blk.frm hf (by simp), own_frm h.own hf (by simp), h.addr⟩
theorem BldAt.away {S : List Nat} (h : BldAt w b p v bs) (hf : Frm S w w1) (hb : b ∉ S) (hv : ∀ k, v.ownBlock = some k → k ∉ S) : BldAt w1 b p v bs := ⟨h.blk.frm hf hb, own_frm h.own hf hv, h.addr⟩
theorem BldAt.ne (h : BldAt w b p v bs) : v.ownBlock ≠ some b := own_blk_ne h.own h.blk (by decide)
end

set_option maxRecDepth 100000 in
set_option maxHeartbeats 1000000 in
theorem bcheck_any {b : Nat} {p v : Value} {bs : List Nat} (w : World) (h : BldAt w b p v bs) :
    Calls Tryd.prog 58 #[.pointer (some ⟨b, 0, none⟩)] w fun e w' => e = .returned (.tuple #[]) ∧ BldAt w' b (.pointer (some ⟨b, 0, none⟩)) v bs ∧ Frm [b] w w' ∧ w'.heap.size = w.heap.size := by
  obtain ⟨j, hj, hjs⟩ := Option.map_eq_some_iff.1 bldSize
  have c0 : w.cell? ⟨b, 0, none⟩ = some p := h.blk.cell 0
  have f0 := h.blk.frozen 0
  have hsh := h.blk.shape
  have Hs := hide hsh
  clear hsh
  rcases h.addr with rfl | rfl
  · go_enter Tryd.func58, Tryd.ntmps58
    go_wp2
    rw [Lib.run_to_unsafe w ⟨b, 0, none⟩ Tryd.underlying89 Tryd.underlying113 hj (by rw [hjs]; decide) Hs.out (Nat.zero_lt_succ 1)]
    simp only [Result.andThen]
    rw [Oper.upon_value]
    go_wp2
    rw [run_callFunc_extern Tryd.func63 (by kernel_rfl) (by kernel_rfl) (by kernel_rfl) (e := Extern.AbiNoEscape.same) (by kernel_rfl)]
    rw [Lib.run_noEscape]
    simp only [Result.andThen]
    rw [Oper.upon_value]
    go_wp2
    rw [Lib.run_from_unsafe w ⟨b, 0, none⟩ Tryd.underlying113 Tryd.underlying89 hj Hs.out bldLies]
    simp only [Result.andThen]
    rw [Oper.upon_value]
    go_wp2
    go_end0
    exact ⟨rfl, ⟨by simpa using h.blk.set_ 0 (.pointer (some ⟨b, 0, none⟩)), ownsRow_setCell_other h.own h.ne _, .inr rfl⟩, (Frm.refl _ _).setCell (p := ⟨b, 0, none⟩) (.inl (List.mem_cons_self ..)) _, by simp [World.setCell]⟩
  · go_enter Tryd.func58, Tryd.ntmps58
    go_wp2
    rw [Lib.run_neq_ptr_same w _ Tryd.underlying89 hj]
    go_wp2
    go_end0
    exact ⟨rfl, h, Frm.refl _ _, rfl⟩

set_option maxRecDepth 100000 in
set_option maxHeartbeats 1000000 in
theorem bbyte_any {b : Nat} {p v : Value} {bs : List Nat} (c : Nat) (C : Int) (hC : C = (c : Int)) (w : World) (h : BldAt w b p v bs) (hl : bs.length + 1 ≤ 140737488355328) :
    Calls Tryd.prog 49 #[.pointer (some ⟨b, 0, none⟩), .int .u8 C] w fun e w' => e = .returned .nilIface ∧
      ∃ v', BldAt w' b (.pointer (some ⟨b, 0, none⟩)) v' (bs ++ [c]) ∧ Frm (b :: v.ownBlock.toList) w w' ∧ Grew w v v' := by
  subst hC
  obtain ⟨i0, hi0, hz0, hz1, hz2⟩ := info_parts u8info
  go_enter Tryd.func49, Tryd.ntmps49
  go_wp2_with fail
  refine (bcheck_any _ h).mono ?_
  rintro e w1 ⟨rfl, h1, hf1, hs1⟩
  have c1 : w1.cell? ⟨b, 1, none⟩ = some v := h1.blk.cell 1
  have hbv := not_row h1.ne
  have Hs1 := hide hs1
  clear hs1
  go_wp2_with (at_builtin; refine wp_append1 rfl (.tmp 11) (.tmp 13) 40 5 rfl Tryd.underlying40 hi0 hz0 hz1 hz2 rfl v _ _ rfl h1.own _ 1 rfl rfl (by unfold maxLen; omega) (by omega) ?_; intro r cap w2 hown2 hf2 hat2; have hb2 := h1.blk.frm hf2 hbv; have d1 : w2.cell? ⟨b, 1, none⟩ = some v := hb2.cell 1; have e1 := hb2.frozen 1)
  go_ret
  have hne : r ≠ b := fun e => own_blk_ne hown2 hb2 (by decide) (by rw [e]; rfl)
  have hsz : w1.heap.size = w.heap.size := Hs1.out
  rw [u8s_snoc] at hown2
  refine ⟨rfl, .slice (some ⟨r, 0, none⟩) (bs.length + 1) cap, ⟨?_, ?_, .inr rfl⟩, ?_, ?_⟩
  · simpa using hb2.set_ 1 (.slice (some ⟨r, 0, none⟩) (bs.length + 1) cap)
  · have := ownsRow_setCell_other hown2 (a := ⟨b, 1, none⟩) (by simpa [Value.ownBlock] using hne) (.slice (some ⟨r, 0, none⟩) (bs.length + 1) cap)
    simpa using this
  · have k1 : Frm (b :: v.ownBlock.toList) w w2 := (hf1.mono (T := b :: v.ownBlock.toList) (by simp)).trans hf2 (fun x hx => .inl (List.mem_cons_of_mem _ hx))
    exact k1.setCell (p := ⟨b, 1, none⟩) (.inl (List.mem_cons_self ..)) _
  · have := Grew.of_at (w := w) (m := bs.length + 1) (cap := cap) (by rw [← hsz]; exact hat2)
    exact this

theorem frm_freeze {S : List Nat} {a w : World} (h : Frm S a w) {p : Addr} (hp : p.block ∈ S ∨ a.heap.size ≤ p.block) (n : Nat) : Frm S a (w.freeze p n) := by
  unfold World.freeze
  split
  · exact h
  · refine h.trans (T := [p.block]) ⟨rfl, rfl, rfl, by simp, fun k _ hk => ?_⟩ (by simpa using hp)
    simp only [Array.getElem?_modify]
    rw [if_neg]
    intro e
    exact hk (by simp [e])

theorem bstr_cells (l : List Nat) (h : ∀ x ∈ l, x < 256) : Lib.byteCells (l.map UInt8.ofNat) = u8s l := by
  simp only [Lib.byteCells, u8s, List.map_map]
  refine List.map_congr_left fun x hx => ?_
  have := h x hx
  simp only [Function.comp, UInt8.toNat_ofNat']
  congr 2
  omega

set_option maxRecDepth 100000 in
set_option maxHeartbeats 1000000 in
theorem bstring_any {b : Nat} {p v : Value} {bs : List Nat} (w : World) (h : BldAt w b p v bs) (h0 : 0 < bs.length) (hb : ∀ x ∈ bs, x < 256) :
    Calls Tryd.prog 50 #[.pointer (some ⟨b, 0, none⟩)] w fun e w' => e = .returned (.string (bstr bs)) ∧ Frm v.ownBlock.toList w w' := by
  obtain ⟨g, cap, cur, rfl, hg, hnc, hcm, hcs, htake⟩ := own_form h.own h0
  have hlen : (bs.map UInt8.ofNat).length = bs.length := by simp
  have c1 : w.drew.cell? ⟨b, 1, none⟩ = some (.slice (some ⟨g, 0, none⟩) bs.length cap) := h.blk.cell 1
  have hSD : (Builtin.unsafeSliceData_ #[40] 106 #[.slice (some ⟨g, 0, none⟩) bs.length cap]).run Tryd.prog w.drew = .ok (.pointer (some ⟨g, 0, none⟩)) w.drew :=
    Lib.run_unsafeSliceData_row _ _ _ _ _ _ (by omega)
  have hUS : (Builtin.unsafeString_ #[106, 3] 9 #[.pointer (some ⟨g, 0, none⟩), .int .i64 bs.length]).run Tryd.prog w.drew = .ok (.string (bstr bs)) (w.drew.freeze ⟨g, 0, none⟩ bs.length) := by
    have := Lib.run_unsafeString_row (P := Tryd.prog) w.drew 106 3 9 5 Tryd.underlying106 u8cells g cur.size (by have hg' : w.drew.heap[g]? = some (.cells cur 5 (0, 0)) := hg; simp [World.shape?, hg']) (bs.map UInt8.ofNat) (by intro e; simp at e; subst e; simp at h0) (by omega) (by unfold maxLen at hcm; omega) ?_
    · rw [hlen] at this
      exact this
    · intro j x hx
      have hc := h.own.cells (g := g) rfl j (.int .u8 x.toNat) (by rw [← bstr_cells bs hb]; show (List.map _ (bs.map UInt8.ofNat))[j]? = _; rw [List.getElem?_map, hx]; rfl)
      exact hc
  clear htake hcs
  go_enter Tryd.func50, Tryd.ntmps50
  go_wp2
  go_region
  all_goals (go_wp2; go_ret; exact ⟨rfl, frm_freeze ((Frm.refl _ _).drew) (p := ⟨g, 0, none⟩) (.inl (by simp [Value.ownBlock])) _⟩)

end Go.Proofs.YtdnllmibchmnnaaDoor
