/-
  strings.Builder's WriteString, at a builder that the call made itself; its bytes may be more than 2^47.
-/
import Derived.Test.YtceidhjgdgnplaaBld
import Derived.Lib.AppendStr
import Derived.Deep.DeepAppendWide
namespace Go.Proofs.Ytceidhjgdgnplaa
set_option linter.unusedVariables false
set_option linter.unusedSimpArgs false
open Go.RowKit

theorem strCells_u8s (s : ByteArray) : Lib.strCells s = u8s (bl s) := by simp [Lib.strCells, u8s, bl]

/-- A row's bytes with a string's behind them: what comes back, and where it lies. -/
theorem append_str {P : Program} (w : World) (t u ty e : TypeId) (i : TypeInfo) (ht : P.underlying t = some (.slice e)) (hu : P.underlying u = some .string) (hi : P.info? e = some i) (hz : i.zero = some (.int .u8 0))
    (hsize : i.size = 1) (hby : i.bytes = 1) (v : Value) (bs : List Nat) (hown : w.ownsRow 0 e 1 v bs.length (u8s bs)) (s : ByteArray)
    (h63 : bs.length + s.size ≤ maxLen) (hfit : bs.length + s.size + (bs.length + s.size) / 4 + 192 ≤ 281474976710656) :
    ∃ v' w', (Builtin.append_ #[t, u] ty #[v, .string s]).run P w = .ok v' w' ∧ w'.ownsRow 0 e 1 v' (bs.length + s.size) (u8s (bs ++ bl s)) ∧ Frm v.ownBlock.toList w w' ∧ Grew w v v' := by
  have hm63 : bs.length + s.size ≤ 9223372036854775807 := by simp only [maxLen] at h63; omega
  have hxs : u8s (bs ++ bl s) = u8s bs ++ Lib.strCells s := by rw [strCells_u8s]; simp [u8s]
  have hl2 : (u8s (bs ++ bl s)).length = bs.length + s.size := by rw [u8s_length, List.length_append, bl_length]
  have hz1 : (Value.int IntKind.u8 0).cells.size = 1 := rfl
  -- a new row
  have fresh : ∀ (C : Nat) (olds : List Value), olds = u8s bs → bs.length + s.size ≤ C → C ≤ maxLen →
      (w.drew.alloc (.cells (olds.toArray ++ (Lib.strCells s).toArray ++ Builtin.zeroCells (Value.int .u8 0).cells (C - (bs.length + s.size))) e)).ownsRow 0 e 1 (.slice (some ⟨w.heap.size, 0, none⟩) (bs.length + s.size) C) (bs.length + s.size) (u8s (bs ++ bl s)) := by
    intro C olds ho hC hM
    subst ho
    refine ⟨by rw [hl2]; omega, .inr ⟨w.heap.size, C, _, rfl, Nat.zero_le _, heap_alloc_new w.drew _, hC, hM, ?_, ?_⟩⟩
    · simp only [Array.size_append, List.size_toArray, size_zeroCells, hz1, u8s_length, Lib.strCells_length]
      omega
    · rw [Array.toList_append, Array.toList_append, ← hxs, List.take_append_of_le_length (by rw [hl2]; omega), List.take_of_length_le (by rw [hl2]; omega)]
  rcases hown.2 with ⟨rfl, hn⟩ | ⟨g, cap, cur, rfl, hbg, hg, hnc, hcm, hcs, htake⟩
  · have hb : bs = [] := List.eq_nil_of_length_eq_zero hn
    subst hb
    by_cases hm : s.size = 0
    · refine ⟨.slice none 0 0, w, ?_, ?_, Frm.refl _ _, .inl rfl⟩
      · have hf := Lib.run_firstCells_string (P := P) w 1 s
        rw [hm] at hf
        simp [Builtin.append_, run_underlying ht, run_underlying hu, sizeOf, typeInfo, hi, hsize, Builtin.lenOf, hm, hf]
      · have e1 : bl s = [] := List.eq_nil_of_length_eq_zero (by rw [bl_length]; exact hm)
        rw [e1, hm]
        exact World.ownsRow_nil _ _ _ _
    · have hr := run_append_nil_string (P := P) w t u ty e i (.int .u8 0) ht hu hi hz s (by omega) (by simp at hm63; omega) (by rw [hby]; simp at hfit; omega)
      have hge := grownCap_ge w s.size 0 e
      have hM := grownCap_le_maxLen w s.size 0 e (by simpa using h63)
      have hfr := fresh (grownCap w s.size 0 e) [] rfl (by simpa using hge) hM
      have e1 : (s.data.map fun b => Value.int .u8 b.toNat) = (Lib.strCells s).toArray := by
        apply Array.ext'
        simp [Lib.strCells]
      rw [e1] at hr
      simp only [List.length_nil, Nat.zero_add, List.nil_append, Array.empty_append] at hfr ⊢
      exact ⟨_, _, hr, hfr, ((Frm.refl _ _).drew).alloc _, .inr ⟨_, rfl, Nat.le_refl _⟩⟩
  · have hcs' : cur.size = cap := by simpa using hcs
    by_cases hroom : bs.length + s.size ≤ cap
    · have hr := Lib.run_append_room_string (P := P) w t u ty e i ht hu hi hsize g bs.length cap cur hg s hroom (by omega)
      refine ⟨_, _, hr, ⟨by rw [hl2]; omega, .inr ⟨g, cap, _, rfl, hbg, setRow_heap w g cur _ e _ hg, hroom, hcm, ?_, ?_⟩⟩, ⟨rfl, rfl, rfl, by simp, fun k _ hk => setRow_other w g k _ (fun e => hk (by simp [Value.ownBlock, e]))⟩, .inl rfl⟩
      · simp only [List.size_toArray, List.length_append, List.length_take, List.length_drop, Array.length_toList, Lib.strCells_length]
        omega
      · have ht' : cur.toList.take bs.length = u8s bs := by simpa using htake
        rw [ht', ← hxs, List.take_append_of_le_length (by rw [hl2]; omega), List.take_of_length_le (by rw [hl2]; omega)]
    · have holds : ∀ j u, (u8s bs)[j]? = some u → w.cell? ((⟨g, 0, none⟩ : Addr).add j) = some u := hown.cells (g := g) rfl
      have hr := Lib.run_append_grow_string (P := P) w t u ty e i (.int .u8 0) ht hu hi hz ⟨g, 0, none⟩ bs.length cap (u8s bs) (by rw [hsize, u8s_length]; omega) holds s (by omega) (by omega) (by rw [hby]; exact growslice_fits_wide (by omega) (by omega))
      exact ⟨_, _, hr, fresh _ _ rfl (grownCap_ge w _ cap e) (grownCap_le_maxLen w _ cap e h63), ((Frm.refl _ _).drew).alloc _, .inr ⟨_, rfl, Nat.le_refl _⟩⟩

/-- An append whose run is known. -/
theorem wp_append_known {P : Program} {ops : Array Oper} {rest : List Oper} {o : Oper} {a : Act} {Q : Exit → Act → World → Prop} {w w' : World} (hgd : o.guard = none) (s x : Operand) (t u : TypeId)
    (ho : o.op = .call { callee := .builtin .append, args := #[s, x], argTypes := #[t, u] }) {v y v' : Value} (hs : a.eval s = v) (hx : a.eval x = y)
    (hr : (Builtin.append_ #[t, u] o.type #[v, y]).run P w = .ok v' w') (h : wpList P ops Q rest (a.put o.dst v') w') : wpList P ops Q (o :: rest) a w := by
  refine wpList_plain hgd fun K hK => ?_
  unfold Oper.wp execOp
  simp only [ho, resolve, invoke, builtin, Sem.run_bind, Sem.run_pure, Result.andThen_ok, List.map_toArray, List.map_cons, List.map_nil, hs, hx, hr]
  exact hK _ _ h

set_option maxRecDepth 100000 in
set_option maxHeartbeats 1000000 in
theorem bwrite_any {b : Nat} {p v : Value} {bs : List Nat} (s : ByteArray) (w : World) (h : BldAt w b p v bs) (hl : bs.length + s.size ≤ 210000000000000) :
    Calls Try.prog 36 #[.pointer (some ⟨b, 0, none⟩), .string s] w fun e w' => e = .returned (.tuple #[.int .i64 (s.size : Int), .nilIface]) ∧
      ∃ v', BldAt w' b (.pointer (some ⟨b, 0, none⟩)) v' (bs ++ bl s) ∧ Frm (b :: v.ownBlock.toList) w w' ∧ Grew w v v' := by
  obtain ⟨i0, hi0, hz0, hz1, hz2⟩ := info_parts u8info
  go_enter Try.func36, Try.ntmps36
  go_wp2_with fail
  refine (bcheck_any _ h).mono ?_
  rintro e w1 ⟨rfl, h1, hf1, hs1⟩
  have c1 : w1.cell? ⟨b, 1, none⟩ = some v := h1.blk.cell 1
  have hbv := not_row h1.ne
  obtain ⟨v', w2, hr, hown2, hf2, hgr2⟩ := append_str (P := Try.prog) w1 24 9 24 5 i0 Try.underlying24 Try.underlying9 hi0 hz0 hz1 hz2 v bs h1.own s (by unfold maxLen; omega) (by omega)
  obtain ⟨A2, c2, rfl⟩ := own_shape hown2
  have hb2 := h1.blk.frm hf2 hbv
  have d1 : w2.cell? ⟨b, 1, none⟩ = some v := hb2.cell 1
  have e1 := hb2.frozen 1
  have Hs1 := hide hs1
  clear hs1
  have Hr := hide hr
  clear hr
  go_wp2_with (at_builtin; refine wp_append_known rfl (.tmp 12) (.tmp 13) 24 9 rfl rfl rfl Hr.out ?_)
  go_ret2
  have hne : (Value.slice A2 (bs.length + s.size) c2).ownBlock ≠ some b := own_blk_ne hown2 hb2 (by decide)
  have hsz : w1.heap.size = w.heap.size := Hs1.out
  refine ⟨rfl, .slice A2 (bs.length + s.size) c2, ⟨?_, ?_, .inr rfl⟩, ?_, ?_⟩
  · simpa using hb2.set_ 1 (.slice A2 (bs.length + s.size) c2)
  · have := ownsRow_setCell_other hown2 (a := ⟨b, 1, none⟩) hne (.slice A2 (bs.length + s.size) c2)
    rw [List.length_append, bl_length]
    exact this
  · have k1 : Frm (b :: v.ownBlock.toList) w w2 := (hf1.mono (T := b :: v.ownBlock.toList) (by simp)).trans hf2 (fun x hx => .inl (List.mem_cons_of_mem _ hx))
    exact k1.setCell (p := ⟨b, 1, none⟩) (.inl (List.mem_cons_self ..)) _
  · rcases hgr2 with h | ⟨k, h, hk⟩
    · exact .inl h
    · exact .inr ⟨k, h, by omega⟩

end Go.Proofs.Ytceidhjgdgnplaa
