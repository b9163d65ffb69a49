/- What operations do to abstract states: copy, make, conversions, maps. -/
import Derived.Test.YtjnpfhihefchoaaDoorMg
namespace Go.M
open Go Go.RowKit
set_option linter.unusedVariables false
set_option linter.unusedSimpArgs false

/-! ### copy -/
def copyE (P : Program) (h : Hp) (dT : TypeId) (dst src : AV) : Option (AV × Hp) :=
  match P.underlying dT, srcCells h src with
  | some (.slice E), some (m, cs) => match ti P E with
    | some t =>
      if cs.length = m * t.size ∧ 0 < t.size then
        match dst with
        | .nils => some (.i .i64 0, h)
        | .sl id ver off n _ => match h[id]? with
          | some (.cells v e all) =>
            if v = ver ∧ e = t.size ∧ off + n * e ≤ all.length then some (.i .i64 (Nat.min m n), h.set id (.cells v e (splice all off (cs.take (Nat.min m n * t.size))))) else none
          | _ => none
        | _ => none
      else none
    | none => none
  | _, _ => none

theorem firstCells_take {P : Program} {g : Gh} {h : Hp} {w : World} (hw : WRel g h w) {x : AV} {vx : Value} {m : Nat} {cs : List AV} (hx : RelV g w x vx) (hc : srcCells h x = some (m, cs)) {size : Nat} (hs : 0 < size) (hl : cs.length = m * size) (q : Nat) (hq : q ≤ m) :
    ∃ vs : List Value, RelL g w (cs.take (q * size)) vs ∧ (∀ u ∈ vs, u.oneCell' = true) ∧ (Builtin.lenOf vx).run P w = .ok m w ∧ (Builtin.firstCells size q vx).run P w = .ok vs.toArray w ∧ (m : Int) ≤ imax := by
  unfold srcCells at hc
  split at hc
  · rename_i str
    simp only [Option.some.injEq, Prod.mk.injEq] at hc
    obtain ⟨rfl, rfl⟩ := hc
    have hsz := hx.2
    rw [rel_s hx]
    refine ⟨(str.data.toList.map fun b => Value.int .u8 b.toNat).take (q * size), (encB_rel g w _).take _, ?_, rfl, ?_, hsz⟩
    · intro u hu
      have hu' := List.mem_of_mem_take hu
      simp only [List.mem_map] at hu'
      obtain ⟨b, _, rfl⟩ := hu'; rfl
    · simp only [Builtin.firstCells, Sem.run_pure]
      congr 1
      apply Array.ext'
      simp only [List.length_map, Array.length_toList] at hl
      have hsz' : str.data.size = str.size := rfl
      have h1 : ((str.extract 0 q).data).toList = str.data.toList.take q := by
        rw [ByteArray.data_extract]; simp
      simp only [Array.toList_map, h1]
      rcases Nat.eq_zero_or_pos str.size with h0 | h0
      · have : str.data.toList = [] := List.eq_nil_of_length_eq_zero (by rw [Array.length_toList, hsz']; omega)
        simp [this]
      · have h2 : size = 1 := by
          rw [hsz'] at hl
          have := Nat.eq_of_mul_eq_mul_left h0 (show str.size * 1 = str.size * size by omega)
          omega
        subst h2
        simp [List.map_take]
  · obtain ⟨a, c, vs, rfl, h1, h2, h3⟩ := sliceCells_rel hw hx hc
    rcases h3 with ⟨rfl, rfl, rfl⟩ | ⟨b, o, rfl, hat⟩
    · have : q = 0 := by omega
      subst this
      refine ⟨[], by simp [RelL], by simp, rfl, ?_, h2⟩
      cases a with
      | none => rfl
      | some a => simp [Builtin.firstCells, loadCells, loadCellsFrom]
    · have hlen := hat.rel.len
      have hqs : q * size ≤ m * size := Nat.mul_le_mul_right _ hq
      exact ⟨_, (hat.take (q * size)).rel, (hat.take (q * size)).mem, rfl, run_loadCells_at hat (q * size) (by omega), h2⟩

theorem copyE_run {P : Program} {g : Gh} {h h' : Hp} {w : World} (hw : WRel g h w) {dT sT R : TypeId} {dst src av : AV} {vd vs : Value} (hd : RelV g w dst vd) (hs : RelV g w src vs) (he : copyE P h dT dst src = some (av, h')) :
    Yw P (Builtin.copy_ #[dT, sT] R #[vd, vs]) g w av h' := by
  unfold copyE at he
  split at he
  · rename_i E m cs hu hsrc
    split at he
    · rename_i t ht
      split at he
      · rename_i hc
        obtain ⟨hl, hpos⟩ := hc
        obtain ⟨i, d, z, k⟩ := ti_ok ht
        split at he
        · simp only [Option.some.injEq, Prod.mk.injEq] at he
          obtain ⟨rfl, rfl⟩ := he
          simp only [RelV] at hd; subst hd
          obtain ⟨us, hrel, hone, hlen, hcells, himax⟩ := firstCells_take (P := P) hw hs hsrc hpos hl 0 (by omega)
          refine ⟨goInt 0, w, g, ?_, Ext.refl _ _, hw, ⟨rfl, fits64 (n := 0) (by decide)⟩⟩
          simp [Builtin.copy_, run_underlying hu, hlen, k.sizeOf, hcells, goInt]
        · rename_i id ver off n full
          split at he
          · rename_i v e all hid
            split at he
            · rename_i hcc
              obtain ⟨rfl, rfl, hle⟩ := hcc
              simp only [Option.some.injEq, Prod.mk.injEq] at he
              obtain ⟨rfl, rfl⟩ := he
              have hq1 : Nat.min m n ≤ m := Nat.min_le_left _ _
              have hq2 : Nat.min m n ≤ n := Nat.min_le_right _ _
              obtain ⟨us, hrel, hone, hlen, hcells, himax⟩ := firstCells_take (P := P) hw hs hsrc hpos hl (Nat.min m n) hq1
              simp only [RelV] at hd
              obtain ⟨L, c, hloc, rfl, h1, h2, h3, h4⟩ := hd
              obtain ⟨L', ovs, hL⟩ := hw.cells hid
              have hLL : L' = L := by have := hL.loc; rw [hloc] at this; simpa using this.symm
              subst hLL
              have hovl := hL.rel.len
              have hul := hrel.len
              have hlt : id < h.length := by
                rcases Nat.lt_or_ge id h.length with h5 | h5
                · exact h5
                · simp [List.getElem?_eq_none h5] at hid
              have hqs1 : Nat.min m n * t.size ≤ m * t.size := Nat.mul_le_mul_right _ hq1
              have hqs2 : Nat.min m n * t.size ≤ n * t.size := Nat.mul_le_mul_right _ hq2
              have htl : (cs.take (Nat.min m n * t.size)).length = Nat.min m n * t.size := by rw [List.length_take]; omega
              have hcap := hL.len
              obtain ⟨e1, w1, _⟩ := store_obj (h' := h.set id (.cells v t.size (splice all off (cs.take (Nat.min m n * t.size))))) hw hid hL off us (by omega) (by omega) hone (hrel.splice hL.rel (by omega)) (by simp [hlt]) (fun id' hne => by rw [List.getElem?_set_ne (fun h => hne h.symm)])
              refine ⟨goInt (Nat.min m n), w.setCells L'.block (L'.off + off) us, g, ?_, e1, w1, ⟨rfl, fits64 (by omega)⟩⟩
              have hst := run_storeCells_cells (P := P) L'.block (L'.off + off) us 0 w (fun j hj => by have := hL.there (off + j) (by omega); simpa [Nat.add_assoc] using this) (fun j hj => by have := hL.thaw (off + j) (by omega); simpa [Nat.add_assoc] using this) hone
              simp only [Nat.add_zero] at hst
              simp [Builtin.copy_, run_underlying hu, hlen, k.sizeOf, hcells, hst]
            · simp at he
          · simp at he
        · simp at he
      · simp at he
    · simp at he
  · simp at he

/-! ### make -/
def makeSliceE (P : Program) (h : Hp) (T : TypeId) (l c : AV) : Option (AV × Hp) :=
  match P.underlying T, l, c with
  | some (.slice E), .i .i64 n, .i .i64 m => match ti P E with
    | some t =>
      if 0 ≤ n ∧ n ≤ m ∧ (t.bytes : Int) * m ≤ 281474976710656 ∧ 0 < t.size ∧ E < 4294967296 then
        some (.sl h.length E 0 n.toNat false, h ++ [.cells E t.size (reps n.toNat t.zero)])
      else none
    | none => none
  | _, _, _ => none

theorem makeSliceE_run {P : Program} {g : Gh} {h h' : Hp} {w : World} (hw : WRel g h w) {T : TypeId} {l c av : AV} {vl vc : Value} (hl : RelV g w l vl) (hc : RelV g w c vc) (he : makeSliceE P h T l c = some (av, h')) :
    Yw P (Instr.makeSlice T vl vc) g w av h' := by
  unfold makeSliceE at he
  split at he
  · rename_i E n m hu
    split at he
    · rename_i t ht
      split at he
      · rename_i hcc
        obtain ⟨h0, hnm, hbytes, hpos, hEK⟩ := hcc
        simp only [Option.some.injEq, Prod.mk.injEq] at he
        obtain ⟨rfl, rfl⟩ := he
        obtain ⟨i, d, z, k⟩ := ti_ok ht
        have hln := hl.2
        have hcn := hc.2
        rw [rel_i hl, rel_i hc]
        obtain ⟨hz, hzo⟩ := zero_rel k g w
        have hzl := k.zlen
        have hzs : z.cells.size = t.size := by have := hz.len; simp only [Array.length_toList] at this; omega
        have hmin : IntKind.i64.min = -9223372036854775808 := by decide
        have hmax : IntKind.i64.max = imax := by decide
        rw [hmin, hmax] at hln hcn
        unfold imax at hln hcn
        have hwn : IntKind.i64.wrap n = n := by
          simp only [IntKind.wrap, IntKind.bits, IntKind.signed]; simp; omega
        have hwm : IntKind.i64.wrap m = m := by
          simp only [IntKind.wrap, IntKind.bits, IntKind.signed]; simp; omega
        obtain ⟨hr, hro⟩ := reps_rel hz hzo (by omega) n.toNat
        -- all cells of the row: those that are seen and those that are spare
        let allv := ((Array.range (m.toNat * z.cells.size)).map (z.cells[· % z.cells.size]!)).toList
        have hrall := (reps_rel hz hzo (by omega) m.toNat)
        have htake : ((Array.range (n.toNat * z.cells.size)).map (z.cells[· % z.cells.size]!)).toList = allv.take (n.toNat * z.cells.size) := by
          simp only [allv, Array.toList_map, Array.toList_range, ← List.map_take]
          congr 1
          rw [List.take_range, Nat.min_eq_left (Nat.mul_le_mul_right _ (by omega))]
        rw [htake] at hr hro
        obtain ⟨g', e, hw', hloc⟩ := alloc_obj (h' := h ++ [.cells E t.size (reps n.toNat t.zero)]) hw h.length t.size (reps n.toNat t.zero) (allv.take (n.toNat * z.cells.size)) (allv.drop (n.toNat * z.cells.size)) E E (Nat.mod_eq_of_lt hEK).symm (.inl (by simp)) (by simp) (fun id hne => by
          rcases Nat.lt_or_ge id h.length with h1 | h1
          · rw [List.getElem?_append_left h1]
          · rw [List.getElem?_eq_none h1, List.getElem?_eq_none (by simp; omega)]) hr hro
        rw [List.take_append_drop] at e hw'
        have hall : allv.length = m.toNat * t.size := by simp [allv, hzs]
        have hlc : (allv.take (n.toNat * z.cells.size)).length + (allv.drop (n.toNat * z.cells.size)).length = m.toNat * t.size := by
          rw [List.length_take, List.length_drop, hall, hzs]
          have : n.toNat * t.size ≤ m.toNat * t.size := Nat.mul_le_mul_right _ (by omega)
          omega
        refine ⟨.slice (some ⟨w.heap.size, 0, none⟩) n.toNat m.toNat, w.alloc (.cells allv.toArray E), g', ?_, e, hw', _, m.toNat, hloc, rfl, fun hf => by simp at hf, by omega, by unfold imax; omega, by rw [hlc]; simp⟩
        have hb1 : ¬ ((i.bytes : Int) * m > 2 ^ 48) := by rw [k.bytes] at hbytes; simp; omega
        have hcond : ((decide (m < 0) || decide ((i.bytes : Int) * m > 2 ^ 48)) || decide (n < 0) || decide (n > m)) = false := by
          simp only [Bool.or_eq_false_iff, decide_eq_false_iff_not]
          exact ⟨⟨⟨by omega, hb1⟩, by omega⟩, by omega⟩
        simp only [Instr.makeSlice, Sem.run_bind, run_underlying hu, Result.andThen_ok, asInt, asIntOf, Sem.run_pure, k.typeInfo, hwn, hwm, hcond, Bool.false_eq_true, if_false, askRoom_run, k.sizeOf]
        by_cases hmz : m.toNat * t.size = 0
        · simp only [hmz, if_true, Sem.run_pure, Result.andThen_ok, newRow, newObj, Sem.run_bind, Sem.run]
          have h1 : allv = [] := List.eq_nil_of_length_eq_zero (by omega)
          have h2 : Array.map (fun x => (default : Value)) (Array.range 0) = #[] := by apply Array.ext'; simp
          simp [h1, h2]
        · simp only [hmz, if_false, Sem.run_bind, k.zeroValue, Sem.run_pure, Result.andThen_ok, newRow, newObj, Sem.run]
          have h2 : Array.map (fun x => z.cells[x % z.cells.size]!) (Array.range (m.toNat * t.size)) = allv.toArray := by apply Array.ext'; simp [allv, hzs]
          rw [h2]
          simp
      · simp at he
    · simp at he
  · simp at he
end Go.M
