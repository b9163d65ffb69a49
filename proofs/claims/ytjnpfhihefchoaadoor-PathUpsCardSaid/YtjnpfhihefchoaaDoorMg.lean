/- What operations do to abstract states: structs and rows made, appending, copying, conversions. -/
import Derived.Test.YtjnpfhihefchoaaDoorMf
import Derived.Laws.BytesString
import Derived.Laws.Append
namespace Go.M
open Go Go.RowKit
set_option linter.unusedVariables false
set_option linter.unusedSimpArgs false

/-! ### Filling -/
def fillE (place : Nat → Option (Nat × Nat)) : List AV → List (Nat × AV) → Option (List AV)
  | cs, [] => some cs
  | cs, (j, v) :: r => match place j, v.cells with
    | some (off, size), some vc => if vc.length = size ∧ off + vc.length ≤ cs.length then fillE place (splice cs off vc) r else none
    | _, _ => none

theorem foldl_set (l : List Value) : ∀ (k : Nat) (arr : Array Value) (off : Nat), off + k + l.length ≤ arr.size →
    (l.zipIdx k).foldl (fun cs (x : Value × Nat) => cs.setIfInBounds (off + x.2) x.1) arr = (arr.toList.take (off + k) ++ l ++ arr.toList.drop (off + k + l.length)).toArray := by
  induction l with
  | nil => intro k arr off h; simp
  | cons v l ih =>
    intro k arr off h
    simp only [List.length_cons] at h
    simp only [List.zipIdx_cons, List.foldl_cons]
    rw [ih (k + 1) _ off (by simp; omega)]
    congr 1
    have hsz : arr.toList.length = arr.size := Array.length_toList
    simp only [Array.toList_setIfInBounds]
    apply List.ext_getElem?
    intro j
    have hl : off + k < arr.toList.length := by omega
    rcases Nat.lt_trichotomy j (off + k) with h1 | h1 | h1
    · rw [List.append_assoc, List.getElem?_append_left (by simp; omega), List.append_assoc, List.getElem?_append_left (by simp; omega)]
      simp only [List.getElem?_take, if_pos h1, if_pos (show j < off + (k + 1) by omega)]
      rw [List.getElem?_set_ne (by omega)]
    · subst h1
      rw [List.append_assoc, List.getElem?_append_left (by simp; omega), List.append_assoc, List.getElem?_append_right (by simp; omega)]
      simp only [List.getElem?_take, List.length_take]
      rw [if_pos (by omega), Nat.min_eq_left (by omega), Nat.sub_self, List.getElem?_set_self (by omega)]
      rfl
    · rcases Nat.lt_or_ge j (off + (k + 1) + l.length) with h2 | h2
      · rw [List.append_assoc, List.getElem?_append_right (by simp; omega), List.getElem?_append_left (by simp; omega), List.append_assoc, List.getElem?_append_right (by simp; omega), List.getElem?_append_left (by simp; omega)]
        simp only [List.length_take, List.length_set]
        rw [Nat.min_eq_left (by omega), Nat.min_eq_left (by omega)]
        obtain ⟨e, rfl⟩ : ∃ e, j = off + (k + 1) + e := ⟨j - (off + (k + 1)), by omega⟩
        rw [show off + (k + 1) + e - (off + (k + 1)) = e by omega, show off + (k + 1) + e - (off + k) = e + 1 by omega]
        simp
      · rw [List.getElem?_append_right (by simp; omega), List.getElem?_append_right (by simp; omega)]
        simp only [List.length_append, List.length_take, List.length_set, List.length_cons, List.getElem?_drop]
        rw [Nat.min_eq_left (by omega), Nat.min_eq_left (by omega), List.getElem?_set_ne (by omega)]
        congr 1; omega

def RelP (g : Gh) (w : World) : List (Nat × AV) → List (Nat × Value) → Prop
  | [], [] => True
  | (j, a) :: as, (k, v) :: vs => j = k ∧ RelV g w a v ∧ RelP g w as vs
  | _, _ => False

theorem fill_rel {g : Gh} {w : World} (place : Nat → Option (Nat × Nat)) : ∀ (ps : List (Nat × AV)) (vp : List (Nat × Value)) (cs cs' : List AV) (arr : Array Value), fillE place cs ps = some cs' → RelP g w ps vp →
    RelL g w cs arr.toList → (∀ u ∈ arr.toList, u.oneCell' = true) → ∃ arr', Instr.fill place arr vp = some arr' ∧ RelL g w cs' arr'.toList ∧ ∀ u ∈ arr'.toList, u.oneCell' = true
  | [], [], cs, cs', arr, he, hp, hr, ho => by
    simp only [fillE, Option.some.injEq] at he; subst he
    exact ⟨arr, rfl, hr, ho⟩
  | [], _ :: _, cs, cs', arr, he, hp, hr, ho => hp.elim
  | _ :: _, [], cs, cs', arr, he, hp, hr, ho => hp.elim
  | (j, a) :: ps, (k, v) :: vp, cs, cs', arr, he, hp, hr, ho => by
    obtain ⟨rfl, hav, hp⟩ := hp
    simp only [fillE] at he
    split at he
    · rename_i off size vc hpl hvc
      split at he
      · rename_i hc
        obtain ⟨hrc, hoc⟩ := cells_rel hav hvc
        have hl1 := hrc.len
        have hl2 := hr.len
        simp only [Array.length_toList] at hl1 hl2
        have hfold : v.cells.zipIdx.foldl (fun cs (x : Value × Nat) => cs.setIfInBounds (off + x.2) x.1) arr = (arr.toList.take off ++ v.cells.toList ++ arr.toList.drop (off + v.cells.toList.length)).toArray := by
          rw [← Array.foldl_toList, Array.toList_zipIdx]
          have := foldl_set v.cells.toList 0 arr off (by simp; omega)
          simpa using this
        obtain ⟨arr', h1, h2, h3⟩ := fill_rel place ps vp (splice cs off vc) cs' (v.cells.zipIdx.foldl (fun cs (x : Value × Nat) => cs.setIfInBounds (off + x.2) x.1) arr) he hp
          (by rw [hfold]; exact hrc.splice hr hc.2)
          (by
            rw [hfold]
            intro u hu
            simp only [List.mem_append] at hu
            rcases hu with (hu | hu) | hu
            · exact ho u (List.mem_of_mem_take hu)
            · exact hoc u hu
            · exact ho u (List.mem_of_mem_drop hu))
        refine ⟨arr', ?_, h2, h3⟩
        have hsz : v.cells.size = vc.length := by omega
        simp only [Instr.fill, hpl]
        rw [if_neg (by simp; omega)]
        exact h1
      · simp at he
    · simp at he

def buildE (P : Program) (T : TypeId) (ps : List (Nat × AV)) : Option AV :=
  match ti P T, places P T with
  | some t, some l => match fillE (fun j => l[j]?) t.zero ps with
    | some cs => some (.agg cs)
    | none => none
  | _, _ => none

theorem buildE_run {P : Program} {g : Gh} {w : World} {T : TypeId} {ps : List (Nat × AV)} {vp : Array (Nat × Value)} {av : AV} (hp : RelP g w ps vp.toList) (he : buildE P T ps = some av) : Yv P (Instr.build T vp) g w av := by
  unfold buildE at he
  split at he
  · rename_i t l ht hl
    split at he
    · rename_i cs hf
      simp only [Option.some.injEq] at he; subst he
      obtain ⟨i, d, z, k⟩ := ti_ok ht
      obtain ⟨hz, hzo⟩ := zero_rel k g w
      obtain ⟨arr', h1, h2, h3⟩ := fill_rel (fun j => l[j]?) ps vp.toList t.zero cs z.cells hf hp hz hzo
      refine ⟨.agg arr', ?_, ⟨arr'.toList, by simp, h2⟩⟩
      apply run_build
      unfold places at hl
      split at hl
      · rename_i fs hu
        unfold Program.built
        rw [k.info, hu]
        simp only [k.zero, hl]
        simpa using h1
      · simp at hl
    · simp at he
  · simp at he

/-- n times the same cells. -/
def reps : Nat → List AV → List AV
  | 0, _ => []
  | n + 1, zs => zs ++ reps n zs

theorem reps_len (zs : List AV) : ∀ n, (reps n zs).length = n * zs.length
  | 0 => by simp [reps]
  | n + 1 => by simp [reps, reps_len zs n, Nat.add_mul]; omega

theorem reps_get (zs : List AV) (hz : 0 < zs.length) : ∀ n j, j < n * zs.length → (reps n zs)[j]? = zs[j % zs.length]?
  | 0, j, h => by simp at h
  | n + 1, j, h => by
    rw [reps]
    rcases Nat.lt_or_ge j zs.length with h1 | h1
    · rw [List.getElem?_append_left h1, Nat.mod_eq_of_lt h1]
    · rw [List.getElem?_append_right h1, reps_get zs hz n _ (by rw [Nat.add_mul] at h; omega), ← Nat.mod_eq_sub_mod h1]

theorem reps_rel {g : Gh} {w : World} {zs : List AV} {z : Array Value} (hr : RelL g w zs z.toList) (ho : ∀ u ∈ z.toList, u.oneCell' = true) (hz : 0 < zs.length) (n : Nat) :
    RelL g w (reps n zs) (((Array.range (n * z.size)).map (z[· % z.size]!))).toList ∧ ∀ u ∈ (((Array.range (n * z.size)).map (z[· % z.size]!))).toList, u.oneCell' = true := by
  have hlen := hr.len
  simp only [Array.length_toList] at hlen
  constructor
  · apply RelL.of_get
    · rw [reps_len]; simp [hlen]
    · intro j a v ha hv
      have hj : j < n * zs.length := by
        rcases Nat.lt_or_ge j (n * zs.length) with h1 | h1
        · exact h1
        · rw [List.getElem?_eq_none (by rw [reps_len]; exact h1)] at ha; simp at ha
      rw [reps_get zs hz n j hj] at ha
      obtain ⟨u, hu, hru⟩ := hr.get ha
      have hm : j % z.size < z.size := Nat.mod_lt _ (by omega)
      have : v = u := by
        simp only [Array.toList_map, Array.toList_range, List.getElem?_map] at hv
        rw [List.getElem?_range (by rw [hlen]; exact hj)] at hv
        simp only [Option.map_some, Option.some.injEq] at hv
        rw [← hv]
        rw [← hlen] at hu
        simp only [Array.getElem?_toList, Array.getElem?_eq_getElem hm, Option.some.injEq] at hu
        rw [getElem!_pos z _ hm, hu]
      rw [this]; exact hru
  · intro u hu
    simp only [Array.toList_map, Array.toList_range, List.mem_map, List.mem_range] at hu
    obtain ⟨j, hj, rfl⟩ := hu
    have hm : j % z.size < z.size := Nat.mod_lt _ (by omega)
    rw [getElem!_pos z _ hm]
    exact ho _ (by simp)

def buildSliceE (P : Program) (T : TypeId) (n : Nat) (ps : List (Nat × AV)) : Option AV :=
  match P.underlying T with
  | some (.slice E) => match ti P E with
    | some t =>
      if 0 < t.size ∧ n * t.size ≤ 2 ^ 24 ∧ 0 < n then
        match fillE (fun j => some (j * t.size, t.size)) (reps n t.zero) ps with
        | some cs => some (.lst n true cs)
        | none => none
      else none
    | none => none
  | _ => none

theorem buildSliceE_run {P : Program} {g : Gh} {h : Hp} {w : World} (hw : WRel g h w) {T : TypeId} {n : Nat} {ps : List (Nat × AV)} {vp : Array (Nat × Value)} {av : AV} (hp : RelP g w ps vp.toList) (he : buildSliceE P T n ps = some av) :
    Yw P (Instr.buildSlice T n vp) g w av h := by
  unfold buildSliceE at he
  split at he
  · rename_i E hu
    split at he
    · rename_i t ht
      split at he
      · rename_i hc
        obtain ⟨hc1, hc2, hc3⟩ := hc
        split at he
        · rename_i cs hf
          simp only [Option.some.injEq] at he; subst he
          obtain ⟨i, d, z, k⟩ := ti_ok ht
          obtain ⟨hz, hzo⟩ := zero_rel k g w
          have hzl := k.zlen
          have hzs : z.cells.size = t.size := by have := hz.len; simp only [Array.length_toList] at this; omega
          obtain ⟨hr, hro⟩ := reps_rel hz hzo (by omega) n
          obtain ⟨arr', h1, h2, h3⟩ := fill_rel _ ps vp.toList _ cs _ hf hp hr hro
          obtain ⟨g', e, hw', him⟩ := alloc_imm hw arr'.toList E h3
          have hne : n * t.size ≠ 0 := by have := Nat.mul_pos hc3 hc1; omega
          rw [hzs] at h1
          refine ⟨.slice (some ⟨w.heap.size, 0, none⟩) n n, w.alloc (.cells arr'.toList.toArray E), g', ?_, e, hw', ⟨_, n, rfl, fun _ => rfl, Nat.le_refl _, ?_, .inr ⟨_, _, _, rfl, h2.mono e, him⟩⟩⟩
          · simp only [Instr.buildSlice, Sem.run_bind, run_underlying hu, Result.andThen_ok, k.sizeOf]
            rw [if_neg (by omega)]
            simp only [hne, if_false, k.zeroValue, Sem.run_bind, Result.andThen_ok, Sem.run_pure, hzs, h1, newRow, newObj, Sem.run]
            simp
          · have h4 : n ≤ n * t.size := Nat.le_mul_of_pos_right n hc1
            unfold imax; omega
        · simp at he
      · simp at he
    · simp at he
  · simp at he

/-! ### New variables -/
def newE (T : TypeId) (h : Hp) (cs : List AV) : AV × Hp := (.ptr h.length T 0, h ++ [.cells T 1 cs])

theorem newE_run {P : Program} {g : Gh} {h : Hp} {w : World} (hw : WRel g h w) (T : TypeId) (hT : T < 4294967296) {cs : List AV} {v : Value} (hr : RelL g w cs v.cells.toList) (ho : ∀ u ∈ v.cells.toList, u.oneCell' = true) :
    Yw P (do pure (.pointer (some (← newVar T v)))) g w (newE T h cs).1 (newE T h cs).2 := by
  obtain ⟨g', e, hw', hl⟩ := alloc_obj (h' := h ++ [.cells T 1 cs]) hw h.length 1 cs v.cells.toList [] T T (Nat.mod_eq_of_lt hT).symm (.inl (by simp)) (by simp) (fun id hne => by
    rcases Nat.lt_or_ge id h.length with h1 | h1
    · rw [List.getElem?_append_left h1]
    · rw [List.getElem?_eq_none h1, List.getElem?_eq_none (by simp; omega)]) hr ho
  refine ⟨.pointer (some ⟨w.heap.size, 0, none⟩), _, g', ?_, e, hw', ⟨_, hl, rfl⟩⟩
  simp [newVar, newRow, newObj, Sem.run]

def allocE (P : Program) (h : Hp) (T : TypeId) : Option (AV × Hp) :=
  match ti P T with
  | some t => if T < 4294967296 then some (newE T h t.zero) else none
  | none => none

theorem allocE_run {P : Program} {g : Gh} {h h' : Hp} {w : World} (hw : WRel g h w) {T : TypeId} {av : AV} (he : allocE P h T = some (av, h')) : Yw P (Instr.alloc T true (.tuple #[])) g w av h' := by
  unfold allocE at he
  split at he
  · rename_i t ht
    split at he
    · rename_i hT
      simp only [Option.some.injEq] at he
      obtain ⟨i, d, z, k⟩ := ti_ok ht
      obtain ⟨hz, hzo⟩ := zero_rel k g w
      have := newE_run (P := P) hw T hT hz hzo
      rw [he] at this
      obtain ⟨v, w', g', h1, h2⟩ := this
      exact ⟨v, w', g', by simp only [Instr.alloc, Sem.run_bind, k.zeroValue, Result.andThen_ok]; exact h1, h2⟩
    · cases he
  · simp at he

def boxE (T : TypeId) (h : Hp) (x : AV) : Option (AV × Hp) :=
  match x.cells with
  | some cs => if T < 4294967296 then some (newE T h cs) else none
  | none => none

theorem boxE_run {P : Program} {g : Gh} {h h' : Hp} {w : World} (hw : WRel g h w) {T : TypeId} {x av : AV} {vx : Value} (hx : RelV g w x vx) (he : boxE T h x = some (av, h')) : Yw P (Instr.box T vx) g w av h' := by
  unfold boxE at he
  split at he
  · rename_i cs hc
    split at he
    · rename_i hT
      simp only [Option.some.injEq] at he
      obtain ⟨hr, ho⟩ := cells_rel hx hc
      have := newE_run (P := P) hw T hT hr ho
      rw [he] at this
      exact this
    · cases he
  · simp at he

/-! ### Appending -/
def srcCells (h : Hp) : AV → Option (Nat × List AV)
  | .s str => some (str.size, str.data.toList.map encB)
  | x => sliceCells h x

def room : Nat := 140737488355328

def appendE (P : Program) (h : Hp) (sT xT : TypeId) (s x : AV) : Option (AV × Hp) :=
  match P.underlying sT, P.underlying xT, srcCells h x with
  | some (.slice _), some (.int _), _ => none
  | some (.slice E), some _, some (m, cs) => match ti P E with
    | some t =>
      if cs.length = m * t.size ∧ 0 < t.size then
        match s with
        | .nils =>
          if m = 0 then some (.nils, h) else
          if m * t.bytes ≤ room ∧ E < 4294967296 then some (.sl h.length E 0 m false, h ++ [.cells E t.size cs]) else none
        | .lst n true old =>
          if m = 0 then some (.lst n true old, h) else
          if old.length = n * t.size ∧ (n + m) * t.bytes ≤ room ∧ ((n + m : Nat) : Int) ≤ imax ∧ E < 4294967296 then some (.sl h.length E 0 (n + m) false, h ++ [.cells E t.size (old ++ cs)]) else none
        | .sl id ver off n full => match h[id]? with
          | some (.cells v e all) =>
            if v = ver ∧ e = t.size ∧ off + n * e ≤ all.length ∧ (n + m) * t.bytes ≤ room ∧ ((n + m : Nat) : Int) ≤ imax ∧ v % 4294967296 = E then some (.sl id (ver + 4294967296) 0 (n + m) false, h.set id (.cells (ver + 4294967296) e ((all.drop off).take (n * e) ++ cs))) else none
          | _ => none
        | _ => none
      else none
    | none => none
  | _, _, _ => none

theorem srcCells_rel {g : Gh} {h : Hp} {w : World} (hw : WRel g h w) {x : AV} {vx : Value} {m : Nat} {cs : List AV} (hx : RelV g w x vx) (hc : srcCells h x = some (m, cs)) {P : Program} {size : Nat} (hs : 0 < size) (hl : cs.length = m * size) :
    ∃ vs : List Value, RelL g w cs vs ∧ (∀ u ∈ vs, u.oneCell' = true) ∧ (Builtin.lenOf vx).run P w = .ok m w ∧ (Builtin.firstCells size m vx).run P w = .ok vs.toArray w ∧ (m : Int) ≤ imax := by
  unfold srcCells at hc
  split at hc
  · rename_i str
    simp only [Option.some.injEq, Prod.mk.injEq] at hc
    obtain ⟨rfl, rfl⟩ := hc
    have hsz := hx.2
    rw [rel_s hx]
    refine ⟨str.data.toList.map fun b => Value.int .u8 b.toNat, encB_rel g w _, ?_, rfl, ?_, hsz⟩
    · intro u hu
      simp only [List.mem_map] at hu
      obtain ⟨b, _, rfl⟩ := hu; rfl
    · simp only [Builtin.firstCells, Sem.run_pure]
      congr 1
      apply Array.ext'
      have : (str.extract 0 str.size).data = str.data := by
        simp [ByteArray.data_extract, ← ByteArray.size_data]
      simp [this]
  · obtain ⟨a, c, vs, rfl, h1, h2, h3⟩ := sliceCells_rel hw hx hc
    rcases h3 with ⟨rfl, rfl, rfl⟩ | ⟨b, o, rfl, hat⟩
    · refine ⟨[], by simp [RelL], by simp, rfl, ?_, h2⟩
      cases a with
      | none => rfl
      | some a => simp [Builtin.firstCells, loadCells, loadCellsFrom]
    · have hlen := hat.rel.len
      refine ⟨vs, hat.rel, hat.mem, rfl, ?_, h2⟩
      have := run_loadCells_at (P := P) hat (m * size) (by omega)
      rw [List.take_of_length_le (by omega)] at this
      exact this

theorem choose_cap {P : Program} (w : World) (need old : Nat) (T : TypeId) : ∃ c, need ≤ c ∧ (choose (.appendCap need old T)).run P w = .ok c w.drew := by
  refine ⟨need + w.tape w.drawn (.appendCap need old T) % (2 ^ 63 - need), by omega, ?_⟩
  simp [choose, Sem.run, Question.forced, Question.cut]

theorem askRoom_run {P : Program} (w : World) (n : Nat) : (askRoom n).run P w = .ok () w := by
  unfold askRoom
  split <;> simp [mark, Sem.run]

theorem zeroCells_len (z : Array Value) (n : Nat) : (Builtin.zeroCells z n).size = n * z.size := by simp [Builtin.zeroCells]

section append
variable {P : Program} {sT xT E R : TypeId} {dx : TypeDesc} {t : TI} {i : TypeInfo} {d : TypeDesc} {z : Value}

theorem append_in (hs : P.underlying sT = some (.slice E)) (hx : P.underlying xT = some dx) (hni : ∀ k, dx ≠ .int k) (k : TiOk P E t i d z) {w w' : World} {base : Option Addr} {n c m : Nat} {vx : Value} {vs : List Value}
    (hlen : (Builtin.lenOf vx).run P w = .ok m w) (hcells : (Builtin.firstCells t.size m vx).run P w = .ok vs.toArray w) (hle : n + m ≤ c)
    (hst : (match base with | some a => storeCells (a.add (n * t.size)) vs | none => pure ()).run P w = .ok () w') :
    (Builtin.append_ #[sT, xT] R #[.slice base n c, vx]).run P w = .ok (.slice base (n + m) c) w' := by
  have hz : (match dx with | .int _ => true | _ => false) = false := by cases dx <;> first | rfl | exact absurd rfl (hni _)
  simp only [Builtin.append_]
  simp only [List.getElem?_toArray, List.getElem?_cons_zero, List.getElem?_cons_succ, Sem.run_bind, run_underlying hs, run_underlying hx, Result.andThen_ok, k.sizeOf, Sem.run_pure, hz, Bool.false_eq_true, if_false, hlen, hle, if_true, Bool.not_false, hcells]
  cases base with
  | none => simp only [Sem.run_pure, Result.ok.injEq, true_and] at hst; subst hst; rfl
  | some a => simp only [Sem.run_bind, hst, Result.andThen_ok, Sem.run_pure]

theorem append_grow (hs : P.underlying sT = some (.slice E)) (hx : P.underlying xT = some dx) (hni : ∀ k, dx ≠ .int k) (k : TiOk P E t i d z) {w : World} {base : Option Addr} {n c m : Nat} {vx : Value} {vs old : List Value}
    (hlen : (Builtin.lenOf vx).run P w = .ok m w) (hcells : (Builtin.firstCells t.size m vx).run P w = .ok vs.toArray w) (hle : c < n + m) (hroom : (n + m) * t.bytes ≤ room) (himax : ((n + m : Nat) : Int) ≤ imax)
    (hold : ∀ w', w'.heap = w.heap → (Builtin.firstCells t.size n (.slice base n c)).run P w' = .ok old.toArray w') (hcells' : ∀ w', w'.heap = w.heap → (Builtin.firstCells t.size m vx).run P w' = .ok vs.toArray w') :
    ∃ (newCap : Nat) (rest : List Value), n + m ≤ newCap ∧ rest.length = (newCap - (n + m)) * t.size ∧ (Builtin.append_ #[sT, xT] R #[.slice base n c, vx]).run P w = .ok (.slice (some ⟨w.heap.size, 0, none⟩) (n + m) newCap) (w.drew.alloc (.cells ((old ++ vs) ++ rest).toArray E)) := by
  have hz : (match dx with | .int _ => true | _ => false) = false := by cases dx <;> first | rfl | exact absurd rfl (hni _)
  have hmax : IntKind.i64.max = imax := by decide
  have hn1 : ¬ (((n + m : Nat) : Int) > IntKind.i64.max ∧ (False ∨ t.bytes = 0)) := fun h => by rw [hmax] at h; omega
  have hn2 : ¬ (Builtin.nextslicecap (n + m) c * t.bytes > 2 ^ 48) := by
    have h1 := Go.nextslicecap_le hle
    have h2 : Builtin.nextslicecap (n + m) c * t.bytes ≤ 2 * (n + m) * t.bytes := Nat.mul_le_mul_right _ h1
    rw [Nat.mul_assoc] at h2
    unfold room at hroom
    omega
  obtain ⟨newCap, hcap, hch⟩ := choose_cap (P := P) w (n + m) c E
  refine ⟨newCap, (Builtin.zeroCells z.cells (newCap - (n + m))).toList, hcap, ?_, ?_⟩
  · rw [Array.length_toList, zeroCells_len]
    have := k.zsize; have := k.size; rw [this, k.zsize]
  · have hti := fun w => k.typeInfo (w := w)
    rw [k.bytes] at hn1 hn2
    simp only [Builtin.append_]
    simp only [List.getElem?_toArray, List.getElem?_cons_zero, List.getElem?_cons_succ, Sem.run_bind, run_underlying hs, run_underlying hx, Result.andThen_ok, k.sizeOf, Sem.run_pure, hz, Bool.false_eq_true, if_false, hlen, if_neg (show ¬ n + m ≤ c by omega), hti]
    rw [if_neg hn1]
    simp only [Sem.run_bind, Sem.run_pure, Result.andThen_ok, hti, if_neg hn2, hch, askRoom_run, hold w.drew rfl, hcells' w.drew rfl, Bool.not_false, if_true, k.zeroValue, newRow, newObj, Sem.run]
    have harr : old.toArray ++ vs.toArray ++ Builtin.zeroCells z.cells (newCap - (n + m)) = (old ++ vs ++ (Builtin.zeroCells z.cells (newCap - (n + m))).toList).toArray := by
      apply Array.ext'; simp
    rw [harr]
    rfl
end append

theorem firstCells_at {P : Program} {g : Gh} {w : World} {b o : Nat} {cs : List AV} {vs : List Value} (hat : At g w b o cs vs) {size n c : Nat} (hl : vs.length = n * size) : ∀ w', w'.heap = w.heap → (Builtin.firstCells size n (.slice (some ⟨b, o, none⟩) n c)).run P w' = .ok vs.toArray w' := by
  intro w' hh
  have hc : ∀ a, w'.cell? a = w.cell? a := fun a => by simp [World.cell?, hh]
  have := run_loadCells_list (P := P) (w := w') ⟨b, o, none⟩ vs (fun j v hj => by rw [add0, hc]; exact hat.cell j v hj)
  rw [hl] at this
  exact this

theorem heap_cells {w w' : World} (hh : w'.heap = w.heap) (a : Addr) : w'.cell? a = w.cell? a := by simp [World.cell?, hh]

/-- What a source's cells are in any world of the same blocks. -/
theorem srcCells_any {g : Gh} {h : Hp} {w : World} (hw : WRel g h w) {x : AV} {vx : Value} {m : Nat} {cs : List AV} (hx : RelV g w x vx) (hc : srcCells h x = some (m, cs)) {P : Program} {size : Nat} (hs : 0 < size) (hl : cs.length = m * size) :
    ∃ vs : List Value, RelL g w cs vs ∧ (∀ u ∈ vs, u.oneCell' = true) ∧ (∀ w', (Builtin.lenOf vx).run P w' = .ok m w') ∧ (∀ w', w'.heap = w.heap → (Builtin.firstCells size m vx).run P w' = .ok vs.toArray w') ∧ (m : Int) ≤ imax := by
  unfold srcCells at hc
  split at hc
  · rename_i str
    simp only [Option.some.injEq, Prod.mk.injEq] at hc
    obtain ⟨rfl, rfl⟩ := hc
    have hsz := hx.2
    rw [rel_s hx]
    refine ⟨str.data.toList.map fun b => Value.int .u8 b.toNat, encB_rel g w _, ?_, fun _ => rfl, ?_, hsz⟩
    · intro u hu
      simp only [List.mem_map] at hu
      obtain ⟨b, _, rfl⟩ := hu; rfl
    · intro w' _
      simp only [Builtin.firstCells, Sem.run_pure]
      congr 1
      apply Array.ext'
      have : (str.extract 0 str.size).data = str.data := by
        simp [ByteArray.data_extract, ← ByteArray.size_data]
      simp [this]
  · obtain ⟨a, c, vs, rfl, h1, h2, h3⟩ := sliceCells_rel hw hx hc
    rcases h3 with ⟨rfl, rfl, rfl⟩ | ⟨b, o, rfl, hat⟩
    · refine ⟨[], by simp [RelL], by simp, fun _ => rfl, fun w' _ => ?_, h2⟩
      cases a with
      | none => rfl
      | some a => simp [Builtin.firstCells, loadCells, loadCellsFrom]
    · have hlen := hat.rel.len
      exact ⟨vs, hat.rel, hat.mem, fun _ => rfl, firstCells_at hat (by omega), h2⟩

theorem appendE_run {P : Program} {g : Gh} {h h' : Hp} {w : World} (hw : WRel g h w) {sT xT R : TypeId} {s x av : AV} {vs vx : Value} (hs : RelV g w s vs) (hx : RelV g w x vx) (he : appendE P h sT xT s x = some (av, h')) :
    Yw P (Builtin.append_ #[sT, xT] R #[vs, vx]) g w av h' := by
  unfold appendE at he
  split at he
  · simp at he
  · rename_i E dx m cs hni hu hux hsrc
    split at he
    · rename_i t ht
      split at he
      · rename_i hc
        obtain ⟨hl, hpos⟩ := hc
        obtain ⟨i, d, z, k⟩ := ti_ok ht
        obtain ⟨us, hrel, hone, hlen, hcells, himax⟩ := srcCells_any (P := P) hw hx hsrc hpos hl
        have hni' : ∀ kk, dx ≠ .int kk := fun kk e => hni kk e
        have hul := hrel.len
        obtain ⟨ed, hwd⟩ := drew_rel hw
        have noext : ∀ (c : Nat) (base : Option Addr) (n : Nat), m = 0 → n ≤ c → (Builtin.append_ #[sT, xT] R #[.slice base n c, vx]).run P w = .ok (.slice base n c) w := fun c base n hm hnc => by
          have hus : us = [] := List.eq_nil_of_length_eq_zero (by rw [hul, hl, hm]; simp)
          have := append_in (R := R) (w' := w) (base := base) (n := n) (c := c) hu hux hni' k (hlen w) (hcells w rfl) (by omega) (by subst hus; cases base <;> simp [storeCells])
          rw [hm] at this
          exact this
        -- the row that a growing append lays
        have grow : ∀ (c n id ver : Nat) (base : Option Addr) (old : List Value) (cold : List AV) (h2 : Hp), c < n + m → (n + m) * t.bytes ≤ room → ((n + m : Nat) : Int) ≤ imax → RelL g w cold old → (∀ u ∈ old, u.oneCell' = true) → old.length = n * t.size →
            (∀ w', w'.heap = w.heap → (Builtin.firstCells t.size n (.slice base n c)).run P w' = .ok old.toArray w') →
            (h[id]? = none ∨ h[id]? = some .free ∨ (∃ cs', h[id]? = some (.cells (ver - 4294967296) t.size cs') ∧ 4294967296 ≤ ver)) → E = ver % 4294967296 → h2[id]? = some (.cells ver t.size (cold ++ cs)) → (∀ id', id' ≠ id → h2[id']? = h[id']?) →
            Yw P (Builtin.append_ #[sT, xT] R #[.slice base n c, vx]) g w (.sl id ver 0 (n + m) false) h2 := fun c n id ver base old cold h2 hlt hroom hmx hro hoo hol hfc hold hE hnew hother => by
          obtain ⟨newCap, rest, hcap, hrl, hrun⟩ := append_grow (R := R) (base := base) (n := n) (c := c) hu hux hni' k (hlen w) (hcells w rfl) hlt hroom hmx hfc hcells
          obtain ⟨g', e, hw', hloc⟩ := alloc_obj (h' := h2) hwd id t.size (cold ++ cs) (old ++ us) rest E ver hE hold hnew hother ((hro.append hrel).mono ed) (by
            intro u hu'
            rcases List.mem_append.1 hu' with h1 | h1
            · exact hoo u h1
            · exact hone u h1)
          refine ⟨_, _, g', hrun, ed.trans e, hw', _, newCap, hloc, rfl, fun hf => by simp at hf, hcap, hmx, ?_⟩
          simp only [List.length_append, hol, hul, hl, hrl, Nat.zero_add]
          rw [← Nat.add_mul, ← Nat.add_mul]
          exact Nat.mul_le_mul_right _ (by omega)
        have hpush : ∀ o : HObj, ∀ id', id' ≠ h.length → (h ++ [o])[id']? = h[id']? := fun o id hne => by
          rcases Nat.lt_or_ge id h.length with h1 | h1
          · rw [List.getElem?_append_left h1]
          · rw [List.getElem?_eq_none h1, List.getElem?_eq_none (by simp; omega)]
        split at he
        · simp only [RelV] at hs; subst hs
          split at he
          · rename_i hm
            simp only [Option.some.injEq, Prod.mk.injEq] at he
            obtain ⟨rfl, rfl⟩ := he
            exact ⟨_, w, g, noext 0 none 0 hm (Nat.le_refl _), Ext.refl _ _, hw, rfl⟩
          · rename_i hm
            split at he
            · rename_i hroom
              simp only [Option.some.injEq, Prod.mk.injEq] at he
              obtain ⟨rfl, rfl⟩ := he
              have := grow 0 0 h.length E none [] [] (h ++ [.cells E t.size cs]) (by omega) (by simpa using hroom.1) (by simpa using himax) (by simp [RelL]) (by simp) (by simp) (fun w' _ => rfl) (.inl (by simp)) (Nat.mod_eq_of_lt hroom.2).symm (by simp) (hpush _)
              simpa using this
            · simp at he
        · rename_i n old
          split at he
          · rename_i hm
            simp only [Option.some.injEq, Prod.mk.injEq] at he
            obtain ⟨rfl, rfl⟩ := he
            have hs' := hs
            simp only [RelV] at hs'
            obtain ⟨a, c, rfl, h1, h2, h3, h4⟩ := hs'
            exact ⟨_, w, g, noext c a n hm h2, Ext.refl _ _, hw, hs⟩
          · rename_i hm
            split at he
            · rename_i hroom
              simp only [Option.some.injEq, Prod.mk.injEq] at he
              obtain ⟨rfl, rfl⟩ := he
              have hs' := hs
              simp only [RelV] at hs'
              obtain ⟨a, c, rfl, h1, h2, h3, h4⟩ := hs'
              have hcn : c = n := h1 trivial
              subst hcn
              rcases h4 with ⟨h5, h6⟩ | ⟨b, o, vs, rfl, hr, him⟩
              · subst h5; subst h6
                exact grow 0 0 h.length E a [] [] _ (by omega) hroom.2.1 hroom.2.2.1 (by simp [RelL]) (by simp) (by simp) (fun w' _ => by cases a <;> simp [Builtin.firstCells, loadCells, loadCellsFrom]) (.inl (by simp)) (Nat.mod_eq_of_lt hroom.2.2.2).symm (by simp) (hpush _)
              · have hvl := hr.len
                exact grow c c h.length E _ vs old _ (by omega) hroom.2.1 hroom.2.2.1 hr (him.at_ hr).mem (by omega) (firstCells_at (him.at_ hr) (by omega)) (.inl (by simp)) (Nat.mod_eq_of_lt hroom.2.2.2).symm (by simp) (hpush _)
            · simp at he
        · rename_i id ver off n full
          split at he
          · rename_i v e all hid
            split at he
            · rename_i hcc
              obtain ⟨rfl, rfl, hle, hroom, hmx, hvE⟩ := hcc
              simp only [Option.some.injEq, Prod.mk.injEq] at he
              obtain ⟨rfl, rfl⟩ := he
              simp only [RelV] at hs
              obtain ⟨L, c, hloc, rfl, h1, h2, h3, h4⟩ := hs
              obtain ⟨L', ovs, hL⟩ := hw.cells hid
              have hLL : L' = L := by have := hL.loc; rw [hloc] at this; simpa using this.symm
              subst hLL
              have hesz := hL.esz
              rw [hesz] at h4
              have hovl := hL.rel.len
              have hlt : id < h.length := by
                rcases Nat.lt_or_ge id h.length with h5 | h5
                · exact h5
                · simp [List.getElem?_eq_none h5] at hid
              by_cases hin : n + m ≤ c
              · -- in place
                have hcm : (n + m) * t.size ≤ c * t.size := Nat.mul_le_mul_right _ hin
                rw [Nat.add_mul] at hcm
                have hvv : off + n * t.size + us.length ≤ L'.cap := by omega
                let vs' := ovs.take (off + n * t.size) ++ us ++ ovs.drop (off + n * t.size + us.length)
                let cs' := all.take (off + n * t.size) ++ cs ++ all.drop (off + n * t.size + us.length)
                have hrel' : RelL g w cs' vs' := ((hL.rel.take _).append hrel).append (hL.rel.drop _)
                obtain ⟨e1, w1, hat1⟩ := store_obj (h' := h.set id (.cells v t.size cs')) hw hid hL (off + n * t.size) us (by omega) hvv hone hrel' (by simp [hlt]) (fun id' hne => by rw [List.getElem?_set_ne (fun h => hne h.symm)])
                have hid1 : (h.set id (.cells v t.size cs'))[id]? = some (.cells v t.size cs') := by simp [hlt]
                have hto : (all.take (off + n * t.size)).length = off + n * t.size := by simp; omega
                have hview : (cs'.drop off).take ((n + m) * t.size) = (all.drop off).take (n * t.size) ++ cs := by
                  have hX : ((all.drop off).take (n * t.size)).length = n * t.size := by rw [List.length_take, List.length_drop]; omega
                  simp only [cs']
                  rw [List.append_assoc, List.drop_append_of_le_length (by omega), List.drop_take, show off + n * t.size - off = n * t.size by omega, ← List.append_assoc]
                  rw [show (n + m) * t.size = ((all.drop off).take (n * t.size) ++ cs).length by rw [List.length_append, hX, hl, Nat.add_mul]]
                  exact List.take_left
                obtain ⟨g2, e2, w2, hloc2⟩ := reversion (h' := h.set id (.cells (v + 4294967296) t.size ((all.drop off).take (n * t.size) ++ cs))) w1 hid1 hat1 off ((n + m) * t.size) (L'.cap - off) (by omega) (by simp only [cs', List.length_append, hto, List.length_drop]; rw [Nat.add_mul]; omega) (by rw [Nat.add_mul]; omega)
                  (by rw [hview]; simp [hlt]) (fun id' hne => by rw [List.getElem?_set_ne (fun h => hne h.symm), List.getElem?_set_ne (fun h => hne h.symm)])
                refine ⟨_, _, g2, append_in (R := R) (w' := w.setCells L'.block (L'.off + (off + n * t.size)) us) hu hux hni' k (hlen w) (hcells w rfl) hin ?_, e1.trans e2, w2, _, c, hloc2, ?_, fun hf => by simp at hf, hin, hmx, ?_⟩
                · have hthere := hL.there
                  have := run_storeCells_cells (P := P) L'.block (L'.off + (off + n * t.size)) us 0 w (fun j hj => by have := hL.there (off + n * t.size + j) (by omega); simpa [Nat.add_assoc] using this) (fun j hj => by have := hL.thaw (off + n * t.size + j) (by omega); simpa [Nat.add_assoc] using this) hone
                  simp only [add0]
                  simpa [Nat.add_assoc] using this
                · simp
                · simp; omega
              · -- a new row
                have hat := (hL.at_.drop off).take (n * t.size)
                have hol : ((ovs.drop off).take (n * t.size)).length = n * t.size := by simp; omega
                exact grow c n id (v + 4294967296) _ _ _ _ (by omega) hroom hmx hat.rel hat.mem hol (firstCells_at hat hol) (.inr (.inr ⟨all, by simpa using hid, by omega⟩)) (by rw [Nat.add_mod_right]; exact hvE.symm) (by simp [hlt]) (fun id' hne => by rw [List.getElem?_set_ne (fun h => hne h.symm)])
            · simp at he
          · simp at he
        · simp at he
      · simp at he
    · simp at he
  · simp at he
end Go.M
