/- What operations do to abstract states: loads, stores, fields, indexes, slices, structs. -/
import Derived.Test.YtjnpfhihefchoaaDoorMd
import Derived.Laws.Tables
namespace Go.M
open Go Go.RowKit
set_option linter.unusedVariables false
set_option linter.unusedSimpArgs false

/-- A computation that yields a value and turns nothing. -/
def Yv (P : Program) (s : Sem Value) (g : Gh) (w : World) (av : AV) : Prop := ∃ v, s.run P w = .ok v w ∧ RelV g w av v

/-! ### What a pointer leads to -/
def ptrCells (h : Hp) : AV → Option (List AV)
  | .ptr id ver off => match h[id]? with
    | some (.cells v _ cs) => if v = ver then some (cs.drop off) else none
    | _ => none
  | .pim cs => some cs
  | _ => none

structure At (g : Gh) (w : World) (b o : Nat) (cs : List AV) (vs : List Value) : Prop where
  rel : RelL g w cs vs
  cell : ∀ j u, vs[j]? = some u → w.cell? ⟨b, o + j, none⟩ = some u
  one : ∀ (j : Nat) (u : Value), vs[j]? = some u → u.oneCell' = true

theorem At.drop {g : Gh} {w : World} {b o : Nat} {cs : List AV} {vs : List Value} (h : At g w b o cs vs) (n : Nat) : At g w b (o + n) (cs.drop n) (vs.drop n) where
  rel := h.rel.drop n
  cell j u hu := by rw [List.getElem?_drop] at hu; have := h.cell _ u hu; rwa [← Nat.add_assoc] at this
  one j u hu := by rw [List.getElem?_drop] at hu; exact h.one _ u hu

theorem At.take {g : Gh} {w : World} {b o : Nat} {cs : List AV} {vs : List Value} (h : At g w b o cs vs) (n : Nat) : At g w b o (cs.take n) (vs.take n) where
  rel := h.rel.take n
  cell j u hu := by rw [List.getElem?_take] at hu; split at hu; exact h.cell _ u hu; simp at hu
  one j u hu := by rw [List.getElem?_take] at hu; split at hu; exact h.one _ u hu; simp at hu

theorem At.mem {g : Gh} {w : World} {b o : Nat} {cs : List AV} {vs : List Value} (h : At g w b o cs vs) : ∀ u ∈ vs, u.oneCell' = true := fun u hu => by
  obtain ⟨j, hj⟩ := List.mem_iff_getElem?.1 hu; exact h.one j u hj

theorem Imm.at_ {g : Gh} {w : World} {b o : Nat} {cs : List AV} {vs : List Value} (hr : RelL g w cs vs) (h : Imm g w b o vs) : At g w b o cs vs :=
  ⟨hr, fun j u hu => (h j u hu).1, fun j u hu => (h j u hu).2.2⟩

theorem ObjAt.at_ {g : Gh} {w : World} {id ver esz : Nat} {cs : List AV} {L : Loc} {vs : List Value} (h : ObjAt g w id ver esz cs L vs) : At g w L.block L.off cs vs := ⟨h.rel, h.cell, h.one⟩

theorem WRel.cells {g : Gh} {h : Hp} {w : World} (hw : WRel g h w) {id ver esz : Nat} {cs : List AV} (hid : h[id]? = some (.cells ver esz cs)) : ∃ L vs, ObjAt g w id ver esz cs L vs := by
  have := hw.obj id; rw [hid] at this; exact this.1

theorem ptrCells_rel {g : Gh} {h : Hp} {w : World} (hw : WRel g h w) {p : AV} {vp : Value} {cs : List AV} (hp : RelV g w p vp) (hc : ptrCells h p = some cs) :
    ∃ b o vs, vp = .pointer (some ⟨b, o, none⟩) ∧ At g w b o cs vs := by
  unfold ptrCells at hc
  split at hc
  · split at hc
    · rename_i v e l hid
      split at hc
      · rename_i hv
        subst hv
        simp only [Option.some.injEq] at hc; subst hc
        obtain ⟨L, vs, hL⟩ := hw.cells hid
        simp only [RelV] at hp
        obtain ⟨L', hl, rfl⟩ := hp
        have : L' = L := by have := hL.loc; rw [hl] at this; simpa using this
        subst this
        exact ⟨_, _, _, rfl, hL.at_.drop _⟩
      · simp at hc
    · simp at hc
  · simp only [Option.some.injEq] at hc; subst hc
    simp only [RelV] at hp
    obtain ⟨b, o, vs, rfl, hr, hi⟩ := hp
    exact ⟨b, o, vs, rfl, hi.at_ hr⟩
  · simp at hc

theorem add0 (b o n : Nat) : (⟨b, o, none⟩ : Addr).add n = ⟨b, o + n, none⟩ := by unfold Addr.add; split <;> simp_all

theorem run_loadCells_at {P : Program} {g : Gh} {w : World} {b o : Nat} {cs : List AV} {vs : List Value} (h : At g w b o cs vs) (n : Nat) (hn : n ≤ vs.length) :
    (loadCells ⟨b, o, none⟩ n).run P w = .ok (vs.take n).toArray w := by
  have := run_loadCells_list (P := P) (w := w) ⟨b, o, none⟩ (vs.take n) (fun j v hj => by rw [add0]; exact (h.take n).cell j v hj)
  rwa [List.length_take, Nat.min_eq_left hn] at this

def loadE (P : Program) (h : Hp) (T : TypeId) (p : AV) : Option AV :=
  match ti P T, ptrCells h p with
  | some t, some cs => if t.agg = true then (if t.size ≤ cs.length then some (.agg (cs.take t.size)) else none) else cs.head?
  | _, _ => none

theorem loadE_run {P : Program} {g : Gh} {h : Hp} {w : World} (hw : WRel g h w) {T : TypeId} {p av : AV} {vp : Value} (hp : RelV g w p vp) (he : loadE P h T p = some av) : Yv P (Instr.loadAt T vp) g w av := by
  unfold loadE at he
  split at he
  · rename_i t cs ht hc
    obtain ⟨i, d, z, k⟩ := ti_ok ht
    obtain ⟨b, o, vs, rfl, hat⟩ := ptrCells_rel hw hp hc
    have hlen := hat.rel.len
    split at he
    · rename_i ha
      split at he
      · rename_i hle
        simp only [Option.some.injEq] at he; subst he
        refine ⟨.agg (vs.take t.size).toArray, ?_, ⟨_, rfl, hat.rel.take _⟩⟩
        simp only [Instr.loadAt, Instr.sureAddr, Sem.run_bind, Sem.run_pure, Result.andThen_ok, loadVar, k.isAgg, ha, if_true, k.sizeOf]
        rw [run_loadCells_at hat _ (by omega)]
        rfl
      · simp at he
    · rename_i ha
      have ha' : t.agg = false := by simpa using ha
      cases cs with
      | nil => simp at he
      | cons a as =>
        simp only [List.head?_cons, Option.some.injEq] at he; subst he
        obtain ⟨v, hv, hrv⟩ := hat.rel.get (j := 0) rfl
        refine ⟨v, ?_, hrv⟩
        have hcell := hat.cell 0 v hv
        simp only [Nat.add_zero] at hcell
        simp only [Instr.loadAt, Instr.sureAddr, Sem.run_bind, Sem.run_pure, Result.andThen_ok, loadVar, k.isAgg, ha', Bool.false_eq_true, if_false]
        simp [hcell]
  · simp at he

def splice : List AV → Nat → List AV → List AV
  | l, _, [] => l
  | l, off, c :: cs => splice (l.set off c) (off + 1) cs

theorem splice_eq : ∀ (cs l : List AV) (off : Nat), off + cs.length ≤ l.length → splice l off cs = l.take off ++ cs ++ l.drop (off + cs.length)
  | [], l, off, h => by simp [splice]
  | c :: cs, l, off, h => by
    simp only [List.length_cons] at h
    rw [splice, splice_eq cs _ (off + 1) (by simp; omega)]
    apply List.ext_getElem?
    intro j
    have hl : off < l.length := by omega
    rcases Nat.lt_trichotomy j off with h1 | h1 | h1
    · rw [List.append_assoc, List.getElem?_append_left (by simp; omega), List.append_assoc, List.getElem?_append_left (by simp; omega)]
      simp only [List.getElem?_take, if_pos h1, if_pos (show j < off + 1 by omega)]
      rw [List.getElem?_set_ne (by omega)]
    · subst h1
      rw [List.append_assoc, List.getElem?_append_left (by simp; omega), List.append_assoc, List.getElem?_append_right (by simp; omega)]
      simp [List.getElem?_take, hl, Nat.min_eq_left (Nat.le_of_lt hl)]
    · rcases Nat.lt_or_ge j (off + 1 + cs.length) with h2 | h2
      · rw [List.append_assoc, List.getElem?_append_right (by simp; omega), List.getElem?_append_left (by simp; omega), List.append_assoc, List.getElem?_append_right (by simp; omega), List.getElem?_append_left (by simp; omega)]
        simp only [List.length_take, List.length_set]
        rw [Nat.min_eq_left (by omega), Nat.min_eq_left (by omega)]
        obtain ⟨e, rfl⟩ : ∃ e, j = off + 1 + e := ⟨j - (off + 1), by omega⟩
        rw [show off + 1 + e - (off + 1) = e by omega, show off + 1 + e - off = e + 1 by omega]
        simp
      · rw [List.getElem?_append_right (by simp; omega), List.getElem?_append_right (by simp; omega)]
        simp only [List.length_append, List.length_take, List.length_set, List.length_cons, List.getElem?_drop]
        rw [Nat.min_eq_left (by omega), Nat.min_eq_left (by omega), List.getElem?_set_ne (by omega)]
        congr 1; omega

theorem RelL.splice {g : Gh} {w : World} {cs l : List AV} {us vs : List Value} (hc : RelL g w cs us) (hl : RelL g w l vs) {off : Nat} (h : off + cs.length ≤ l.length) :
    RelL g w (splice l off cs) (vs.take off ++ us ++ vs.drop (off + us.length)) := by
  rw [splice_eq _ _ _ h, hc.len]
  exact ((hl.take off).append hc).append (hl.drop _)

/-- A computation that may turn the world. -/
def Yw (P : Program) (s : Sem Value) (g : Gh) (w : World) (av : AV) (h' : Hp) : Prop := ∃ v w' g', s.run P w = .ok v w' ∧ Ext g w g' w' ∧ WRel g' h' w' ∧ RelV g' w' av v

def storeE (P : Program) (h : Hp) (T : TypeId) (p v : AV) : Option Hp :=
  match ti P T, v.cells, p with
  | some t, some cs, .ptr id ver off => match h[id]? with
    | some (.cells u e old) => if u = ver ∧ cs.length = t.size ∧ off + cs.length ≤ old.length then some (h.set id (.cells u e (splice old off cs))) else none
    | _ => none
  | _, _, _ => none

theorem storeE_run {P : Program} {g : Gh} {h h' : Hp} {w : World} (hw : WRel g h w) {T : TypeId} {p a : AV} {vp va : Value} (hp : RelV g w p vp) (ha : RelV g w a va) (he : storeE P h T p a = some h') :
    ∃ w' g', (Instr.storeAt T vp va).run P w = .ok () w' ∧ Ext g w g' w' ∧ WRel g' h' w' := by
  unfold storeE at he
  split at he
  · rename_i t cs id ver off ht hcs
    split at he
    · rename_i u e old hid
      split at he
      · rename_i hc
        obtain ⟨rfl, hc1, hc2⟩ := hc
        simp only [Option.some.injEq] at he; subst he
        obtain ⟨i, d, z, k⟩ := ti_ok ht
        obtain ⟨hr, hone⟩ := cells_rel ha hcs
        obtain ⟨L, vs, hL⟩ := hw.cells hid
        simp only [RelV] at hp
        obtain ⟨L', hl, rfl⟩ := hp
        have : L' = L := by have := hL.loc; rw [hl] at this; simpa using this
        subst this
        have hlen := hL.rel.len
        have hlt : id < h.length := by
          rcases Nat.lt_or_ge id h.length with h1 | h1
          · exact h1
          · simp [List.getElem?_eq_none h1] at hid
        have hrl := hr.len
        obtain ⟨e1, w1, _⟩ := store_obj (h' := h.set id (.cells u e (splice old off cs))) hw hid hL off va.cells.toList (by omega) (by rw [hrl]; have := hL.len; omega) hone (hr.splice hL.rel hc2) (by simp [hlt]) (fun id' hne => by rw [List.getElem?_set_ne (fun h => hne h.symm)])
        refine ⟨_, g, ?_, e1, w1⟩
        have hsz : va.cells.size = t.size := by rw [← Array.length_toList, hrl, hc1]
        simp only [Instr.storeAt, Instr.sureAddr, Sem.run_bind, Sem.run_pure, Result.andThen_ok, storeVar, k.sizeOf, hsz, ne_eq, not_true, if_false]
        have := run_storeCells_cells (P := P) L'.block (L'.off + off) va.cells.toList 0 w (fun j hj => by have := hL.there (off + j) (by have := hL.len; omega); simpa [Nat.add_assoc] using this) (fun j hj => by have := hL.thaw (off + j) (by have := hL.len; omega); simpa [Nat.add_assoc] using this) hone
        simpa using this
      · simp at he
    · simp at he
  · simp at he

/-! ### Fields -/
def places (P : Program) (T : TypeId) : Option (List (Nat × Nat)) :=
  match P.underlying T with
  | some (.struct fs) => fs.toList.mapM fun f => (P.info? f.type).map fun i => (f.offset, i.size)
  | _ => none

theorem mapM_get {α β : Type} (f : α → Option β) : ∀ (l : List α) (r : List β), l.mapM f = some r → ∀ (j : Nat) (b : β), r[j]? = some b → ∃ a, l[j]? = some a ∧ f a = some b
  | [], r, h, j, b, hj => by simp at h; subst h; simp at hj
  | a :: l, r, h, j, b, hj => by
    simp only [List.mapM_cons, Option.bind_eq_bind, Option.pure_def] at h
    cases ha : f a with
    | none => simp [ha] at h
    | some x =>
      cases hr : l.mapM f with
      | none => simp [ha, hr] at h
      | some rest =>
        simp [ha, hr] at h
        subst h
        cases j with
        | zero => simp at hj; subst hj; exact ⟨a, rfl, ha⟩
        | succ j => simpa using mapM_get f l rest hr j b (by simpa using hj)

def fieldAddrE (P : Program) (T : TypeId) (p : AV) (f : Nat) : Option AV :=
  match places P T with
  | some l => match l[f]? with
    | some (off, size) => if size = 0 then none else
      match p with
      | .ptr id ver o => some (.ptr id ver (o + off))
      | .pim cs => some (.pim (cs.drop off))
      | _ => none
    | none => none
  | none => none

theorem fieldAddrE_run {P : Program} {g : Gh} {w : World} {T : TypeId} {p av : AV} {f : Nat} {vp : Value} (hp : RelV g w p vp) (he : fieldAddrE P T p f = some av) : Yv P (Instr.fieldAt T vp f) g w av := by
  unfold fieldAddrE at he
  split at he
  · rename_i l hl
    split at he
    · rename_i off size hf
      split at he
      · simp at he
      · rename_i hs
        unfold places at hl
        split at hl
        · rename_i fs hu
          obtain ⟨fl, h1, h2⟩ := mapM_get _ _ _ hl f _ hf
          have h1' : fs[f]? = some fl := by simpa using h1
          cases hi : P.info? fl.type with
          | none => simp [hi] at h2
          | some i =>
            simp [hi] at h2
            obtain ⟨rfl, rfl⟩ := h2
            have hrun : ∀ (b o : Nat), (Instr.fieldAt T (.pointer (some ⟨b, o, none⟩)) f).run P w = .ok (.pointer (some ⟨b, o + fl.offset, none⟩)) w := fun b o => by
              simp only [Instr.fieldAt, Sem.run_bind, run_underlying hu, Result.andThen_ok, h1', Instr.sureAddr, Sem.run_pure, fieldPlace, sizeOf, typeInfo, program, Sem.run, hi, hs, if_false, add0]
            split at he
            · simp only [Option.some.injEq] at he; subst he
              simp only [RelV] at hp
              obtain ⟨L, h3, rfl⟩ := hp
              exact ⟨_, hrun _ _, ⟨L, h3, by rw [Nat.add_assoc]⟩⟩
            · simp only [Option.some.injEq] at he; subst he
              simp only [RelV] at hp
              obtain ⟨b, o, vs, rfl, hr, him⟩ := hp
              exact ⟨_, hrun _ _, ⟨b, _, _, rfl, hr.drop _, him.drop _⟩⟩
            · simp at he
        · simp at hl
    · simp at he
  · simp at he

def fieldE (P : Program) (T : TypeId) (x : AV) (f : Nat) : Option AV :=
  match P.underlying T, x with
  | some (.struct fs), .agg cs => match fs[f]? with
    | some fl => match ti P fl.type with
      | some t => if t.agg = true then (if fl.offset + t.size ≤ cs.length then some (.agg ((cs.drop fl.offset).take t.size)) else none) else cs[fl.offset]?
      | none => none
    | none => none
  | _, _ => none

theorem fieldE_run {P : Program} {g : Gh} {w : World} {T : TypeId} {x av : AV} {f : Nat} {vx : Value} (hx : RelV g w x vx) (he : fieldE P T x f = some av) : Yv P (Instr.field T vx f) g w av := by
  unfold fieldE at he
  split at he
  · rename_i fs cs hu
    split at he
    · rename_i fl hf
      split at he
      · rename_i t ht
        obtain ⟨i, d, z, k⟩ := ti_ok ht
        simp only [RelV] at hx
        obtain ⟨vs, rfl, hx⟩ := hx
        split at he
        · rename_i ha
          split at he
          · simp only [Option.some.injEq] at he; subst he
            exact ⟨_, by simp only [Instr.field, Sem.run_bind, run_underlying hu, Result.andThen_ok, hf, asAgg, Sem.run_pure, part_agg k ha], ⟨_, rfl, (hx.drop _).take _⟩⟩
          · simp at he
        · rename_i ha
          have ha' : t.agg = false := by simpa using ha
          obtain ⟨v, hv, hr⟩ := hx.get he
          exact ⟨v, by simp only [Instr.field, Sem.run_bind, run_underlying hu, Result.andThen_ok, hf, asAgg, Sem.run_pure, part_one k ha' _ _ v hv], hr⟩
      · simp at he
    · simp at he
  · simp at he

/-! ### Slices -/
def sliceCells (h : Hp) : AV → Option (Nat × List AV)
  | .nils => some (0, [])
  | .lst n _ cs => some (n, cs)
  | .sl id ver off len _ => match h[id]? with
    | some (.cells v e cs) => if v = ver ∧ off + len * e ≤ cs.length then some (len, (cs.drop off).take (len * e)) else none
    | _ => none
  | _ => none

theorem sliceCells_rel {g : Gh} {h : Hp} {w : World} (hw : WRel g h w) {x : AV} {vx : Value} {n : Nat} {cs : List AV} (hx : RelV g w x vx) (hc : sliceCells h x = some (n, cs)) :
    ∃ a c vs, vx = .slice a n c ∧ n ≤ c ∧ (n : Int) ≤ imax ∧ ((n = 0 ∧ cs = [] ∧ vs = []) ∨ ∃ b o, a = some ⟨b, o, none⟩ ∧ At g w b o cs vs) := by
  unfold sliceCells at hc
  split at hc
  · simp only [Option.some.injEq, Prod.mk.injEq] at hc
    obtain ⟨rfl, rfl⟩ := hc
    simp only [RelV] at hx
    exact ⟨_, _, [], hx, Nat.le_refl _, by decide, .inl ⟨rfl, rfl, rfl⟩⟩
  · simp only [Option.some.injEq, Prod.mk.injEq] at hc
    obtain ⟨rfl, rfl⟩ := hc
    simp only [RelV] at hx
    obtain ⟨a, c, hv, h1, h2, h3, h4⟩ := hx
    rcases h4 with ⟨h4, h5⟩ | ⟨b, o, vs, ha, hr, hi⟩
    · exact ⟨a, c, [], hv, h2, h3, .inl ⟨h4, h5, rfl⟩⟩
    · exact ⟨a, c, vs, hv, h2, h3, .inr ⟨b, o, ha, hi.at_ hr⟩⟩
  · split at hc
    · rename_i v e l hid
      split at hc
      · rename_i hcc
        obtain ⟨rfl, hle⟩ := hcc
        simp only [Option.some.injEq, Prod.mk.injEq] at hc
        obtain ⟨rfl, rfl⟩ := hc
        obtain ⟨L, vs, hL⟩ := hw.cells hid
        simp only [RelV] at hx
        obtain ⟨L', c, hl, hv, h1, h2, h3, h4⟩ := hx
        have : L' = L := by have := hL.loc; rw [hl] at this; simpa using this
        subst this
        exact ⟨_, c, _, hv, h2, h3, .inr ⟨_, _, rfl, (hL.at_.drop _).take _⟩⟩
      · simp at hc
    · simp at hc
  · simp at hc

def i64 (n : Nat) : AV := .i .i64 n

theorem fits64 {n : Nat} (h : (n : Int) ≤ imax) : IntKind.i64.min ≤ (n : Int) ∧ (n : Int) ≤ IntKind.i64.max := by
  have h1 : IntKind.i64.min = -9223372036854775808 := by decide
  have h2 : IntKind.i64.max = imax := by decide
  rw [h1, h2]; omega

def lenE (P : Program) (h : Hp) (T : TypeId) (x : AV) : Option AV :=
  match P.underlying T, x with
  | some .string, .s str => some (.i .i64 str.size)
  | some (.slice _), .nils => some (.i .i64 0)
  | some (.slice _), .lst n _ _ => some (.i .i64 n)
  | some (.slice _), .sl _ _ _ n _ => some (.i .i64 n)
  | some (.map _ _), .nilm => some (.i .i64 0)
  | some (.map _ _), .mp id => match h[id]? with
    | some (.map m) => if (m.length : Int) ≤ imax then some (.i .i64 m.length) else none
    | _ => none
  | _, _ => none

theorem lenE_run {P : Program} {g : Gh} {h : Hp} {w : World} (hw : WRel g h w) {T : TypeId} {x av : AV} {vx : Value} (R : TypeId) (hx : RelV g w x vx) (he : lenE P h T x = some av) (more : Array TypeId) (hm : more[0]? = some T) :
    Yv P (Builtin.len_ more R #[vx]) g w av := by
  unfold lenE at he
  split at he
  · rename_i hu
    simp only [Option.some.injEq] at he; subst he
    have hs := hx.2
    rw [rel_s hx]
    exact ⟨_, by simp [Builtin.len_, run_underlying hu, hm]; rfl, ⟨rfl, fits64 hs⟩⟩
  · rename_i hu
    simp only [Option.some.injEq] at he; subst he
    simp only [RelV] at hx; subst hx
    exact ⟨_, by simp [Builtin.len_, run_underlying hu, hm]; rfl, ⟨rfl, fits64 (n := 0) (by decide)⟩⟩
  · rename_i n _ _ hu
    simp only [Option.some.injEq] at he; subst he
    simp only [RelV] at hx
    obtain ⟨a, c, rfl, h1, h2, h3, _⟩ := hx
    exact ⟨_, by simp [Builtin.len_, run_underlying hu, hm]; rfl, ⟨rfl, fits64 h3⟩⟩
  · rename_i _ _ _ n _ hu
    simp only [Option.some.injEq] at he; subst he
    simp only [RelV] at hx
    obtain ⟨L, c, hl, rfl, h1, h2, h3, _⟩ := hx
    exact ⟨_, by simp [Builtin.len_, run_underlying hu, hm]; rfl, ⟨rfl, fits64 h3⟩⟩
  · rename_i hu
    simp only [Option.some.injEq] at he; subst he
    simp only [RelV] at hx; subst hx
    exact ⟨_, by simp [Builtin.len_, run_underlying hu, hm]; rfl, ⟨rfl, fits64 (n := 0) (by decide)⟩⟩
  · rename_i id hu
    split at he
    · rename_i m hid
      split at he
      · rename_i hle
        simp only [Option.some.injEq] at he; subst he
        have ho := hw.obj id
        rw [hid] at ho
        obtain ⟨b, es, h1, h2, h6, h3, h4⟩ := ho
        simp only [RelV] at hx
        obtain ⟨b', hb, rfl⟩ := hx
        have : b' = b := by rw [h1] at hb; simpa using hb.symm
        subst this
        have hsz : es.size = m.length := by have := h3.len; simpa using this
        refine ⟨.int .i64 es.size, ?_, ?_⟩
        · simp [Builtin.len_, run_underlying hu, hm, getObj, Sem.run, h2]
          rfl
        · rw [hsz]; exact ⟨rfl, fits64 hle⟩
      · simp at he
    · simp at he
  · simp at he
end Go.M
