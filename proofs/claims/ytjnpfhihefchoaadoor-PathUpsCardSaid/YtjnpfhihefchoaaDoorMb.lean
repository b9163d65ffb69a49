/- Abstract heaps: when a list of objects stands for the blocks of a world; the steps that keep it so. -/
import Derived.Test.YtjnpfhihefchoaaDoorMa
import Derived.Laws.IdiomCopy
import Derived.RangeFuncRecord
namespace Go.M
open Go Go.RowKit
set_option linter.unusedVariables false
set_option linter.unusedSimpArgs false

inductive HObj where
  | cells (ver esz : Nat) (cs : List AV)
  | map (m : List (AV × AV))
  | loop (params : Array Tmp) (assign body : Code) (N : Nat) (fr : Nat → AV) (st : Option (Option Code))
  | iter (m since : Nat) (seen : List Nat)
  | free
  | dead

abbrev Hp := List HObj

structure ObjAt (g : Gh) (w : World) (id ver esz : Nat) (cs : List AV) (L : Loc) (vs : List Value) : Prop where
  loc : g.loc id ver = some L
  esz : L.esz = esz
  len : cs.length ≤ L.cap
  rel : RelL g w cs vs
  cell : ∀ j u, vs[j]? = some u → w.cell? ⟨L.block, L.off + j, none⟩ = some u
  one : ∀ (j : Nat) (u : Value), vs[j]? = some u → u.oneCell' = true
  there : ∀ j, j < L.cap → (w.cell? ⟨L.block, L.off + j, none⟩).isSome = true
  thaw : ∀ j, j < L.cap → w.frozen? ⟨L.block, L.off + j, none⟩ = false
  own : ∀ j, j < L.cap → g.own L.block (L.off + j) = .obj id
  base : g.base ≤ L.block
  shape : ∃ n, w.shape? L.block = some (ver % 4294967296, n) ∧ L.off + L.cap ≤ n
  base0 : ver < 4294967296 → L.off = 0

def MapAt (g : Gh) (w : World) (id : Nat) (m : List (AV × AV)) : Prop :=
  ∃ b es, g.blk id = some b ∧ w.heap[b]? = some (.map es es.size) ∧ (∀ (j : Nat) (e : MapEntry), es[j]? = some e → e.born = j) ∧ RelL g w (m.map (·.1)) (es.toList.map (·.key)) ∧ RelL g w (m.map (·.2)) (es.toList.map (·.val))

def IterAt (g : Gh) (w : World) (id m since : Nat) (seen : List Nat) : Prop :=
  ∃ b bm st, g.blk id = some b ∧ g.blk m = some bm ∧ w.heap[b]? = some (.mapIter (some bm) since seen.toArray st)

def LoopSt : Option (Option Code) → Loop → Prop
  | none, L => L.state = .busy
  | some none, L => L.state = .ready ∧ L.pending = none
  | some (some c), L => L.state = .done ∧ L.pending = some c

structure LoopAt (g : Gh) (w : World) (id : Nat) (params : Array Tmp) (assign body : Code) (N : Nat) (fr : Nat → AV) (st : Option (Option Code)) (b : Nat) (L : Loop) : Prop where
  blk : g.blk id = some b
  heap : w.heap[b]? = some (.loop L)
  params : L.params = params
  assign : L.assign = assign
  body : L.body = body
  size : L.tmps.size = N
  val : ∀ t, RelV g w (fr t) (L.tmps.getD t undef)
  st : LoopSt st L

def ObjOk (g : Gh) (w : World) (id : Nat) : Option HObj → Prop
  | none | some .free => (∀ v, g.loc id v = none) ∧ g.blk id = none
  | some .dead => True
  | some (.cells ver esz cs) => (∃ L vs, ObjAt g w id ver esz cs L vs) ∧ ∀ v, ver < v → g.loc id v = none
  | some (.map m) => MapAt g w id m
  | some (.iter m since seen) => IterAt g w id m since seen
  | some (.loop ps asg body N fr st) => ∃ b L, LoopAt g w id ps asg body N fr st b L

structure WRel (g : Gh) (h : Hp) (w : World) : Prop where
  obj : ∀ id, ObjOk g w id h[id]?
  inj : ∀ id id' b, g.blk id = some b → g.blk id' = some b → id = id'
  blkb : ∀ id b, g.blk id = some b → g.base ≤ b ∧ b < w.heap.size
  own : ∀ b o, g.own b o ≠ .no → b < w.heap.size
  below : Below g.base g.w0 w
  basele : g.base ≤ w.heap.size
  one : ∀ b o o' i i', g.own b o = .obj i → g.own b o' = .obj i' → i = i'

/-- The cells of object id read as they did. -/
def Keeps (g : Gh) (w : World) (g' : Gh) (w' : World) (id : Nat) : Prop :=
  ∀ b o, g.own b o = .obj id → g'.own b o = .obj id ∧ w'.cell? ⟨b, o, none⟩ = w.cell? ⟨b, o, none⟩ ∧ w'.frozen? ⟨b, o, none⟩ = w.frozen? ⟨b, o, none⟩

theorem ObjAt.keep {g g' : Gh} {w w' : World} {id ver esz : Nat} {cs : List AV} {L : Loc} {vs : List Value} (h : ObjAt g w id ver esz cs L vs) (e : Ext g w g' w') (k : Keeps g w g' w' id) : ObjAt g' w' id ver esz cs L vs where
  loc := e.loc _ _ _ h.loc
  esz := h.esz
  len := h.len
  rel := RelL.mono e h.rel
  cell j u hu := by
    have hl := h.rel.len
    have hj : j < L.cap := by
      have h1 := h.len
      have : j < vs.length := by
        rcases Nat.lt_or_ge j vs.length with h2 | h2
        · exact h2
        · simp [List.getElem?_eq_none h2] at hu
      omega
    rw [(k _ _ (h.own j hj)).2.1]; exact h.cell j u hu
  one := h.one
  there j hj := by rw [(k _ _ (h.own j hj)).2.1]; exact h.there j hj
  thaw j hj := by rw [(k _ _ (h.own j hj)).2.2]; exact h.thaw j hj
  own j hj := (k _ _ (h.own j hj)).1
  base := by rw [e.base]; exact h.base
  shape := by obtain ⟨n, h1, h2⟩ := h.shape; exact ⟨n, e.shape _ _ h1, h2⟩
  base0 := h.base0

/-- One object turns, the others stay. -/
theorem WRel.update {g g' : Gh} {h h' : Hp} {w w' : World} (hw : WRel g h w) (e : Ext g w g' w') (id0 : Nat)
    (hh : ∀ id, id ≠ id0 → h'[id]? = h[id]?) (keeps : ∀ id, id ≠ id0 → Keeps g w g' w' id)
    (blks : ∀ id b o, id ≠ id0 → g.blk id = some b → w.heap[b]? = some o → Obj.notCells o = true → w'.heap[b]? = some o)
    (loc : ∀ id v, id ≠ id0 → g'.loc id v = g.loc id v) (blk : ∀ id, id ≠ id0 → g'.blk id = g.blk id)
    (new : ObjOk g' w' id0 h'[id0]?) (newblk : ∀ b, g'.blk id0 = some b → (g.blk id0 = some b ∨ (w.heap.size ≤ b ∧ b < w'.heap.size)))
    (own : ∀ b o, g'.own b o ≠ .no → g.own b o ≠ .no ∨ b < w'.heap.size) (below : Below g.base w w')
    (one : ∀ b o o' i i', g'.own b o = .obj i → g'.own b o' = .obj i' → i = i' := by exact hw.one) : WRel g' h' w' where
  obj id := by
    by_cases hid : id = id0
    · subst hid; exact new
    · rw [hh id hid]
      have ho := hw.obj id
      cases hx : h[id]? with
      | none => rw [hx] at ho; exact ⟨fun v => (loc id v hid).trans (ho.1 v), (blk id hid).trans ho.2⟩
      | some o =>
        rw [hx] at ho
        cases o with
        | free => exact ⟨fun v => (loc id v hid).trans (ho.1 v), (blk id hid).trans ho.2⟩
        | dead => trivial
        | cells ver esz cs =>
          obtain ⟨⟨L, vs, hL⟩, hv⟩ := ho
          exact ⟨⟨L, vs, hL.keep e (keeps id hid)⟩, fun v hlt => (loc id v hid).trans (hv v hlt)⟩
        | map m =>
          obtain ⟨b, es, h1, h2, h3, h4, h5⟩ := ho
          exact ⟨b, es, (blk id hid).trans h1, blks id b _ hid h1 h2 rfl, h3, RelL.mono e h4, RelL.mono e h5⟩
        | iter m since seen =>
          obtain ⟨b, bm, st, h1, h2, h3⟩ := ho
          exact ⟨b, bm, st, (blk id hid).trans h1, e.blk _ _ h2, blks id b _ hid h1 h3 rfl⟩
        | loop ps asg body N fr st =>
          obtain ⟨b, L, hL⟩ := ho
          exact ⟨b, L, (blk id hid).trans hL.blk, blks id b _ hid hL.blk hL.heap rfl, hL.params, hL.assign, hL.body, hL.size, fun t => (hL.val t).mono e, hL.st⟩
  inj id id' b hb hb' := by
    by_cases h1 : id = id0 <;> by_cases h2 : id' = id0
    · omega
    · subst h1
      rw [blk id' h2] at hb'
      rcases newblk b hb with h3 | h3
      · exact hw.inj _ _ _ h3 hb'
      · have := (hw.blkb _ _ hb').2; omega
    · subst h2
      rw [blk id h1] at hb
      rcases newblk b hb' with h3 | h3
      · exact hw.inj _ _ _ hb h3
      · have := (hw.blkb _ _ hb).2; omega
    · rw [blk id h1] at hb; rw [blk id' h2] at hb'; exact hw.inj _ _ _ hb hb'
  blkb id b hb := by
    have hs := e.size
    have hbs := hw.basele
    rw [e.base]
    by_cases h1 : id = id0
    · subst h1
      rcases newblk b hb with h3 | h3
      · have := hw.blkb _ _ h3; omega
      · omega
    · rw [blk id h1] at hb; have := hw.blkb _ _ hb; omega
  own b o ho := by
    rcases own b o ho with h1 | h1
    · have := hw.own b o h1; have := e.size; omega
    · exact h1
  below := by rw [e.base, e.w0]; exact hw.below.trans below
  basele := by rw [e.base]; exact Nat.le_trans hw.basele e.size
  one := one

/-- A world of the same blocks. -/
theorem heap_same {g : Gh} {h : Hp} {w w' : World} (hw : WRel g h w) (hh : w'.heap = w.heap) (ho : w'.os = w.os) (ht : w'.tape = w.tape) (hu : w'.output = w.output) : Ext g w g w' ∧ WRel g h w' := by
  have hc : ∀ a, w'.cell? a = w.cell? a := fun a => by simp [World.cell?, hh]
  have hf : ∀ a, w'.frozen? a = w.frozen? a := fun a => by simp [World.frozen?, hh]
  have e : Ext g w g w' := ⟨fun _ _ _ h => h, fun _ _ h => h, fun b o hi => ⟨hi, hc _⟩, rfl, rfl, by rw [hh]; exact Nat.le_refl _, fun _ _ h => .inl h, fun b o hb _ _ => by rw [hh]; exact hb, fun b s hs => by simpa [World.shape?, hh] using hs⟩
  refine ⟨e, ?_⟩
  exact hw.update e h.length (fun _ _ => rfl) (fun id _ b o hb => ⟨hb, hc _, hf _⟩) (fun id b o _ _ hb _ => by rw [hh]; exact hb) (fun _ _ _ => rfl) (fun _ _ => rfl)
    (by have := hw.obj h.length; simp at this ⊢; exact this) (fun b hb => .inl hb) (fun b o ho => .inl ho) ⟨ho, ht, hu, by rw [hh]; exact Nat.le_refl _, fun k _ => by rw [hh]⟩

theorem drew_rel {g : Gh} {h : Hp} {w : World} (hw : WRel g h w) : Ext g w g w.drew ∧ WRel g h w.drew := heap_same hw rfl rfl rfl rfl

theorem cell?_alloc (w : World) (o : Obj) (b off : Nat) (h : b < w.heap.size) : (w.alloc o).cell? ⟨b, off, none⟩ = w.cell? ⟨b, off, none⟩ :=
  World.cell?_of_block (w := w) (Below.heap_alloc w o b h)
theorem frozen?_alloc (w : World) (o : Obj) (b off : Nat) (h : b < w.heap.size) : (w.alloc o).frozen? ⟨b, off, none⟩ = w.frozen? ⟨b, off, none⟩ :=
  World.frozen?_of_block (w := w) (Below.heap_alloc w o b h)
theorem shape_alloc {w : World} (o : Obj) (b : Nat) (s : TypeId × Nat) (h : w.shape? b = some s) : (w.alloc o).shape? b = some s := by
  have hlt : b < w.heap.size := by
    rcases Nat.lt_or_ge b w.heap.size with h1 | h1
    · exact h1
    · unfold World.shape? at h; rw [Array.getElem?_eq_none h1] at h; cases h
  unfold World.shape? at h ⊢
  rw [Below.heap_alloc w o b hlt]; exact h
theorem shape_setCell {w : World} (a : Addr) (v : Value) (b : Nat) (s : TypeId × Nat) (h : w.shape? b = some s) : (w.setCell a v).shape? b = some s := by
  unfold World.shape? at h ⊢
  simp only [World.setCell, Array.getElem?_modify]
  by_cases hb : a.block = b
  · rw [if_pos hb]
    cases hx : w.heap[b]? with
    | none => rw [hx] at h; cases h
    | some o =>
      rw [hx] at h
      cases o with
      | cells c e fz => simp only [Option.map_some] at h ⊢; rw [← h]; split <;> simp
      | _ => cases h
  · rw [if_neg hb]; exact h
theorem heap_alloc_new (w : World) (o : Obj) : (w.alloc o).heap[w.heap.size]? = some o := by
  show (w.heap.push o)[w.heap.size]? = some o
  simp

theorem WRel.ownlt {g : Gh} {h : Hp} {w : World} (hw : WRel g h w) {b o : Nat} {x : Own} (hx : g.own b o = x) (hn : x ≠ .no) : b < w.heap.size := hw.own b o (by rw [hx]; exact hn)

/-- A new block whose cells are nobody's to turn. -/
theorem alloc_imm {g : Gh} {h : Hp} {w : World} (hw : WRel g h w) (vs : List Value) (T : TypeId) (hone : ∀ u ∈ vs, u.oneCell' = true) :
    ∃ g', Ext g w g' (w.alloc (.cells vs.toArray T)) ∧ WRel g' h (w.alloc (.cells vs.toArray T)) ∧ Imm g' (w.alloc (.cells vs.toArray T)) w.heap.size 0 vs := by
  let w' := w.alloc (.cells vs.toArray T)
  let g' : Gh := { g with own := fun b o => if b = w.heap.size then .imm else g.own b o }
  have hold : ∀ b o, g.own b o ≠ .no → g'.own b o = g.own b o := fun b o hn => by
    have := hw.own b o hn
    simp only [g']; rw [if_neg (by omega)]
  have e : Ext g w g' w' := ⟨fun _ _ _ h => h, fun _ _ h => h, fun b o hi => ⟨(hold b o (by rw [hi]; simp)).trans hi, cell?_alloc w _ b o (hw.ownlt hi (by simp))⟩, rfl, rfl, by simp [w'],
    fun _ _ h => .inl h, fun b o hb _ _ => (Below.heap_alloc w _ b (lt_of_heap hb)).trans hb, shape_alloc _⟩
  refine ⟨g', e, ?_, ?_⟩
  · refine hw.update e h.length (fun _ _ => rfl) (fun id _ b o hb => ?_) (fun id b o _ _ hb _ => (Below.heap_alloc w _ b (lt_of_heap hb)).trans hb) (fun _ _ _ => rfl) (fun _ _ => rfl)
      (by have := hw.obj h.length; simp at this ⊢; exact this) (fun b hb => .inl hb) (fun b o ho => ?_) ((Below.refl _ w).alloc hw.basele _) ?_
    · have hlt := hw.ownlt hb (by simp)
      exact ⟨(hold b o (by rw [hb]; simp)).trans hb, cell?_alloc w _ b o hlt, frozen?_alloc w _ b o hlt⟩
    · simp only [g'] at ho
      by_cases hb : b = w.heap.size
      · right; simp [w', hb]
      · rw [if_neg hb] at ho; exact .inl ho
    · intro b o o' i i' h1 h2
      simp only [g'] at h1 h2
      by_cases hb : b = w.heap.size
      · rw [if_pos hb] at h1; cases h1
      · rw [if_neg hb] at h1 h2; exact hw.one _ _ _ _ _ h1 h2
  · intro j u hu
    constructor
    · simp only [World.cell?, heap_alloc_new]
      simpa using hu
    · exact ⟨by simp [g'], hone u (List.mem_of_getElem? hu)⟩

/-- A new object, in a block of its own, at a free number. -/
theorem alloc_obj {g : Gh} {h h' : Hp} {w : World} (hw : WRel g h w) (id esz : Nat) (cs : List AV) (vs spare : List Value) (T : TypeId) (ver : Nat) (hT : T = ver % 4294967296)
    (hold : h[id]? = none ∨ h[id]? = some .free ∨ (∃ cs', h[id]? = some (.cells (ver - 4294967296) esz cs') ∧ 4294967296 ≤ ver)) (hnew : h'[id]? = some (.cells ver esz cs)) (hother : ∀ id', id' ≠ id → h'[id']? = h[id']?) (hr : RelL g w cs vs) (hone : ∀ u ∈ vs, u.oneCell' = true) :
    ∃ g', Ext g w g' (w.alloc (.cells (vs ++ spare).toArray T)) ∧ WRel g' h' (w.alloc (.cells (vs ++ spare).toArray T)) ∧ g'.loc id ver = some ⟨w.heap.size, 0, vs.length + spare.length, esz⟩ := by
  let w' := w.alloc (.cells (vs ++ spare).toArray T)
  let L : Loc := ⟨w.heap.size, 0, vs.length + spare.length, esz⟩
  let g' : Gh := { g with own := fun b o => if b = w.heap.size then .obj id else g.own b o, loc := fun i v => if i = id ∧ v = ver then some L else g.loc i v }
  have hold' : ∀ b o, g.own b o ≠ .no → g'.own b o = g.own b o := fun b o hn => by
    have := hw.own b o hn
    simp only [g']; rw [if_neg (by omega)]
  have hnone : g.loc id ver = none := by
    have ho := hw.obj id
    rcases hold with h1 | h1 | ⟨cs', h1, h2⟩
    · rw [h1] at ho; exact ho.1 ver
    · rw [h1] at ho; exact ho.1 ver
    · rw [h1] at ho; exact ho.2 ver (by omega)
  have hlater : ∀ v, ver < v → g.loc id v = none := by
    have ho := hw.obj id
    intro v hv
    rcases hold with h1 | h1 | ⟨cs', h1, h2⟩
    · rw [h1] at ho; exact ho.1 v
    · rw [h1] at ho; exact ho.1 v
    · rw [h1] at ho; exact ho.2 v (by omega)
  have e : Ext g w g' w' := ⟨fun i v L' hl => by
      simp only [g']
      by_cases hc : i = id ∧ v = ver
      · obtain ⟨rfl, rfl⟩ := hc; rw [hnone] at hl; simp at hl
      · rw [if_neg hc]; exact hl,
    fun _ _ h => h, fun b o hi => ⟨(hold' b o (by rw [hi]; simp)).trans hi, cell?_alloc w _ b o (hw.ownlt hi (by simp))⟩, rfl, rfl, by simp [w'],
    fun _ _ h => .inl h, fun b o hb _ _ => (Below.heap_alloc w _ b (lt_of_heap hb)).trans hb, shape_alloc _⟩
  refine ⟨g', e, ?_, by simp [g', L]⟩
  refine hw.update e id hother (fun id' hid b o hb => ?_) (fun id b o _ _ hb _ => (Below.heap_alloc w _ b (lt_of_heap hb)).trans hb) (fun i v hi => by simp [g', hi]) (fun _ _ => rfl)
      ?_ (fun b hb => .inl hb) (fun b o ho => ?_) ((Below.refl _ w).alloc hw.basele _) ?_
  · have hlt := hw.ownlt hb (by simp)
    exact ⟨(hold' b o (by rw [hb]; simp)).trans hb, cell?_alloc w _ b o hlt, frozen?_alloc w _ b o hlt⟩
  · rw [hnew]
    have hcell : ∀ j, (w.alloc (.cells (vs ++ spare).toArray T)).cell? ⟨w.heap.size, 0 + j, none⟩ = (vs ++ spare)[j]? := fun j => by
      simp only [World.cell?, heap_alloc_new]; simp
    refine ⟨⟨L, vs, by simp [g', L], rfl, by simp [L, hr.len], hr.mono e, fun j u hu => ?_, fun j u hu => hone u (List.mem_of_getElem? hu), fun j hj => ?_, fun j hj => ?_, fun j hj => by simp [g', L], hw.basele, ⟨(vs ++ spare).toArray.size, by simp only [World.shape?, L, heap_alloc_new, hT], by simp [L]⟩, fun _ => rfl⟩, fun v hv => ?_⟩
    · show (w.alloc (.cells (vs ++ spare).toArray T)).cell? ⟨w.heap.size, 0 + j, none⟩ = some u
      rw [hcell, List.getElem?_append_left]
      · exact hu
      · rcases Nat.lt_or_ge j vs.length with h2 | h2
        · exact h2
        · simp [List.getElem?_eq_none h2] at hu
    · show ((w.alloc (.cells (vs ++ spare).toArray T)).cell? ⟨w.heap.size, 0 + j, none⟩).isSome = true
      rw [hcell]
      simp only [L] at hj
      simp; omega
    · show (w.alloc (.cells (vs ++ spare).toArray T)).frozen? ⟨w.heap.size, 0 + j, none⟩ = false
      unfold World.frozen?
      simp only [heap_alloc_new]
      simp
    · simp only [g']
      rw [if_neg (by omega)]
      exact hlater v hv
  · simp only [g'] at ho
    by_cases hb : b = w.heap.size
    · right; simp [w', hb]
    · rw [if_neg hb] at ho; exact .inl ho
  · intro b o o' i i' h1 h2
    simp only [g'] at h1 h2
    by_cases hb : b = w.heap.size
    · rw [if_pos hb] at h1 h2; cases h1; cases h2; rfl
    · rw [if_neg hb] at h1 h2; exact hw.one _ _ _ _ _ h1 h2

theorem heap_setCells (b : Nat) : ∀ (vs : List Value) (o : Nat) (w : World) (k : Nat), k ≠ b → (w.setCells b o vs).heap[k]? = w.heap[k]?
  | [], _, _, _, _ => rfl
  | v :: r, o, w, k, h => by rw [World.setCells, heap_setCells b r (o + 1) _ k h]; exact Below.heap_setCell _ _ _ _ h
theorem size_setCells (b : Nat) : ∀ (vs : List Value) (o : Nat) (w : World), (w.setCells b o vs).heap.size = w.heap.size
  | [], _, _ => rfl
  | v :: r, o, w => by rw [World.setCells, size_setCells b r (o + 1)]; simp
theorem shape_setCells (b : Nat) : ∀ (vs : List Value) (o : Nat) (w : World) (k : Nat) (s : TypeId × Nat), w.shape? k = some s → (w.setCells b o vs).shape? k = some s
  | [], _, _, _, _, h => h
  | v :: r, o, w, k, s, h => by rw [World.setCells]; exact shape_setCells b r (o + 1) _ k s (shape_setCell _ _ _ _ h)
theorem below_setCells (B b : Nat) (hb : B ≤ b) : ∀ (vs : List Value) (o : Nat) (w w0 : World), Below B w0 w → Below B w0 (w.setCells b o vs)
  | [], _, _, _, h => h
  | v :: r, o, w, w0, h => below_setCells B b hb r (o + 1) _ _ (h.setCell (p := ⟨b, o, none⟩) hb v)

theorem notCells_of_cell {w : World} {b o : Nat} {x : Obj} (h : (w.cell? ⟨b, o, none⟩).isSome = true) (hx : w.heap[b]? = some x) : Obj.notCells x = false := by
  unfold World.cell? at h
  rw [hx] at h
  cases x <;> simp_all [Obj.notCells]

/-- Cells of an object are written: its contents turn; it may grow into its spare cells. -/
theorem store_obj {g : Gh} {h h' : Hp} {w : World} (hw : WRel g h w) {id ver esz : Nat} {cs cs' : List AV} {L : Loc} {vs : List Value}
    (hid : h[id]? = some (.cells ver esz cs)) (hL : ObjAt g w id ver esz cs L vs) (off : Nat) (us : List Value) (hoff : off ≤ vs.length) (hcap : off + us.length ≤ L.cap) (hone : ∀ u ∈ us, u.oneCell' = true)
    (hr : RelL g w cs' (vs.take off ++ us ++ vs.drop (off + us.length))) (hnew : h'[id]? = some (.cells ver esz cs')) (hother : ∀ id', id' ≠ id → h'[id']? = h[id']?) :
    Ext g w g (w.setCells L.block (L.off + off) us) ∧ WRel g h' (w.setCells L.block (L.off + off) us) ∧
      ObjAt g (w.setCells L.block (L.off + off) us) id ver esz cs' L (vs.take off ++ us ++ vs.drop (off + us.length)) := by
  have hthere : ∀ j, j < us.length → (w.cell? ⟨L.block, L.off + off + j, none⟩).isSome = true := fun j hj => by
    have := hL.there (off + j) (by omega); rwa [← Nat.add_assoc] at this
  have hout : ∀ b o, g.own b o ≠ .obj id → (w.setCells L.block (L.off + off) us).cell? ⟨b, o, none⟩ = w.cell? ⟨b, o, none⟩ := fun b o hn => by
    refine World.cell?_setCells_out _ _ _ _ _ fun hb _ => ?_
    simp only at hb ⊢
    subst hb
    rcases Nat.lt_or_ge o (L.off + off) with h1 | h1
    · exact .inl h1
    · rcases Nat.lt_or_ge o (L.off + off + us.length) with h2 | h2
      · have := hL.own (o - L.off) (by omega)
        rw [show L.off + (o - L.off) = o by omega] at this
        exact absurd this hn
      · exact .inr h2
  have hblk : ∀ b o, w.heap[b]? = some o → Obj.notCells o = true → (w.setCells L.block (L.off + off) us).heap[b]? = some o := fun b o hb hn => by
    by_cases hbL : b = L.block
    · subst hbL
      by_cases hu : us = []
      · subst hu; exact hb
      · have hlen : 0 < us.length := List.length_pos_iff.2 hu
        have := notCells_of_cell (hthere 0 hlen) hb
        rw [this] at hn; simp at hn
    · rw [heap_setCells _ _ _ _ _ hbL]; exact hb
  have e : Ext g w g (w.setCells L.block (L.off + off) us) := ⟨fun _ _ _ h => h, fun _ _ h => h, fun b o hi => ⟨hi, hout b o (by rw [hi]; simp)⟩, rfl, rfl, by rw [size_setCells]; exact Nat.le_refl _,
    fun _ _ h => .inl h, fun b o hb hn _ => hblk b o hb hn, shape_setCells _ _ _ _⟩
  have hcs : ∀ j u, (vs.take off ++ us ++ vs.drop (off + us.length))[j]? = some u → (w.setCells L.block (L.off + off) us).cell? ⟨L.block, L.off + j, none⟩ = some u := fun j u hu => by
    have hto : (vs.take off).length = off := by simp; omega
    rcases Nat.lt_or_ge j off with h1 | h1
    · rw [List.append_assoc, List.getElem?_append_left (by omega), List.getElem?_take, if_pos h1] at hu
      rw [World.cell?_setCells_out _ _ _ _ _ (fun _ _ => .inl (by simp; omega))]
      exact hL.cell j u hu
    · rcases Nat.lt_or_ge j (off + us.length) with h2 | h2
      · rw [List.append_assoc, List.getElem?_append_right (by omega), hto, List.getElem?_append_left (by omega)] at hu
        have := World.cell?_setCells_in L.block us (L.off + off) w hthere (j - off) (by omega)
        rw [show L.off + off + (j - off) = L.off + j by omega] at this
        rw [this, ← List.getElem?_eq_getElem]; exact hu
      · rw [List.getElem?_append_right (by simp; omega)] at hu
        simp only [List.length_append, hto, List.getElem?_drop] at hu
        rw [show off + us.length + (j - (off + us.length)) = j by omega] at hu
        rw [World.cell?_setCells_out _ _ _ _ _ (fun _ _ => .inr (by simp; omega))]
        exact hL.cell j u hu
  have hthere' : ∀ j, j < L.cap → ((w.setCells L.block (L.off + off) us).cell? ⟨L.block, L.off + j, none⟩).isSome = true := fun j hj => by
    rcases Nat.lt_or_ge j off with h1 | h1
    · rw [World.cell?_setCells_out _ _ _ _ _ (fun _ _ => .inl (by simp; omega))]; exact hL.there j hj
    · rcases Nat.lt_or_ge j (off + us.length) with h2 | h2
      · have := World.cell?_setCells_in L.block us (L.off + off) w hthere (j - off) (by omega)
        rw [show L.off + off + (j - off) = L.off + j by omega] at this
        rw [this]; rfl
      · rw [World.cell?_setCells_out _ _ _ _ _ (fun _ _ => .inr (by simp; omega))]; exact hL.there j hj
  have hone' : ∀ (j : Nat) (u : Value), (vs.take off ++ us ++ vs.drop (off + us.length))[j]? = some u → u.oneCell' = true := fun j u hu => by
    have hm := List.mem_of_getElem? hu
    simp only [List.mem_append] at hm
    rcases hm with (hm | hm) | hm
    · obtain ⟨i, hi⟩ := List.mem_iff_getElem?.1 (List.mem_of_mem_take hm); exact hL.one i u hi
    · exact hone u hm
    · obtain ⟨i, hi⟩ := List.mem_iff_getElem?.1 (List.mem_of_mem_drop hm); exact hL.one i u hi
  have hlen : (vs.take off ++ us ++ vs.drop (off + us.length)).length ≤ L.cap := by
    have := hL.len; have := hL.rel.len; simp; omega
  have hat : ObjAt g (w.setCells L.block (L.off + off) us) id ver esz cs' L (vs.take off ++ us ++ vs.drop (off + us.length)) :=
    ⟨hL.loc, hL.esz, by rw [← hr.len]; exact hlen, hr.mono e, hcs, hone', hthere', fun j hj => by rw [World.frozen?_setCells]; exact hL.thaw j hj, hL.own, hL.base, (by obtain ⟨n, h1, h2⟩ := hL.shape; exact ⟨n, e.shape _ _ h1, h2⟩), hL.base0⟩
  refine ⟨e, ?_, hat⟩
  refine hw.update e id hother (fun id' hne b o hb => ⟨hb, hout b o (by rw [hb]; simp [hne]), World.frozen?_setCells _ _ _ _ _⟩) (fun id' b o _ _ hb hn => hblk b o hb hn) (fun _ _ _ => rfl) (fun _ _ => rfl) ?_
    (fun b hb => .inl hb) (fun b o ho => .inl ho) (below_setCells _ _ hL.base _ _ _ _ (Below.refl _ w))
  rw [hnew]
  have := hw.obj id
  rw [hid] at this
  exact ⟨⟨L, _, hat⟩, this.2⟩

/-- The object gets a new version: a part of its row. -/
theorem reversion {g : Gh} {h h' : Hp} {w : World} (hw : WRel g h w) {id ver esz : Nat} {cs : List AV} {L : Loc} {vs : List Value}
    (hid : h[id]? = some (.cells ver esz cs)) (hL : ObjAt g w id ver esz cs L vs) (off len cap : Nat) (hcap : off + cap ≤ L.cap) (hlen : off + len ≤ cs.length) (hlc : len ≤ cap)
    (hnew : h'[id]? = some (.cells (ver + 4294967296) esz ((cs.drop off).take len))) (hother : ∀ id', id' ≠ id → h'[id']? = h[id']?) :
    ∃ g', Ext g w g' w ∧ WRel g' h' w ∧ g'.loc id (ver + 4294967296) = some ⟨L.block, L.off + off, cap, esz⟩ := by
  let L' : Loc := ⟨L.block, L.off + off, cap, esz⟩
  let g' : Gh := { g with loc := fun i v => if i = id ∧ v = ver + 4294967296 then some L' else g.loc i v }
  have ho := hw.obj id
  rw [hid] at ho
  have e : Ext g w g' w := ⟨fun i v L'' hl => by
      simp only [g']
      by_cases hc : i = id ∧ v = ver + 4294967296
      · obtain ⟨rfl, rfl⟩ := hc; rw [ho.2 (ver + 4294967296) (by omega)] at hl; simp at hl
      · rw [if_neg hc]; exact hl,
    fun _ _ h => h, fun b o hi => ⟨hi, rfl⟩, rfl, rfl, Nat.le_refl _, fun _ _ h => .inl h, fun b o hb _ _ => hb, fun _ _ h => h⟩
  refine ⟨g', e, ?_, by simp [g', L']⟩
  refine hw.update e id hother (fun id' _ b o hb => ⟨hb, rfl, rfl⟩) (fun id b o _ _ hb _ => hb) (fun i v hi => by simp [g', hi]) (fun _ _ => rfl)
      ?_ (fun b hb => .inl hb) (fun b o ho => .inl ho) (Below.refl _ w)
  rw [hnew]
  refine ⟨⟨L', (vs.drop off).take len, by simp [g', L'], rfl, by simp [L']; omega, ((hL.rel.drop off).take len).mono e, fun j u hu => ?_, fun j u hu => ?_, fun j hj => ?_, fun j hj => ?_, fun j hj => ?_, hL.base, (by obtain ⟨n, h1, h2⟩ := hL.shape; exact ⟨n, by rw [Nat.add_mod_right]; exact h1, by simp only [L']; omega⟩), fun hlt => absurd hlt (by omega)⟩, fun v hv => ?_⟩
  · rw [List.getElem?_take] at hu
    split at hu
    · rw [List.getElem?_drop] at hu
      have := hL.cell _ u hu
      simpa [L', Nat.add_assoc] using this
    · simp at hu
  · obtain ⟨i, hi⟩ := List.mem_iff_getElem?.1 (List.mem_of_mem_drop (List.mem_of_mem_take (List.mem_of_getElem? hu))); exact hL.one i u hi
  · simp only [L'] at hj ⊢
    have := hL.there (off + j) (by omega); simpa [Nat.add_assoc] using this
  · simp only [L'] at hj ⊢
    have := hL.thaw (off + j) (by omega); simpa [Nat.add_assoc] using this
  · simp only [L', g'] at hj ⊢
    have := hL.own (off + j) (by omega); simpa [Nat.add_assoc] using this
  · simp only [g']
    rw [if_neg (by omega)]
    exact ho.2 v (by omega)

mutual
def AV.frz (id ver esz : Nat) (cs : List AV) : AV → AV
  | .sl q v off len full => if q = id ∧ v = ver ∧ off + len * esz ≤ cs.length then .lst len full ((cs.drop off).take (len * esz)) else .sl q v off len full
  | .agg l => .agg (AV.frzs id ver esz cs l)
  | .tup l => .tup (AV.frzs id ver esz cs l)
  | .lst n full l => .lst n full (AV.frzs id ver esz cs l)
  | .pim l => .pim (AV.frzs id ver esz cs l)
  | .fn f u z => .fn f (AV.frzs id ver esz cs u) (AV.frzs id ver esz cs z)
  | .any => .any
  | .b x => .b x
  | .i k n => .i k n
  | .s x => .s x
  | .nils => .nils
  | .ptr q v o => .ptr q v o
  | .nilp => .nilp
  | .nilf => .nilf
  | .yld q => .yld q
  | .mp q => .mp q
  | .nilm => .nilm
  | .it q => .it q
  | .gd x a => .gd x (AV.frz id ver esz cs a)
def AV.frzs (id ver esz : Nat) (cs : List AV) : List AV → List AV
  | [] => []
  | a :: as => AV.frz id ver esz cs a :: AV.frzs id ver esz cs as
end

theorem AV.frzs_nil_iff {id ver esz : Nat} {cs l : List AV} : AV.frzs id ver esz cs l = [] ↔ l = [] := by cases l <;> simp [AV.frzs]

structure Frozen (g : Gh) (w : World) (g' : Gh) (id ver esz : Nat) (cs : List AV) : Prop where
  ext : Ext g w g' w
  sl : ∀ off len full v, off + len * esz ≤ cs.length → RelV g w (.sl id ver off len full) v → RelV g' w (.lst len full ((cs.drop off).take (len * esz))) v

mutual
theorem Frozen.rel {g g' : Gh} {w : World} {id ver esz : Nat} {cs : List AV} (F : Frozen g w g' id ver esz cs) : ∀ {a : AV} {v : Value}, RelV g w a v → RelV g' w (a.frz id ver esz cs) v
  | .sl i x off len full, v, h => by
    simp only [AV.frz]
    split
    · rename_i hc; obtain ⟨rfl, rfl, hc⟩ := hc; exact F.sl off len full v hc h
    · exact h.mono F.ext
  | .agg l, v, h => by
    simp only [RelV, AV.frz] at h ⊢
    obtain ⟨vs, hv, h⟩ := h
    exact ⟨vs, hv, Frozen.rels F h⟩
  | .tup l, v, h => by
    simp only [RelV, AV.frz] at h ⊢
    obtain ⟨vs, hv, h⟩ := h
    exact ⟨vs, hv, Frozen.rels F h⟩
  | .lst n full l, v, h => by
    simp only [RelV, AV.frz] at h ⊢
    obtain ⟨a, c, hv, h1, h2, h3, h⟩ := h
    refine ⟨a, c, hv, h1, h2, h3, ?_⟩
    rcases h with h | ⟨b, o, vs, ha, hr, hi⟩
    · obtain ⟨h, rfl⟩ := h; exact .inl ⟨h, rfl⟩
    · exact .inr ⟨b, o, vs, ha, Frozen.rels F hr, hi.mono F.ext⟩
  | .pim l, v, h => by
    simp only [RelV, AV.frz] at h ⊢
    obtain ⟨b, o, vs, hv, hr, hi⟩ := h
    exact ⟨b, o, vs, hv, Frozen.rels F hr, hi.mono F.ext⟩
  | .fn f a b, v, h => by
    simp only [RelV, AV.frz] at h ⊢
    obtain ⟨us, vs, hv, h1, h2⟩ := h
    exact ⟨us, vs, hv, Frozen.rels F h1, Frozen.rels F h2⟩
  | .any, v, h => trivial
  | .b x, v, h => h.mono F.ext
  | .i k n, v, h => h.mono F.ext
  | .s x, v, h => h.mono F.ext
  | .nils, v, h => h.mono F.ext
  | .ptr i x o, v, h => h.mono F.ext
  | .nilp, v, h => h.mono F.ext
  | .nilf, v, h => h.mono F.ext
  | .yld i, v, h => h.mono F.ext
  | .mp i, v, h => h.mono F.ext
  | .nilm, v, h => h.mono F.ext
  | .it i, v, h => h.mono F.ext
  | .gd x a, v, h => by
    simp only [RelV, AV.frz] at h ⊢
    exact ⟨fun hx => Frozen.rel F (h.1 hx), h.2⟩
theorem Frozen.rels {g g' : Gh} {w : World} {id ver esz : Nat} {cs : List AV} (F : Frozen g w g' id ver esz cs) : ∀ {as : List AV} {vs : List Value}, RelL g w as vs → RelL g' w (AV.frzs id ver esz cs as) vs
  | [], vs, h => by simpa only [RelL, AV.frzs] using h
  | a :: as, vs, h => by
    simp only [RelL, AV.frzs] at h ⊢
    obtain ⟨v, vs', hv, h1, h2⟩ := h
    exact ⟨v, vs', hv, Frozen.rel F h1, Frozen.rels F h2⟩
end

/-- An object's row is nobody's to turn from now on. -/
theorem freeze_obj {g : Gh} {h h' : Hp} {w : World} (hw : WRel g h w) {id ver esz : Nat} {cs : List AV} (hid : h[id]? = some (.cells ver esz cs)) (hnew : h'[id]? = some .dead) (hother : ∀ id', id' ≠ id → h'[id']? = h[id']?) :
    ∃ g', WRel g' h' w ∧ Frozen g w g' id ver esz cs := by
  have ho := hw.obj id
  rw [hid] at ho
  obtain ⟨⟨L, vs, hL⟩, hv⟩ := ho
  let g' : Gh := { g with own := fun b o => open Classical in if b = L.block ∧ L.off ≤ o ∧ o < L.off + L.cap then .imm else g.own b o }
  have hin : ∀ b o, b = L.block ∧ L.off ≤ o ∧ o < L.off + L.cap → g.own b o = .obj id := fun b o ⟨h1, h2, h3⟩ => by
    subst h1
    have := hL.own (o - L.off) (by omega)
    rwa [show L.off + (o - L.off) = o by omega] at this
  have e : Ext g w g' w := ⟨fun _ _ _ h => h, fun _ _ h => h, fun b o hi => ⟨by simp only [g']; split; rfl; exact hi, rfl⟩, rfl, rfl, Nat.le_refl _, fun _ _ h => .inl h, fun b o hb _ _ => hb, fun _ _ h => h⟩
  refine ⟨g', ?_, e, ?_⟩
  · refine hw.update e id hother (fun id' hne b o hb => ⟨?_, rfl, rfl⟩) (fun id b o _ _ hb _ => hb) (fun _ _ _ => rfl) (fun _ _ => rfl) (by rw [hnew]; trivial) (fun b hb => .inl hb) (fun b o ho => ?_) (Below.refl _ w) (fun b o o' i i' h1 h2 => ?_)
    · simp only [g']
      split
      · rename_i hc; have := hin b o hc; rw [hb] at this; simp at this; exact absurd this hne
      · exact hb
    · simp only [g'] at ho
      split at ho
      · rename_i hc; left; rw [hin b o hc]; simp
      · exact .inl ho
    · simp only [g'] at h1 h2
      split at h1
      · cases h1
      · split at h2
        · cases h2
        · exact hw.one _ _ _ _ _ h1 h2
  · intro off len full v hle hr
    simp only [RelV] at hr ⊢
    obtain ⟨L', c, hl, hv', h1, h2, h3, h4⟩ := hr
    have hLL : L' = L := by have := hL.loc; rw [hl] at this; simpa using this
    subst hLL
    refine ⟨_, c, hv', h1, h2, h3, .inr ⟨L'.block, L'.off + off, (vs.drop off).take (len * esz), rfl, ((hL.rel.drop off).take _).mono e, ?_⟩⟩
    intro j u hj
    rw [List.getElem?_take] at hj
    split at hj
    · rw [List.getElem?_drop] at hj
      have hc := hL.cell _ u hj
      rw [← Nat.add_assoc] at hc
      have hcell := hc
      refine ⟨hc, ?_, hL.one _ u hj⟩
      have hlt : off + j < vs.length := by
        rcases Nat.lt_or_ge (off + j) vs.length with h5 | h5
        · exact h5
        · simp [List.getElem?_eq_none h5] at hj
      have := hL.len; have := hL.rel.len
      simp only [g']
      split
      · rfl
      · rename_i hc; exact absurd ⟨by first | rfl | trivial, by omega, by omega⟩ hc
    · simp at hj

theorem freeze_cell (w : World) (p : Addr) (n : Nat) (a : Addr) : (w.freeze p n).cell? a = w.cell? a := by
  unfold World.freeze
  split
  · rfl
  · unfold World.cell?
    simp only [Array.getElem?_modify]
    by_cases hb : p.block = a.block
    · rw [if_pos hb]
      cases hx : w.heap[a.block]? with
      | none => rfl
      | some o => cases o <;> simp
    · rw [if_neg hb]
theorem freeze_heap (w : World) (p : Addr) (n k : Nat) (hk : k ≠ p.block) : (w.freeze p n).heap[k]? = w.heap[k]? := by
  unfold World.freeze
  split
  · rfl
  · simp only [Array.getElem?_modify]; rw [if_neg (by omega)]
theorem freeze_notCells (w : World) (p : Addr) (n k : Nat) (o : Obj) (h : w.heap[k]? = some o) (hn : Obj.notCells o = true) : (w.freeze p n).heap[k]? = some o := by
  unfold World.freeze
  split
  · exact h
  · simp only [Array.getElem?_modify, h]
    split
    · cases o <;> simp_all [Obj.notCells]
    · rfl
theorem freeze_shape (w : World) (p : Addr) (n b : Nat) (s : TypeId × Nat) (h : w.shape? b = some s) : (w.freeze p n).shape? b = some s := by
  unfold World.freeze
  split
  · exact h
  · unfold World.shape? at *
    simp only [Array.getElem?_modify]
    by_cases hb : p.block = b
    · rw [if_pos hb]
      cases hx : w.heap[b]? with
      | none => rw [hx] at h; cases h
      | some o => rw [hx] at h; cases o <;> simp_all
    · rw [if_neg hb]; exact h
theorem freeze_size (w : World) (p : Addr) (n : Nat) : (w.freeze p n).heap.size = w.heap.size := by
  unfold World.freeze
  split
  · rfl
  · simp
theorem freeze_below {B : Nat} {w : World} (p : Addr) (n : Nat) (hp : B ≤ p.block) : Below B w (w.freeze p n) :=
  ⟨by unfold World.freeze; split <;> rfl, by unfold World.freeze; split <;> rfl, by unfold World.freeze; split <;> rfl, by rw [freeze_size]; exact Nat.le_refl _, fun k hk => freeze_heap _ _ _ _ (by omega)⟩

/-- Cells of an object are frozen in the world: nothing is said of the object any more. -/
theorem freezeW_obj {g : Gh} {h h' : Hp} {w : World} (hw : WRel g h w) {id ver esz : Nat} {cs : List AV} {L : Loc} {vs : List Value} (hL : ObjAt g w id ver esz cs L vs) (o n : Nat) (hcap : 0 < L.cap)
    (hnew : h'[id]? = some .dead) (hother : ∀ id', id' ≠ id → h'[id']? = h[id']?) : Ext g w g (w.freeze ⟨L.block, o, none⟩ n) ∧ WRel g h' (w.freeze ⟨L.block, o, none⟩ n) := by
  have e : Ext g w g (w.freeze ⟨L.block, o, none⟩ n) := ⟨fun _ _ _ h => h, fun _ _ h => h, fun b o hi => ⟨hi, freeze_cell _ _ _ _⟩, rfl, rfl, by rw [freeze_size]; exact Nat.le_refl _, fun _ _ h => .inl h,
    fun b o hb hn _ => freeze_notCells _ _ _ _ _ hb hn, freeze_shape _ _ _⟩
  refine ⟨e, ?_⟩
  refine hw.update e id hother (fun id' hne b o' hb => ⟨hb, freeze_cell _ _ _ _, ?_⟩) (fun id' b o _ _ hb hn => freeze_notCells _ _ _ _ _ hb hn) (fun _ _ _ => rfl) (fun _ _ => rfl) (by rw [hnew]; trivial) (fun b hb => .inl hb) (fun b o ho => .inl ho) (freeze_below _ _ hL.base)
  have hbl : b ≠ L.block := by
    rintro rfl
    exact hne (hw.one _ _ _ _ _ hb (hL.own 0 hcap))
  unfold World.frozen?
  simp only
  rw [freeze_heap _ _ _ _ hbl]

/-- Nothing is said of an object any more. -/
theorem kill_obj {g : Gh} {h h' : Hp} {w : World} (hw : WRel g h w) (id : Nat) (hnew : h'[id]? = some .dead) (hother : ∀ id', id' ≠ id → h'[id']? = h[id']?) : WRel g h' w :=
  hw.update (Ext.refl g w) id hother (fun id' hne b o hb => ⟨hb, rfl, rfl⟩) (fun id b o _ _ hb _ => hb) (fun _ _ _ => rfl) (fun _ _ => rfl) (by rw [hnew]; trivial) (fun b hb => .inl hb) (fun b o ho => .inl ho) (Below.refl _ w)

/-- Places are laid for objects to come. -/
theorem push_free {g : Gh} {h : Hp} {w : World} (hw : WRel g h w) : WRel g (h ++ [.free]) w := by
  refine hw.update (Ext.refl g w) h.length (fun id hne => ?_) (fun id' hne b o hb => ⟨hb, rfl, rfl⟩) (fun id b o _ _ hb _ => hb) (fun _ _ _ => rfl) (fun _ _ => rfl) ?_ (fun b hb => .inl hb) (fun b o ho => .inl ho) (Below.refl _ w)
  · rcases Nat.lt_or_ge id h.length with h1 | h1
    · rw [List.getElem?_append_left h1]
    · rw [List.getElem?_eq_none h1, List.getElem?_eq_none (by simp; omega)]
  · have := hw.obj h.length
    rw [List.getElem?_eq_none (Nat.le_refl _)] at this
    simp only [List.getElem?_concat_length]
    exact this

theorem WRel.fresh {g : Gh} {h : Hp} {w : World} (hw : WRel g h w) {id : Nat} (hid : h.length ≤ id) : (∀ v, g.loc id v = none) ∧ g.blk id = none := by
  have := hw.obj id
  rw [List.getElem?_eq_none hid] at this
  exact this

/-- The objects from n on are let go. -/
theorem cut_rel {g : Gh} {h : Hp} {w : World} (hw : WRel g h w) (n : Nat) (hu : ∀ id o, id < n → h[id]? = some o → match o with
    | .cells _ _ cs => AV.unders n cs = true
    | .map m => AV.unders n (m.map (·.1)) = true ∧ AV.unders n (m.map (·.2)) = true
    | .loop _ _ _ _ fr _ => ∀ t, (fr t).under n = true
    | .iter m _ _ => m < n
    | _ => True) : WRel (g.cut n) (h.take n) w where
  obj id := by
    rw [List.getElem?_take]
    split
    · rename_i hlt
      have ho := hw.obj id
      cases hx : h[id]? with
      | none => rw [hx] at ho; exact ⟨fun v => by simp [Gh.cut, hlt, ho.1 v], by simp [Gh.cut, hlt, ho.2]⟩
      | some o =>
        rw [hx] at ho
        have hu' := hu id o hlt hx
        cases o with
        | free => exact ⟨fun v => by simp [Gh.cut, hlt, ho.1 v], by simp [Gh.cut, hlt, ho.2]⟩
        | dead => trivial
        | cells ver esz cs =>
          obtain ⟨⟨L, vs, hL⟩, hv⟩ := ho
          exact ⟨⟨L, vs, by simp [Gh.cut, hlt, hL.loc], hL.esz, hL.len, hL.rel.cut hu', hL.cell, hL.one, hL.there, hL.thaw, hL.own, hL.base, hL.shape, hL.base0⟩, fun v hlt' => by simp [Gh.cut, hlt, hv v hlt']⟩
        | map m =>
          obtain ⟨b, es, h1, h2, h3, h4, h5⟩ := ho
          exact ⟨b, es, by simp [Gh.cut, hlt, h1], h2, h3, h4.cut hu'.1, h5.cut hu'.2⟩
        | iter m since seen =>
          obtain ⟨b, bm, st, h1, h2, h3⟩ := ho
          exact ⟨b, bm, st, by simp [Gh.cut, hlt, h1], by simp only [Gh.cut]; rw [if_pos hu']; exact h2, h3⟩
        | loop ps asg body N fr st =>
          obtain ⟨b, L, hL⟩ := ho
          exact ⟨b, L, by simp [Gh.cut, hlt, hL.blk], hL.heap, hL.params, hL.assign, hL.body, hL.size, fun t => (hL.val t).cut (hu' t), hL.st⟩
    · rename_i hlt
      exact ⟨fun v => by simp [Gh.cut, hlt], by simp [Gh.cut, hlt]⟩
  inj id id' b hb hb' := by
    simp only [Gh.cut] at hb hb'
    split at hb
    · split at hb'
      · exact hw.inj _ _ _ hb hb'
      · simp at hb'
    · simp at hb
  blkb id b hb := by
    simp only [Gh.cut] at hb
    split at hb
    · exact hw.blkb _ _ hb
    · simp at hb
  own b o ho := hw.own b o ho
  below := hw.below
  basele := hw.basele
  one := hw.one

theorem Ext.cut {g g' : Gh} {w w' : World} (e : Ext g w g' w') (n : Nat) (hf : ∀ id, n ≤ id → (∀ v, g.loc id v = none) ∧ g.blk id = none) : Ext g w (g'.cut n) w' where
  loc id ver L hl := by
    have : id < n := by
      rcases Nat.lt_or_ge id n with h | h
      · exact h
      · rw [(hf id h).1 ver] at hl; simp at hl
    simp [Gh.cut, this, e.loc _ _ _ hl]
  blk id b hb := by
    have : id < n := by
      rcases Nat.lt_or_ge id n with h | h
      · exact h
      · rw [(hf id h).2] at hb; simp at hb
    simp [Gh.cut, this, e.blk _ _ hb]
  imm := e.imm
  shape := e.shape
  base := e.base
  w0 := e.w0
  size := e.size
  newblk id b hb := by
    simp only [Gh.cut] at hb
    split at hb
    · exact e.newblk _ _ hb
    · simp at hb
  other := e.other

/-! ### Values name live objects alone -/
mutual
theorem RelV.under {g : Gh} {w : World} {n : Nat} (hf : ∀ id, n ≤ id → (∀ v, g.loc id v = none) ∧ g.blk id = none) : ∀ {a : AV} {v : Value}, RelV g w a v → a.under n = true
  | .sl i x off len full, v, h => by
    simp only [RelV, AV.under, decide_eq_true_eq] at h ⊢
    obtain ⟨L, c, hl, _⟩ := h
    rcases Nat.lt_or_ge i n with h1 | h1
    · exact h1
    · rw [(hf i h1).1 x] at hl; simp at hl
  | .ptr i x o, v, h => by
    simp only [RelV, AV.under, decide_eq_true_eq] at h ⊢
    obtain ⟨L, hl, _⟩ := h
    rcases Nat.lt_or_ge i n with h1 | h1
    · exact h1
    · rw [(hf i h1).1 x] at hl; simp at hl
  | .yld i, v, h => by
    simp only [RelV, AV.under, decide_eq_true_eq] at h ⊢
    obtain ⟨b, hb, _⟩ := h
    rcases Nat.lt_or_ge i n with h1 | h1
    · exact h1
    · rw [(hf i h1).2] at hb; simp at hb
  | .mp i, v, h => by
    simp only [RelV, AV.under, decide_eq_true_eq] at h ⊢
    obtain ⟨b, hb, _⟩ := h
    rcases Nat.lt_or_ge i n with h1 | h1
    · exact h1
    · rw [(hf i h1).2] at hb; simp at hb
  | .gd x a, v, h => by
    simp only [RelV, AV.under, Bool.or_eq_true, Bool.not_eq_true'] at h ⊢
    cases x
    · exact .inl rfl
    · exact .inr (RelV.under hf (h.1 rfl))
  | .it i, v, h => by
    simp only [RelV, AV.under, decide_eq_true_eq] at h ⊢
    obtain ⟨b, hb, _⟩ := h
    rcases Nat.lt_or_ge i n with h1 | h1
    · exact h1
    · rw [(hf i h1).2] at hb; simp at hb
  | .agg l, v, h => by
    simp only [RelV, AV.under] at h ⊢
    obtain ⟨vs, hv, h⟩ := h
    exact RelL.under hf h
  | .tup l, v, h => by
    simp only [RelV, AV.under] at h ⊢
    obtain ⟨vs, hv, h⟩ := h
    exact RelL.under hf h
  | .lst k full l, v, h => by
    simp only [RelV, AV.under] at h ⊢
    obtain ⟨a, c, hv, h1, h2, h3, h⟩ := h
    rcases h with h | ⟨b, o, vs, ha, hr, hi⟩
    · obtain ⟨_, rfl⟩ := h; rfl
    · exact RelL.under hf hr
  | .pim l, v, h => by
    simp only [RelV, AV.under] at h ⊢
    obtain ⟨b, o, vs, hv, hr, hi⟩ := h
    exact RelL.under hf hr
  | .fn f a b, v, h => by
    simp only [RelV, AV.under, Bool.and_eq_true] at h ⊢
    obtain ⟨us, vs, hv, h1, h2⟩ := h
    exact ⟨RelL.under hf h1, RelL.under hf h2⟩
  | .any, v, h => rfl
  | .b x, v, h => rfl
  | .i k m, v, h => rfl
  | .s x, v, h => rfl
  | .nils, v, h => rfl
  | .nilp, v, h => rfl
  | .nilf, v, h => rfl
  | .nilm, v, h => rfl
theorem RelL.under {g : Gh} {w : World} {n : Nat} (hf : ∀ id, n ≤ id → (∀ v, g.loc id v = none) ∧ g.blk id = none) : ∀ {as : List AV} {vs : List Value}, RelL g w as vs → AV.unders n as = true
  | [], vs, h => rfl
  | a :: as, vs, h => by
    simp only [RelL, AV.unders, Bool.and_eq_true] at h ⊢
    obtain ⟨v, vs', hv, h1, h2⟩ := h
    exact ⟨RelV.under hf h1, RelL.under hf h2⟩
end

/-! ### Objects that are no cells -/
theorem cell?_putObj {w : World} {b : Nat} {o : Obj} (hb : ∀ x, w.heap[b]? = some x → Obj.notCells x = true) (ho : Obj.notCells o = true) (a : Addr) : (w.putObj b o).cell? a = w.cell? a := by
  by_cases h : a.block = b
  · subst h
    unfold World.cell? World.putObj
    simp only [Array.getElem?_setIfInBounds, if_true]
    cases hx : w.heap[a.block]? with
    | none =>
      have : ¬ a.block < w.heap.size := fun hlt => by simp [Array.getElem?_eq_getElem hlt] at hx
      simp [this]
    | some x =>
      have := hb x hx
      rw [if_pos (lt_of_heap hx)]
      cases o <;> cases x <;> simp_all [Obj.notCells]
  · exact World.cell?_of_block (w := w) (World.putObj_heap_other h)
theorem frozen?_putObj {w : World} {b : Nat} {o : Obj} (hb : ∀ x, w.heap[b]? = some x → Obj.notCells x = true) (ho : Obj.notCells o = true) (a : Addr) : (w.putObj b o).frozen? a = w.frozen? a := by
  by_cases h : a.block = b
  · subst h
    unfold World.frozen? World.putObj
    simp only [Array.getElem?_setIfInBounds, if_true]
    cases hx : w.heap[a.block]? with
    | none =>
      have : ¬ a.block < w.heap.size := fun hlt => by simp [Array.getElem?_eq_getElem hlt] at hx
      simp [this]
    | some x =>
      have := hb x hx
      rw [if_pos (lt_of_heap hx)]
      cases o <;> cases x <;> simp_all [Obj.notCells]
  · exact World.frozen?_of_block (w := w) (World.putObj_heap_other h)

theorem put_obj {g : Gh} {h h' : Hp} {w : World} (hw : WRel g h w) {id b : Nat} {x o : Obj} (hb : g.blk id = some b) (hx : w.heap[b]? = some x) (hxn : Obj.notCells x = true) (hon : Obj.notCells o = true)
    (hnew : Ext g w g (w.putObj b o) → ObjOk g (w.putObj b o) id h'[id]?) (hother : ∀ id', id' ≠ id → h'[id']? = h[id']?) : Ext g w g (w.putObj b o) ∧ WRel g h' (w.putObj b o) := by
  have hbx : ∀ y, w.heap[b]? = some y → Obj.notCells y = true := fun y hy => by rw [hx] at hy; cases hy; exact hxn
  have hc := fun a => cell?_putObj (o := o) hbx hon a
  have hf := fun a => frozen?_putObj (o := o) hbx hon a
  have e : Ext g w g (w.putObj b o) := ⟨fun _ _ _ h => h, fun _ _ h => h, fun b' o' hi => ⟨hi, hc _⟩, rfl, rfl, by simp [World.putObj], fun _ _ h => .inl h, fun b' o' hb' _ hn => by
    rw [World.putObj_heap_other (fun he => hn id (by rw [he]; exact hb))]; exact hb', fun b' s hs => by
      by_cases hbb : b' = b
      · subst hbb; unfold World.shape? at hs; rw [hx] at hs; cases x <;> simp_all [Obj.notCells]
      · unfold World.shape? at hs ⊢; rw [World.putObj_heap_other hbb]; exact hs⟩
  refine ⟨e, ?_⟩
  refine hw.update e id hother (fun id' hne b' o' hb' => ⟨hb', hc _, hf _⟩) (fun id' b' o' hne hb' ho' hn => ?_) (fun _ _ _ => rfl) (fun _ _ => rfl) (hnew e) (fun b hb => .inl hb) (fun b o ho => .inl ho)
    ⟨rfl, rfl, rfl, by simp [World.putObj], fun k hk => World.putObj_heap_other (by have := (hw.blkb _ _ hb).1; omega)⟩
  rw [World.putObj_heap_other (fun he => hne (hw.inj _ _ _ (by rw [← he]; exact hb') hb))]; exact ho'

theorem alloc_blk {g : Gh} {h h' : Hp} {w : World} (hw : WRel g h w) (id : Nat) (o : Obj) (hon : Obj.notCells o = true) (hold : h[id]? = none ∨ h[id]? = some .free) (hother : ∀ id', id' ≠ id → h'[id']? = h[id']?)
    (hnew : ∀ g', Ext g w g' (w.alloc o) → g'.blk id = some w.heap.size → ObjOk g' (w.alloc o) id h'[id]?) :
    ∃ g', Ext g w g' (w.alloc o) ∧ WRel g' h' (w.alloc o) ∧ g'.blk id = some w.heap.size := by
  let g' : Gh := { g with blk := fun i => if i = id then some w.heap.size else g.blk i }
  have hnone : g.blk id = none := by
    have ho := hw.obj id
    rcases hold with h1 | h1 <;> rw [h1] at ho <;> exact ho.2
  have e : Ext g w g' (w.alloc o) := ⟨fun _ _ _ h => h, fun i b hb => by
      simp only [g']
      split
      · rename_i hi; subst hi; rw [hnone] at hb; simp at hb
      · exact hb,
    fun b o' hi => ⟨hi, cell?_alloc w _ b o' (hw.ownlt hi (by simp))⟩, rfl, rfl, by simp, fun i b hb => by
      simp only [g'] at hb
      split at hb
      · right; simp at hb; omega
      · exact .inl hb, fun b o' hb _ _ => (Below.heap_alloc w _ b (lt_of_heap hb)).trans hb, shape_alloc _⟩
  refine ⟨g', e, ?_, by simp [g']⟩
  refine hw.update e id hother (fun id' hne b o' hb => ?_) (fun id' b o' _ _ hb _ => (Below.heap_alloc w _ b (lt_of_heap hb)).trans hb) (fun _ _ _ => rfl) (fun i hi => by simp [g', hi]) (hnew g' e (by simp [g']))
    (fun b hb => ?_) (fun b o' ho => .inl ho) ((Below.refl _ w).alloc hw.basele _)
  · have hlt := hw.ownlt hb (by simp)
    exact ⟨hb, cell?_alloc w _ b o' hlt, frozen?_alloc w _ b o' hlt⟩
  · simp [g'] at hb; right; simp; omega
end Go.M
