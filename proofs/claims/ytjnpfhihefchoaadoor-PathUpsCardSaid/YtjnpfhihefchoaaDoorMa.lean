/- Abstract values, abstract heaps, and when they stand for the model's values and worlds; the order of worlds. -/
import Derived.RangeFuncLeaves
import Derived.LoopNIn
import Derived.Below
import Derived.KernelRfl
namespace Go.M
open Go Go.RowKit
set_option linter.unusedVariables false
set_option linter.unusedSimpArgs false

inductive Own where
  | no | imm | obj (id : Nat)

/-- Abstract values. -/
inductive AV where
  | any
  | b (x : Bool)
  | i (k : IntKind) (n : Int)
  | s (x : ByteArray)
  | agg (cs : List AV)
  | tup (cs : List AV)
  | lst (n : Nat) (full : Bool) (cs : List AV)
  | nils
  | sl (id ver off len : Nat) (full : Bool)
  | ptr (id ver off : Nat)
  | pim (cs : List AV)
  | nilp
  | fn (f : FuncId) (first caps : List AV)
  | nilf
  | yld (id : Nat)
  | mp (id : Nat)
  | nilm
  | it (id : Nat)
  | gd (x : Bool) (a : AV)

structure Loc where
  block : Nat
  off : Nat
  cap : Nat
  esz : Nat

/-- Where abstract objects lie, whose each cell is, and the world in which all began. -/
structure Gh where
  loc : Nat → Nat → Option Loc
  blk : Nat → Option Nat
  own : Nat → Nat → Own
  base : Nat
  w0 : World

def imax : Int := 9223372036854775807

def Imm (g : Gh) (w : World) (b o : Nat) (vs : List Value) : Prop :=
  ∀ j u, vs[j]? = some u → w.cell? ⟨b, o + j, none⟩ = some u ∧ g.own b (o + j) = .imm ∧ u.oneCell' = true

mutual
def RelV (g : Gh) (w : World) : AV → Value → Prop
  | .any, _ => True
  | .b x, v => v = .bool x
  | .i k n, v => v = .int k n ∧ k.min ≤ n ∧ n ≤ k.max
  | .s x, v => v = .string x ∧ (x.size : Int) ≤ imax
  | .agg cs, v => ∃ vs : List Value, v = .agg vs.toArray ∧ RelL g w cs vs
  | .tup cs, v => ∃ vs : List Value, v = .tuple vs.toArray ∧ RelL g w cs vs
  | .lst n full cs, v => ∃ a c, v = .slice a n c ∧ (full = true → c = n) ∧ n ≤ c ∧ (n : Int) ≤ imax ∧
      ((n = 0 ∧ cs = []) ∨ ∃ b o vs, a = some ⟨b, o, none⟩ ∧ RelL g w cs vs ∧ Imm g w b o vs)
  | .nils, v => v = .slice none 0 0
  | .sl id ver off len full, v => ∃ L c, g.loc id ver = some L ∧ v = .slice (some ⟨L.block, L.off + off, none⟩) len c ∧ (full = true → c = len) ∧ len ≤ c ∧ (len : Int) ≤ imax ∧ off + c * L.esz ≤ L.cap
  | .ptr id ver off, v => ∃ L, g.loc id ver = some L ∧ v = .pointer (some ⟨L.block, L.off + off, none⟩)
  | .pim cs, v => ∃ b o vs, v = .pointer (some ⟨b, o, none⟩) ∧ RelL g w cs vs ∧ Imm g w b o vs
  | .nilp, v => v = .pointer none
  | .fn f fs cs, v => ∃ us vs : List Value, v = .func (.func f) us.toArray vs.toArray ∧ RelL g w fs us ∧ RelL g w cs vs
  | .nilf, v => v = .nilFunc
  | .yld id, v => ∃ b, g.blk id = some b ∧ v = .func (.yield b) #[] #[]
  | .mp id, v => ∃ b, g.blk id = some b ∧ v = .map (some b)
  | .nilm, v => v = .map none
  | .it id, v => ∃ b, g.blk id = some b ∧ v = .pointer (some ⟨b, 0, none⟩)
  | .gd x a, v => (x = true → RelV g w a v) ∧ (x = false → v = .tuple #[])
def RelL (g : Gh) (w : World) : List AV → List Value → Prop
  | [], vs => vs = []
  | a :: as, vs => ∃ v vs', vs = v :: vs' ∧ RelV g w a v ∧ RelL g w as vs'
end

theorem RelL.len {g : Gh} {w : World} : ∀ {as : List AV} {vs : List Value}, RelL g w as vs → vs.length = as.length
  | [], vs, h => by simp only [RelL] at h; subst h; rfl
  | a :: as, vs, h => by
    simp only [RelL] at h
    obtain ⟨v, vs', rfl, _, h⟩ := h
    simp [RelL.len h]

def Obj.notCells : Obj → Bool
  | .cells .. => false
  | _ => true

/-- The order of worlds. -/
structure Ext (g : Gh) (w : World) (g' : Gh) (w' : World) : Prop where
  loc : ∀ id ver L, g.loc id ver = some L → g'.loc id ver = some L
  blk : ∀ id b, g.blk id = some b → g'.blk id = some b
  imm : ∀ b o, g.own b o = .imm → g'.own b o = .imm ∧ w'.cell? ⟨b, o, none⟩ = w.cell? ⟨b, o, none⟩
  base : g'.base = g.base
  w0 : g'.w0 = g.w0
  size : w.heap.size ≤ w'.heap.size
  newblk : ∀ id b, g'.blk id = some b → g.blk id = some b ∨ w.heap.size ≤ b
  other : ∀ b o, w.heap[b]? = some o → Obj.notCells o = true → (∀ id, g.blk id ≠ some b) → w'.heap[b]? = some o
  shape : ∀ b s, w.shape? b = some s → w'.shape? b = some s

theorem Ext.refl (g : Gh) (w : World) : Ext g w g w :=
  ⟨fun _ _ _ h => h, fun _ _ h => h, fun _ _ h => ⟨h, rfl⟩, rfl, rfl, Nat.le_refl _, fun _ _ h => .inl h, fun _ _ h _ _ => h, fun _ _ h => h⟩

theorem lt_of_heap {w : World} {b : Nat} {o : Obj} (h : w.heap[b]? = some o) : b < w.heap.size := by
  rcases Nat.lt_or_ge b w.heap.size with h' | h'
  · exact h'
  · simp [Array.getElem?_eq_none h'] at h

theorem Ext.trans {g g' g'' : Gh} {w w' w'' : World} (h : Ext g w g' w') (k : Ext g' w' g'' w'') : Ext g w g'' w'' where
  loc id ver L hl := k.loc _ _ _ (h.loc _ _ _ hl)
  blk id b hb := k.blk _ _ (h.blk _ _ hb)
  imm b o hi := ⟨(k.imm _ _ (h.imm _ _ hi).1).1, ((k.imm _ _ (h.imm _ _ hi).1).2).trans (h.imm _ _ hi).2⟩
  base := k.base.trans h.base
  w0 := k.w0.trans h.w0
  size := Nat.le_trans h.size k.size
  newblk id b hb := by
    rcases k.newblk id b hb with h1 | h1
    · exact h.newblk id b h1
    · exact .inr (Nat.le_trans h.size h1)
  other b o hb ho hn := by
    refine k.other b o (h.other b o hb ho hn) ho fun id hid => ?_
    rcases h.newblk id b hid with h1 | h1
    · exact hn id h1
    · exact absurd (lt_of_heap hb) (by omega)
  shape b s hs := k.shape b s (h.shape b s hs)

/-- What values hang on. -/
structure ExtV (g : Gh) (w : World) (g' : Gh) (w' : World) : Prop where
  loc : ∀ id ver L, g.loc id ver = some L → g'.loc id ver = some L
  blk : ∀ id b, g.blk id = some b → g'.blk id = some b
  imm : ∀ b o, g.own b o = .imm → g'.own b o = .imm ∧ w'.cell? ⟨b, o, none⟩ = w.cell? ⟨b, o, none⟩

theorem Ext.v {g g' : Gh} {w w' : World} (e : Ext g w g' w') : ExtV g w g' w' := ⟨e.loc, e.blk, e.imm⟩

theorem Imm.monoV {g g' : Gh} {w w' : World} (e : ExtV g w g' w') {b o : Nat} {vs : List Value} (h : Imm g w b o vs) : Imm g' w' b o vs :=
  fun j u hj => ⟨((e.imm _ _ (h j u hj).2.1).2).trans (h j u hj).1, (e.imm _ _ (h j u hj).2.1).1, (h j u hj).2.2⟩

mutual
theorem RelV.monoV {g g' : Gh} {w w' : World} (e : ExtV g w g' w') : ∀ {a : AV} {v : Value}, RelV g w a v → RelV g' w' a v
  | .any, v, h => trivial
  | .b x, v, h => by simpa only [RelV] using h
  | .i k n, v, h => by simpa only [RelV] using h
  | .s x, v, h => by simpa only [RelV] using h
  | .agg cs, v, h => by
    simp only [RelV] at h ⊢
    obtain ⟨vs, hv, h⟩ := h
    exact ⟨vs, hv, RelL.monoV e h⟩
  | .tup cs, v, h => by
    simp only [RelV] at h ⊢
    obtain ⟨vs, hv, h⟩ := h
    exact ⟨vs, hv, RelL.monoV e h⟩
  | .lst n full cs, v, h => by
    simp only [RelV] at h ⊢
    obtain ⟨a, c, hv, h1, h2, h3, h⟩ := h
    refine ⟨a, c, hv, h1, h2, h3, ?_⟩
    rcases h with h | ⟨b, o, vs, ha, hr, hi⟩
    · exact .inl h
    · exact .inr ⟨b, o, vs, ha, RelL.monoV e hr, hi.monoV e⟩
  | .nils, v, h => by simpa only [RelV] using h
  | .sl id ver off len full, v, h => by
    simp only [RelV] at h ⊢
    obtain ⟨L, c, hl, h⟩ := h
    exact ⟨L, c, e.loc _ _ _ hl, h⟩
  | .ptr id ver off, v, h => by
    simp only [RelV] at h ⊢
    obtain ⟨L, hl, h⟩ := h
    exact ⟨L, e.loc _ _ _ hl, h⟩
  | .pim cs, v, h => by
    simp only [RelV] at h ⊢
    obtain ⟨b, o, vs, hv, hr, hi⟩ := h
    exact ⟨b, o, vs, hv, RelL.monoV e hr, hi.monoV e⟩
  | .nilp, v, h => by simpa only [RelV] using h
  | .fn f fs cs, v, h => by
    simp only [RelV] at h ⊢
    obtain ⟨us, vs, hv, h1, h2⟩ := h
    exact ⟨us, vs, hv, RelL.monoV e h1, RelL.monoV e h2⟩
  | .nilf, v, h => by simpa only [RelV] using h
  | .yld id, v, h => by
    simp only [RelV] at h ⊢
    obtain ⟨b, hb, h⟩ := h
    exact ⟨b, e.blk _ _ hb, h⟩
  | .mp id, v, h => by
    simp only [RelV] at h ⊢
    obtain ⟨b, hb, h⟩ := h
    exact ⟨b, e.blk _ _ hb, h⟩
  | .nilm, v, h => by simpa only [RelV] using h
  | .it id, v, h => by
    simp only [RelV] at h ⊢
    obtain ⟨b, hb, h⟩ := h
    exact ⟨b, e.blk _ _ hb, h⟩
  | .gd x a, v, h => by
    simp only [RelV] at h ⊢
    exact ⟨fun hx => RelV.monoV e (h.1 hx), h.2⟩
theorem RelL.monoV {g g' : Gh} {w w' : World} (e : ExtV g w g' w') : ∀ {as : List AV} {vs : List Value}, RelL g w as vs → RelL g' w' as vs
  | [], vs, h => by simpa only [RelL] using h
  | a :: as, vs, h => by
    simp only [RelL] at h ⊢
    obtain ⟨v, vs', hv, h1, h2⟩ := h
    exact ⟨v, vs', hv, RelV.monoV e h1, RelL.monoV e h2⟩
end

theorem Imm.mono {g g' : Gh} {w w' : World} (e : Ext g w g' w') {b o : Nat} {vs : List Value} (h : Imm g w b o vs) : Imm g' w' b o vs := h.monoV e.v
theorem RelV.mono {g g' : Gh} {w w' : World} (e : Ext g w g' w') {a : AV} {v : Value} (h : RelV g w a v) : RelV g' w' a v := h.monoV e.v
theorem RelL.mono {g g' : Gh} {w w' : World} (e : Ext g w g' w') {as : List AV} {vs : List Value} (h : RelL g w as vs) : RelL g' w' as vs := h.monoV e.v

theorem RelL.get {g : Gh} {w : World} : ∀ {as : List AV} {vs : List Value}, RelL g w as vs → ∀ {j : Nat} {a : AV}, as[j]? = some a → ∃ v, vs[j]? = some v ∧ RelV g w a v
  | [], vs, h, j, a, hj => by simp at hj
  | a0 :: as, vs, h, j, a, hj => by
    simp only [RelL] at h
    obtain ⟨v, vs', rfl, h1, h2⟩ := h
    cases j with
    | zero => simp at hj; subst hj; exact ⟨v, rfl, h1⟩
    | succ j => simp at hj; obtain ⟨u, hu, hr⟩ := RelL.get h2 hj; exact ⟨u, by simpa using hu, hr⟩

theorem RelL.of_get {g : Gh} {w : World} : ∀ {as : List AV} {vs : List Value}, as.length = vs.length → (∀ (j : Nat) (a : AV) (v : Value), as[j]? = some a → vs[j]? = some v → RelV g w a v) → RelL g w as vs
  | [], vs, h, _ => by simp only [RelL]; exact List.eq_nil_of_length_eq_zero h.symm
  | a :: as, [], h, _ => by simp at h
  | a :: as, v :: vs, h, k => by
    simp only [RelL]
    exact ⟨v, vs, rfl, k 0 a v rfl rfl, RelL.of_get (by simpa using h) fun j a v ha hv => k (j + 1) a v (by simpa using ha) (by simpa using hv)⟩

theorem RelL.drop {g : Gh} {w : World} (n : Nat) : ∀ {as : List AV} {vs : List Value}, RelL g w as vs → RelL g w (as.drop n) (vs.drop n) := by
  induction n with
  | zero => intro as vs h; simpa using h
  | succ n ih =>
    intro as vs h
    cases as with
    | nil => simp only [RelL] at h; subst h; simp [RelL]
    | cons a as => simp only [RelL] at h; obtain ⟨v, vs', rfl, _, h⟩ := h; simpa using ih h

theorem RelL.take {g : Gh} {w : World} (n : Nat) : ∀ {as : List AV} {vs : List Value}, RelL g w as vs → RelL g w (as.take n) (vs.take n) := by
  induction n with
  | zero => intro as vs h; simp [RelL]
  | succ n ih =>
    intro as vs h
    cases as with
    | nil => simp only [RelL] at h; subst h; simp [RelL]
    | cons a as =>
      simp only [RelL] at h; obtain ⟨v, vs', rfl, h1, h⟩ := h
      simp only [List.take_succ_cons, RelL]
      exact ⟨v, vs'.take n, rfl, h1, ih h⟩

theorem RelL.append {g : Gh} {w : World} : ∀ {as : List AV} {vs : List Value} {bs : List AV} {us : List Value}, RelL g w as vs → RelL g w bs us → RelL g w (as ++ bs) (vs ++ us)
  | [], vs, bs, us, h, k => by simp only [RelL] at h; subst h; simpa using k
  | a :: as, vs, bs, us, h, k => by
    simp only [RelL] at h; obtain ⟨v, vs', rfl, h1, h⟩ := h
    simp only [List.cons_append, RelL]
    exact ⟨v, vs' ++ us, rfl, h1, RelL.append h k⟩

theorem Imm.drop {g : Gh} {w : World} {b o : Nat} {vs : List Value} (n : Nat) (h : Imm g w b o vs) : Imm g w b (o + n) (vs.drop n) := by
  intro j u hj
  have := h (n + j) u (by simpa using hj)
  rwa [show o + (n + j) = o + n + j by omega] at this

theorem Imm.take {g : Gh} {w : World} {b o : Nat} {vs : List Value} (n : Nat) (h : Imm g w b o vs) : Imm g w b o (vs.take n) := by
  intro j u hj
  refine h j u ?_
  rw [List.getElem?_take] at hj
  split at hj
  · exact hj
  · simp at hj

/- A plain value: it names no object. -/

mutual
def AV.pure : AV → Bool
  | .any | .b _ | .i _ _ | .s _ | .nils | .nilp | .nilf | .nilm => true
  | .agg cs | .tup cs | .lst _ _ cs | .pim cs => AV.pures cs
  | .fn _ fs cs => AV.pures fs && AV.pures cs
  | .sl .. | .ptr .. | .yld _ | .mp _ | .it _ => false
  | .gd x a => !x || AV.pure a
def AV.pures : List AV → Bool
  | [] => true
  | a :: as => AV.pure a && AV.pures as
end

/- All objects that a value names have numbers below n. -/
mutual
def AV.under (n : Nat) : AV → Bool
  | .any | .b _ | .i _ _ | .s _ | .nils | .nilp | .nilf | .nilm => true
  | .agg cs | .tup cs | .lst _ _ cs | .pim cs => AV.unders n cs
  | .fn _ fs cs => AV.unders n fs && AV.unders n cs
  | .sl id _ _ _ _ => decide (id < n)
  | .ptr id _ _ => decide (id < n)
  | .yld id | .mp id | .it id => decide (id < n)
  | .gd x a => !x || AV.under n a
def AV.unders (n : Nat) : List AV → Bool
  | [] => true
  | a :: as => AV.under n a && AV.unders n as
end

mutual
theorem AV.under_of_pure (n : Nat) : ∀ (a : AV), a.pure = true → a.under n = true
  | .any, _ => rfl
  | .b _, _ => rfl
  | .i _ _, _ => rfl
  | .s _, _ => rfl
  | .nils, _ => rfl
  | .nilp, _ => rfl
  | .nilf, _ => rfl
  | .nilm, _ => rfl
  | .agg cs, h => by simp only [AV.pure, AV.under] at h ⊢; exact AV.unders_of_pures n cs h
  | .tup cs, h => by simp only [AV.pure, AV.under] at h ⊢; exact AV.unders_of_pures n cs h
  | .lst _ _ cs, h => by simp only [AV.pure, AV.under] at h ⊢; exact AV.unders_of_pures n cs h
  | .pim cs, h => by simp only [AV.pure, AV.under] at h ⊢; exact AV.unders_of_pures n cs h
  | .fn _ fs cs, h => by
    simp only [AV.pure, AV.under, Bool.and_eq_true] at h ⊢
    exact ⟨AV.unders_of_pures n fs h.1, AV.unders_of_pures n cs h.2⟩
  | .sl .., h => by simp [AV.pure] at h
  | .ptr .., h => by simp [AV.pure] at h
  | .yld _, h => by simp [AV.pure] at h
  | .mp _, h => by simp [AV.pure] at h
  | .it _, h => by simp [AV.pure] at h
  | .gd x a, h => by
    simp only [AV.pure, AV.under, Bool.or_eq_true] at h ⊢
    exact h.imp id (AV.under_of_pure n a)
theorem AV.unders_of_pures (n : Nat) : ∀ (as : List AV), AV.pures as = true → AV.unders n as = true
  | [], _ => rfl
  | a :: as, h => by
    simp only [AV.pures, AV.unders, Bool.and_eq_true] at h ⊢
    exact ⟨AV.under_of_pure n a h.1, AV.unders_of_pures n as h.2⟩
end

/-- Ghosts restricted to the objects below n. -/
def Gh.cut (g : Gh) (n : Nat) : Gh := { g with loc := fun id v => if id < n then g.loc id v else none, blk := fun id => if id < n then g.blk id else none }

mutual
theorem RelV.cut {g : Gh} {w : World} {n : Nat} : ∀ {a : AV} {v : Value}, RelV g w a v → a.under n = true → RelV (g.cut n) w a v
  | .any, v, h, _ => trivial
  | .b x, v, h, _ => by simpa only [RelV] using h
  | .i k m, v, h, _ => by simpa only [RelV] using h
  | .s x, v, h, _ => by simpa only [RelV] using h
  | .agg cs, v, h, k => by
    simp only [RelV, AV.under] at h k ⊢
    obtain ⟨vs, hv, h⟩ := h
    exact ⟨vs, hv, RelL.cut h k⟩
  | .tup cs, v, h, k => by
    simp only [RelV, AV.under] at h k ⊢
    obtain ⟨vs, hv, h⟩ := h
    exact ⟨vs, hv, RelL.cut h k⟩
  | .lst m full cs, v, h, k => by
    simp only [RelV, AV.under] at h k ⊢
    obtain ⟨a, c, hv, h1, h2, h3, h⟩ := h
    refine ⟨a, c, hv, h1, h2, h3, ?_⟩
    rcases h with h | ⟨b, o, vs, ha, hr, hi⟩
    · exact .inl h
    · exact .inr ⟨b, o, vs, ha, RelL.cut hr k, hi⟩
  | .nils, v, h, _ => by simpa only [RelV] using h
  | .sl id ver off len full, v, h, k => by
    simp only [RelV, AV.under, decide_eq_true_eq] at h k ⊢
    obtain ⟨L, c, hl, h⟩ := h
    exact ⟨L, c, by simp [Gh.cut, k, hl], h⟩
  | .ptr id ver off, v, h, k => by
    simp only [RelV, AV.under, decide_eq_true_eq] at h k ⊢
    obtain ⟨L, hl, h⟩ := h
    exact ⟨L, by simp [Gh.cut, k, hl], h⟩
  | .pim cs, v, h, k => by
    simp only [RelV, AV.under] at h k ⊢
    obtain ⟨b, o, vs, hv, hr, hi⟩ := h
    exact ⟨b, o, vs, hv, RelL.cut hr k, hi⟩
  | .nilp, v, h, _ => by simpa only [RelV] using h
  | .fn f fs cs, v, h, k => by
    simp only [RelV, AV.under, Bool.and_eq_true] at h k ⊢
    obtain ⟨us, vs, hv, h1, h2⟩ := h
    exact ⟨us, vs, hv, RelL.cut h1 k.1, RelL.cut h2 k.2⟩
  | .nilf, v, h, _ => by simpa only [RelV] using h
  | .yld id, v, h, k => by
    simp only [RelV, AV.under, decide_eq_true_eq] at h k ⊢
    obtain ⟨b, hb, h⟩ := h
    exact ⟨b, by simp [Gh.cut, k, hb], h⟩
  | .mp id, v, h, k => by
    simp only [RelV, AV.under, decide_eq_true_eq] at h k ⊢
    obtain ⟨b, hb, h⟩ := h
    exact ⟨b, by simp [Gh.cut, k, hb], h⟩
  | .nilm, v, h, _ => by simpa only [RelV] using h
  | .it id, v, h, k => by
    simp only [RelV, AV.under, decide_eq_true_eq] at h k ⊢
    obtain ⟨b, hb, h⟩ := h
    exact ⟨b, by simp [Gh.cut, k, hb], h⟩
  | .gd x a, v, h, k => by
    simp only [RelV, AV.under, Bool.or_eq_true] at h k ⊢
    exact ⟨fun hx => RelV.cut (h.1 hx) (k.resolve_left (by simp [hx])), h.2⟩
theorem RelL.cut {g : Gh} {w : World} {n : Nat} : ∀ {as : List AV} {vs : List Value}, RelL g w as vs → AV.unders n as = true → RelL (g.cut n) w as vs
  | [], vs, h, _ => by simpa only [RelL] using h
  | a :: as, vs, h, k => by
    simp only [RelL, AV.unders, Bool.and_eq_true] at h k ⊢
    obtain ⟨v, vs', hv, h1, h2⟩ := h
    exact ⟨v, vs', hv, RelV.cut h1 k.1, RelL.cut h2 k.2⟩
end
end Go.M
