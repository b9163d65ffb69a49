/- Functions: from the walk of a body to the contract of a call; what is let go at a return. -/
import Derived.Test.YtjnpfhihefchoaaDoorMl
namespace Go.M
open Go Go.RowKit
set_option linter.unusedVariables false
set_option linter.unusedSimpArgs false

/-- Ghosts, heap and a value may sink to these: less is said. h0: the heap when the call began. -/
def Sink (h0 : Hp) (av : AV) (h : Hp) (av2 : AV) (h2 : Hp) : Prop :=
  ∀ g0 w0 g w v, WRel g0 h0 w0 → Ext g0 w0 g w → WRel g h w → RelV g w av v → ∃ g', Ext g0 w0 g' w ∧ WRel g' h2 w ∧ RelV g' w av2 v

theorem Sink.refl {h0 : Hp} {av : AV} {h : Hp} : Sink h0 av h av h := fun g0 w0 g w v _ e hw hr => ⟨g, e, hw, hr⟩
theorem Sink.trans {h0 : Hp} {a b c : AV} {h h' h'' : Hp} (x : Sink h0 a h b h') (y : Sink h0 b h' c h'') : Sink h0 a h c h'' := fun g0 w0 g w v hw0 e hw hr =>
  let ⟨g1, e1, hw1, hr1⟩ := x g0 w0 g w v hw0 e hw hr
  y g0 w0 g1 w v hw0 e1 hw1 hr1

/-- A value may be taken for another one, that says less. -/
def AVle (a b : AV) : Prop := ∀ g w v, RelV g w a v → RelV g w b v
def AVles (as bs : List AV) : Prop := ∀ g w vs, RelL g w as vs → RelL g w bs vs

theorem AVle.refl (a : AV) : AVle a a := fun _ _ _ h => h
theorem AVle.trans {a b c : AV} (x : AVle a b) (y : AVle b c) : AVle a c := fun g w v h => y g w v (x g w v h)
theorem AVles.refl (a : List AV) : AVles a a := fun _ _ _ h => h
theorem AVles.nil : AVles [] [] := AVles.refl _
theorem AVles.cons {a b : AV} {as bs : List AV} (x : AVle a b) (y : AVles as bs) : AVles (a :: as) (b :: bs) := fun g w vs h => by
  simp only [RelL] at h ⊢
  obtain ⟨v, vs', rfl, h1, h2⟩ := h
  exact ⟨v, vs', rfl, x g w v h1, y g w vs' h2⟩
theorem AVle.tup {as bs : List AV} (x : AVles as bs) : AVle (.tup as) (.tup bs) := fun g w v ⟨vs, h1, h2⟩ => ⟨vs, h1, x g w vs h2⟩
theorem AVle.agg {as bs : List AV} (x : AVles as bs) : AVle (.agg as) (.agg bs) := fun g w v ⟨vs, h1, h2⟩ => ⟨vs, h1, x g w vs h2⟩
theorem AVle.any (a : AV) : AVle a .any := fun _ _ _ _ => trivial
theorem AVle.lst (n : Nat) (f : Bool) (cs : List AV) : AVle (.lst n f cs) (.lst n false cs) := fun g w v h => by
  simp only [RelV] at h ⊢
  obtain ⟨a, c, h1, h2, h3⟩ := h
  exact ⟨a, c, h1, fun h => by simp at h, h3⟩
theorem AVle.nils (f : Bool) : AVle .nils (.lst 0 f []) := fun g w v h => by
  simp only [RelV] at h ⊢
  subst h
  exact ⟨none, 0, rfl, fun _ => rfl, Nat.le_refl _, by decide, .inl ⟨trivial, trivial⟩⟩

theorem Sink.le {h0 h : Hp} {a b : AV} (x : AVle a b) : Sink h0 a h b h := fun g0 w0 g w v _ e hw hr => ⟨g, e, hw, x g w v hr⟩

theorem Sink.freeze {h0 h : Hp} {a : AV} (id ver esz : Nat) (cs : List AV) (hid : h[id]? = some (.cells ver esz cs)) : Sink h0 a h (a.frz id ver esz cs) (h.set id .dead) := fun g0 w0 g w v _ e hw hr => by
  have hlt : id < h.length := by
    rcases Nat.lt_or_ge id h.length with h1 | h1
    · exact h1
    · simp [List.getElem?_eq_none h1] at hid
  obtain ⟨g', hw', F⟩ := freeze_obj (h' := h.set id .dead) hw hid (by simp [hlt]) (fun id' hne => by rw [List.getElem?_set_ne (fun h => hne h.symm)])
  exact ⟨g', e.trans F.ext, hw', F.rel hr⟩

def HObj.under (n : Nat) : HObj → Prop
  | .cells _ _ cs => AV.unders n cs = true
  | .map m => AV.unders n (m.map (·.1)) = true ∧ AV.unders n (m.map (·.2)) = true
  | .loop _ _ _ _ fr _ => ∀ t, (fr t).under n = true
  | .iter m _ _ => m < n
  | _ => True

theorem WRel.under {g : Gh} {h : Hp} {w : World} (hw : WRel g h w) {n : Nat} (hn : h.length ≤ n) {id : Nat} {o : HObj} (hid : h[id]? = some o) : o.under n := by
  have hf : ∀ id, n ≤ id → (∀ v, g.loc id v = none) ∧ g.blk id = none := fun id hle => hw.fresh (Nat.le_trans hn hle)
  have ho := hw.obj id
  rw [hid] at ho
  cases o with
  | cells ver esz cs => obtain ⟨⟨L, vs, hL⟩, _⟩ := ho; exact hL.rel.under hf
  | map m => obtain ⟨b, es, _, _, _, h3, h4⟩ := ho; exact ⟨h3.under hf, h4.under hf⟩
  | loop ps asg body N fr st => obtain ⟨b, L, hL⟩ := ho; exact fun t => (hL.val t).under hf
  | iter m since seen =>
    obtain ⟨b, bm, st, _, h2, _⟩ := ho
    rcases Nat.lt_or_ge m n with h5 | h5
    · exact h5
    · rw [(hf m h5).2] at h2; simp at h2
  | free => trivial
  | dead => trivial

/-- The objects from n on are let go. -/
theorem Sink.cut {h0 h : Hp} {a : AV} (n : Nat) (hn : h0.length ≤ n) (ha : a.under n = true) (hu : ∀ id o, id < n → h[id]? = some o → h0[id]? = some o ∨ o.under n) : Sink h0 a h a (h.take n) := fun g0 w0 g w v hw0 e hw hr => by
  refine ⟨g.cut n, e.cut n (fun id hle => hw0.fresh (Nat.le_trans hn hle)), cut_rel hw n ?_, hr.cut ha⟩
  intro id o hlt hid
  have : o.under n := by
    rcases hu id o hlt hid with h1 | h1
    · exact hw0.under hn h1
    · exact h1
  cases o <;> exact this

/-- What was laid beside the heap is let go. -/
theorem Sink.drop {h0 : Hp} {a : AV} (l : List HObj) (ha : a.pure = true) : Sink h0 a (h0 ++ l) a h0 := by
  have := Sink.cut (h0 := h0) (h := h0 ++ l) (a := a) h0.length (Nat.le_refl _) (AV.under_of_pure _ a ha) (fun id o hlt hid => .inl (by rwa [List.getElem?_append_left hlt] at hid))
  rwa [List.take_left] at this

/-- An object's place in a list behind the heap. -/
theorem Sink.kill {h0 h : Hp} {a : AV} (id : Nat) : Sink h0 a h a (h.set id .dead) := fun g0 w0 g w v _ e hw hr => by
  rcases Nat.lt_or_ge id h.length with h1 | h1
  · exact ⟨g, e, kill_obj hw id (by simp [h1]) (fun id' hne => by rw [List.getElem?_set_ne (fun h => hne h.symm)]), hr⟩
  · rw [List.set_eq_of_length_le h1]; exact ⟨g, e, hw, hr⟩

/-! ### Leaving -/
theorem rel_putObj {g : Gh} {w : World} {r : Nat} {o : Obj} (hb : ∀ x, w.heap[r]? = some x → Obj.notCells x = true) (ho : Obj.notCells o = true) : ExtV g w g (w.putObj r o) :=
  ⟨fun _ _ _ h => h, fun _ _ h => h, fun b o' hi => ⟨hi, cell?_putObj hb ho _⟩⟩

/-- A mark's block is shut: what is said of the heap stays. -/
theorem take_mark {P : Program} {g0 g : Gh} {w0 w : World} {h : Hp} {r : Nat} (e : Ext g0 w0 g w) (hw : WRel g h w) (hr : w0.heap.size ≤ r) (hb : g.base ≤ r) (hh : w.heap[r]? = some (.deferred (some []))) (hn : ∀ id, g.blk id ≠ some r) :
    (Instr.takeDeferred r).run P w = .ok [] (w.putObj r (.deferred none)) ∧ Ext g0 w0 g (w.putObj r (.deferred none)) ∧ WRel g h (w.putObj r (.deferred none)) := by
  have hbx : ∀ x, w.heap[r]? = some x → Obj.notCells x = true := fun x hx => by rw [hh] at hx; cases hx; rfl
  have hc := fun a => cell?_putObj (o := .deferred none) hbx rfl a
  have hf := fun a => frozen?_putObj (o := .deferred none) hbx rfl a
  have ev := rel_putObj (g := g) (o := .deferred none) hbx rfl
  have hoth : ∀ b, b ≠ r → (w.putObj r (.deferred none)).heap[b]? = w.heap[b]? := fun b hne => World.putObj_heap_other hne
  have hsz : (w.putObj r (.deferred none)).heap.size = w.heap.size := by simp [World.putObj]
  have hshape : ∀ b s, w.shape? b = some s → (w.putObj r (.deferred none)).shape? b = some s := fun b s hs => by
    by_cases hbr : b = r
    · subst hbr; unfold World.shape? at hs; rw [hh] at hs; cases hs
    · unfold World.shape? at hs ⊢; rw [hoth b hbr]; exact hs
  refine ⟨?_, ?_, ?_⟩
  · simp [Instr.takeDeferred, getObj, setObj, Sem.run, hh, World.putObj]
  · exact ⟨e.loc, e.blk, fun b o hi => ⟨(e.imm b o hi).1, (hc _).trans (e.imm b o hi).2⟩, e.base, e.w0, by rw [hsz]; exact e.size, e.newblk, fun b o hb' ho hnb => by
      rw [hoth b (by have := lt_of_heap hb'; omega)]; exact e.other b o hb' ho hnb, fun b s hs => hshape b s (e.shape b s hs)⟩
  · constructor
    · intro id
      have ho := hw.obj id
      cases hx : h[id]? with
      | none => rw [hx] at ho; exact ho
      | some o =>
        rw [hx] at ho
        cases o with
        | free => exact ho
        | dead => trivial
        | cells ver esz cs =>
          obtain ⟨⟨L, vs, hL⟩, hv⟩ := ho
          exact ⟨⟨L, vs, hL.loc, hL.esz, hL.len, hL.rel.monoV ev, fun j u hu => by rw [hc]; exact hL.cell j u hu, hL.one, fun j hj => by rw [hc]; exact hL.there j hj, fun j hj => by rw [hf]; exact hL.thaw j hj, hL.own, hL.base, (by obtain ⟨n, h1, h2⟩ := hL.shape; exact ⟨n, hshape _ _ h1, h2⟩), hL.base0⟩, hv⟩
        | map m =>
          obtain ⟨b, es, h1, h2, h3, h4, h5⟩ := ho
          exact ⟨b, es, h1, by rw [hoth b (fun he => hn id (by rw [← he]; exact h1))]; exact h2, h3, h4.monoV ev, h5.monoV ev⟩
        | iter m since seen =>
          obtain ⟨b, bm, st, h1, h2, h3⟩ := ho
          exact ⟨b, bm, st, h1, h2, by rw [hoth b (fun he => hn id (by rw [← he]; exact h1))]; exact h3⟩
        | loop ps asg body N fr st =>
          obtain ⟨b, L, hL⟩ := ho
          exact ⟨b, L, hL.blk, by rw [hoth b (fun he => hn id (by rw [← he]; exact hL.blk))]; exact hL.heap, hL.params, hL.assign, hL.body, hL.size, fun t => (hL.val t).monoV ev, hL.st⟩
    · exact hw.inj
    · intro id b hb'; rw [hsz]; exact hw.blkb id b hb'
    · intro b o ho; rw [hsz]; exact hw.own b o ho
    · exact hw.below.trans ⟨rfl, rfl, rfl, by rw [hsz]; exact Nat.le_refl _, fun k hk => hoth k (by omega)⟩
    · rw [hsz]; exact hw.basele
    · exact hw.one

theorem leaves {P : Program} {fn : Func} {g0 : Gh} {w0 : World} {R : AV → Hp → Prop} {h0 h h2 : Hp} {av2 : AV} {as : List AV} {fr : Fr} {tmps : Array Value} (hw0 : WRel g0 h0 w0)
    (hres : resL P h fr fn.results.toList = some as) (hs : Sink h0 (results1 as) h av2 h2) (hR : R av2 h2) : ∀ (ds : List Deferred) (g : Gh) (w : World), Ext g0 w0 g w → WRel g h w → (∀ t, RelV g w (fr t) (tmps.getD t undef)) → Marks w0.heap.size g w ds →
      LeavesInM Fence.wide 0 P fn tmps (cpost g0 w0 R) ds .returning w
  | [], g, w, e, hw, hf, _ => by
    obtain ⟨v, h1, h3⟩ := results_run hw hf fn as hres
    obtain ⟨g', e', hw', hr'⟩ := hs g0 w0 g w v hw0 e hw h3
    exact ⟨v, h1, v, g', av2, h2, rfl, e', hw', hr', hR⟩
  | d :: ds, g, w, e, hw, hf, hm => by
    obtain ⟨⟨r, rfl, h1, h3, h4, h5, h6⟩, hm'⟩ := hm
    obtain ⟨t1, t2, t3⟩ := take_mark (P := P) e hw h1 h3 h4 h5
    refine ⟨by simp, .inl ⟨r, _, rfl, t1, ?_⟩⟩
    have hbx : ∀ x, w.heap[r]? = some x → Obj.notCells x = true := fun x hx => by rw [h4] at hx; cases hx; rfl
    refine leaves hw0 hres hs hR ds g _ t2 t3 (fun t => (hf t).monoV (rel_putObj hbx rfl)) ?_
    have key : ∀ ds' : List Deferred, (∀ d' ∈ ds', d' ≠ ({ target := .collected r, args := #[] } : Deferred)) → Marks w0.heap.size g w ds' → Marks w0.heap.size g (w.putObj r (.deferred none)) ds' := by
      intro ds'
      induction ds' with
      | nil => intro _ _; trivial
      | cons d' ds' ih =>
        rintro hne ⟨⟨r', hd', k1, k2, k3, k4, k5⟩, k6⟩
        refine ⟨⟨r', hd', k1, k2, ?_, k4, k5⟩, ih (fun x hx => hne x (List.mem_cons_of_mem _ hx)) k6⟩
        rw [World.putObj_heap_other]
        · exact k3
        · intro hrr
          exact hne d' (List.mem_cons_self ..) (by rw [hd', hrr])
    exact key ds h6 hm'

/-- Where a body must come to. -/
def retQ (P : Program) (fn : Func) (h0 : Hp) (R : AV → Hp → Prop) : Post := fun e fr h =>
  (e = .normal ∨ e = .ret) ∧ ∃ as av2 h2, resL P h fr fn.results.toList = some as ∧ Sink h0 (results1 as) h av2 h2 ∧ R av2 h2

theorem dcall_of {P : Program} {f : FuncId} {fn : Func} {c : Code} {args : List AV} {h : Hp} {R : AV → Hp → Prop} (hf : P.funcs[f]? = some fn) (hb : fn.body = some c) (hc : ∀ as w, (callFunc f as).run P w = .ok (.enter f as) w)
    (hN : args.length ≤ fn.ntmps) (hd : dwp P none fn.ntmps c (retQ P fn h R) (fr0 args) h) : dcall P f args h R := by
  intro g w vs hw ha
  rw [hc]
  have hlen := ha.len
  refine callsIn_of_wp_marks hf hb trivial ?_
  have hfr : FRel w.heap.size g w fn.ntmps (fr0 args) { tmps := vs.toArray ++ Array.replicate (fn.ntmps - vs.toArray.size) undef, defers := [] } :=
    ⟨by simp; omega, fun t => fr0_rel ha _ t, trivial⟩
  refine wpIn_mono (hd w.heap.size g _ w none (Nat.le_refl _) hw hfr trivial) ?_
  rintro e a' w' ⟨g', fr', h', h1, h2, h3, h4, as, av2, h2', h5, h6, h7⟩
  have := leaves (R := R) hw h5 h6 h7 a'.defers g' w' h1 h2 h3.val h3.marks
  rcases h4 with rfl | rfl
  · exact this
  · exact this
end Go.M
