/- Ranges over functions: the statement, and what a call of yield does. -/
import Derived.Test.YtjnpfhihefchoaaDoorMm
namespace Go.M
open Go Go.RowKit
set_option linter.unusedVariables false
set_option linter.unusedSimpArgs false

/-- A new block that no object is and that holds no cells. -/
theorem alloc_plain {g : Gh} {h : Hp} {w : World} (hw : WRel g h w) (o : Obj) (ho : Obj.notCells o = true) : Ext g w g (w.alloc o) ∧ WRel g h (w.alloc o) := by
  have e : Ext g w g (w.alloc o) := ⟨fun _ _ _ h => h, fun _ _ h => h, fun b o' hi => ⟨hi, cell?_alloc w _ b o' (hw.ownlt hi (by simp))⟩, rfl, rfl, by simp, fun _ _ h => .inl h, fun b o' hb _ _ => (Below.heap_alloc w _ b (lt_of_heap hb)).trans hb, shape_alloc _⟩
  refine ⟨e, ?_⟩
  refine hw.update e h.length (fun _ _ => rfl) (fun id _ b o' hb => ?_) (fun id b o' _ _ hb _ => (Below.heap_alloc w _ b (lt_of_heap hb)).trans hb) (fun _ _ _ => rfl) (fun _ _ => rfl)
      (by have := hw.obj h.length; simp at this ⊢; exact this) (fun b hb => .inl hb) (fun b o' ho => .inl ho) ((Below.refl _ w).alloc hw.basele _)
  have hlt := hw.ownlt hb (by simp)
  exact ⟨hb, cell?_alloc w _ b o' hlt, frozen?_alloc w _ b o' hlt⟩

def isLoop : HObj → Prop
  | .loop .. => True
  | _ => False

/-- The frame of a round: the loop's variables are what yield was called with. -/
def putL (fr : Fr) : List Tmp → List AV → Fr
  | t :: ts, a :: as => putL (fr.put (some t) a) ts as
  | _, _ => fr

theorem putL_rel {g : Gh} {w : World} : ∀ (ts : List Tmp) (as : List AV) (vs : List Value) (fr : Fr) (tmps : Array Value), (∀ t, RelV g w (fr t) (tmps.getD t undef)) → RelL g w as vs → (∀ t ∈ ts, t < tmps.size) → ts.length = as.length →
    (∀ t, RelV g w (putL fr ts as t) (((ts.zip vs).foldl (fun tmps (x : Tmp × Value) => tmps.setIfInBounds x.1 x.2) tmps).getD t undef)) ∧ ((ts.zip vs).foldl (fun tmps (x : Tmp × Value) => tmps.setIfInBounds x.1 x.2) tmps).size = tmps.size
  | [], as, vs, fr, tmps, hf, ha, hlt, hlen => by
    cases as with
    | nil => exact ⟨by simpa [putL] using hf, by simp⟩
    | cons a as => simp at hlen
  | t :: ts, [], vs, fr, tmps, hf, ha, hlt, hlen => by simp at hlen
  | t :: ts, a :: as, vs, fr, tmps, hf, ha, hlt, hlen => by
    simp only [RelL] at ha
    obtain ⟨v, vs', rfl, h1, h2⟩ := ha
    have hF : FRel 0 g w tmps.size fr { tmps := tmps, defers := [] } := ⟨rfl, hf, trivial⟩
    have hP := hF.put (some t) (by simpa [dstOk] using hlt t (List.mem_cons_self ..)) h1
    have := putL_rel ts as vs' (fr.put (some t) a) (tmps.setIfInBounds t v) hP.val h2 (fun u hu => by simpa using hlt u (List.mem_cons_of_mem _ hu)) (by simpa using hlen)
    simp only [putL, List.zip_cons_cons, List.foldl_cons]
    exact ⟨this.1, this.2.trans (by simp)⟩

theorem WRel.loop {g : Gh} {h : Hp} {w : World} (hw : WRel g h w) {id : Nat} {ps : Array Tmp} {asg body : Code} {N : Nat} {fr : Fr} {st : Option (Option Code)} (hid : h[id]? = some (.loop ps asg body N fr st)) : ∃ b L, LoopAt g w id ps asg body N fr st b L := by
  have := hw.obj id; rw [hid] at this; exact this

/-- A loop's record turns its state. -/
theorem loop_turn {g : Gh} {h : Hp} {w : World} (hw : WRel g h w) {id : Nat} {ps : Array Tmp} {asg body : Code} {N : Nat} {fr : Fr} {st st' : Option (Option Code)} {b : Nat} {L L' : Loop} (hid : h[id]? = some (.loop ps asg body N fr st)) (hL : LoopAt g w id ps asg body N fr st b L)
    (hp : L'.params = L.params) (ha : L'.assign = L.assign) (hb : L'.body = L.body) (ht : L'.tmps = L.tmps) (hs : LoopSt st' L') :
    Ext g w g (w.putObj b (.loop L')) ∧ WRel g (h.set id (.loop ps asg body N fr st')) (w.putObj b (.loop L')) := by
  have hlt : id < h.length := by
    rcases Nat.lt_or_ge id h.length with h5 | h5
    · exact h5
    · simp [List.getElem?_eq_none h5] at hid
  refine put_obj hw hL.blk hL.heap rfl rfl (fun e => ?_) (fun id' hne => by rw [List.getElem?_set_ne (fun h => hne h.symm)])
  simp only [hlt, List.getElem?_set_self]
  exact ⟨b, L', hL.blk, World.putObj_heap_same (lt_of_heap hL.heap), hp.trans hL.params, ha.trans hL.assign, hb.trans hL.body, by rw [ht]; exact hL.size, fun t => by rw [ht]; exact (hL.val t).mono e, hs⟩

def jumpOf : Exit → Option (Option Code)
  | .normal => some none
  | .ret => some (some .ret)
  | .exit id => some (some (.exit id))
  | .goto l => some (some (.goto l))
  | _ => none

/-- A round: the assignment, then the body; how the body is left says what yield hands back. -/
def roundQ (P : Program) (id N : Nat) (ps : Array Tmp) (asg body : Code) (fr : Fr) (R : AV → Hp → Prop) : Post := fun e fr1 h1 =>
  e = .normal ∧ h1[id]? = some (.loop ps asg body N fr (some none)) ∧
    dwp P (some id) N body (fun e fr2 h2 => ∃ j, jumpOf e = some j ∧ h2[id]? = some (.loop ps asg body N fr none) ∧ R (.b j.isNone) (h2.set id (.loop ps asg body N fr (some j)))) fr1 (h1.set id (.loop ps asg body N fr none))

theorem dcallV_yld {P : Program} {id N : Nat} {ps : Array Tmp} {asg body : Code} {fr : Fr} {args : List AV} {h : Hp} {R : AV → Hp → Prop} (hid : h[id]? = some (.loop ps asg body N fr (some none))) (hps : ps.toList.all (fun t => decide (t < N)) = true) (hlen : ps.size = args.length)
    (hd : dwp P (some id) N asg (roundQ P id N ps asg body fr R) (putL fr ps.toList args) h) : dcallV P (.yld id) args h R := by
  intro g w vf vs hw hf ha
  simp only [RelV] at hf
  obtain ⟨b, hb, rfl⟩ := hf
  obtain ⟨b', L, hL⟩ := hw.loop hid
  have : b' = b := by have := hL.blk; rw [hb] at this; simpa using this.symm
  subst this
  have hal := ha.len
  have hrun : (do let d ← Deferred.ofValue (.func (.yield b') #[] #[]) vs.toArray; invoke d.target d.args : Sem Next).run P w =
      .ok (.round b' L.fn ((L.params.zip vs.toArray).foldl (fun tmps (t, a) => tmps.setIfInBounds t a) L.tmps) L.assign L.body) w := by
    have hsz : vs.toArray.size = L.params.size := by rw [hL.params]; simp; omega
    simp [Deferred.ofValue, invoke, Instr.yield, Instr.getLoop, getObj, Sem.run, hL.heap, hsz]
  rw [hrun]
  have hzip : (L.params.zip vs.toArray).foldl (fun tmps (x : Tmp × Value) => tmps.setIfInBounds x.1 x.2) L.tmps = (ps.toList.zip vs).foldl (fun tmps (x : Tmp × Value) => tmps.setIfInBounds x.1 x.2) L.tmps := by
    rw [← Array.foldl_toList, hL.params]
    congr 1
    simp
  obtain ⟨hv, hsz⟩ := putL_rel ps.toList args vs fr L.tmps hL.val ha (fun t ht => by
    rw [List.all_eq_true] at hps
    have := hps t ht
    simp only [decide_eq_true_eq] at this
    rw [hL.size]; exact this) (by simpa using hlen)
  refine roundIn_of_wpIn (F := Fence.wide) trivial ?_
  have hfr : FRel w.heap.size g w N (putL fr ps.toList args) { tmps := (L.params.zip vs.toArray).foldl (fun tmps (x : Tmp × Value) => tmps.setIfInBounds x.1 x.2) L.tmps, defers := [] } :=
    ⟨by rw [hzip]; exact hsz.trans hL.size, fun t => by rw [hzip]; exact hv t, trivial⟩
  have := hd w.heap.size g _ w (some b') (Nat.le_refl _) hw hfr hb
  rw [hL.assign, hL.body]
  refine wpIn_mono (F := Fence.wide.inRound b') this ?_
  rintro e a1 w1 ⟨g1, fr1, h1, e1, hw1, hf1, rfl, hid1, hbody⟩
  obtain ⟨b1, L1, hL1⟩ := hw1.loop hid1
  have hbb : b1 = b' := by have := hL1.blk; rw [e1.blk _ _ hb] at this; simpa using this.symm
  subst hbb
  have hst := hL1.st
  obtain ⟨e2, hw2⟩ := loop_turn (st' := none) (L' := { L1 with state := .busy }) hw1 hid1 hL1 rfl rfl rfl rfl rfl
  refine ⟨w1.putObj b1 (.loop { L1 with state := .busy }), ?_, ?_⟩
  · simp [Instr.beginRound, Instr.getLoop, getObj, setObj, Sem.run, hL1.heap, hst.1, World.putObj]
  · have hfb : FRel w.heap.size g1 (w1.putObj b1 (.loop { L1 with state := .busy })) N fr1 a1 := hf1.mono e2
    have := hbody w.heap.size g1 a1 _ (some b1) (Nat.le_trans e1.size e2.size) hw2 hfb (hL1.blk)
    refine wpIn_mono (F := Fence.wide.inRound b1) this ?_
    rintro e a3 w3 ⟨g3, fr3, h3, e3, hw3, hf3, j, hj, hid3, hR⟩
    obtain ⟨b3, L3, hL3⟩ := hw3.loop hid3
    have hbb : b3 = b1 := by have := hL3.blk; rw [e3.blk _ _ hL1.blk] at this; simpa using this.symm
    subst hbb
    have fin : ∀ j : Option Code, R (.b j.isNone) (h3.set id (.loop ps asg body N fr (some j))) → ∃ v w', (Instr.endRound b3 j).run P w3 = .ok v w' ∧ cpost g w R (.returned v) w' := fun j hR => by
      obtain ⟨e4, hw4⟩ := loop_turn (st' := some j) (L' := { L3 with state := if j.isNone then .ready else .done, pending := j }) hw3 hid3 hL3 rfl rfl rfl rfl (by cases j <;> exact ⟨rfl, rfl⟩)
      refine ⟨.bool j.isNone, _, ?_, .bool j.isNone, g3, .b j.isNone, _, rfl, ((e1.trans e2).trans e3).trans e4, hw4, rfl, hR⟩
      simp [Instr.endRound, Instr.getLoop, getObj, setObj, Sem.run, hL3.heap, World.putObj]
    cases e with
    | normal => simp only [jumpOf, Option.some.injEq] at hj; subst hj; exact fin _ hR
    | ret => simp only [jumpOf, Option.some.injEq] at hj; subst hj; exact fin _ hR
    | exit id' => simp only [jumpOf, Option.some.injEq] at hj; subst hj; exact fin _ hR
    | goto l => simp only [jumpOf, Option.some.injEq] at hj; subst hj; exact fin _ hR
    | panic ch => simp [jumpOf] at hj
    | outgrown => simp [jumpOf] at hj

/-- 'for .. := range g': the function is called with a yield of its own; then the pending jump, if there is one. -/
theorem dwp_rangeFunc {P : Program} {rd : Option Nat} {N : Nat} {Q : Post} {fr : Fr} {h : Hp} {gO : Operand} {ps : Array Tmp} {asg body : Code} {f : FuncId} {fs cs : List AV} (hg : evO fr gO = .fn f fs cs) (hc : ∀ as w, (callFunc f as).run P w = .ok (.enter f as) w)
    (hrd : rd = none ∨ ∃ q o, rd = some q ∧ h[q]? = some o ∧ isLoop o)
    (hcall : dcall P f (fs ++ [.yld h.length] ++ cs) (h ++ [.loop ps asg body N fr (some none)]) fun _ h2 => ∃ j, h2[h.length]? = some (.loop ps asg body N fr (some j)) ∧ (match j with
      | none => Q .normal fr (h2.set h.length .dead)
      | some c => dwp P rd N c Q fr (h2.set h.length .dead))) : dwp P rd N (.rangeFunc gO ps asg body) Q fr h := by
  intro S g a w ro hS hw hf hro
  refine wpIn_rangeFunc fun fn _ => ?_
  have hev := hf.eval gO
  rw [hg] at hev
  simp only [RelV] at hev
  obtain ⟨us, xs, hav, hus, hxs⟩ := hev
  -- what lies behind the laying of the record: whether the loop is an outermost one or not
  have key : ∀ (g1 : Gh) (w1 : World) (mark : List Deferred) (df : Nat), Ext g w g1 w1 → WRel g1 h w1 → Marks S g1 w1 (mark ++ a.defers) →
      (∀ L : Loop, L = { state := .ready, pending := none, fn, tmps := a.tmps, params := ps, assign := asg, body, defers := df } → (Instr.enterLoop fn a.tmps ps asg body ro).run P w = .ok (w1.heap.size, mark) (w1.alloc (.loop L))) →
      ∃ (l : Nat) (mark : List Deferred) (w₁ : World) (d : Deferred) (w₁' : World) (f : FuncId) (args : Array Value) (w₂ : World),
      (Instr.enterLoop fn a.tmps ps asg body (fence ro).round).run P w = .ok (l, mark) w₁ ∧
      (resolve a.eval (rangeCall gO l) 0).run P w₁ = .ok d w₁' ∧
      (∀ f', Target.leads P w₁' d.target d.args = some f' → (fence ro).fn f') ∧
      (invoke d.target d.args).run P w₁' = .ok (.enter f args) w₂ ∧
      ((fence ro).depth.isSome = true → 1 ≤ 0) ∧
      CallsIn (fence ro) (0 - 1) P f args w₂ (rangePost (fence ro) 0 P l (dpost S g w N Q) { a with defers := mark ++ a.defers }) := by
    intro g1 w1 mark df e1 hw1 hm hrun
    let L : Loop := { state := .ready, pending := none, fn, tmps := a.tmps, params := ps, assign := asg, body, defers := df }
    obtain ⟨g2, e2, hw2, hb2⟩ := alloc_blk (h' := h ++ [.loop ps asg body N fr (some none)]) hw1 h.length (.loop L) rfl (.inl (by simp)) (push_other h _) (fun g' e hb => by
      simp only [List.getElem?_concat_length]
      exact ⟨_, L, hb, heap_alloc_new _ _, rfl, rfl, rfl, hf.size, fun t => ((hf.val t).mono e1).mono e, rfl, rfl⟩)
    have e12 := e1.trans e2
    have hyl : RelV g2 (w1.alloc (.loop L)) (.yld h.length) (.func (.yield w1.heap.size) #[] #[]) := ⟨_, hb2, rfl⟩
    have hyl1 : RelL g2 (w1.alloc (.loop L)) [.yld h.length] [Value.func (.yield w1.heap.size) #[] #[]] := ⟨_, [], rfl, hyl, rfl⟩
    have hargs : RelL g2 (w1.alloc (.loop L)) (fs ++ [.yld h.length] ++ cs) (us ++ [Value.func (.yield w1.heap.size) #[] #[]] ++ xs) := ((RelL.mono e12 hus).append hyl1).append (RelL.mono e12 hxs)
    have hcl := hcall g2 _ _ hw2 hargs
    rw [hc] at hcl
    refine ⟨w1.heap.size, mark, w1.alloc (.loop L), { target := .fn (.func f) xs.toArray, args := us.toArray ++ #[Value.func (.yield w1.heap.size) #[] #[]] }, w1.alloc (.loop L), f, (us ++ [Value.func (.yield w1.heap.size) #[] #[]] ++ xs).toArray, w1.alloc (.loop L), hrun L rfl, ?_, fun _ _ => trivial, ?_, fun h => by simp [fence, Fence.wide] at h, ?_⟩
    · show (Deferred.ofValue (a.eval gO) (#[Operand.const (Value.func (.yield w1.heap.size) #[] #[])].map a.eval)).run P _ = _
      have hm1 : (#[Operand.const (Value.func (.yield w1.heap.size) #[] #[])].map a.eval) = #[Value.func (.yield w1.heap.size) #[] #[]] := by simp [Act.eval]
      rw [hav, hm1]
      rfl
    · have hx : us.toArray ++ #[Value.func (.yield w1.heap.size) #[] #[]] ++ xs.toArray = (us ++ [Value.func (.yield w1.heap.size) #[] #[]] ++ xs).toArray := by simp
      simp only [invoke]
      rw [hx]
      exact hc _ _
    · refine CallsIn.mono (F := fence ro) hcl ?_
      rintro e w3 ⟨v, g3, av, h3, rfl, e3, hw3, hv3, j, hid3, hj⟩
      obtain ⟨b3, L3, hL3⟩ := hw3.loop hid3
      have hbb : b3 = w1.heap.size := by have := hL3.blk; rw [e3.blk _ _ hb2] at this; simpa using this.symm
      subst hbb
      have hlt : h.length < h3.length := by
        rcases Nat.lt_or_ge h.length h3.length with h5 | h5
        · exact h5
        · simp [List.getElem?_eq_none h5] at hid3
      obtain ⟨e4, hw4⟩ := put_obj (h' := h3.set h.length .dead) (o := .loop { L3 with state := .exhausted }) hw3 hL3.blk hL3.heap rfl rfl (fun _ => by simp only [hlt, List.getElem?_set_self]; trivial) (fun id' hne => by rw [List.getElem?_set_ne (fun h => hne h.symm)])
      have e14 := (e12.trans e3).trans e4
      have hst := hL3.st
      have hpend : L3.pending = j ∧ L3.state ≠ .busy := by
        cases j with
        | none => exact ⟨hst.2, by rw [hst.1]; simp⟩
        | some c => exact ⟨hst.2, by rw [hst.1]; simp⟩
      refine ⟨j, w3.putObj w1.heap.size (.loop { L3 with state := .exhausted }), ?_, ?_⟩
      · have hnb : (L3.state == LoopState.busy) = false := by
          cases hs : L3.state <;> simp_all
        simp [Instr.endLoop, Instr.getLoop, getObj, setObj, Sem.run, hL3.heap, hnb, hpend.1, hpend.2, World.putObj]
      · have hfr4 : FRel S g3 (w3.putObj w1.heap.size (.loop { L3 with state := .exhausted })) N fr { a with defers := mark ++ a.defers } :=
          ⟨hf.size, fun t => (hf.val t).mono e14, (hm.mono ((e2.trans e3).trans e4))⟩
        cases j with
        | none => exact ⟨g3, fr, _, e14, hw4, hfr4, hj⟩
        | some c => exact wpIn_mono (hj S g3 _ _ ro (Nat.le_trans hS e14.size) hw4 hfr4 (hro.mono e14)) fun _ _ _ hd => hd.ext e14
  cases ro with
  | none =>
    obtain ⟨e1, hw1⟩ := alloc_plain hw (.deferred (some [])) rfl
    refine key g (w.alloc (.deferred (some []))) [{ target := .collected w.heap.size, args := #[] }] w.heap.size e1 hw1 ?_ ?_
    · refine ⟨⟨w.heap.size, rfl, hS, hw.basele, heap_alloc_new _ _, fun id hid => ?_, fun d' hd' he => ?_⟩, hf.marks.mono e1⟩
      · have := (hw.blkb _ _ hid).2; omega
      · subst he
        have : ∀ ds : List Deferred, Marks S g w ds → ∀ d ∈ ds, ∃ r, d = ({ target := .collected r, args := #[] } : Deferred) ∧ r < w.heap.size := by
          intro ds
          induction ds with
          | nil => intro _ d hd; simp at hd
          | cons d0 ds ih =>
            rintro ⟨⟨r, hr, _, _, h3, _⟩, h6⟩ d hd
            rcases List.mem_cons.1 hd with rfl | hd
            · exact ⟨r, hr, lt_of_heap h3⟩
            · exact ih h6 d hd
        obtain ⟨r, hr, hlt⟩ := this _ hf.marks _ hd'
        simp at hr
        omega
    · intro L hL
      subst hL
      simp [Instr.enterLoop, newObj, Sem.run]
  | some b =>
    cases rd with
    | none => exact hro.elim
    | some q =>
      rcases hrd with hrd | ⟨q', o, hq, ho, hlo⟩
      · simp at hrd
      · simp only [Option.some.injEq] at hq; subst hq
        cases o <;> try exact hlo.elim
        obtain ⟨b', L0, hL0⟩ := hw.loop ho
        have hbb : b' = b := by have h1 := hL0.blk; have h2 : g.blk q = some b := hro; rw [h2] at h1; simpa using h1.symm
        subst hbb
        refine key g w [] L0.defers (Ext.refl _ _) hw (by simpa using hf.marks) ?_
        intro L hL
        subst hL
        simp [Instr.enterLoop, Instr.getLoop, getObj, newObj, Sem.run, hL0.heap]
end Go.M
