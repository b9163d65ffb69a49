/- The judgements over abstract states, and the rules of control. -/
import Derived.Test.YtjnpfhihefchoaaDoorMj
namespace Go.M
open Go Go.RowKit
set_option linter.unusedVariables false
set_option linter.unusedSimpArgs false

/-- The marks that ranges over functions have laid among the deferred calls. -/
def Marks (S : Nat) (g : Gh) (w : World) : List Deferred → Prop
  | [] => True
  | d :: ds => (∃ r, d = { target := .collected r, args := #[] } ∧ S ≤ r ∧ g.base ≤ r ∧ w.heap[r]? = some (.deferred (some [])) ∧ (∀ id, g.blk id ≠ some r) ∧ ∀ d' ∈ ds, d' ≠ { target := .collected r, args := #[] }) ∧ Marks S g w ds

theorem Marks.mono {S : Nat} {g g' : Gh} {w w' : World} (e : Ext g w g' w') : ∀ {ds : List Deferred}, Marks S g w ds → Marks S g' w' ds
  | [], _ => trivial
  | d :: ds, h => by
    obtain ⟨⟨r, hd, h1, h2, h3, h4, h5⟩, h6⟩ := h
    refine ⟨⟨r, hd, h1, by rw [e.base]; exact h2, e.other r _ h3 rfl h4, fun id hid => ?_, h5⟩, Marks.mono e h6⟩
    rcases e.newblk id r hid with h7 | h7
    · exact h4 id h7
    · have := lt_of_heap h3; omega

structure FRel (S : Nat) (g : Gh) (w : World) (N : Nat) (fr : Fr) (a : Act) : Prop where
  size : a.tmps.size = N
  val : ∀ t, RelV g w (fr t) (a.tmps.getD t undef)
  marks : Marks S g w a.defers

theorem FRel.mono {S : Nat} {g g' : Gh} {w w' : World} {N : Nat} {fr : Fr} {a : Act} (h : FRel S g w N fr a) (e : Ext g w g' w') : FRel S g' w' N fr a :=
  ⟨h.size, fun t => (h.val t).mono e, h.marks.mono e⟩

theorem FRel.eval {S : Nat} {g : Gh} {w : World} {N : Nat} {fr : Fr} {a : Act} (h : FRel S g w N fr a) (x : Operand) : RelV g w (evO fr x) (a.eval x) := evO_rel h.val x

def dstOk (N : Nat) : Option Tmp → Bool
  | some d => decide (d < N)
  | none => true

theorem FRel.put {S : Nat} {g : Gh} {w : World} {N : Nat} {fr : Fr} {a : Act} {v : Value} {av : AV} (h : FRel S g w N fr a) (d : Option Tmp) (hd : dstOk N d = true) (hr : RelV g w av v) : FRel S g w N (fr.put d av) (a.put d v) := by
  cases d with
  | none => exact h
  | some d =>
    simp only [dstOk, decide_eq_true_eq] at hd
    refine ⟨by simp [Act.put, h.size], fun t => ?_, h.marks⟩
    simp only [Fr.put, Act.put]
    by_cases ht : t = d
    · subst ht
      rw [if_pos rfl]
      have : (a.tmps.setIfInBounds t v).getD t undef = v := by
        simp [Array.getD, h.size, hd]
      rw [this]; exact hr
    · rw [if_neg ht]
      have : (a.tmps.setIfInBounds d v).getD t undef = a.tmps.getD t undef := by
        simp only [Array.getD_eq_getD_getElem?]
        rw [Array.getElem?_setIfInBounds_ne (by omega)]
      rw [this]; exact h.val t

def RoundOk (g : Gh) : Option Nat → Option Nat → Prop
  | none, none => True
  | some id, some b => g.blk id = some b
  | _, _ => False

theorem RoundOk.mono {g g' : Gh} {w w' : World} (e : Ext g w g' w') {rd ro : Option Nat} (h : RoundOk g rd ro) : RoundOk g' rd ro := by
  cases rd <;> cases ro <;> first | exact h | exact e.blk _ _ h

def fence (ro : Option Nat) : Fence := { Fence.wide with round := ro }

abbrev Post := Exit → Fr → Hp → Prop

def dpost (S : Nat) (g : Gh) (w : World) (N : Nat) (Q : Post) : Exit → Act → World → Prop := fun e a' w' =>
  ∃ g' fr' h', Ext g w g' w' ∧ WRel g' h' w' ∧ FRel S g' w' N fr' a' ∧ Q e fr' h'

/-- From this abstract state the code comes to an end that Q takes. -/
def dwp (P : Program) (rd : Option Nat) (N : Nat) (c : Code) (Q : Post) (fr : Fr) (h : Hp) : Prop :=
  ∀ (S : Nat) (g : Gh) (a : Act) (w : World) (ro : Option Nat), S ≤ w.heap.size → WRel g h w → FRel S g w N fr a → RoundOk g rd ro →
    c.wpIn (fence ro) 0 P (dpost S g w N Q) a w

def cpost (g : Gh) (w : World) (R : AV → Hp → Prop) : Ending → World → Prop := fun e w' =>
  ∃ v g' av h', e = .returned v ∧ Ext g w g' w' ∧ WRel g' h' w' ∧ RelV g' w' av v ∧ R av h'

/-- What a call comes to, by what it is. -/
def Ran (P : Program) (R : Ending → World → Prop) : Result Next → Prop
  | .ok (.enter f as) w => CallsIn Fence.wide 0 P f as w R
  | .ok (.round l f tmps asg body) w => RoundIn Fence.wide 0 P l f tmps asg body w R
  | .ok (.value v) w => R (.returned v) w
  | _ => False

/-- The call of function f at these arguments, in this abstract heap, returns what R takes. -/
def dcall (P : Program) (f : FuncId) (args : List AV) (h : Hp) (R : AV → Hp → Prop) : Prop :=
  ∀ g w (vs : List Value), WRel g h w → RelL g w args vs → Ran P (cpost g w R) ((callFunc f vs.toArray).run P w)

/-- The call of a function value. -/
def dcallV (P : Program) (fv : AV) (args : List AV) (h : Hp) (R : AV → Hp → Prop) : Prop :=
  ∀ g w vf (vs : List Value), WRel g h w → RelV g w fv vf → RelL g w args vs → Ran P (cpost g w R) ((do let d ← Deferred.ofValue vf vs.toArray; invoke d.target d.args : Sem Next).run P w)

theorem cpost.mono {g : Gh} {w : World} {R R' : AV → Hp → Prop} (hr : ∀ av h, R av h → R' av h) {e : Ending} {w' : World} (h : cpost g w R e w') : cpost g w R' e w' := by
  obtain ⟨v, g', av, h', h1, h2, h3, h4, h5⟩ := h
  exact ⟨v, g', av, h', h1, h2, h3, h4, hr _ _ h5⟩

theorem Ran.mono {P : Program} {R R' : Ending → World → Prop} (hr : ∀ e w, R e w → R' e w) {x : Result Next} (h : Ran P R x) : Ran P R' x := by
  cases x with
  | halt _ _ => exact h
  | ok n w => cases n <;> first | exact h | exact CallsIn.mono h hr | exact RoundIn.mono h hr | exact hr _ _ h

theorem dcall.mono {P : Program} {f : FuncId} {args : List AV} {h : Hp} {R R' : AV → Hp → Prop} (hc : dcall P f args h R) (hr : ∀ av h, R av h → R' av h) : dcall P f args h R' :=
  fun g w vs hw ha => (hc g w vs hw ha).mono fun _ _ => cpost.mono hr

theorem dcallV.mono {P : Program} {f : AV} {args : List AV} {h : Hp} {R R' : AV → Hp → Prop} (hc : dcallV P f args h R) (hr : ∀ av h, R av h → R' av h) : dcallV P f args h R' :=
  fun g w vf vs hw hf ha => (hc g w vf vs hw hf ha).mono fun _ _ => cpost.mono hr

theorem dcallV_fn {P : Program} {f : FuncId} {fs cs args : List AV} {h : Hp} {R : AV → Hp → Prop} (hc : dcall P f (fs ++ args ++ cs) h R) : dcallV P (.fn f fs cs) args h R := by
  intro g w vf vs hw hf ha
  simp only [RelV] at hf
  obtain ⟨us, xs, rfl, h1, h2⟩ := hf
  have := hc g w (us ++ vs ++ xs) hw ((h1.append ha).append h2)
  simp only [Deferred.ofValue, pure_bind, invoke]
  have hx : us.toArray ++ vs.toArray ++ xs.toArray = (us ++ vs ++ xs).toArray := by simp
  rw [hx]
  exact this

theorem dwp.mono {P : Program} {rd : Option Nat} {N : Nat} {c : Code} {Q Q' : Post} {fr : Fr} {h : Hp} (hd : dwp P rd N c Q fr h) (hq : ∀ e fr h, Q e fr h → Q' e fr h) : dwp P rd N c Q' fr h :=
  fun S g a w ro hS hw hf hro => wpIn_mono (hd S g a w ro hS hw hf hro) fun e a' w' ⟨g', fr', h', h1, h2, h3, h4⟩ => ⟨g', fr', h', h1, h2, h3, hq _ _ _ h4⟩

section rules
variable {P : Program} {rd : Option Nat} {N : Nat} {Q : Post} {fr : Fr} {h : Hp}

theorem dpost.now {S : Nat} {g : Gh} {w : World} {e : Exit} {a : Act} (hw : WRel g h w) (hf : FRel S g w N fr a) (hq : Q e fr h) : dpost S g w N Q e a w := ⟨g, fr, h, Ext.refl _ _, hw, hf, hq⟩

theorem dwp_skip (hq : Q .normal fr h) : dwp P rd N .skip Q fr h := fun S g a w ro hS hw hf hro => wpIn_skip (.now hw hf hq)
theorem dwp_label {l : Nat} (hq : Q .normal fr h) : dwp P rd N (.label l) Q fr h := fun S g a w ro hS hw hf hro => wpIn_label (.now hw hf hq)
theorem dwp_exit {id : Nat} (hq : Q (.exit id) fr h) : dwp P rd N (.exit id) Q fr h := fun S g a w ro hS hw hf hro => wpIn_exit (.now hw hf hq)
theorem dwp_goto {l : Nat} (hq : Q (.goto l) fr h) : dwp P rd N (.goto l) Q fr h := fun S g a w ro hS hw hf hro => wpIn_goto (.now hw hf hq)
theorem dwp_ret (hq : Q .ret fr h) : dwp P rd N .ret Q fr h := fun S g a w ro hS hw hf hro => wpIn_ret (.now hw hf hq)

def thenQ (K : Fr → Hp → Prop) (Q : Post) : Post
  | .normal, fr, h => K fr h
  | e, fr, h => Q e fr h

theorem dpost.ext {S : Nat} {g g' : Gh} {w w' : World} (e : Ext g w g' w') {x : Exit} {a : Act} {w2 : World} (hd : dpost S g' w' N Q x a w2) : dpost S g w N Q x a w2 := by
  obtain ⟨g2, fr2, h2, h3, h4⟩ := hd
  exact ⟨g2, fr2, h2, e.trans h3, h4⟩

theorem dwp_seq {x y : Code} (hx : dwp P rd N x (thenQ (dwp P rd N y Q) Q) fr h) : dwp P rd N (.seq x y) Q fr h := by
  intro S g a w ro hS hw hf hro
  refine wpIn_seq (wpIn_mono (hx S g a w ro hS hw hf hro) ?_)
  rintro e a' w' ⟨g', fr', h', h1, h2, h3, h4⟩
  cases e with
  | normal => exact wpIn_mono (h4 S g' a' w' ro (Nat.le_trans hS h1.size) h2 h3 (hro.mono h1)) fun _ _ _ hd => hd.ext h1
  | exit id => exact ⟨g', fr', h', h1, h2, h3, h4⟩
  | goto l => exact ⟨g', fr', h', h1, h2, h3, h4⟩
  | ret => exact ⟨g', fr', h', h1, h2, h3, h4⟩
  | panic ch => exact ⟨g', fr', h', h1, h2, h3, h4⟩
  | outgrown => exact ⟨g', fr', h', h1, h2, h3, h4⟩

theorem dwp_cond {c : Operand} {x y : Code} {b : Bool} (hc : evO fr c = .b b) (hd : dwp P rd N (if b = true then x else y) Q fr h) : dwp P rd N (.cond c x y) Q fr h := by
  intro S g a w ro hS hw hf hro
  have := hf.eval c
  rw [hc] at this
  exact wpIn_cond (rel_b this) (hd S g a w ro hS hw hf hro)

def inBlockQ (id : Nat) (Q : Post) : Post
  | .exit id', fr, h => if id' = id then Q .normal fr h else Q (.exit id') fr h
  | e, fr, h => Q e fr h

theorem dwp_block {id : Nat} {c : Code} (hd : dwp P rd N c (inBlockQ id Q) fr h) : dwp P rd N (.block id c) Q fr h := by
  intro S g a w ro hS hw hf hro
  refine wpIn_block (wpIn_mono (hd S g a w ro hS hw hf hro) ?_)
  rintro e a' w' ⟨g', fr', h', h1, h2, h3, h4⟩
  cases e with
  | normal => exact ⟨g', fr', h', h1, h2, h3, h4⟩
  | exit id' =>
    simp only [Exit.inBlock]
    simp only [inBlockQ] at h4
    split at h4
    · rename_i hid; rw [if_pos hid]; exact ⟨g', fr', h', h1, h2, h3, h4⟩
    · rename_i hid; rw [if_neg hid]; exact ⟨g', fr', h', h1, h2, h3, h4⟩
  | goto l => exact ⟨g', fr', h', h1, h2, h3, h4⟩
  | ret => exact ⟨g', fr', h', h1, h2, h3, h4⟩
  | panic ch => exact ⟨g', fr', h', h1, h2, h3, h4⟩
  | outgrown => exact ⟨g', fr', h', h1, h2, h3, h4⟩

/-- A scope that nothing jumps within. -/
def noGotoQ (Q : Post) : Post
  | .goto _, _, _ => False
  | e, fr, h => Q e fr h

theorem stepR_scope {b : Frame} {a : Act} {k : List Item} {cs : List Frame} {w : World} {c : Code} : step P (lone (b.atR a (.code (.scope c) :: k)) cs w) = .next (lone (b.atR a (.code c :: .inScope c :: k)) cs w) :=
  step_lone_go (by simp [stepG, stepG.exec, Frame.atR])
theorem stepR_inScope {b : Frame} {a : Act} {k : List Item} {cs : List Frame} {w : World} {c : Code} : step P (lone (b.atR a (.inScope c :: k)) cs w) = .next (lone (b.atR a k) cs w) :=
  step_lone_go (by simp [stepG, stepG.exec, Frame.atR])

/-- No jump to a label comes out. -/
def noGotoX (Q : Exit → Act → World → Prop) : Exit → Act → World → Prop
  | .goto _, _, _ => False
  | e, a, w => Q e a w

theorem wpIn_scope {F : Fence} {n : Nat} {Q : Exit → Act → World → Prop} {a : Act} {w : World} {c : Code} (hd : c.wpIn F n P (noGotoX Q) a w) : (Code.scope c).wpIn F n P Q a w := by
  intro b k cs hro hb hr
  have h0 : (lone (b.atR a (.code (.scope c) :: k)) cs w).fenced P F := fenced_calm (fr := b.atR a (.code (.scope c) :: k)) hb hr rfl
  obtain ⟨e, a₁, w₁, hq, harr⟩ := hd b (.inScope c :: k) cs hro hb hr
  cases e with
  | normal => exact ⟨.normal, a₁, w₁, hq, .head h0 stepR_scope (StepsIn.trans harr (.one (fenced_calm (fr := b.atR a₁ (.inScope c :: k)) hb hr rfl) stepR_inScope))⟩
  | exit id => exact ⟨.exit id, a₁, w₁, hq, fun k' hk => .head h0 stepR_scope (harr.1 k' (by simpa [exitTo] using hk)),
      fun hr' hk => let ⟨k₁, h1, h2⟩ := harr.2 hr' (by simpa [exitTo] using hk); ⟨k₁, h1, .head h0 stepR_scope h2⟩⟩
  | goto l => exact hq.elim
  | ret => exact ⟨.ret, a₁, w₁, hq, ArrivesIn.of_steps (e := .ret) (k := k) (.one h0 stepR_scope) harr⟩
  | panic ch => exact ⟨.panic ch, a₁, w₁, hq, ArrivesIn.of_steps (e := .panic ch) (k := k) (.one h0 stepR_scope) harr⟩
  | outgrown => exact ⟨.outgrown, a₁, w₁, hq, ArrivesIn.of_steps (e := .outgrown) (k := k) (.one h0 stepR_scope) harr⟩

theorem dwp_scope {c : Code} (hd : dwp P rd N c (noGotoQ Q) fr h) : dwp P rd N (.scope c) Q fr h := by
  intro S g a w ro hS hw hf hro
  refine wpIn_scope (wpIn_mono (hd S g a w ro hS hw hf hro) ?_)
  rintro e a' w' ⟨g', fr', h', h1, h2, h3, h4⟩
  cases e with
  | goto l => exact h4.elim
  | normal => exact ⟨g', fr', h', h1, h2, h3, h4⟩
  | exit id => exact ⟨g', fr', h', h1, h2, h3, h4⟩
  | ret => exact ⟨g', fr', h', h1, h2, h3, h4⟩
  | panic ch => exact ⟨g', fr', h', h1, h2, h3, h4⟩
  | outgrown => exact ⟨g', fr', h', h1, h2, h3, h4⟩

theorem roundsIn_le {F : Fence} {n : Nat} {c : Code} {Q : Exit → Act → World → Prop} : ∀ {m m' : Nat} {a : Act} {w : World}, m ≤ m' → Code.roundsIn F n P c Q m a w → Code.roundsIn F n P c Q m' a w
  | 0, _, a, w, _, hd => hd.elim
  | m + 1, 0, a, w, hle, _ => by omega
  | m + 1, m' + 1, a, w, hle, hd => by
    refine wpIn_mono hd fun e a' w' hq => ?_
    cases e <;> first | exact roundsIn_le (by omega) hq | exact hq

/-- A loop: what holds at its head, and a number that goes down. -/
theorem dwp_loop {c : Code} (I : Nat → Fr → Hp → Prop) (n : Nat) (h0 : I n fr h) (round : ∀ n fr h, I n fr h → dwp P rd N c (thenQ (fun fr' h' => ∃ m, m < n ∧ I m fr' h') Q) fr h) : dwp P rd N (.loop c) Q fr h := by
  intro S g a w ro hS hw hf hro
  refine wpIn_loop_rounds (n + 1) ?_
  have key : ∀ n : Nat, ∀ (fr : Fr) (h : Hp) (g1 : Gh) (a : Act) (w1 : World), I n fr h → Ext g w g1 w1 → WRel g1 h w1 → FRel S g1 w1 N fr a → Code.roundsIn (fence ro) 0 P c (dpost S g w N Q) (n + 1) a w1 := by
    intro n
    induction n using Nat.strongRecOn with
    | _ n ih =>
      intro fr h g1 a w1 hI e1 hw1 hf1
      rw [roundsIn_succ]
      refine wpIn_mono (round n fr h hI S g1 a w1 ro (Nat.le_trans hS e1.size) hw1 hf1 (hro.mono e1)) ?_
      rintro e a' w' ⟨g', fr', h', h1, h2, h3, h4⟩
      cases e with
      | normal =>
        obtain ⟨m, hm, hI'⟩ := h4
        exact roundsIn_le (by omega) (ih m hm fr' h' g' a' w' hI' (e1.trans h1) h2 h3)
      | exit id => exact ⟨g', fr', h', e1.trans h1, h2, h3, h4⟩
      | goto l => exact ⟨g', fr', h', e1.trans h1, h2, h3, h4⟩
      | ret => exact ⟨g', fr', h', e1.trans h1, h2, h3, h4⟩
      | panic ch => exact ⟨g', fr', h', e1.trans h1, h2, h3, h4⟩
      | outgrown => exact ⟨g', fr', h', e1.trans h1, h2, h3, h4⟩
  exact key n fr h g a w h0 (Ext.refl _ _) hw hf
end rules
end Go.M
