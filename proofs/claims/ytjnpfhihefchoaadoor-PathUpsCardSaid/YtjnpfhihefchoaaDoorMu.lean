/- Regions that draw their order: the walk in the text's order stands for all. -/
import Derived.Test.YtjnpfhihefchoaaDoorMs
namespace Go.M
open Go Go.RowKit
set_option linter.unusedVariables false
set_option linter.unusedSimpArgs false
set_option linter.unnecessarySimpa false

/-- The heap that a quiet operation looks at; 1000: none at all. -/
def hsAt (hs : List Hp) (lo : Nat) : Option Hp := if lo = 1000 then some [] else hs[lo]?
def hpAt (H : Nat → Hp) (lo : Nat) : Hp := if lo = 1000 then [] else H lo

/-- A region's operations in the text's order; hs: the heaps of the chain so far, the eldest first. -/
def qops (P : Program) (N : Nat) (all : List Oper) (Q : Fr → Hp → Prop) : Plan → List Oper → Fr → List Hp → Prop
  | _, [], fr, hs => Q fr (hs.getLastD [])
  | pl, o :: rest, fr, hs =>
    if dstOk N o.dst = true then match guardE N all fr o with
    | some gs => match pl.headD (some 0) with
      | some lo => match hsAt hs lo with
        | some h => match opW P h (fun x => sts gs (evO fr x)) o.op with
          | some av => qops P N all Q pl.tail rest (fr.put o.dst (gds gs av)) hs
          | none => match callV (fun x => sts gs (evO fr x)) o.op with
            | some (fv, as) => ∃ av, (gs.all id = true → ∀ l, dcallV P fv as (h ++ l) fun av' h' => av' = av ∧ h' = h ++ l) ∧
                qops P N all Q pl.tail rest (fr.put o.dst (gds gs av)) hs
            | none => gs.all id = false ∧ qops P N all Q pl.tail rest (fr.put o.dst (gds gs .any)) hs
        | none => False
      | none => if gs = [] then
          match opE P (hs.getLastD []) (evO fr) o.op with
          | some (av, h') => qops P N all Q pl.tail rest (fr.put o.dst av) (hs ++ [h'])
          | none => match callV (evO fr) o.op with
            | some (fv, as) => ∃ av h', dcallV P fv as (hs.getLastD []) (fun av' h'' => av' = av ∧ h'' = h') ∧ qops P N all Q pl.tail rest (fr.put o.dst av) (hs ++ [h'])
            | none => False
          else False
    | none => False
    else False

/-- What one operation is known to do. -/
def StepAt (P : Program) (N : Nat) (all : List Oper) (plk : Option Nat) (o : Oper) (fr : Fr) (H : Nat → Hp) (cur : Nat) (av : AV) : Prop :=
  dstOk N o.dst = true ∧ ∃ gs, guardE N all fr o = some gs ∧ match plk with
    | some lo => ∃ av0, av = gds gs av0 ∧ (opW P (hpAt H lo) (fun x => sts gs (evO fr x)) o.op = some av0 ∨ (∃ f as, callOf o.op = some (f, as) ∧
        (gs.all id = true → ∀ l, dcallV P (sts gs (evO fr f)) (as.map fun x => sts gs (evO fr x)) (hpAt H lo ++ l) fun av' h' => av' = av0 ∧ h' = hpAt H lo ++ l)) ∨ gs.all id = false)
    | none => gs = [] ∧ (opE P (H cur) (evO fr) o.op = some (av, H (cur + 1)) ∨ ∃ f as, opE P (H cur) (evO fr) o.op = none ∧ callOf o.op = some (f, as) ∧ dcallV P (evO fr f) (as.map (evO fr)) (H cur) fun av' h'' => av' = av ∧ h'' = H (cur + 1))

def frs (fr : Fr) : List Oper → (Nat → AV) → Nat → Fr
  | _, _, 0 => fr
  | [], _, _ + 1 => fr
  | o :: rest, val, i + 1 => frs (fr.put o.dst (val 0)) rest (fun j => val (j + 1)) i

theorem Plan.at_tail (pl : Plan) (i : Nat) : pl.at (i + 1) = Plan.at pl.tail i := by
  cases pl <;> simp [Plan.at, List.getD]
theorem Plan.at_zero (pl : Plan) : pl.at 0 = pl.headD (some 0) := by
  cases pl <;> simp [Plan.at, List.getD]
theorem Plan.cur_tail (pl : Plan) : ∀ (i : Nat), pl.cur (i + 1) = (if pl.ch 0 then 1 else 0) + Plan.cur pl.tail i
  | 0 => by simp [Plan.cur]
  | i + 1 => by
    have e : pl.ch (i + 1) = Plan.ch pl.tail i := by simp only [Plan.ch, Plan.at_tail]
    rw [Plan.cur, Plan.cur_tail pl i, e, Plan.cur]
    omega

theorem getLastD_eq (hs : List Hp) (hne : hs ≠ []) : hs.getLastD [] = hs.getD (hs.length - 1) [] := by
  rw [List.getLastD_eq_getLast?, List.getLast?_eq_getElem?, List.getD_eq_getElem?_getD]

theorem qops_data {P : Program} {N : Nat} {all : List Oper} {Q : Fr → Hp → Prop} : ∀ (rest : List Oper) (pl : Plan) (fr : Fr) (hs : List Hp), hs ≠ [] → qops P N all Q pl rest fr hs →
    ∃ (val : Nat → AV) (H : Nat → Hp), (∀ i, i < hs.length → H i = hs.getD i []) ∧
      (∀ i o, rest[i]? = some o → StepAt P N all (pl.at i) o (frs fr rest val i) H (hs.length - 1 + pl.cur i) (val i)) ∧
      (∀ i o, rest[i]? = some o → ∀ lo, pl.at i = some lo → lo ≠ 1000 → lo < hs.length + pl.cur i) ∧
      Q (frs fr rest val rest.length) (H (hs.length - 1 + pl.cur rest.length))
  | [], pl, fr, hs, hne, h => by
    refine ⟨fun _ => .any, fun i => hs.getD i [], fun i _ => rfl, fun i o hi => by simp at hi, fun i o hi => by simp at hi, ?_⟩
    simp only [qops] at h
    rw [getLastD_eq hs hne] at h
    simpa [frs, Plan.cur] using h
  | o :: rest, pl, fr, hs, hne, h => by
    have hpos : 0 < hs.length := List.length_pos_iff.2 hne
    -- the step of a quiet operation
    have quiet : ∀ (av : AV) (lo : Nat), pl.headD (some 0) = some lo → (lo ≠ 1000 → lo < hs.length) → (∀ H : Nat → Hp, (lo ≠ 1000 → H lo = hs.getD lo []) → ∀ cur, StepAt P N all (some lo) o fr H cur av) → qops P N all Q pl.tail rest (fr.put o.dst av) hs →
        ∃ (val : Nat → AV) (H : Nat → Hp), (∀ i, i < hs.length → H i = hs.getD i []) ∧
          (∀ i o', (o :: rest)[i]? = some o' → StepAt P N all (pl.at i) o' (frs fr (o :: rest) val i) H (hs.length - 1 + pl.cur i) (val i)) ∧
          (∀ i o', (o :: rest)[i]? = some o' → ∀ lo, pl.at i = some lo → lo ≠ 1000 → lo < hs.length + pl.cur i) ∧
          Q (frs fr (o :: rest) val (o :: rest).length) (H (hs.length - 1 + pl.cur (o :: rest).length)) := by
      intro av lo hp hlo hstep hq
      obtain ⟨val, H, h1, h2, h3, h4⟩ := qops_data rest pl.tail (fr.put o.dst av) hs hne hq
      have h0 : pl.ch 0 = false := by simp only [Plan.ch, Plan.at_zero]; rw [hp]; rfl
      refine ⟨fun j => match j with | 0 => av | j + 1 => val j, H, h1, fun i o' hi => ?_, fun i o' hi lo' hl hx => ?_, ?_⟩
      · cases i with
        | zero =>
          simp only [List.getElem?_cons_zero, Option.some.injEq] at hi; subst hi
          rw [Plan.at_zero, hp]
          exact hstep H (fun hx => h1 lo (hlo hx)) _
        | succ i =>
          simp only [List.getElem?_cons_succ] at hi
          have := h2 i o' hi
          rw [Plan.at_tail, Plan.cur_tail, h0]
          simpa [frs] using this
      · cases i with
        | zero => rw [Plan.at_zero, hp] at hl; simp only [Option.some.injEq] at hl; subst hl; simp [Plan.cur]; exact hlo hx
        | succ i =>
          simp only [List.getElem?_cons_succ] at hi
          rw [Plan.at_tail] at hl
          have := h3 i o' hi lo' hl hx
          rw [Plan.cur_tail, h0]; simpa using this
      · simp only [List.length_cons, frs]
        rw [Plan.cur_tail, h0]
        simpa using h4
    have chain : ∀ (av : AV) (h' : Hp), pl.headD (some 0) = none → (∀ (H : Nat → Hp) cur, H cur = hs.getLastD [] → H (cur + 1) = h' → StepAt P N all none o fr H cur av) → qops P N all Q pl.tail rest (fr.put o.dst av) (hs ++ [h']) →
        ∃ (val : Nat → AV) (H : Nat → Hp), (∀ i, i < hs.length → H i = hs.getD i []) ∧
          (∀ i o', (o :: rest)[i]? = some o' → StepAt P N all (pl.at i) o' (frs fr (o :: rest) val i) H (hs.length - 1 + pl.cur i) (val i)) ∧
          (∀ i o', (o :: rest)[i]? = some o' → ∀ lo, pl.at i = some lo → lo ≠ 1000 → lo < hs.length + pl.cur i) ∧
          Q (frs fr (o :: rest) val (o :: rest).length) (H (hs.length - 1 + pl.cur (o :: rest).length)) := by
      intro av h' hp hstep hq
      obtain ⟨val, H, h1, h2, h3, h4⟩ := qops_data rest pl.tail (fr.put o.dst av) (hs ++ [h']) (by simp) hq
      have h0 : pl.ch 0 = true := by simp only [Plan.ch, Plan.at_zero]; rw [hp]; rfl
      have hH : ∀ i, i < hs.length → H i = hs.getD i [] := fun i hi => by
        rw [h1 i (by simp; omega), List.getD_eq_getElem?_getD, List.getElem?_append_left hi, ← List.getD_eq_getElem?_getD]
      refine ⟨fun j => match j with | 0 => av | j + 1 => val j, H, hH, fun i o' hi => ?_, fun i o' hi lo' hl hx => ?_, ?_⟩
      · cases i with
        | zero =>
          simp only [List.getElem?_cons_zero, Option.some.injEq] at hi; subst hi
          rw [Plan.at_zero, hp]
          refine hstep H _ ?_ ?_
          · rw [getLastD_eq hs hne]; simp only [Plan.cur, Nat.add_zero]; exact hH _ (by omega)
          · simp only [Plan.cur, Nat.add_zero]
            rw [Nat.sub_add_cancel hpos, h1 _ (by simp)]
            simp
        | succ i =>
          simp only [List.getElem?_cons_succ] at hi
          have := h2 i o' hi
          rw [Plan.at_tail, Plan.cur_tail, h0]
          have e : hs.length - 1 + (1 + Plan.cur pl.tail i) = (hs ++ [h']).length - 1 + Plan.cur pl.tail i := by simp; omega
          simp only [if_true, e]
          simpa [frs] using this
      · cases i with
        | zero => rw [Plan.at_zero, hp] at hl; cases hl
        | succ i =>
          simp only [List.getElem?_cons_succ] at hi
          rw [Plan.at_tail] at hl
          have := h3 i o' hi lo' hl hx
          rw [Plan.cur_tail, h0]; simp at this ⊢; omega
      · simp only [List.length_cons, frs]
        rw [Plan.cur_tail, h0]
        have e : hs.length - 1 + (1 + Plan.cur pl.tail rest.length) = (hs ++ [h']).length - 1 + Plan.cur pl.tail rest.length := by simp; omega
        simp only [if_true, e]
        exact h4
    simp only [qops] at h
    split at h
    case isFalse => exact h.elim
    rename_i hdst
    split at h
    case h_2 => exact h.elim
    rename_i gs hg
    split at h
    · rename_i lo hp
      split at h
      case h_2 => exact h.elim
      rename_i hh hlo
      have hlt : lo ≠ 1000 → lo < hs.length := fun hx => by
        rw [hsAt, if_neg hx] at hlo
        rcases Nat.lt_or_ge lo hs.length with h1 | h1
        · exact h1
        · rw [List.getElem?_eq_none h1] at hlo; cases hlo
      have hD : ∀ H : Nat → Hp, (lo ≠ 1000 → H lo = hs.getD lo []) → hpAt H lo = hh := fun H hH => by
        by_cases hx : lo = 1000
        · rw [hsAt, if_pos hx] at hlo; rw [hpAt, if_pos hx]; exact Option.some.inj hlo
        · rw [hsAt, if_neg hx] at hlo; rw [hpAt, if_neg hx, hH hx, List.getD_eq_getElem?_getD, hlo]; rfl
      split at h
      · rename_i av hw
        refine quiet _ lo hp hlt (fun H hH cur => ⟨hdst, gs, hg, av, rfl, .inl ?_⟩) h
        rw [hD H hH]; exact hw
      · split at h
        · rename_i fv as' hcv
          obtain ⟨f, as, hc, rfl, rfl⟩ := callV_of hcv
          obtain ⟨av, h1, h2⟩ := h
          refine quiet _ lo hp hlt (fun H hH cur => ⟨hdst, gs, hg, av, rfl, .inr (.inl ⟨f, as, hc, ?_⟩)⟩) h2
          rw [hD H hH]; exact h1
        · exact quiet _ lo hp hlt (fun H hH cur => ⟨hdst, gs, hg, .any, rfl, .inr (.inr h.1)⟩) h.2
    · rename_i hp
      split at h
      case isFalse => exact h.elim
      rename_i hgs
      split at h
      · rename_i av h' he
        exact chain av h' hp (fun H cur h1 h2 => ⟨hdst, gs, hg, hgs, .inl (by rw [h1, h2]; exact he)⟩) h
      · rename_i hnone
        split at h
        · rename_i fv as' hcv
          obtain ⟨f, as, hc, rfl, rfl⟩ := callV_of hcv
          obtain ⟨av, h', h1, h2⟩ := h
          exact chain av h' hp (fun H cur e1 e2 => ⟨hdst, gs, hg, hgs, .inr ⟨f, as, by rw [e1]; exact hnone, hc, by rw [e1, e2]; exact h1⟩⟩) h2
        · exact h.elim

/-! ### Frames of what is listed -/
def frL (ops : Array Oper) (val : Nat → AV) (fr : Fr) (L : Nat → Bool) : Nat → Fr
  | 0 => fr
  | k + 1 => match ops[k]? with
    | some o => if L k = true then (frL ops val fr L k).put o.dst (val k) else frL ops val fr L k
    | none => frL ops val fr L k

theorem frL_frs (ops : Array Oper) (val : Nat → AV) (fr : Fr) (i : Nat) (hi : i ≤ ops.size) : frL ops val fr (fun _ => true) i = frs fr ops.toList val i := by
  have gen : ∀ (rest : List Oper) (fr : Fr) (val : Nat → AV) (i : Nat) (o : Oper), rest[i]? = some o → frs fr rest val (i + 1) = (frs fr rest val i).put o.dst (val i) := by
    intro rest
    induction rest with
    | nil => intro fr val i o h; simp at h
    | cons o' rest ih =>
      intro fr val i o h
      cases i with
      | zero => simp at h; subst h; cases rest <;> simp [frs]
      | succ i => simp only [List.getElem?_cons_succ] at h; have := ih (fr.put o'.dst (val 0)) (fun j => val (j + 1)) i o h; simpa only [frs] using this
  induction i with
  | zero => cases ops.toList <;> simp [frL, frs]
  | succ i ih =>
    have ho : ops[i]? = some ops[i] := Array.getElem?_eq_getElem (by omega)
    rw [frL, ho, gen ops.toList fr val i ops[i] (by simpa using ho), ih (by omega)]
    simp

theorem put_other {fr : Fr} {d : Option Tmp} {v : AV} {t : Tmp} (h : d ≠ some t) : fr.put d v t = fr t := by
  cases d with
  | none => rfl
  | some u => simp only [Fr.put]; rw [if_neg]; intro e; exact h (by rw [e])

theorem frL_look {ops : Array Oper} {val : Nat → AV} {fr : Fr} {L L' : Nat → Bool} {i : Nat} {t : Tmp} (h : ∀ j o, ops[j]? = some o → o.dst = some t → (L j = true ∧ L' j = true ∧ j < i) ∨ (i ≤ j ∧ L j = false)) : ∀ (k : Nat), i ≤ k → frL ops val fr L k t = frL ops val fr L' i t := by
  have low : ∀ k, k ≤ i → frL ops val fr L k t = frL ops val fr L' k t := by
    intro k
    induction k with
    | zero => intro _; rfl
    | succ k ih =>
      intro hk
      simp only [frL]
      cases ho : ops[k]? with
      | none => exact ih (by omega)
      | some o =>
        by_cases hd : o.dst = some t
        · rcases h k o ho hd with ⟨h1, h2, _⟩ | ⟨h1, _⟩
          · simp only [h1, h2, if_true, hd, Fr.put]
          · omega
        · have a1 : ∀ (c : Bool) (X : Fr), (if c = true then X.put o.dst (val k) else X) t = X t := fun c X => by split; exact put_other hd; rfl
          simp only [a1]
          exact ih (by omega)
  intro k hk
  induction k with
  | zero => have : i = 0 := by omega
            subst this; rfl
  | succ k ih =>
    rcases Nat.lt_or_ge i (k + 1) with h1 | h1
    · simp only [frL]
      cases ho : ops[k]? with
      | none => exact ih (by omega)
      | some o =>
        by_cases hd : o.dst = some t
        · rcases h k o ho hd with ⟨_, _, h2⟩ | ⟨_, h2⟩
          · omega
          · simp only [h2, Bool.false_eq_true, if_false]
            exact ih (by omega)
        · have a1 : ∀ (c : Bool) (X : Fr), (if c = true then X.put o.dst (val k) else X) t = X t := fun c X => by split; exact put_other hd; rfl
          simp only [a1]
          exact ih (by omega)
    · have : i = k + 1 := by omega
      subst this; exact low _ (Nat.le_refl _)

theorem put_comm {fr : Fr} {d d' : Option Tmp} {v v' : AV} (h : ∀ t, d = some t → d' ≠ some t) : (fr.put d v).put d' v' = (fr.put d' v').put d v := by
  cases d with
  | none => rfl
  | some t =>
    cases d' with
    | none => rfl
    | some t' =>
      have hne : t' ≠ t := fun e => h t rfl (by rw [e])
      funext u
      simp only [Fr.put]
      by_cases h1 : u = t'
      · subst h1; simp [hne]
      · simp [h1]

theorem frL_add {ops : Array Oper} {val : Nat → AV} {fr : Fr} {L : Nat → Bool} {i : Nat} {o : Oper} (ho : ops[i]? = some o) (hL : L i = false)
    (hap : ∀ j oj t, ops[j]? = some oj → i < j → o.dst = some t → oj.dst ≠ some t) : ∀ (k : Nat), i < k → frL ops val fr (fun j => j == i || L j) k = (frL ops val fr L k).put o.dst (val i) := by
  have low : ∀ k, k ≤ i → frL ops val fr (fun j => j == i || L j) k = frL ops val fr L k := by
    intro k
    induction k with
    | zero => intro _; rfl
    | succ k ih =>
      intro hk
      have : (k == i) = false := by simp; omega
      simp only [frL, this, Bool.false_or, ih (by omega)]
  intro k
  induction k with
  | zero => intro h; omega
  | succ k ih =>
    intro hk
    rcases Nat.lt_or_ge i k with h1 | h1
    · have hne : (k == i) = false := by simp; omega
      simp only [frL, hne, Bool.false_or, ih h1]
      cases hk' : ops[k]? with
      | none => rfl
      | some ok =>
        simp only
        split
        · exact put_comm fun t ht => hap k ok t hk' h1 ht
        · rfl
    · have : k = i := by omega
      subst this
      simp only [frL, ho, beq_self_eq_true, Bool.true_or, if_true, low k (Nat.le_refl _), hL, Bool.false_eq_true, if_false]

theorem frL_all {ops : Array Oper} {val : Nat → AV} {fr : Fr} {L : Nat → Bool} : ∀ (k : Nat), (∀ j, j < k → L j = true) → frL ops val fr L k = frL ops val fr (fun _ => true) k
  | 0, _ => rfl
  | k + 1, h => by simp only [frL, frL_all k (fun j hj => h j (by omega)), h k (by omega)]

theorem frL_none {ops : Array Oper} {val : Nat → AV} {fr : Fr} {L : Nat → Bool} : ∀ (k : Nat), (∀ j, j < k → L j = false) → frL ops val fr L k = fr
  | 0, _ => rfl
  | k + 1, h => by
    simp only [frL, frL_none k (fun j hj => h j (by omega)), h k (by omega)]
    cases ops[k]? <;> simp

/-! ### By what is looked at, again -/
theorem evO_congr {fr fr' : Fr} {ops : Array Oper} {o : Oper} (h : ∀ t ∈ o.looksAt ops, fr t = fr' t) : ∀ x ∈ o.op.operands, evO fr x = evO fr' x := by
  intro x hx
  cases x with
  | tmp t => exact h t (List.mem_append_left _ (List.mem_filterMap.2 ⟨.tmp t, by simpa using hx, rfl⟩))
  | _ => rfl

theorem guardE_congr {N : Nat} {ops : Array Oper} {fr fr' : Fr} {o : Oper} (h : ∀ t ∈ o.looksAt ops, fr t = fr' t) : guardE N ops.toList fr o = guardE N ops.toList fr' o := by
  unfold guardE
  cases hg : o.guard with
  | none => rfl
  | some gw =>
    obtain ⟨j, want⟩ := gw
    simp only
    cases hj : ops.toList[j]? with
    | none => rfl
    | some oj =>
      simp only
      cases hd : oj.dst with
      | none => rfl
      | some d =>
        simp only
        have : fr d = fr' d := h d (List.mem_append_right _ (by
          have hj' : ops[j]? = some oj := by simpa using hj
          simp [hg, hj', hd]))
        rw [this]

theorem callOf_mem {o : Op} {f : Operand} {as : List Operand} (h : callOf o = some (f, as)) : f ∈ o.operands ∧ ∀ x ∈ as, x ∈ o.operands := by
  unfold callOf at h
  split at h
  · simp only [Option.some.injEq, Prod.mk.injEq] at h
    obtain ⟨rfl, rfl⟩ := h
    exact ⟨by simp [Op.operands, Call.operands], fun x hx => by simp [Op.operands, Call.operands]; right; simpa using hx⟩
  · cases h

theorem StepAt.congr {P : Program} {N : Nat} {ops : Array Oper} {plk : Option Nat} {o : Oper} {fr fr' : Fr} {H : Nat → Hp} {cur : Nat} {av : AV} (hl : ∀ t ∈ o.looksAt ops, fr t = fr' t)
    (h : StepAt P N ops.toList plk o fr H cur av) : StepAt P N ops.toList plk o fr' H cur av := by
  obtain ⟨hd, gs, hg, h⟩ := h
  have hev := evO_congr hl
  refine ⟨hd, gs, by rw [← guardE_congr hl]; exact hg, ?_⟩
  cases plk with
  | some lo =>
    obtain ⟨av0, e, h⟩ := h
    refine ⟨av0, e, ?_⟩
    rcases h with h | ⟨f, as, hc, h⟩ | h
    · left; rw [← h]; exact opW_congr fun x hx => by simp only [hev x hx]
    rotate_left
    · exact .inr (.inr h)
    · right; left
      refine ⟨f, as, hc, fun hgs l => ?_⟩
      have := h hgs l
      rw [hev f (callOf_mem hc).1] at this
      rw [show (as.map fun x => sts gs (evO fr' x)) = as.map fun x => sts gs (evO fr x) from List.map_congr_left fun x hx => by rw [hev x ((callOf_mem hc).2 x hx)]]
      exact this
  | none =>
    obtain ⟨hgs, h⟩ := h
    refine ⟨hgs, ?_⟩
    rcases h with h | ⟨f, as, hn, hc, h⟩
    · left; rw [← h]; exact opE_congr fun x hx => (hev x hx).symm
    · right
      refine ⟨f, as, by rw [← hn]; exact opE_congr fun x hx => (hev x hx).symm, hc, ?_⟩
      rw [← hev f (callOf_mem hc).1, show as.map (evO fr') = as.map (evO fr) from List.map_congr_left fun x hx => (hev x ((callOf_mem hc).2 x hx)).symm]
      exact h

/-! ### The rule -/
def inL (listed : Array Bool) (j : Nat) : Bool := listed.getD j false

structure Drawn (P : Program) (S : Nat) (g0 : Gh) (w0 : World) (N : Nat) (ops : Array Oper) (pl : Plan) (val : Nat → AV) (H : Nat → Hp) (fr : Fr) (listed : Array Bool) (a : Act) (w : World) : Prop where
  size : listed.size = ops.size
  closed : Closed ops.toList (inL listed)
  rel : ∃ g m, m ≤ pl.cur ops.size ∧ (∀ j, j < ops.size → pl.ch j = true → (inL listed j = true ↔ pl.cur j < m)) ∧ Ext g0 w0 g w ∧ WRel g (H m) w ∧ FRel S g w N (frL ops val fr (inL listed) ops.size) a

theorem inL_set {listed : Array Bool} {i : Nat} (hi : i < listed.size) : inL (listed.setIfInBounds i true) = fun j => j == i || inL listed j := by
  funext j
  unfold inL
  by_cases h : j = i
  · subst h; simp [hi]
  · have : (j == i) = false := by simpa using h
    simp only [this, Bool.false_or, Array.getD_eq_getD_getElem?]
    rw [Array.getElem?_setIfInBounds_ne (by omega)]

theorem ready_spec {ops : Array Oper} {listed : Array Bool} (hs : listed.size = ops.size) {i : Nat} (h : i ∈ Region.ready .any ops listed) :
    ∃ o, ops[i]? = some o ∧ inL listed i = false ∧ ∀ e ∈ o.after.toList, Region.binds .any e = true → inL listed e.on = true := by
  unfold Region.ready at h
  simp only [List.mem_filter, List.mem_range, Bool.and_eq_true, Bool.not_eq_true'] at h
  obtain ⟨hi, h1, h2⟩ := h
  have ho : ops[i]? = some ops[i] := Array.getElem?_eq_getElem hi
  refine ⟨ops[i], ho, ?_, ?_⟩
  · have : i < listed.size := by omega
    simp only [inL, Array.getD_eq_getD_getElem?, Array.getElem?_eq_getElem this] at h1 ⊢
    exact h1
  · rw [ho] at h2
    simp only [Option.map_some, Option.getD_some, Array.all_eq_true'] at h2
    intro e he hb
    have := h2 e (by simpa using he)
    simp only [hb, Bool.not_true, Bool.false_or] at this
    exact this

theorem ready_of {ops : Array Oper} {listed : Array Bool} (hs : listed.size = ops.size) (hback : ∀ (i : Nat) (o : Oper), ops[i]? = some o → ∀ e ∈ o.after.toList, Region.binds .any e = true → e.on < i)
    (h : Region.ready .any ops listed = []) : ∀ i, i < ops.size → inL listed i = true := by
  intro i
  induction i using Nat.strongRecOn with
  | _ i ih =>
    intro hi
    by_cases hl : inL listed i = true
    · exact hl
    · exfalso
      have hmem : i ∈ Region.ready .any ops listed := by
        unfold Region.ready
        simp only [List.mem_filter, List.mem_range, Bool.and_eq_true, Bool.not_eq_true']
        have ho : ops[i]? = some ops[i] := Array.getElem?_eq_getElem hi
        refine ⟨hi, ?_, ?_⟩
        · have h2 : i < listed.size := by omega
          simp only [inL, Array.getD_eq_getD_getElem?, Array.getElem?_eq_getElem h2] at hl ⊢
          simpa using hl
        · rw [ho]
          simp only [Option.map_some, Option.getD_some, Array.all_eq_true']
          intro e he
          by_cases hb : Region.binds .any e = true
          · have hlt := hback i ops[i] ho e (by simpa using he) hb
            have := ih e.on hlt (by omega)
            simp only [inL] at this
            simp [this]
          · simp [hb]
      rw [h] at hmem; cases hmem

/-- How many are not listed. -/
def left (listed : Array Bool) (n : Nat) : Nat := ((List.range n).filter fun j => !inL listed j).length

theorem left_set {listed : Array Bool} {n i : Nat} (hi : i < n) (hs : listed.size = n) (hl : inL listed i = false) : left (listed.setIfInBounds i true) n < left listed n := by
  unfold left
  rw [inL_set (by omega)]
  have gen : ∀ (l : List Nat), i ∈ l → (l.filter fun j => !(j == i || inL listed j)).length < (l.filter fun j => !inL listed j).length := by
    intro l
    have le : ∀ (l : List Nat), (l.filter fun j => !(j == i || inL listed j)).length ≤ (l.filter fun j => !inL listed j).length := by
      intro l
      induction l with
      | nil => simp
      | cons x l ih =>
        simp only [List.filter_cons]
        by_cases h1 : inL listed x = true
        · simp [h1]; simpa using ih
        · by_cases h2 : x = i
          · subst h2; simp [h1]; simp at ih; omega
          · have : (x == i) = false := by simpa using h2
            simp [h1, this]; simp at ih; omega
    induction l with
    | nil => intro h; simp at h
    | cons x l ih =>
      intro hm
      simp only [List.filter_cons]
      by_cases h2 : x = i
      · subst h2; have := le l; simp [hl]; simp at this; omega
      · have hm' : i ∈ l := by rcases List.mem_cons.1 hm with h | h; exact absurd h.symm h2; exact h
        have := ih hm'
        have h3 : (x == i) = false := by simpa using h2
        by_cases h1 : inL listed x = true
        · simp [h1]; simpa using this
        · simp [h1, h3]; simpa using this
  exact gen _ (List.mem_range.2 hi)

theorem upon_any {P : Program} {ro : Option Nat} {g : Gh} {w : World} {a : Act} {o : Oper} {R : AV → Hp → Prop} {next : Act → World → Prop} {Q : Exit → Act → World → Prop} {x : Result Next}
    (hr : Ran P (cpost g w R) x) (hn : ∀ v g' av h' w', Ext g w g' w' → WRel g' h' w' → RelV g' w' av v → R av h' → next (a.put o.dst v) w') : o.uponIn (fence ro) 0 P a next Q x := by
  have fin : ∀ e w', cpost g w R e w' → (match (generalizing := false) e, w' with
      | .returned v, w'' => next (a.put o.dst v) w''
      | .panicked chain, w'' => Q (.panic chain) a w''
      | .outgrown, _ => LetsOut Q) := by
    rintro e w' ⟨v, g', av, h', rfl, h1, h2, h3, h4⟩
    exact hn v g' av h' w' h1 h2 h3 h4
  cases x with
  | halt _ _ => exact hr.elim
  | ok n w' =>
    cases n <;> first
      | exact hr.elim
      | exact ⟨fun h => by simp [fence, Fence.wide] at h, CallsIn.mono (F := fence ro) hr fin⟩
      | exact ⟨fun h => by simp [fence, Fence.wide] at h, RoundIn.mono (F := fence ro) hr fin⟩
      | exact fin _ _ hr

section
variable {P : Program} {ro : Option Nat} {S : Nat} {g0 : Gh} {w0 : World} {N : Nat} {ops : Array Oper} {pl : Plan} {val : Nat → AV} {H : Nat → Hp} {fr : Fr} {Q : Post}

theorem drawn_step (hk : Chk ops pl (masks ops.toList [])) (hst : ∀ i o, ops[i]? = some o → StepAt P N ops.toList (pl.at i) o (frL ops val fr (fun _ => true) i) H (pl.cur i) (val i))
    {listed : Array Bool} {a : Act} {w : World} (hd : Drawn P S g0 w0 N ops pl val H fr listed a w) {i : Nat} {o : Oper} (ho : ops[i]? = some o) (hn : inL listed i = false)
    (he : ∀ e ∈ o.after.toList, Region.binds .any e = true → inL listed e.on = true) {K : Act → World → Prop} (hK : ∀ a' w', Drawn P S g0 w0 N ops pl val H fr (listed.setIfInBounds i true) a' w' → K a' w') :
    wpOpIn (fence ro) 0 P ops (dpost S g0 w0 N Q) i K a w := by
  have hi := size_of ho
  have hgood := masks_good hd.closed ops.toList [] (by simp) (fun i hi => by simp at hi)
  have hbits : ∀ j, ((masks ops.toList []).getD i 0).testBit j = true → inL listed j = true := hgood i (by simpa using hi) o (by simpa using ho) he
  have hlisted : ∀ j oj, ops[j]? = some oj → inL listed j = true → ((masks ops.toList []).getD j 0).testBit i = true → False := fun j oj hj hl hb => by
    have := hgood j (by simpa using size_of hj) oj (by simpa using hj) (fun e he hb => hd.closed j oj (by simpa using hj) hl e he hb) i hb
    rw [hn] at this; cases this
  have get : ∀ j, j < ops.size → ∃ oj, ops[j]? = some oj := fun j hj => ⟨ops[j], Array.getElem?_eq_getElem hj⟩
  obtain ⟨g, m, hm, hch, e0, hw, hf⟩ := hd.rel
  -- the step, at the frame of what is listed
  have hstep : StepAt P N ops.toList (pl.at i) o (frL ops val fr (inL listed) ops.size) H (pl.cur i) (val i) := by
    refine (hst i o ho).congr fun t ht => ?_
    refine (frL_look (fun j oj hj hjt => ?_) ops.size (by omega)).symm
    rcases hk.look i j o oj t ho hj hjt ht with ⟨h1, h2⟩ | ⟨h1, h2⟩
    · exact .inl ⟨hbits j h1, rfl, h2⟩
    · refine .inr ⟨h1, ?_⟩
      rcases h2 with rfl | h2
      · exact hn
      · cases hl : inL listed j
        · rfl
        · exact (hlisted j oj hj hl h2).elim
  have hL' := inL_set (listed := listed) (i := i) (by rw [hd.size]; exact hi)
  have hfr : frL ops val fr (inL (listed.setIfInBounds i true)) ops.size = (frL ops val fr (inL listed) ops.size).put o.dst (val i) := by
    rw [hL']
    exact frL_add ho hn (fun j oj t hj hlt ht => hk.apart j i oj o t hj ho hlt ht) ops.size hi
  have hclosed : Closed ops.toList (inL (listed.setIfInBounds i true)) := by
    intro j oj hj hl e hee hb
    rw [hL'] at hl ⊢
    simp only [Bool.or_eq_true, beq_iff_eq] at hl ⊢
    rcases hl with rfl | hl
    · right
      have : oj = o := by have := hj; simp [ho] at this; exact this.symm
      subst this; exact he e hee hb
    · exact .inr (hd.closed j oj hj hl e hee hb)
  have next : ∀ (m' : Nat), m' ≤ pl.cur ops.size → (∀ j, j < ops.size → pl.ch j = true → (inL (listed.setIfInBounds i true) j = true ↔ pl.cur j < m')) →
      ∀ (g' : Gh) (w' : World) (v : Value), Ext g w g' w' → WRel g' (H m') w' → RelV g' w' (val i) v → dstOk N o.dst = true → K (a.put o.dst v) w' := by
    intro m' hm' hch' g' w' v e1 hw' hr hdst
    refine hK _ _ ⟨by simp [hd.size], hclosed, g', m', hm', hch', e0.trans e1, hw', ?_⟩
    rw [hfr]
    exact (hf.mono e1).put o.dst hdst hr
  obtain ⟨hdst, gs, hg, hstep⟩ := hstep
  have hev : gs.all id = true → ∀ x, RelV g w (sts gs (evO (frL ops val fr (inL listed) ops.size) x)) (a.eval x) := fun hgs x => sts_rel hgs (hf.eval x)
  unfold wpOpIn
  simp only [ho]
  rw [guardE_wanted hf hg]
  cases hp : pl.at i with
  | some lo =>
    rw [hp] at hstep
    have hchi : pl.ch i = false := by simp [Plan.ch, hp]
    have hch' : ∀ j, j < ops.size → pl.ch j = true → (inL (listed.setIfInBounds i true) j = true ↔ pl.cur j < m) := by
      intro j hj hc
      have hne : (j == i) = false := by
        cases hji : (j == i) with
        | false => rfl
        | true => simp only [beq_iff_eq] at hji; subst hji; rw [hchi] at hc; cases hc
      rw [hL']
      simp only [hne, Bool.false_or]
      exact hch j hj hc
    obtain ⟨av0, hval, hstep⟩ := hstep
    by_cases hgs : gs.all id = true
    · rw [if_pos hgs]
      -- the heap at hand is what stood at lo, and what was made since; or it does not matter
      have hlo : lo ≠ 1000 → lo ≤ m := fun hx => by
        rcases Nat.lt_or_ge m lo with h1 | h1
        · exfalso
          have hlow := hk.low i lo hi hp hx
          have : pl.cur i ≤ pl.cur ops.size := pl.cur_mono (by omega)
          obtain ⟨j, h2, h3, h4⟩ := pl.cur_surj ops.size m (by omega)
          have := hbits j (hk.before i j lo hi h2 hp hx h3 (by omega))
          have := (hch j h2 h3).1 this
          omega
        · exact h1
      have hext : floats o.op = true ∨ ∃ l, H m = hpAt H lo ++ l := by
        by_cases hx : lo = 1000
        · exact .inr ⟨H m, by rw [hpAt, if_pos hx]; rfl⟩
        rw [hpAt, if_neg hx]
        have hlo := hlo hx
        by_cases hfl : floats o.op = true
        · exact .inl hfl
        right
        have gen : ∀ d, lo + d ≤ m → ∃ l, H (lo + d) = H lo ++ l := by
          intro d
          induction d with
          | zero => intro _; exact ⟨[], by simp⟩
          | succ d ih =>
            intro hd'
            obtain ⟨l, hl⟩ := ih (by omega)
            obtain ⟨j, h2, h3, h4⟩ := pl.cur_surj ops.size (lo + d) (by omega)
            obtain ⟨oj, hj⟩ := get j h2
            have hlj := (hch j h2 h3).2 (by omega)
            rcases hk.behind i j lo o oj ho hj hp hx h3 (by omega) with h5 | h5 | h5
            · exact absurd h5 hfl
            · exact absurd (hlisted j oj hj hlj h5) id
            · have hsj := hst j oj hj
              have hpj : pl.at j = none := by simpa [Plan.ch] using h3
              rw [hpj] at hsj
              obtain ⟨_, gs', _, _, hsj⟩ := hsj
              rcases hsj with hsj | ⟨f, as, _, hc, _⟩
              · obtain ⟨x, hx⟩ := creates_push h5 hsj
                rw [h4, show lo + d + 1 = lo + (d + 1) by omega, hl] at hx
                exact ⟨l ++ [x], by rw [hx]; simp⟩
              · exfalso
                unfold callOf at hc
                split at hc
                · rename_i heq; rw [heq] at h5; simp [creates] at h5
                · cases hc
        have := gen (m - lo) (by omega)
        rwa [show lo + (m - lo) = m by omega] at this
      refine ⟨fun _ _ => trivial, ?_⟩
      rw [fence_round]
      rcases hstep with hstep | ⟨f, as, hc, hcall⟩ | hno
      rotate_right
      · rw [hgs] at hno; cases hno
      · have hw2 : opW P (H m) (fun x => sts gs (evO (frL ops val fr (inL listed) ops.size) x)) o.op = some av0 := by
          rcases hext with hfl | ⟨l, hl⟩
          · rw [opW_any (h' := hpAt H lo) hfl]; exact hstep
          · rw [hl]; exact opW_ext l hstep
        have hee := opW_opE hw2
        rw [Oper.semAt_eq ro a.eval o (notDefer_of_opE hee)]
        obtain ⟨nx, w', g', h1, h2, h3, h4⟩ := opE_run hw (hev hgs) o hee
        rw [h1]
        rcases h4 with ⟨v, rfl, hr⟩ | ⟨rfl, rfl⟩
        · exact next m hm hch' g' w' v h2 h3 (by rw [hval]; exact gds_rel (fun _ => hr) (fun hn => by rw [hgs] at hn; simp at hn)) hdst
        · exact next m hm hch' g' w' _ h2 h3 (by rw [hval]; exact gds_rel (fun _ => trivial) (fun hn => by rw [hgs] at hn; simp at hn)) hdst
      · have hnf : floats o.op = false := by
          unfold callOf at hc
          split at hc
          · rename_i heq; rw [heq]; rfl
          · cases hc
        obtain ⟨l, hl⟩ : ∃ l, H m = hpAt H lo ++ l := by
          rcases hext with h1 | h1
          · rw [hnf] at h1; cases h1
          · exact h1
        have hcall := hcall hgs l
        rw [← hl] at hcall
        rw [Oper.semAt_eq ro a.eval o (notDefer_of_call hc), callOf_run hc]
        have hran := hcall g w (a.eval f) (as.map a.eval) hw (hev hgs f) (relL_map (hev hgs) as)
        refine upon_any hran fun v g' av h' w' h1 h2 h3 h4 => ?_
        obtain ⟨rfl, rfl⟩ := h4
        exact next m hm hch' g' w' v h1 h2 (by rw [hval]; exact gds_rel (fun _ => h3) (fun hn => by rw [hgs] at hn; simp at hn)) hdst
    · rw [if_neg hgs]
      exact ⟨fun _ _ => trivial, next m hm hch' g w undef (Ext.refl _ _) hw (by rw [hval]; exact gds_rel (fun hy => absurd hy hgs) (fun _ => rfl)) hdst⟩
  | none =>
    rw [hp] at hstep
    obtain ⟨rfl, hstep⟩ := hstep
    have hchi : pl.ch i = true := by simp [Plan.ch, hp]
    have hmi : m = pl.cur i := by
      have h1 : m ≤ pl.cur i := by
        rcases Nat.lt_or_ge (pl.cur i) m with h1 | h1
        · have := (hch i hi hchi).2 h1; rw [hn] at this; cases this
        · exact h1
      rcases Nat.lt_or_ge m (pl.cur i) with h2 | h2
      · exfalso
        obtain ⟨j, h3, h4, h5⟩ := pl.cur_surj i m h2
        have := hbits j (hk.chain i j hi hchi h3 h4)
        have := (hch j (by omega) h4).1 this
        omega
      · omega
    subst hmi
    have hm' : pl.cur i + 1 ≤ pl.cur ops.size := by have := pl.cur_lt hi hchi; omega
    have hch' : ∀ j, j < ops.size → pl.ch j = true → (inL (listed.setIfInBounds i true) j = true ↔ pl.cur j < pl.cur i + 1) := by
      intro j hj hc
      rw [hL']
      simp only [Bool.or_eq_true, beq_iff_eq]
      constructor
      · rintro (rfl | h1)
        · omega
        · have := (hch j hj hc).1 h1; omega
      · intro h1
        by_cases hji : j = i
        · exact .inl hji
        · right
          refine (hch j hj hc).2 ?_
          rcases Nat.lt_or_gt_of_ne hji with h2 | h2
          · have := pl.cur_lt h2 hc; omega
          · have := pl.cur_lt h2 hchi; omega
    simp only [List.all_nil, if_true]
    refine ⟨fun _ _ => trivial, ?_⟩
    rw [fence_round]
    have hev0 : ∀ x, RelV g w (evO (frL ops val fr (inL listed) ops.size) x) (a.eval x) := fun x => hf.eval x
    rcases hstep with hee | ⟨f, as, _, hc, hcall⟩
    · rw [Oper.semAt_eq ro a.eval o (notDefer_of_opE hee)]
      obtain ⟨nx, w', g', h1, h2, h3, h4⟩ := opE_run hw hev0 o hee
      rw [h1]
      rcases h4 with ⟨v, rfl, hr⟩ | ⟨rfl, hany⟩
      · exact next _ hm' hch' g' w' v h2 h3 hr hdst
      · exact next _ hm' hch' g' w' _ h2 h3 (by rw [hany]; trivial) hdst
    · rw [Oper.semAt_eq ro a.eval o (notDefer_of_call hc), callOf_run hc]
      have hran := hcall g w (a.eval f) (as.map a.eval) hw (hev0 f) (relL_map hev0 as)
      refine upon_any hran fun v g' av h' w' h1 h2 h3 h4 => ?_
      obtain ⟨rfl, rfl⟩ := h4
      exact next _ hm' hch' g' w' v h1 h2 h3 hdst

theorem drawn_any (hk : Chk ops pl (masks ops.toList [])) (hst : ∀ i o, ops[i]? = some o → StepAt P N ops.toList (pl.at i) o (frL ops val fr (fun _ => true) i) H (pl.cur i) (val i))
    (hQ : Q .normal (frL ops val fr (fun _ => true) ops.size) (H (pl.cur ops.size))) : ∀ (fuel : Nat) (listed : Array Bool) (a : Act) (w : World), left listed ops.size ≤ fuel → Drawn P S g0 w0 N ops pl val H fr listed a w →
    wpAnyIn (fence ro) 0 P .any ops (dpost S g0 w0 N Q) fuel listed a w := by
  have fin : ∀ (listed : Array Bool) (a : Act) (w : World), Drawn P S g0 w0 N ops pl val H fr listed a w → Region.ready .any ops listed = [] → dpost S g0 w0 N Q .normal a w := by
    intro listed a w hd hr
    have hall := ready_of hd.size hk.back hr
    obtain ⟨g, m, hm, hch, e, hw, hf⟩ := hd.rel
    have : m = pl.cur ops.size := by
      rcases Nat.lt_or_ge m (pl.cur ops.size) with h1 | h1
      · obtain ⟨j, h2, h3, h4⟩ := pl.cur_surj _ _ h1
        have := (hch j h2 h3).1 (hall j h2)
        omega
      · omega
    subst this
    rw [frL_all ops.size hall] at hf
    exact ⟨g, _, _, e, hw, hf, hQ⟩
  intro fuel
  induction fuel with
  | zero =>
    intro listed a w hle hd
    have hr : Region.ready .any ops listed = [] := by
      cases hr : Region.ready .any ops listed with
      | nil => rfl
      | cons i rest =>
        exfalso
        obtain ⟨o, ho, hn, _⟩ := ready_spec hd.size (i := i) (by rw [hr]; simp)
        have := left_set (size_of ho) hd.size hn
        omega
    exact ⟨hr, fin listed a w hd hr⟩
  | succ fuel ih =>
    intro listed a w hle hd
    refine ⟨fin listed a w hd, fun i hi => ?_⟩
    obtain ⟨o, ho, hn, he⟩ := ready_spec hd.size hi
    exact drawn_step hk hst hd ho hn he fun a' w' hd' => ih _ a' w' (by have := left_set (size_of ho) hd.size hn; omega) hd'
end

theorem qops_congr {P : Program} {N : Nat} {all l : List Oper} {Q : Fr → Hp → Prop} {pl : Plan} {fr : Fr} {hs hs' : List Hp} (hh : hold hs = hs') : qops P N all Q pl l fr hs = qops P N all Q pl l fr hs' := by rw [← hh]; rfl

/-- A region that draws its order, walked in the text's order by a plan: none: an operation of the chain; some k: one that looks at the heap behind k of the chain. -/
theorem dwp_draw {P : Program} {rd : Option Nat} {N : Nat} {Q : Post} {fr : Fr} {h : Hp} {id : Nat} {ops : Array Oper} (pl : Plan) (hm : P.follows .mixedOrders = true) (hk : chk ops pl = true)
    (hd : qops P N ops.toList (Q .normal) pl ops.toList fr [h]) : dwp P rd N (.region id ops true) Q fr h := by
  intro S g a w ro hS hw hf hro
  obtain ⟨val, H, h1, h2, h3, h4⟩ := qops_data ops.toList pl fr [h] (by simp) hd
  have hH0 : H 0 = h := by have := h1 0 (by simp); simpa using this
  obtain ⟨e1, hw1⟩ := drew_rel hw
  refine wpIn_region_any hm ?_
  refine drawn_any (S := S) (g0 := g) (w0 := w) (val := val) (H := H) (fr := fr) (chk_spec hk) (fun i o ho => ?_) ?_ ops.size _ a _ ?_ ⟨by simp, ?_, g, 0, Nat.zero_le _, ?_, e1, ?_, ?_⟩
  · rw [frL_frs ops val fr i (by have := size_of ho; omega)]
    have := h2 i o (by simpa using ho)
    simpa using this
  · rw [frL_frs ops val fr ops.size (Nat.le_refl _)]
    simpa using h4
  · unfold left
    have := List.length_filter_le (fun j => !inL (Array.replicate ops.size false) j) (List.range ops.size)
    simpa using this
  · intro i o ho hl
    have hi : i < ops.size := by
      have := ho
      rcases Nat.lt_or_ge i ops.size with h1 | h1
      · exact h1
      · rw [List.getElem?_eq_none (by simpa using h1)] at this; cases this
    simp [inL, hi] at hl
  · intro j hj hc
    simp [inL, hj]
  · rw [hH0]; exact hw1
  · rw [frL_none]
    · exact hf.mono e1
    · intro j hj; simp [inL, hj]
end Go.M
