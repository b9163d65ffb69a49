/- Regions whose order is fixed; functions; what is let go at a return. -/
import Derived.Test.YtjnpfhihefchoaaDoorMk
namespace Go.M
open Go Go.RowKit
set_option linter.unusedVariables false
set_option linter.unusedSimpArgs false

/-- The conditions under which a guard's operation yields what is wanted. -/
def condsOf (want : Bool) : AV → Option (List Bool)
  | .b x => some [x == want]
  | .tup [] => some [false]
  | .gd y a => match condsOf want a with
    | some l => some (y :: l)
    | none => none
  | _ => none

def guardE (N : Nat) (all : List Oper) (fr : Fr) (o : Oper) : Option (List Bool) :=
  match o.guard with
  | none => some []
  | some (j, want) => match all[j]? with
    | some oj => match oj.dst with
      | some d => if d < N then condsOf want (fr d) else none
      | none => none
    | none => none

def callOf (o : Op) : Option (Operand × List Operand) :=
  match o with
  | .call { callee := .value f, args := as, argTypes := _ } => some (f, as.toList)
  | _ => none

/-- A call of a function value: the function and its arguments. -/
def callV (ev : Operand → AV) (o : Op) : Option (AV × List AV) :=
  match o with
  | .call { callee := .value f, args := as, argTypes := _ } => some (ev f, as.toList.map ev)
  | _ => none

theorem callV_of {ev : Operand → AV} {o : Op} {fv : AV} {as : List AV} (h : callV ev o = some (fv, as)) : ∃ f os, callOf o = some (f, os) ∧ fv = ev f ∧ as = os.map ev := by
  unfold callV at h
  split at h
  · simp only [Option.some.injEq, Prod.mk.injEq] at h
    exact ⟨_, _, rfl, h.1.symm, h.2.symm⟩
  · cases h

/-- A region's operations, one behind the other. -/
def dops (P : Program) (N : Nat) (all : List Oper) (Q : Fr → Hp → Prop) : List Oper → Fr → Hp → Prop
  | [], fr, h => Q fr h
  | o :: rest, fr, h =>
    if dstOk N o.dst = true then match guardE N all fr o with
    | some gs =>
      match opV P h (fun x => sts gs (evO fr x)) o.op with
      | some av => dops P N all Q rest (fr.put o.dst (gds gs av)) h
      | none =>
        (gs.all id = true → match callV (fun x => sts gs (evO fr x)) o.op with
          | some (fv, as) => dcallV P fv as h fun av h' => dops P N all Q rest (fr.put o.dst av) h'
          | none => match opE P h (fun x => sts gs (evO fr x)) o.op with
            | some (av, h') => dops P N all Q rest (fr.put o.dst av) h'
            | none => False) ∧
        (gs.all id = false → dops P N all Q rest (fr.put o.dst (.tup [])) h)
    | none => False
    else False

theorem rel_undef (g : Gh) (w : World) : RelV g w (.tup []) undef := ⟨[], rfl, rfl⟩

def boolOf : Value → Option Bool
  | .bool b => some b
  | _ => none

theorem condsOf_rel {g : Gh} {w : World} (want : Bool) : ∀ (a : AV) (l : List Bool) (v : Value), condsOf want a = some l → RelV g w a v → ((boolOf v == some want) = l.all id)
  | .b x, l, v, h, hr => by
    simp only [condsOf, Option.some.injEq] at h; subst h
    rw [rel_b hr]
    cases x <;> cases want <;> rfl
  | .tup [], l, v, h, hr => by
    simp only [condsOf, Option.some.injEq] at h; subst h
    obtain ⟨vs, rfl, hr⟩ := hr
    simp only [RelL] at hr; subst hr
    cases want <;> rfl
  | .gd y a, l, v, h, hr => by
    simp only [condsOf] at h
    split at h
    · rename_i l' hl
      simp only [Option.some.injEq] at h; subst h
      simp only [RelV] at hr
      cases y
      · rw [hr.2 rfl]
        cases want <;> rfl
      · have := condsOf_rel want a l' v hl (hr.1 rfl)
        simpa using this
    · simp at h
  | .any, l, v, h, hr => by simp [condsOf] at h
  | .i _ _, l, v, h, hr => by simp [condsOf] at h
  | .s _, l, v, h, hr => by simp [condsOf] at h
  | .agg _, l, v, h, hr => by simp [condsOf] at h
  | .tup (_ :: _), l, v, h, hr => by simp [condsOf] at h
  | .lst _ _ _, l, v, h, hr => by simp [condsOf] at h
  | .nils, l, v, h, hr => by simp [condsOf] at h
  | .sl _ _ _ _ _, l, v, h, hr => by simp [condsOf] at h
  | .ptr _ _ _, l, v, h, hr => by simp [condsOf] at h
  | .pim _, l, v, h, hr => by simp [condsOf] at h
  | .nilp, l, v, h, hr => by simp [condsOf] at h
  | .fn _ _ _, l, v, h, hr => by simp [condsOf] at h
  | .nilf, l, v, h, hr => by simp [condsOf] at h
  | .yld _, l, v, h, hr => by simp [condsOf] at h
  | .mp _, l, v, h, hr => by simp [condsOf] at h
  | .nilm, l, v, h, hr => by simp [condsOf] at h
  | .it _, l, v, h, hr => by simp [condsOf] at h

theorem guardE_wanted {S : Nat} {g : Gh} {w : World} {N : Nat} {fr : Fr} {a : Act} (hf : FRel S g w N fr a) {ops : Array Oper} {o : Oper} {l : List Bool} (h : guardE N ops.toList fr o = some l) : Region.wanted o (yielded ops a.tmps) = l.all id := by
  unfold guardE at h
  unfold Region.wanted
  split at h
  · rename_i hg
    simp only [Option.some.injEq] at h; subst h
    rw [hg]; rfl
  · rename_i j want hg
    rw [hg]
    split at h
    · rename_i oj hj
      have hj' : ops[j]? = some oj := by simpa using hj
      split at h
      · rename_i d hd
        have hv := hf.val d
        split at h
        case isFalse => simp at h
        rename_i hdN
        rw [← hf.size] at hdN
        have hget : a.tmps[d]? = some (a.tmps.getD d undef) := by
          simp [Array.getD, hdN]
        have hy : yielded ops a.tmps j = boolOf (a.tmps.getD d undef) := by
          simp only [yielded, hj', Option.bind_some, hd, hget]
          cases a.tmps.getD d undef <;> rfl
        have := condsOf_rel want _ l _ h hv
        simp only [hy]
        exact this
      · simp at h
    · simp at h

theorem fence_round (ro : Option Nat) : (fence ro).round = ro := rfl

theorem uponIn_of {P : Program} {ro : Option Nat} {S : Nat} {g : Gh} {w : World} {N : Nat} {fr : Fr} {a : Act} {o : Oper} {R : AV → Hp → Prop} {next : Act → World → Prop} {Q : Exit → Act → World → Prop} (hf : FRel S g w N fr a) (hd : dstOk N o.dst = true) {x : Result Next}
    (hr : Ran P (cpost g w R) x) (hn : ∀ v g' av h' w', Ext g w g' w' → WRel g' h' w' → FRel S g' w' N (fr.put o.dst av) (a.put o.dst v) → R av h' → next (a.put o.dst v) w') : o.uponIn (fence ro) 0 P a next Q x := by
  have fin : ∀ e w', cpost g w R e w' → (match (generalizing := false) e, w' with
      | .returned v, w'' => next (a.put o.dst v) w''
      | .panicked chain, w'' => Q (.panic chain) a w''
      | .outgrown, _ => LetsOut Q) := by
    rintro e w' ⟨v, g', av, h', rfl, h1, h2, h3, h4⟩
    exact hn v g' av h' w' h1 h2 ((hf.mono h1).put o.dst hd h3) h4
  cases x with
  | halt _ _ => exact hr.elim
  | ok n w' =>
    cases n <;> first
      | exact hr.elim
      | exact ⟨fun h => by simp [fence, Fence.wide] at h, CallsIn.mono (F := fence ro) hr fin⟩
      | exact ⟨fun h => by simp [fence, Fence.wide] at h, RoundIn.mono (F := fence ro) hr fin⟩
      | exact fin _ _ hr

theorem callOf_run {ρ : Operand → Value} {o : Oper} {f : Operand} {as : List Operand} (h : callOf o.op = some (f, as)) : execOp ρ o = (do let d ← Deferred.ofValue (ρ f) (as.map ρ).toArray; invoke d.target d.args) := by
  unfold callOf at h
  split at h
  · rename_i f' as' ts ho
    simp only [Option.some.injEq, Prod.mk.injEq] at h
    obtain ⟨rfl, rfl⟩ := h
    have : as'.map ρ = (as'.toList.map ρ).toArray := by apply Array.ext'; simp
    simp only [execOp, ho, resolve, this]
  · simp at h

theorem notDefer_of_call {o : Op} {f : Operand} {as : List Operand} (h : callOf o = some (f, as)) : ∀ c, o ≠ .defer c := by
  rintro c rfl; simp [callOf] at h
theorem notDefer_of_opE {P : Program} {h h' : Hp} {ev : Operand → AV} {o : Op} {av : AV} (he : opE P h ev o = some (av, h')) : ∀ c, o ≠ .defer c := by
  rintro c rfl; simp [opE] at he

theorem dops_run {P : Program} {ro : Option Nat} {N : Nat} {Q : Post} {S : Nat} {g0 : Gh} {w0 : World} (ops : Array Oper) : ∀ (rest : List Oper) (k : Nat) (fr : Fr) (h : Hp) (g : Gh) (a : Act) (w : World),
    rest = ops.toList.drop k → dops P N ops.toList (Q .normal) rest fr h → Ext g0 w0 g w → WRel g h w → FRel S g w N fr a → wpOpsIn (fence ro) 0 P ops (dpost S g0 w0 N Q) ((List.range ops.size).drop k) a w
  | [], k, fr, h, g, a, w, hk, hd, e, hw, hf => by
    have : (List.range ops.size).drop k = [] := by
      have hl : (ops.toList.drop k).length = 0 := by rw [← hk]; rfl
      simp at hl
      exact List.drop_eq_nil_of_le (by simp; omega)
    rw [this]
    exact ⟨g, fr, h, e, hw, hf, hd⟩
  | o :: rest, k, fr, h, g, a, w, hk, hd, e, hw, hf => by
    have hlt : k < ops.size := by
      rcases Nat.lt_or_ge k ops.size with h1 | h1
      · exact h1
      · rw [List.drop_eq_nil_of_le (by simpa using h1)] at hk; simp at hk
    have hdrop : ops.toList.drop k = ops.toList[k]'(by simpa using hlt) :: ops.toList.drop (k + 1) := List.drop_eq_getElem_cons (by simpa using hlt)
    rw [hdrop] at hk
    simp only [List.cons.injEq] at hk
    obtain ⟨ho, hrest⟩ := hk
    have hrange : (List.range ops.size).drop k = k :: (List.range ops.size).drop (k + 1) := by
      rw [List.drop_eq_getElem_cons (by simpa using hlt)]; simp
    have hok : ops[k]? = some o := by rw [ho]; simp [hlt]
    rw [hrange]
    simp only [wpOpsIn, hok]
    simp only [dops] at hd
    split at hd
    case isFalse => exact hd.elim
    rename_i hdst
    split at hd
    · rename_i gs hg
      rw [guardE_wanted hf hg]
      have hev : gs.all id = true → ∀ x, RelV g w (sts gs (evO fr x)) (a.eval x) := fun hgs x => sts_rel hgs (hf.eval x)
      split at hd
      · rename_i av hav
        by_cases hgs : gs.all id = true
        · rw [if_pos hgs]
          refine ⟨fun _ _ => trivial, ?_⟩
          rw [fence_round]
          have he := opV_opE hav
          rw [Oper.semAt_eq ro a.eval o (notDefer_of_opE he)]
          obtain ⟨nx, w', g', h1, h2, h3, h4⟩ := opE_run hw (hev hgs) o he
          rw [h1]
          rcases h4 with ⟨v, rfl, hr⟩ | ⟨rfl, rfl⟩
          · exact dops_run ops rest (k + 1) _ _ _ _ _ hrest hd (e.trans h2) h3 ((hf.mono h2).put o.dst hdst (gds_rel (fun _ => hr) (fun hn => by rw [hgs] at hn; simp at hn)))
          · exact dops_run ops rest (k + 1) _ _ _ _ _ hrest hd (e.trans h2) h3 ((hf.mono h2).put o.dst hdst (gds_rel (fun _ => trivial) (fun hn => by rw [hgs] at hn; simp at hn)))
        · rw [if_neg hgs]
          exact ⟨fun _ _ => trivial, dops_run ops rest (k + 1) _ _ _ _ _ hrest hd e hw (hf.put o.dst hdst (gds_rel (fun hy => absurd hy hgs) (fun _ => rfl)))⟩
      · by_cases hgs : gs.all id = true
        · rw [if_pos hgs]
          have hd' := hd.1 hgs
          refine ⟨fun _ _ => trivial, ?_⟩
          rw [fence_round]
          split at hd'
          · rename_i fv as' hcv
            obtain ⟨f, as, hc, rfl, rfl⟩ := callV_of hcv
            rw [Oper.semAt_eq ro a.eval o (notDefer_of_call hc), callOf_run hc]
            refine uponIn_of hf hdst (hd' g w (a.eval f) (as.map a.eval) hw (hev hgs f) (relL_map (hev hgs) as)) fun v g' av h' w' h1 h2 h3 h4 => ?_
            exact dops_run ops rest (k + 1) _ _ _ _ _ hrest h4 (e.trans h1) h2 h3
          · rename_i hc
            split at hd'
            · rename_i av h' he
              rw [Oper.semAt_eq ro a.eval o (notDefer_of_opE he)]
              obtain ⟨nx, w', g', h1, h2, h3, h4⟩ := opE_run hw (hev hgs) o he
              rw [h1]
              rcases h4 with ⟨v, rfl, hr⟩ | ⟨rfl, rfl⟩
              · exact dops_run ops rest (k + 1) _ _ _ _ _ hrest hd' (e.trans h2) h3 ((hf.mono h2).put o.dst hdst hr)
              · exact dops_run ops rest (k + 1) _ _ _ _ _ hrest hd' (e.trans h2) h3 ((hf.mono h2).put o.dst hdst (av := .any) trivial)
            · exact hd'.elim
        · rw [if_neg hgs]
          have hd' := hd.2 (by simpa using hgs)
          exact ⟨fun _ _ => trivial, dops_run ops rest (k + 1) _ _ _ _ _ hrest hd' e hw (hf.put o.dst hdst (rel_undef g w))⟩
    · exact hd.elim

theorem dwp_region {P : Program} {rd : Option Nat} {N : Nat} {Q : Post} {fr : Fr} {h : Hp} {id : Nat} {ops : Array Oper} (hd : dops P N ops.toList (Q .normal) ops.toList fr h) : dwp P rd N (.region id ops false) Q fr h := by
  intro S g a w ro hS hw hf hro
  have := dops_run (ro := ro) (S := S) (g0 := g) (w0 := w) ops ops.toList 0 fr h g a w rfl hd (Ext.refl _ _) hw hf
  exact wpIn_region this

/-! ### Functions -/
def fr0 (args : List AV) : Fr := fun t => args.getD t (.tup [])

theorem fr0_rel {g : Gh} {w : World} {args : List AV} {vs : List Value} (h : RelL g w args vs) (n : Nat) (t : Nat) : RelV g w (fr0 args t) ((vs.toArray ++ Array.replicate n undef).getD t undef) := by
  have hlen := h.len
  rcases Nat.lt_or_ge t args.length with h1 | h1
  · obtain ⟨v, hv, hr⟩ := h.get (j := t) (a := args[t]) (by simp [h1])
    have h2 : fr0 args t = args[t] := by simp [fr0, List.getD, h1]
    have h3 : (vs.toArray ++ Array.replicate n undef).getD t undef = v := by
      simp only [Array.getD_eq_getD_getElem?]
      rw [Array.getElem?_append_left (by simp; omega)]
      simp [hv]
    rw [h2, h3]; exact hr
  · have h2 : fr0 args t = .tup [] := by simp [fr0, List.getD, List.getElem?_eq_none h1]
    have h3 : (vs.toArray ++ Array.replicate n undef).getD t undef = undef := by
      simp only [Array.getD_eq_getD_getElem?]
      rw [Array.getElem?_append_right (by simp; omega)]
      rw [Array.getElem?_replicate]
      split <;> rfl
    rw [h2, h3]; exact rel_undef g w

/-- What a function hands back, from its slots. -/
def resE (P : Program) (h : Hp) (fr : Fr) : ResultVar → Option AV
  | .tmp t => some (fr t)
  | .cell a T => loadE P h T (fr a)

def resL (P : Program) (h : Hp) (fr : Fr) : List ResultVar → Option (List AV)
  | [] => some []
  | r :: rs => match resE P h fr r, resL P h fr rs with
    | some a, some as => some (a :: as)
    | _, _ => none

def results1 : List AV → AV
  | [a] => a
  | as => .tup as

theorem resL_run {P : Program} {g : Gh} {h : Hp} {w : World} (hw : WRel g h w) {fr : Fr} {tmps : Array Value} (hf : ∀ t, RelV g w (fr t) (tmps.getD t undef)) : ∀ (rs : List ResultVar) (as : List AV), resL P h fr rs = some as →
    ∃ vs : List Value, (rs.mapM (fun | .tmp t => pure (tmps.getD t undef) | .cell a t => do loadVar t (← asAddr (tmps.getD a undef)) : ResultVar → Sem Value)).run P w = .ok vs w ∧ RelL g w as vs
  | [], as, he => by
    simp only [resL, Option.some.injEq] at he; subst he
    exact ⟨[], by simp, rfl⟩
  | r :: rs, as, he => by
    simp only [resL] at he
    split at he
    · rename_i a as' hr hrs
      simp only [Option.some.injEq] at he; subst he
      obtain ⟨vs, h1, h2⟩ := resL_run hw hf rs as' hrs
      cases r with
      | tmp t =>
        simp only [resE, Option.some.injEq] at hr; subst hr
        exact ⟨tmps.getD t undef :: vs, by rw [List.mapM_cons]; simp only [Sem.run_bind, Sem.run_pure, Result.andThen_ok, h1], ⟨_, _, rfl, hf t, h2⟩⟩
      | cell c T =>
        simp only [resE] at hr
        obtain ⟨v, h3, h4⟩ := loadE_run hw (hf c) hr
        have h5 : (do loadVar T (← asAddr (tmps.getD c undef)) : Sem Value).run P w = .ok v w := by
          have hp : ∃ b o, tmps.getD c undef = .pointer (some ⟨b, o, none⟩) := by
            unfold loadE at hr
            split at hr
            · rename_i t cs ht hc
              obtain ⟨b, o, vs, h6, _⟩ := ptrCells_rel hw (hf c) hc
              exact ⟨b, o, h6⟩
            · simp at hr
          obtain ⟨b, o, hbo⟩ := hp
          rw [hbo] at h3 ⊢
          simpa [Instr.loadAt, Instr.sureAddr, asAddr] using h3
        refine ⟨v :: vs, ?_, ⟨_, _, rfl, h4, h2⟩⟩
        rw [List.mapM_cons]
        simp only [Sem.run_bind] at h5 ⊢
        rw [h5]
        simp only [h1, Result.andThen_ok, Sem.run_pure]
    · simp at he

theorem results_run {P : Program} {g : Gh} {h : Hp} {w : World} (hw : WRel g h w) {fr : Fr} {tmps : Array Value} (hf : ∀ t, RelV g w (fr t) (tmps.getD t undef)) (fn : Func) (as : List AV) (he : resL P h fr fn.results.toList = some as) :
    ∃ v, (results fn tmps).run P w = .ok v w ∧ RelV g w (results1 as) v := by
  obtain ⟨vs, h1, h2⟩ := resL_run hw hf fn.results.toList as he
  have hm : ∀ (k : Array Value → Sem Value), ((fn.results.mapM (fun | .tmp t => pure (tmps.getD t undef) | .cell a t => do loadVar t (← asAddr (tmps.getD a undef)) : ResultVar → Sem Value)) >>= k).run P w = (k vs.toArray).run P w := fun k => by
    rw [Array.mapM_eq_mapM_toList]
    simp only [Sem.run_bind, Sem.run_map, h1, Result.andThen_ok]
  refine ⟨if h : vs.toArray.size = 1 then vs.toArray[0] else .tuple vs.toArray, ?_, ?_⟩
  · unfold results
    exact hm _
  · have hlen := h2.len
    match as, vs, h2, hlen with
    | [], [], h2, _ => exact ⟨[], by simp, rfl⟩
    | [a], [v], h2, _ =>
      simp only [RelL] at h2
      obtain ⟨_, _, e, hr, rfl⟩ := h2
      simp only [List.cons.injEq] at e
      obtain ⟨rfl, _⟩ := e
      simp only [results1]
      simpa using hr
    | a :: a' :: as, v :: v' :: vs, h2, _ => exact ⟨_, by simp, h2⟩
end Go.M
