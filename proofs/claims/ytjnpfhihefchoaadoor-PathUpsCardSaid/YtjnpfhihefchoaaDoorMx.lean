/- The walk as sealed words: the kernel does not unfold them; each step is an equation. -/
import Derived.Test.YtjnpfhihefchoaaDoorMu
import Derived.Test.YtjnpfhihefchoaaDoorPa
namespace Go.M
open Go Go.RowKit
set_option linter.unusedVariables false
set_option linter.unusedSimpArgs false

theorem sealed {α : Type _} (a : α) : ∃ f : α, f = a := ⟨a, rfl⟩
noncomputable def Seal {α : Type _} (a : α) : α := Classical.choose (sealed a)
theorem Seal_eq {α : Type _} (a : α) : Seal a = a := Classical.choose_spec (sealed a)

/-! ### Choices -/
noncomputable def ifV : Option AV → (AV → Prop) → Prop → Prop := Seal fun o K E => match o with | some a => K a | none => E
theorem ifV_some (a : AV) (K : AV → Prop) (E : Prop) : ifV (some a) K E = K a := by unfold ifV; rw [Seal_eq]
theorem ifV_none (K : AV → Prop) (E : Prop) : ifV none K E = E := by unfold ifV; rw [Seal_eq]
theorem ifV_congr {o o' : Option AV} {K : AV → Prop} {E : Prop} (h : hold o = o') : ifV o K E = ifV o' K E := by rw [← h]; rfl
noncomputable def ifC : Option (AV × List AV) → (AV → List AV → Prop) → Prop → Prop := Seal fun o K E => match o with | some (f, as) => K f as | none => E
theorem ifC_some (f : AV) (as : List AV) (K : AV → List AV → Prop) (E : Prop) : ifC (some (f, as)) K E = K f as := by unfold ifC; rw [Seal_eq]
theorem ifC_none (K : AV → List AV → Prop) (E : Prop) : ifC none K E = E := by unfold ifC; rw [Seal_eq]
theorem ifC_congr {o o' : Option (AV × List AV)} {K : AV → List AV → Prop} {E : Prop} (h : hold o = o') : ifC o K E = ifC o' K E := by rw [← h]; rfl
noncomputable def ifE : Option (AV × Hp) → (AV → Hp → Prop) → Prop → Prop := Seal fun o K E => match o with | some (a, h) => K a h | none => E
theorem ifE_some (a : AV) (h : Hp) (K : AV → Hp → Prop) (E : Prop) : ifE (some (a, h)) K E = K a h := by unfold ifE; rw [Seal_eq]
theorem ifE_none (K : AV → Hp → Prop) (E : Prop) : ifE none K E = E := by unfold ifE; rw [Seal_eq]
theorem ifE_congr {o o' : Option (AV × Hp)} {K : AV → Hp → Prop} {E : Prop} (h : hold o = o') : ifE o K E = ifE o' K E := by rw [← h]; rfl
noncomputable def ifG : Option (List Bool) → (List Bool → Prop) → Prop := Seal fun o K => match o with | some l => K l | none => False
theorem ifG_some (l : List Bool) (K : List Bool → Prop) : ifG (some l) K = K l := by unfold ifG; rw [Seal_eq]
theorem ifG_congr {o o' : Option (List Bool)} {K : List Bool → Prop} (h : hold o = o') : ifG o K = ifG o' K := by rw [← h]; rfl
noncomputable def ifB : AV → (Bool → Prop) → Prop := Seal fun a K => match a with | .b t => K t | _ => False
theorem ifB_b (t : Bool) (K : Bool → Prop) : ifB (.b t) K = K t := by unfold ifB; rw [Seal_eq]
theorem ifB_congr {a a' : AV} {K : Bool → Prop} (h : hold a = a') : ifB a K = ifB a' K := by rw [← h]; rfl
noncomputable def ifH : Option Hp → (Hp → Prop) → Prop := Seal fun o K => match o with | some h => K h | none => False
theorem ifH_some (h : Hp) (K : Hp → Prop) : ifH (some h) K = K h := by unfold ifH; rw [Seal_eq]
theorem ifH_congr {o o' : Option Hp} {K : Hp → Prop} (h : hold o = o') : ifH o K = ifH o' K := by rw [← h]; rfl
noncomputable def brB : Bool → Prop → Prop → Prop := Seal fun t A B => (t = true → A) ∧ (t = false → B)
theorem brB_eq (t : Bool) (A B : Prop) : brB t A B = ((t = true → A) ∧ (t = false → B)) := by unfold brB; rw [Seal_eq]
theorem brB_true (A B : Prop) : brB true A B = A := by rw [brB_eq]; simp
theorem brB_false (A B : Prop) : brB false A B = B := by rw [brB_eq]; simp
theorem brB_congr {t t' : Bool} {A B : Prop} (h : hold t = t') : brB t A B = brB t' A B := by rw [← h]; rfl
theorem brB_split {t : Bool} {A B : Prop} (h1 : t = true → A) (h2 : t = false → B) : brB t A B := by rw [brB_eq]; exact ⟨h1, h2⟩
/-- A choice: by what is known. -/
theorem brB_t {t : Bool} {A B : Prop} (ht : t = true) (h1 : A) : brB t A B := by rw [ht, brB_true]; exact h1
theorem brB_f {t : Bool} {A B : Prop} (ht : t = false) (h1 : B) : brB t A B := by rw [ht, brB_false]; exact h1

/-! ### Frames -/
noncomputable def pt : Fr → Tmp → AV → Fr := Seal fun fr d v => Fr.put fr (some d) v
theorem pt_eq (fr : Fr) (d : Tmp) (v : AV) : pt fr d v = Fr.put fr (some d) v := by unfold pt; rw [Seal_eq]
theorem pt_at (fr : Fr) (d u : Tmp) (v : AV) : pt fr d v u = if u = d then v else fr u := by rw [pt_eq]; rfl
noncomputable def fz : List AV → Fr := Seal fr0
theorem fz_eq (as : List AV) : fz as = fr0 as := by unfold fz; rw [Seal_eq]
theorem fz_at (as : List AV) (t : Nat) : fz as t = as.getD t (.tup []) := by rw [fz_eq]; rfl
/-- A round's frame. -/
theorem putL_z (fr : Fr) (t : Tmp) (ts : List Tmp) (a : AV) (as : List AV) : putL fr (t :: ts) (a :: as) = putL (pt fr t a) ts as := by rw [pt_eq]; rfl
theorem putL_n (fr : Fr) (as : List AV) : putL fr [] as = fr := rfl

/-! ### Regions -/
def guardZ (N : Nat) (all : List Oper) (fr : Fr) (j : Nat) (want : Bool) : Option (List Bool) :=
  match all[j]? with
  | some oj => match oj.dst with
    | some d => if d < N then condsOf want (fr d) else none
    | none => none
  | none => none

noncomputable def dz : Program → Nat → List Oper → (Fr → Hp → Prop) → List Oper → Fr → Hp → Prop := Seal dops
theorem dz_eq : dz = dops := Seal_eq _
theorem dz_nil {P : Program} {N : Nat} {all : List Oper} {Q : Fr → Hp → Prop} {fr : Fr} {h : Hp} : dz P N all Q [] fr h = Q fr h := by rw [dz_eq]; rfl
theorem dz_congr {P : Program} {N : Nat} {all l : List Oper} {Q : Fr → Hp → Prop} {fr fr' : Fr} {h h' : Hp} (hf : hold fr = fr') (hh : hold h = h') : dz P N all Q l fr h = dz P N all Q l fr' h' := by rw [← hh, ← hf]; rfl

theorem sts_nil (a : AV) : sts [] a = a := rfl

theorem dz_plain {P : Program} {N : Nat} {all rest : List Oper} {Q : Fr → Hp → Prop} {fr : Fr} {h : Hp} {d : Tmp} {op : Op} {ty : TypeId} {pos : String} {aft : Array Edge} :
    dz P N all Q (⟨some d, op, ty, pos, aft, none⟩ :: rest) fr h = brB (decide (d < N)) (ifV (opV P h (evO fr) op) (fun av => dz P N all Q rest (pt fr d av) h)
      (ifC (callV (evO fr) op) (fun fv as => dcallV P fv as h fun av h' => dz P N all Q rest (pt fr d av) h') (ifE (opE P h (evO fr) op) (fun av h' => dz P N all Q rest (pt fr d av) h') False))) False := by
  rw [dz_eq]
  by_cases hd : d < N
  · simp only [dops, dstOk, hd, decide_true, brB_true, guardE, if_true, sts_nil, gds, List.all_nil, true_implies, reduceCtorEq, false_implies, and_true, pt_eq]
    cases h1 : opV P h (fun x => evO fr x) op with
    | some av => simp only [show opV P h (evO fr) op = some av from h1, ifV_some]
    | none =>
      simp only [show opV P h (evO fr) op = none from h1, ifV_none]
      cases h2 : callV (fun x => evO fr x) op with
      | some p => obtain ⟨fv, as⟩ := p; simp only [show callV (evO fr) op = some (fv, as) from h2, ifC_some]
      | none =>
        simp only [show callV (evO fr) op = none from h2, ifC_none]
        cases h3 : opE P h (fun x => evO fr x) op with
        | some p => obtain ⟨av, h'⟩ := p; simp only [show opE P h (evO fr) op = some (av, h') from h3, ifE_some]
        | none => simp only [show opE P h (evO fr) op = none from h3, ifE_none]
  · simp only [dops, dstOk, hd, decide_false, brB_false, Bool.false_eq_true, if_false]

theorem dz_plain0 {P : Program} {N : Nat} {all rest : List Oper} {Q : Fr → Hp → Prop} {fr : Fr} {h : Hp} {op : Op} {ty : TypeId} {pos : String} {aft : Array Edge} :
    dz P N all Q (⟨none, op, ty, pos, aft, none⟩ :: rest) fr h = ifV (opV P h (evO fr) op) (fun _ => dz P N all Q rest fr h)
      (ifC (callV (evO fr) op) (fun fv as => dcallV P fv as h fun _ h' => dz P N all Q rest fr h') (ifE (opE P h (evO fr) op) (fun _ h' => dz P N all Q rest fr h') False)) := by
  rw [dz_eq]
  simp only [dops, dstOk, guardE, if_true, sts_nil, gds, List.all_nil, true_implies, reduceCtorEq, false_implies, and_true, put_none]
  cases h1 : opV P h (fun x => evO fr x) op with
  | some av => simp only [show opV P h (evO fr) op = some av from h1, ifV_some]
  | none =>
    simp only [show opV P h (evO fr) op = none from h1, ifV_none]
    cases h2 : callV (fun x => evO fr x) op with
    | some p => obtain ⟨fv, as⟩ := p; simp only [show callV (evO fr) op = some (fv, as) from h2, ifC_some]
    | none =>
      simp only [show callV (evO fr) op = none from h2, ifC_none]
      cases h3 : opE P h (fun x => evO fr x) op with
      | some p => obtain ⟨av, h'⟩ := p; simp only [show opE P h (evO fr) op = some (av, h') from h3, ifE_some]
      | none => simp only [show opE P h (evO fr) op = none from h3, ifE_none]

theorem dz_guard {P : Program} {N : Nat} {all rest : List Oper} {Q : Fr → Hp → Prop} {fr : Fr} {h : Hp} {d : Tmp} {op : Op} {ty : TypeId} {pos : String} {aft : Array Edge} {j : Nat} {want : Bool} :
    dz P N all Q (⟨some d, op, ty, pos, aft, some (j, want)⟩ :: rest) fr h = brB (decide (d < N)) (ifG (guardZ N all fr j want) fun gs =>
      ifV (opV P h (fun x => sts gs (evO fr x)) op) (fun av => dz P N all Q rest (pt fr d (gds gs av)) h)
      (brB (gs.all id) (ifC (callV (fun x => sts gs (evO fr x)) op) (fun fv as => dcallV P fv as h fun av h' => dz P N all Q rest (pt fr d av) h') (ifE (opE P h (fun x => sts gs (evO fr x)) op) (fun av h' => dz P N all Q rest (pt fr d av) h') False))
        (dz P N all Q rest (pt fr d (.tup [])) h))) False := by
  rw [dz_eq]
  by_cases hd : d < N
  · simp only [dops, dstOk, hd, decide_true, brB_true, if_true, pt_eq]
    have hg : guardE N all fr ⟨some d, op, ty, pos, aft, some (j, want)⟩ = guardZ N all fr j want := rfl
    rw [hg]
    cases h0 : guardZ N all fr j want with
    | none => unfold ifG; rw [Seal_eq]
    | some gs =>
      rw [ifG_some]
      cases h1 : opV P h (fun x => sts gs (evO fr x)) op with
      | some av => simp only [h1, ifV_some]
      | none =>
        simp only [h1, ifV_none, brB_eq]
        cases h2 : callV (fun x => sts gs (evO fr x)) op with
        | some p => obtain ⟨fv, as⟩ := p; simp only [h2, ifC_some]
        | none =>
          simp only [h2, ifC_none]
          cases h3 : opE P h (fun x => sts gs (evO fr x)) op with
          | some p => obtain ⟨av, h'⟩ := p; simp only [h3, ifE_some]
          | none => simp only [h3, ifE_none]
  · simp only [dops, dstOk, hd, decide_false, brB_false, Bool.false_eq_true, if_false]

/-! ### Code -/
noncomputable def wz : Program → Option Nat → Nat → Code → Post → Fr → Hp → Prop := Seal wc
theorem wz_eq : wz = wc := Seal_eq _
section
variable {P : Program} {rd : Option Nat} {N : Nat} {Q : Post} {fr : Fr} {h : Hp}
theorem wz_congr {c : Code} {fr' : Fr} {h' : Hp} (hf : hold fr = fr') (hh : hold h = h') : wz P rd N c Q fr h = wz P rd N c Q fr' h' := by rw [← hh, ← hf]; rfl
theorem wz_skip : wz P rd N .skip Q fr h = Q .normal fr h := by rw [wz_eq]; rfl
theorem wz_label (l : Nat) : wz P rd N (.label l) Q fr h = Q .normal fr h := by rw [wz_eq]; rfl
theorem wz_exit (id : Nat) : wz P rd N (.exit id) Q fr h = Q (.exit id) fr h := by rw [wz_eq]; rfl
theorem wz_goto (l : Nat) : wz P rd N (.goto l) Q fr h = Q (.goto l) fr h := by rw [wz_eq]; rfl
theorem wz_ret : wz P rd N .ret Q fr h = Q .ret fr h := by rw [wz_eq]; rfl
theorem wz_region (id : Nat) (l : List Oper) : wz P rd N (.region id l.toArray false) Q fr h = dz P N l (Q .normal) l fr h := by rw [wz_eq, dz_eq]; rfl
theorem wz_draw (id : Nat) (ops : Array Oper) : wz P rd N (.region id ops true) Q fr h = dwp P rd N (.region id ops true) Q fr h := by rw [wz_eq]; rfl
theorem wz_seq (x y : Code) : wz P rd N (.seq x y) Q fr h = wz P rd N x (thenQ (wz P rd N y Q) Q) fr h := by rw [wz_eq]; rfl
theorem wz_cond (c : Operand) (x y : Code) : wz P rd N (.cond c x y) Q fr h = ifB (evO fr c) fun t => brB t (wz P rd N x Q fr h) (wz P rd N y Q fr h) := by
  rw [wz_eq]
  simp only [wc]
  cases h1 : evO fr c <;> first | (rw [ifB_b, brB_eq]) | (unfold ifB; rw [Seal_eq])
theorem wz_block (id : Nat) (c : Code) : wz P rd N (.block id c) Q fr h = wz P rd N c (inBlockQ id Q) fr h := by rw [wz_eq]; rfl
theorem wz_scope (c : Code) : wz P rd N (.scope c) Q fr h = wz P rd N c (noGotoQ Q) fr h := by rw [wz_eq]; rfl
theorem wz_loop (c : Code) : wz P rd N (.loop c) Q fr h = dwp P rd N (.loop c) Q fr h := by rw [wz_eq]; rfl
theorem wz_range (f : Operand) (ps : Array Tmp) (a b : Code) : wz P rd N (.rangeFunc f ps a b) Q fr h = dwp P rd N (.rangeFunc f ps a b) Q fr h := by rw [wz_eq]; rfl
theorem wz_sound {c : Code} (hd : wz P rd N c Q fr h) : dwp P rd N c Q fr h := by rw [wz_eq] at hd; exact wc_sound hd
end

theorem call_z {P : Program} {f : FuncId} {fn : Func} {c : Code} {args : List AV} {h : Hp} {R : AV → Hp → Prop} (hf : P.funcs[f]? = some fn) (hb : fn.body = some c) (hc : ∀ as w, (callFunc f as).run P w = .ok (.enter f as) w)
    {N : Nat} (hN : fn.ntmps = N) (hl : args.length ≤ N) (hd : wz P none N c (retQ P fn h R) (fz args) h) : dcall P f args h R := by
  rw [wz_eq, fz_eq] at hd
  exact call_of hf hb hc hN hl hd

theorem loop_z {P : Program} {rd : Option Nat} {N : Nat} {Q : Post} {fr : Fr} {h : Hp} {c : Code} (I : Nat → Fr → Hp → Prop) (n : Nat) (h0 : I n fr h) (round : ∀ n fr h, I n fr h → wz P rd N c (thenQ (fun fr' h' => ∃ m, m < n ∧ I m fr' h') Q) fr h) : dwp P rd N (.loop c) Q fr h :=
  loop_of I n h0 (by rw [wz_eq] at round; exact round)

/-! ### Regions that draw their order -/
noncomputable def qz : Program → Nat → List Oper → (Fr → Hp → Prop) → Plan → List Oper → Fr → List Hp → Prop := Seal qops
theorem qz_eq : qz = qops := Seal_eq _
section
variable {P : Program} {N : Nat} {all rest : List Oper} {Q : Fr → Hp → Prop} {fr : Fr} {hs : List Hp} {d : Tmp} {op : Op} {ty : TypeId} {pos : String} {aft : Array Edge}
theorem qz_congr {l : List Oper} {pl : Plan} {fr' : Fr} {hs' : List Hp} (hf : hold fr = fr') (hh : hold hs = hs') : qz P N all Q pl l fr hs = qz P N all Q pl l fr' hs' := by rw [← hh, ← hf]; rfl
theorem qz_nil (pl : Plan) : qz P N all Q pl [] fr hs = Q fr (hs.getLastD []) := by rw [qz_eq]; cases pl <;> rfl
theorem qz_plan (o : Oper) : qz P N all Q [] (o :: rest) fr hs = qz P N all Q [some 0] (o :: rest) fr hs := by rw [qz_eq]; rfl

theorem qz_quiet {lo : Nat} {pl : Plan} : qz P N all Q (some lo :: pl) (⟨some d, op, ty, pos, aft, none⟩ :: rest) fr hs = brB (decide (d < N)) (ifH (hsAt hs lo) fun h =>
    ifV (opW P h (evO fr) op) (fun av => qz P N all Q pl rest (pt fr d av) hs)
      (ifC (callV (evO fr) op) (fun fv as => ∃ av, (∀ l, dcallV P fv as (h ++ l) fun av' h' => av' = av ∧ h' = h ++ l) ∧ qz P N all Q pl rest (pt fr d av) hs) False)) False := by
  rw [qz_eq]
  by_cases hd : d < N
  · simp only [qops, dstOk, hd, decide_true, brB_true, guardE, if_true, sts_nil, gds, List.all_nil, true_implies, reduceCtorEq, false_implies, and_true, false_and, pt_eq, List.headD_cons, List.tail_cons]
    cases h0 : hsAt hs lo with
    | none => unfold ifH; rw [Seal_eq]
    | some h =>
      rw [ifH_some]
      cases h1 : opW P h (fun x => evO fr x) op with
      | some av => simp only [show opW P h (evO fr) op = some av from h1, ifV_some]
      | none =>
        simp only [show opW P h (evO fr) op = none from h1, ifV_none]
        cases h2 : callV (fun x => evO fr x) op with
        | some p => obtain ⟨fv, as⟩ := p; simp only [show callV (evO fr) op = some (fv, as) from h2, ifC_some]
        | none => simp only [show callV (evO fr) op = none from h2, ifC_none]
  · simp only [qops, dstOk, hd, decide_false, brB_false, Bool.false_eq_true, if_false]

theorem qz_quiet_g {lo : Nat} {pl : Plan} {j : Nat} {want : Bool} : qz P N all Q (some lo :: pl) (⟨some d, op, ty, pos, aft, some (j, want)⟩ :: rest) fr hs = brB (decide (d < N)) (ifG (guardZ N all fr j want) fun gs => ifH (hsAt hs lo) fun h =>
    ifV (opW P h (fun x => sts gs (evO fr x)) op) (fun av => qz P N all Q pl rest (pt fr d (gds gs av)) hs)
      (ifC (callV (fun x => sts gs (evO fr x)) op) (fun fv as => ∃ av, (gs.all id = true → ∀ l, dcallV P fv as (h ++ l) fun av' h' => av' = av ∧ h' = h ++ l) ∧ qz P N all Q pl rest (pt fr d (gds gs av)) hs) (gs.all id = false ∧ qz P N all Q pl rest (pt fr d (gds gs .any)) hs))) False := by
  rw [qz_eq]
  by_cases hd : d < N
  · simp only [qops, dstOk, hd, decide_true, brB_true, if_true, pt_eq, List.headD_cons, List.tail_cons]
    have hg : guardE N all fr ⟨some d, op, ty, pos, aft, some (j, want)⟩ = guardZ N all fr j want := rfl
    rw [hg]
    cases h00 : guardZ N all fr j want with
    | none => unfold ifG; rw [Seal_eq]
    | some gs =>
    rw [ifG_some]
    simp only
    cases h0 : hsAt hs lo with
    | none => unfold ifH; rw [Seal_eq]
    | some h =>
      rw [ifH_some]
      cases h1 : opW P h (fun x => sts gs (evO fr x)) op with
      | some av => simp only [h1, ifV_some]
      | none =>
        simp only [h1, ifV_none]
        cases h2 : callV (fun x => sts gs (evO fr x)) op with
        | some p => obtain ⟨fv, as⟩ := p; simp only [ifC_some]
        | none => simp only [ifC_none]
  · simp only [qops, dstOk, hd, decide_false, brB_false, Bool.false_eq_true, if_false]

theorem qz_turn {pl : Plan} : qz P N all Q (none :: pl) (⟨some d, op, ty, pos, aft, none⟩ :: rest) fr hs = brB (decide (d < N)) (
    ifE (opE P (hs.getLastD []) (evO fr) op) (fun av h' => qz P N all Q pl rest (pt fr d av) (hs ++ [h']))
      (ifC (callV (evO fr) op) (fun fv as => ∃ av h', dcallV P fv as (hs.getLastD []) (fun av' h'' => av' = av ∧ h'' = h') ∧ qz P N all Q pl rest (pt fr d av) (hs ++ [h'])) False)) False := by
  rw [qz_eq]
  by_cases hd : d < N
  · simp only [qops, dstOk, hd, decide_true, brB_true, guardE, if_true, pt_eq, List.headD_cons, List.tail_cons]
    cases h1 : opE P (hs.getLastD []) (evO fr) op with
    | some p => obtain ⟨av, h'⟩ := p; simp only [ifE_some]
    | none =>
      simp only [ifE_none]
      cases h2 : callV (evO fr) op with
      | some p => obtain ⟨fv, as⟩ := p; simp only [ifC_some]
      | none => simp only [ifC_none]
  · simp only [qops, dstOk, hd, decide_false, brB_false, Bool.false_eq_true, if_false]

theorem qz_turn0 {pl : Plan} : qz P N all Q (none :: pl) (⟨none, op, ty, pos, aft, none⟩ :: rest) fr hs =
    ifE (opE P (hs.getLastD []) (evO fr) op) (fun _ h' => qz P N all Q pl rest fr (hs ++ [h']))
      (ifC (callV (evO fr) op) (fun fv as => ∃ av h', dcallV P fv as (hs.getLastD []) (fun av' h'' => av' = av ∧ h'' = h') ∧ qz P N all Q pl rest fr (hs ++ [h'])) False) := by
  rw [qz_eq]
  simp only [qops, dstOk, guardE, if_true, put_none, List.headD_cons, List.tail_cons]
  cases h1 : opE P (hs.getLastD []) (evO fr) op with
  | some p => obtain ⟨av, h'⟩ := p; simp only [ifE_some]
  | none =>
    simp only [ifE_none]
    cases h2 : callV (evO fr) op with
    | some p => obtain ⟨fv, as⟩ := p; simp only [ifC_some]
    | none => simp only [ifC_none]
end

theorem draw_z {P : Program} {rd : Option Nat} {N : Nat} {Q : Post} {fr : Fr} {h : Hp} {id : Nat} {l : List Oper} (pl : Plan) (hm : P.follows .mixedOrders = true) (hk : chk l.toArray pl = true)
    (hd : qz P N l (Q .normal) pl l fr [h]) : dwp P rd N (.region id l.toArray true) Q fr h := by
  rw [qz_eq] at hd
  exact dwp_draw pl hm hk hd

/-! ### Rounds -/
theorem yld_z {P : Program} {id N : Nat} {ps : Array Tmp} {asg body : Code} {fr : Fr} {args : List AV} {h : Hp} {R : AV → Hp → Prop} (hid : h[id]? = some (.loop ps asg body N fr (some none))) (hps : ps.toList.all (fun t => decide (t < N)) = true) (hlen : ps.size = args.length)
    (hd : wz P (some id) N asg (fun e fr1 h1 => e = .normal ∧ h1[id]? = some (.loop ps asg body N fr (some none)) ∧
      wz P (some id) N body (fun e fr2 h2 => ∃ j, jumpOf e = some j ∧ h2[id]? = some (.loop ps asg body N fr none) ∧ R (.b j.isNone) (h2.set id (.loop ps asg body N fr (some j)))) fr1 (h1.set id (.loop ps asg body N fr none))) (putL fr ps.toList args) h) : dcallV P (.yld id) args h R := by
  refine dcallV_yld hid hps hlen ((wz_sound hd).mono ?_)
  rintro e fr1 h1 ⟨h2, h3, h4⟩
  exact ⟨h2, h3, wz_sound h4⟩

theorem range_z {P : Program} {rd : Option Nat} {N : Nat} {Q : Post} {fr : Fr} {h : Hp} {gO : Operand} {ps : Array Tmp} {asg body : Code} {f : FuncId} {fs cs : List AV} (n : Nat) (args : List AV) (hg : evO fr gO = .fn f fs cs) (hc : ∀ as w, (callFunc f as).run P w = .ok (.enter f as) w)
    (hrd : rd = none ∨ ∃ q o, rd = some q ∧ h[q]? = some o ∧ isLoop o) (hn : h.length = n) (ha : fs ++ [.yld n] ++ cs = args)
    (hcall : dcall P f args (h ++ [.loop ps asg body N fr (some none)]) fun _ h2 => ∃ j, h2[n]? = some (.loop ps asg body N fr (some j)) ∧ (match j with
      | none => Q .normal fr (h2.set n .dead)
      | some c => dwp P rd N c Q fr (h2.set n .dead))) : dwp P rd N (.rangeFunc gO ps asg body) Q fr h := by
  subst hn; subst ha
  exact dwp_rangeFunc hg hc hrd hcall

/-- A call of yield, the loop's record under a name of its own. -/
theorem yld_L {P : Program} {id N : Nat} {ps : Array Tmp} {asg body : Code} {fr : Fr} {args : List AV} {h : Hp} {R : AV → Hp → Prop} {LP : Option (Option Code) → HObj} (hLP : HObj.loop ps asg body N fr = LP)
    (hid : h[id]? = some (LP (some none))) (hps : ps.toList.all (fun t => decide (t < N)) = true) (hlen : ps.size = args.length)
    (hd : wz P (some id) N asg (fun e fr1 h1 => e = .normal ∧ h1[id]? = some (LP (some none)) ∧
      wz P (some id) N body (fun e fr2 h2 => ∃ j, jumpOf e = some j ∧ h2[id]? = some (LP none) ∧ R (.b j.isNone) (h2.set id (LP (some j)))) fr1 (h1.set id (LP none))) (putL fr ps.toList args) h) : dcallV P (.yld id) args h R := by
  subst hLP
  exact yld_z hid hps hlen hd
end Go.M
