/- The walk of code as a function: what is left to show is computed. -/
import Derived.Test.YtjnpfhihefchoaaDoorMn
namespace Go.M
open Go Go.RowKit
set_option linter.unusedVariables false
set_option linter.unusedSimpArgs false

/-- What is to be shown so that code comes to Q: loops, ranges over functions and drawn regions are left as they are. -/
def wc (P : Program) (rd : Option Nat) (N : Nat) : Code → Post → Fr → Hp → Prop
  | .skip, Q, fr, h => Q .normal fr h
  | .label _, Q, fr, h => Q .normal fr h
  | .exit id, Q, fr, h => Q (.exit id) fr h
  | .goto l, Q, fr, h => Q (.goto l) fr h
  | .ret, Q, fr, h => Q .ret fr h
  | .region id ops false, Q, fr, h => dops P N ops.toList (Q .normal) ops.toList fr h
  | .seq x y, Q, fr, h => wc P rd N x (thenQ (wc P rd N y Q) Q) fr h
  | .cond c x y, Q, fr, h => match evO fr c with
    | .b t => (t = true → wc P rd N x Q fr h) ∧ (t = false → wc P rd N y Q fr h)
    | _ => False
  | .block id c, Q, fr, h => wc P rd N c (inBlockQ id Q) fr h
  | .scope c, Q, fr, h => wc P rd N c (noGotoQ Q) fr h
  | c, Q, fr, h => dwp P rd N c Q fr h

theorem wc_sound {P : Program} {rd : Option Nat} {N : Nat} : ∀ {c : Code} {Q : Post} {fr : Fr} {h : Hp}, wc P rd N c Q fr h → dwp P rd N c Q fr h
  | .skip, _, _, _, hd => dwp_skip hd
  | .label _, _, _, _, hd => dwp_label hd
  | .exit _, _, _, _, hd => dwp_exit hd
  | .goto _, _, _, _, hd => dwp_goto hd
  | .ret, _, _, _, hd => dwp_ret hd
  | .region id ops false, _, _, _, hd => dwp_region hd
  | .region id ops true, _, _, _, hd => hd
  | .seq x y, Q, fr, h, hd => dwp_seq ((wc_sound (c := x) hd).mono fun e fr h hq => by
      cases e <;> first | exact wc_sound hq | exact hq)
  | .cond c x y, Q, fr, h, hd => by
    simp only [wc] at hd
    split at hd
    · rename_i t ht
      refine dwp_cond ht ?_
      cases t
      · exact wc_sound (hd.2 rfl)
      · exact wc_sound (hd.1 rfl)
    · exact hd.elim
  | .block id c, _, _, _, hd => dwp_block (wc_sound (c := c) hd)
  | .scope c, _, _, _, hd => dwp_scope (wc_sound (c := c) hd)
  | .loop _, _, _, _, hd => hd
  | .rangeFunc _ _ _ _, _, _, _, hd => hd
  | .refuse _, _, _, _, hd => hd

theorem call_of {P : Program} {f : FuncId} {fn : Func} {c : Code} {args : List AV} {h : Hp} {R : AV → Hp → Prop} (hf : P.funcs[f]? = some fn) (hb : fn.body = some c) (hc : ∀ as w, (callFunc f as).run P w = .ok (.enter f as) w)
    {N : Nat} (hN : fn.ntmps = N) (hl : args.length ≤ N) (hd : wc P none N c (retQ P fn h R) (fr0 args) h) : dcall P f args h R := by
  subst hN
  exact dcall_of hf hb hc hl (wc_sound hd)

theorem loop_of {P : Program} {rd : Option Nat} {N : Nat} {Q : Post} {fr : Fr} {h : Hp} {c : Code} (I : Nat → Fr → Hp → Prop) (n : Nat) (h0 : I n fr h) (round : ∀ n fr h, I n fr h → wc P rd N c (thenQ (fun fr' h' => ∃ m, m < n ∧ I m fr' h') Q) fr h) : dwp P rd N (.loop c) Q fr h :=
  dwp_loop I n h0 fun n fr h hI => wc_sound (round n fr h hI)

/-! ### Congruences: the walk does not look behind ('hold' makes each of them count as one that turned something) -/
def hold {α : Type} (x : α) : α := x
theorem hold_eq {α : Type} (x : α) : hold x = x := Eq.trans (Eq.refl (hold x)) rfl
theorem wc_congr {P : Program} {rd : Option Nat} {N : Nat} {c : Code} {Q : Post} {fr : Fr} {h h' : Hp} (hh : hold h = h') : wc P rd N c Q fr h = wc P rd N c Q fr h' := by rw [← hh]; rfl
theorem dops_congr {P : Program} {N : Nat} {all l : List Oper} {Q : Fr → Hp → Prop} {fr : Fr} {h h' : Hp} (hh : hold h = h') : dops P N all Q l fr h = dops P N all Q l fr h' := by rw [← hh]; rfl
theorem dwp_congr {P : Program} {rd : Option Nat} {N : Nat} {c : Code} {Q : Post} {fr : Fr} {h h' : Hp} (hh : hold h = h') : dwp P rd N c Q fr h = dwp P rd N c Q fr h' := by rw [← hh]; rfl
theorem dcallV_congr {P : Program} {f f' : AV} {args args' : List AV} {h h' : Hp} {R : AV → Hp → Prop} (hf : hold f = f') (ha : hold args = args') (hh : hold h = h') : dcallV P f args h R = dcallV P f' args' h' R := by rw [← hf, ← ha, ← hh]; rfl
theorem dcall_congr {P : Program} {f : FuncId} {args args' : List AV} {h h' : Hp} {R : AV → Hp → Prop} (ha : hold args = args') (hh : hold h = h') : dcall P f args h R = dcall P f args' h' R := by rw [← ha, ← hh]; rfl
theorem retQ_congr {P : Program} {fn : Func} {h0 : Hp} {R : AV → Hp → Prop} {e : Exit} {fr : Fr} {h h' : Hp} (hh : hold h = h') : retQ P fn h0 R e fr h = retQ P fn h0 R e fr h' := by rw [← hh]; rfl
theorem thenQ_congr {A : Fr → Hp → Prop} {B : Post} {e : Exit} {fr : Fr} {h h' : Hp} (hh : hold h = h') : thenQ A B e fr h = thenQ A B e fr h' := by rw [← hh]; rfl
theorem inBlockQ_congr {id : Nat} {B : Post} {e : Exit} {fr : Fr} {h h' : Hp} (hh : hold h = h') : inBlockQ id B e fr h = inBlockQ id B e fr h' := by rw [← hh]; rfl
theorem noGotoQ_congr {B : Post} {e : Exit} {fr : Fr} {h h' : Hp} (hh : hold h = h') : noGotoQ B e fr h = noGotoQ B e fr h' := by rw [← hh]; rfl
theorem roundQ_congr {P : Program} {id N : Nat} {ps : Array Tmp} {asg body : Code} {f0 : Fr} {R : AV → Hp → Prop} {e : Exit} {fr : Fr} {h h' : Hp} (hh : hold h = h') : roundQ P id N ps asg body f0 R e fr h = roundQ P id N ps asg body f0 R e fr h' := by rw [← hh]; rfl
end Go.M
