/- One operation on an abstract state: a function, and it is sound. -/
import Derived.Test.YtjnpfhihefchoaaDoorMi
namespace Go.M
open Go Go.RowKit
set_option linter.unusedVariables false
set_option linter.unusedSimpArgs false

abbrev Fr := Nat → AV

def evO (fr : Fr) : Operand → AV
  | .tmp t => fr t
  | .const v => cv v
  | .global _ => .any
  | .func f => .fn f [] []

def Fr.put (fr : Fr) (d : Option Tmp) (v : AV) : Fr :=
  match d with
  | some t => fun u => if u = t then v else fr u
  | none => fr

def wh (h : Hp) : Option AV → Option (AV × Hp)
  | some a => some (a, h)
  | none => none

def wa : Option Hp → Option (AV × Hp)
  | some h => some (.any, h)
  | none => none

def nilCheckE (x : AV) : Option AV :=
  match x with
  | .ptr id v o => some (.ptr id v o)
  | .pim cs => some (.pim cs)
  | .fn f a b => some (.fn f a b)
  | .yld id => some (.yld id)
  | _ => none

def extractE (x : AV) (j : Nat) : Option AV :=
  match x with
  | .tup vs => vs[j]?
  | _ => none

/-- A value that is there where x holds is there where x holds. -/
def st (x : Bool) (a : AV) : AV :=
  match a with
  | .gd y v => if y = x then v else .gd y v
  | a => a

theorem st_rel {g : Gh} {w : World} {x : Bool} {a : AV} {v : Value} (hx : x = true) (h : RelV g w a v) : RelV g w (st x a) v := by
  unfold st
  split
  · split
    · rename_i y u hy
      subst hy
      simp only [RelV] at h
      exact h.1 hx
    · exact h
  · exact h

def sts : List Bool → AV → AV
  | [], a => a
  | x :: xs, a => sts xs (st x a)

theorem sts_rel {g : Gh} {w : World} : ∀ {xs : List Bool} {a : AV} {v : Value}, xs.all id = true → RelV g w a v → RelV g w (sts xs a) v
  | [], _, _, _, h => h
  | x :: xs, a, v, hx, h => by
    have hx' : x = true ∧ xs.all id = true := by simpa using hx
    exact sts_rel (xs := xs) hx'.2 (st_rel hx'.1 h)

def gds : List Bool → AV → AV
  | [], a => a
  | x :: xs, a => .gd x (gds xs a)

theorem gds_rel {g : Gh} {w : World} : ∀ {xs : List Bool} {a : AV} {v : Value}, (xs.all id = true → RelV g w a v) → (xs.all id = false → v = .tuple #[]) → RelV g w (gds xs a) v
  | [], _, _, h, _ => h rfl
  | x :: xs, a, v, h, k => by
    simp only [gds, RelV]
    refine ⟨fun hx => gds_rel (xs := xs) (fun hxs => h ?_) (fun hxs => k ?_), fun hx => k ?_⟩
    · simp only [List.all_cons, hx, hxs]; rfl
    · simp only [List.all_cons, hx, hxs]; rfl
    · simp only [List.all_cons, hx]; rfl

def pickE (c a b : AV) : Option AV :=
  match c with
  | .b x => match st x a, st (!x) b with
    | .b p, .b q => some (.b (bif x then p else q))
    | a, b => some (bif x then a else b)
  | _ => none

def builtinE (P : Program) (h : Hp) (b : Builtin) (Ts : List TypeId) (as : List AV) : Option (AV × Hp) :=
  match b, Ts, as with
  | .append, [sT, xT], [s, x] => appendE P h sT xT s x
  | .copy, [dT, _], [d, s] => copyE P h dT d s
  | .len, [T], [x] => wh h (lenE P h T x)
  | .min, _, as => wh h (minL as)
  | .max, _, as => wh h (maxL as)
  | .unsafeSliceData, _, [x] => wh h (uSliceE h x)
  | .unsafeString, [pT, _], [x, n] => uStringE P h pT x n
  | _, _, _ => none

def opE (P : Program) (h : Hp) (ev : Operand → AV) (o : Op) : Option (AV × Hp) :=
  match o with
  | .move x => some (ev x, h)
  | .assign x => some (ev x, h)
  | .pick c a b => wh h (pickE (ev c) (ev a) (ev b))
  | .alloc T => allocE P h T
  | .box T x => boxE T h (ev x)
  | .build T ps => wh h (buildE P T (ps.toList.map fun p => (p.1, ev p.2)))
  | .buildSlice T n ps => wh h (buildSliceE P T n (ps.toList.map fun p => (p.1, ev p.2)))
  | .load T a => wh h (loadE P h T (ev a))
  | .store T a x => wa (storeE P h T (ev a) (ev x))
  | .nilCheck x => wh h (nilCheckE (ev x))
  | .binOp op T x y _ => wh h (binE P op T (ev x) (ev y))
  | .unOp op _ x => wh h (unE op (ev x))
  | .convert s d x => wh h (convE P h s d (ev x))
  | .makeFunc (.func f) fs cs => some (.fn f (fs.toList.map ev) (cs.toList.map ev), h)
  | .makeMap _ none => some (makeMapE h)
  | .makeSlice T l c => makeSliceE P h T (ev l) (ev c)
  | .slice T x lo hi mx => wh h (sliceE P h T (ev x) (lo.map ev) (hi.map ev) (mx.map ev))
  | .fieldAddr T x f => wh h (fieldAddrE P T (ev x) f)
  | .field T x f => wh h (fieldE P T (ev x) f)
  | .indexAddr T x i => wh h (indexAddrE P h T (ev x) (ev i))
  | .index T x i => wh h (indexE P T (ev x) (ev i))
  | .lookup T x k ok => wh h (lookupE P h T (ev x) (ev k) ok)
  | .mapUpdate T x k v => wa (mapUpdateE P h T (ev x) (ev k) (ev v))
  | .insert T x k v => wa (mapUpdateE P h T (ev x) (ev k) (ev v))
  | .extract t j => wh h (extractE (ev t) j)
  | .call { callee := .builtin b, args := as, argTypes := Ts } => builtinE P h b Ts.toList (as.toList.map ev)
  | _ => none

theorem evO_rel {g : Gh} {w : World} {fr : Fr} {a : Act} (h : ∀ t, RelV g w (fr t) (a.tmps.getD t undef)) (x : Operand) : RelV g w (evO fr x) (a.eval x) := by
  cases x with
  | tmp t => exact h t
  | const v => exact cv_rel g w v
  | global n => trivial
  | func f => exact ⟨[], [], rfl, rfl, rfl⟩

def OpRun (P : Program) (ρ : Operand → Value) (o : Oper) (g : Gh) (w : World) (av : AV) (h' : Hp) : Prop :=
  ∃ nx w' g', (execOp ρ o).run P w = .ok nx w' ∧ Ext g w g' w' ∧ WRel g' h' w' ∧ ((∃ v, nx = .value v ∧ RelV g' w' av v) ∨ (nx = .skip ∧ av = .any))

theorem OpRun.of_Yw {P : Program} {ρ : Operand → Value} {o : Oper} {g : Gh} {w : World} {av : AV} {h' : Hp} {s : Sem Value} (h : Yw P s g w av h') (he : execOp ρ o = (do pure (.value (← s)))) : OpRun P ρ o g w av h' := by
  obtain ⟨v, w', g', h1, h2, h3, h4⟩ := h
  exact ⟨.value v, w', g', by rw [he]; simp [h1], h2, h3, .inl ⟨v, rfl, h4⟩⟩

theorem Yv.yw {P : Program} {s : Sem Value} {g : Gh} {h : Hp} {w : World} {av : AV} (hw : WRel g h w) (hy : Yv P s g w av) : Yw P s g w av h := by
  obtain ⟨v, h1, h2⟩ := hy
  exact ⟨v, w, g, h1, Ext.refl _ _, hw, h2⟩

theorem wh_some {h h' : Hp} {o : Option AV} {av : AV} (e : wh h o = some (av, h')) : o = some av ∧ h' = h := by
  cases o with
  | none => simp [wh] at e
  | some a => simp only [wh, Option.some.injEq, Prod.mk.injEq] at e; exact ⟨by rw [e.1], e.2.symm⟩

theorem wa_some {h' : Hp} {o : Option Hp} {av : AV} (e : wa o = some (av, h')) : o = some h' ∧ av = .any := by
  cases o with
  | none => simp [wa] at e
  | some a => simp only [wa, Option.some.injEq, Prod.mk.injEq] at e; exact ⟨by rw [e.2], e.1.symm⟩

theorem relP_map {g : Gh} {w : World} {ev : Operand → AV} {ρ : Operand → Value} (h : ∀ x, RelV g w (ev x) (ρ x)) : ∀ (ps : List (Nat × Operand)), RelP g w (ps.map fun p => (p.1, ev p.2)) (ps.map fun p => (p.1, ρ p.2))
  | [] => trivial
  | p :: ps => ⟨rfl, h p.2, relP_map h ps⟩

theorem relL_map {g : Gh} {w : World} {ev : Operand → AV} {ρ : Operand → Value} (h : ∀ x, RelV g w (ev x) (ρ x)) : ∀ (ps : List Operand), RelL g w (ps.map ev) (ps.map ρ)
  | [] => rfl
  | p :: ps => ⟨_, _, rfl, h p, relL_map h ps⟩

theorem relO_map {g : Gh} {w : World} {ev : Operand → AV} {ρ : Operand → Value} (h : ∀ x, RelV g w (ev x) (ρ x)) : ∀ (o : Option Operand), RelO g w (o.map ev) (o.map ρ)
  | none => trivial
  | some x => h x

theorem opE_run {P : Program} {g : Gh} {h h' : Hp} {w : World} (hw : WRel g h w) {ev : Operand → AV} {ρ : Operand → Value} (hv : ∀ x, RelV g w (ev x) (ρ x)) (o : Oper) {av : AV} (he : opE P h ev o.op = some (av, h')) : OpRun P ρ o g w av h' := by
  unfold opE at he
  split at he
  · rename_i x ho
    simp only [Option.some.injEq, Prod.mk.injEq] at he; obtain ⟨rfl, rfl⟩ := he
    exact ⟨.value (ρ x), w, g, by simp [execOp, ho], Ext.refl _ _, hw, .inl ⟨_, rfl, hv x⟩⟩
  · rename_i x ho
    simp only [Option.some.injEq, Prod.mk.injEq] at he; obtain ⟨rfl, rfl⟩ := he
    exact ⟨.value (ρ x), w, g, by simp [execOp, ho], Ext.refl _ _, hw, .inl ⟨_, rfl, hv x⟩⟩
  · rename_i c a b ho
    (obtain ⟨hq, rfl⟩ := wh_some he; replace he := hq)
    have hc := hv c
    unfold pickE at he
    split at he
    · rename_i x hx
      rw [hx] at hc
      have hgen : RelV g w (bif x then st x (ev a) else st (!x) (ev b)) (if x then ρ a else ρ b) := by
        cases x
        · exact st_rel rfl (hv b)
        · exact st_rel rfl (hv a)
      refine ⟨.value (if x then ρ a else ρ b), w, g, by simp [execOp, ho, rel_b hc, asBool], Ext.refl _ _, hw, .inl ⟨_, rfl, ?_⟩⟩
      split at he
      · rename_i p q h1 h2
        simp only [Option.some.injEq] at he; subst he
        rw [h1, h2] at hgen
        cases x <;> exact hgen
      · simp only [Option.some.injEq] at he; subst he
        exact hgen
    · simp at he
  · rename_i T ho
    exact OpRun.of_Yw (allocE_run hw he) (by simp only [execOp, ho])
  · rename_i T x ho
    exact OpRun.of_Yw (boxE_run (T := T) hw (hv x) he) (by simp only [execOp, ho])
  · rename_i T ps ho
    (obtain ⟨hq, rfl⟩ := wh_some he; replace he := hq)
    exact OpRun.of_Yw ((buildE_run (vp := ps.map fun (i, x) => (i, ρ x)) (by simpa using relP_map hv ps.toList) he).yw hw) (by simp only [execOp, ho])
  · rename_i T n ps ho
    (obtain ⟨hq, rfl⟩ := wh_some he; replace he := hq)
    exact OpRun.of_Yw (buildSliceE_run hw (vp := ps.map fun (i, x) => (i, ρ x)) (by simpa using relP_map hv ps.toList) he) (by simp only [execOp, ho])
  · rename_i T x ho
    (obtain ⟨hq, rfl⟩ := wh_some he; replace he := hq)
    exact OpRun.of_Yw ((loadE_run hw (hv x) he).yw hw) (by simp only [execOp, ho])
  · rename_i T x y ho
    (obtain ⟨hq, rfl⟩ := wa_some he; replace he := hq)
    obtain ⟨w', g', h1, h2, h3⟩ := storeE_run hw (hv x) (hv y) he
    exact ⟨.skip, w', g', by simp [execOp, ho, h1], h2, h3, .inr ⟨rfl, rfl⟩⟩
  · rename_i x ho
    (obtain ⟨hq, rfl⟩ := wh_some he; replace he := hq)
    have hx := hv x
    unfold nilCheckE at he
    split at he
    all_goals try (simp at he; done)
    all_goals
      rename_i hxe
      simp only [Option.some.injEq] at he; subst he
      rw [hxe] at hx
      refine ⟨.value (ρ x), w, g, ?_, Ext.refl _ _, hw, .inl ⟨_, rfl, hx⟩⟩
      simp only [RelV] at hx
    · obtain ⟨L, _, hx⟩ := hx; simp [execOp, ho, hx]
    · obtain ⟨b, o', vs, hx, _⟩ := hx; simp [execOp, ho, hx]
    · obtain ⟨us, vs, hx, _⟩ := hx; simp [execOp, ho, hx]
    · obtain ⟨b, _, hx⟩ := hx; simp [execOp, ho, hx]
  · rename_i op T x y yT ho
    (obtain ⟨hq, rfl⟩ := wh_some he; replace he := hq)
    obtain ⟨v, h1, h2⟩ := binE_run x y he (hv x) (hv y)
    exact OpRun.of_Yw (Yv.yw hw ⟨v, h1, h2⟩) (by simp only [execOp, ho])
  · rename_i op T x ho
    (obtain ⟨hq, rfl⟩ := wh_some he; replace he := hq)
    exact OpRun.of_Yw (Yv.yw hw (unE_run he (hv x))) (by simp only [execOp, ho])
  · rename_i s d x ho
    (obtain ⟨hq, rfl⟩ := wh_some he; replace he := hq)
    exact OpRun.of_Yw ((convE_run hw (hv x) he).yw hw) (by simp only [execOp, ho])
  · rename_i f fs cs ho
    simp only [Option.some.injEq, Prod.mk.injEq] at he; obtain ⟨rfl, rfl⟩ := he
    refine ⟨.value (.func (.func f) (fs.map ρ) (cs.map ρ)), w, g, by simp [execOp, ho, Instr.makeFunc], Ext.refl _ _, hw, .inl ⟨_, rfl, ?_⟩⟩
    exact ⟨fs.toList.map ρ, cs.toList.map ρ, by congr 1 <;> (apply Array.ext'; simp), relL_map hv _, relL_map hv _⟩
  · rename_i T ho
    simp only [Option.some.injEq] at he
    have := makeMapE_run (P := P) (T := T) hw (.inl rfl)
    rw [he] at this
    exact OpRun.of_Yw this (by simp only [execOp, ho]; rfl)
  · rename_i T l c ho
    exact OpRun.of_Yw (makeSliceE_run hw (hv l) (hv c) he) (by simp only [execOp, ho])
  · rename_i T x lo hi mx ho
    (obtain ⟨hq, rfl⟩ := wh_some he; replace he := hq)
    exact OpRun.of_Yw ((sliceE_run hw (hv x) (relO_map hv lo) (relO_map hv hi) (relO_map hv mx) he).yw hw) (by simp only [execOp, ho])
  · rename_i T x f ho
    (obtain ⟨hq, rfl⟩ := wh_some he; replace he := hq)
    exact OpRun.of_Yw ((fieldAddrE_run (hv x) he).yw hw) (by simp only [execOp, ho])
  · rename_i T x f ho
    (obtain ⟨hq, rfl⟩ := wh_some he; replace he := hq)
    exact OpRun.of_Yw ((fieldE_run (hv x) he).yw hw) (by simp only [execOp, ho])
  · rename_i T x i ho
    (obtain ⟨hq, rfl⟩ := wh_some he; replace he := hq)
    exact OpRun.of_Yw ((indexAddrE_run hw (hv x) (hv i) he).yw hw) (by simp only [execOp, ho])
  · rename_i T x i ho
    (obtain ⟨hq, rfl⟩ := wh_some he; replace he := hq)
    exact OpRun.of_Yw ((indexE_run (hv x) (hv i) he).yw hw) (by simp only [execOp, ho])
  · rename_i T x k ok ho
    (obtain ⟨hq, rfl⟩ := wh_some he; replace he := hq)
    exact OpRun.of_Yw ((lookupE_run hw (hv x) (hv k) he).yw hw) (by simp only [execOp, ho])
  · rename_i T x k y ho
    (obtain ⟨hq, rfl⟩ := wa_some he; replace he := hq)
    obtain ⟨w', g', h1, h2, h3⟩ := mapUpdateE_run hw (hv x) (hv k) (hv y) he
    exact ⟨.skip, w', g', by simp [execOp, ho, h1], h2, h3, .inr ⟨rfl, rfl⟩⟩
  · rename_i T x k y ho
    (obtain ⟨hq, rfl⟩ := wa_some he; replace he := hq)
    obtain ⟨w', g', h1, h2, h3⟩ := mapUpdateE_run hw (hv x) (hv k) (hv y) he
    exact ⟨.skip, w', g', by simp [execOp, ho, h1], h2, h3, .inr ⟨rfl, rfl⟩⟩
  · rename_i t j ho
    (obtain ⟨hq, rfl⟩ := wh_some he; replace he := hq)
    have ht := hv t
    unfold extractE at he
    split at he
    · rename_i vs hvs
      rw [hvs] at ht
      simp only [RelV] at ht
      obtain ⟨us, hu, hr⟩ := ht
      obtain ⟨v, hv1, hv2⟩ := hr.get he
      refine OpRun.of_Yw (s := Instr.extract (ρ t) j) (Yv.yw hw ⟨v, ?_, hv2⟩) (by simp only [execOp, ho])
      simp [Instr.extract, hu, hv1]
    · simp at he
  · rename_i b as Ts ho
    have hrun : ∀ (s : Sem Value), builtin b Ts o.type (as.map fun | .const _ => true | _ => false) (as.map ρ) = (do pure (.value (← s))) → execOp ρ o = (do pure (.value (← s))) := fun s hs => by
      simp only [execOp, ho, resolve, pure_bind, invoke]
      exact hs
    have hargs : (as.map ρ) = (as.toList.map ρ).toArray := by apply Array.ext'; simp
    have hrel := relL_map hv as.toList
    unfold builtinE at he
    split at he
    · rename_i sT xT s x hTs has
      rw [has] at hrel
      simp only [RelL] at hrel
      obtain ⟨v1, _, e1, r1, v2, _, rfl, r2, rfl⟩ := hrel
      have hT : Ts = #[sT, xT] := by rw [← Array.toArray_toList (xs := Ts), hTs]
      exact OpRun.of_Yw (appendE_run (R := o.type) hw r1 r2 he) (hrun _ (by rw [hargs, e1, hT]; rfl))
    · rename_i dT sT d s hTs has
      rw [has] at hrel
      simp only [RelL] at hrel
      obtain ⟨v1, _, e1, r1, v2, _, rfl, r2, rfl⟩ := hrel
      have hT : Ts = #[dT, sT] := by rw [← Array.toArray_toList (xs := Ts), hTs]
      exact OpRun.of_Yw (copyE_run (R := o.type) (sT := sT) hw r1 r2 he) (hrun _ (by rw [hargs, e1, hT]; rfl))
    · rename_i T x hTs has
      (obtain ⟨hq, rfl⟩ := wh_some he; replace he := hq)
      rw [has] at hrel
      simp only [RelL] at hrel
      obtain ⟨v1, _, e1, r1, rfl⟩ := hrel
      have hT : Ts = #[T] := by rw [← Array.toArray_toList (xs := Ts), hTs]
      exact OpRun.of_Yw ((lenE_run hw o.type r1 he Ts (by rw [hT]; rfl)).yw hw) (hrun _ (by rw [hargs, e1]; rfl))
    · (obtain ⟨hq, rfl⟩ := wh_some he; replace he := hq)
      exact OpRun.of_Yw (Yv.yw hw (minL_run Ts o.type hrel he)) (hrun _ (by rw [hargs]; rfl))
    · (obtain ⟨hq, rfl⟩ := wh_some he; replace he := hq)
      exact OpRun.of_Yw (Yv.yw hw (maxL_run Ts o.type hrel he)) (hrun _ (by rw [hargs]; rfl))
    · rename_i x has
      (obtain ⟨hq, rfl⟩ := wh_some he; replace he := hq)
      rw [has] at hrel
      simp only [RelL] at hrel
      obtain ⟨v1, _, e1, r1, rfl⟩ := hrel
      exact OpRun.of_Yw ((uSliceE_run hw Ts o.type r1 he).yw hw) (hrun _ (by rw [hargs, e1]; rfl))
    · rename_i pT iT x n hTs has
      rw [has] at hrel
      simp only [RelL] at hrel
      obtain ⟨v1, _, e1, r1, v2, _, rfl, r2, rfl⟩ := hrel
      have hT : Ts = #[pT, iT] := by rw [← Array.toArray_toList (xs := Ts), hTs]
      exact OpRun.of_Yw (uStringE_run (iT := iT) hw o.type r1 r2 he) (hrun _ (by rw [hargs, e1, hT]; rfl))
    · cases he
  · simp at he

/-- What an operation yields that touches no memory, or only reads it. -/
def opV (P : Program) (h : Hp) (ev : Operand → AV) (o : Op) : Option AV :=
  match o with
  | .move x => some (ev x)
  | .assign x => some (ev x)
  | .pick c a b => pickE (ev c) (ev a) (ev b)
  | .build T ps => buildE P T (ps.toList.map fun p => (p.1, ev p.2))
  | .load T a => loadE P h T (ev a)
  | .nilCheck x => nilCheckE (ev x)
  | .binOp op T x y _ => binE P op T (ev x) (ev y)
  | .unOp op _ x => unE op (ev x)
  | .convert s d x => convE P h s d (ev x)
  | .makeFunc (.func f) fs cs => some (.fn f (fs.toList.map ev) (cs.toList.map ev))
  | .slice T x lo hi mx => sliceE P h T (ev x) (lo.map ev) (hi.map ev) (mx.map ev)
  | .fieldAddr T x f => fieldAddrE P T (ev x) f
  | .field T x f => fieldE P T (ev x) f
  | .indexAddr T x i => indexAddrE P h T (ev x) (ev i)
  | .index T x i => indexE P T (ev x) (ev i)
  | .lookup T x k ok => lookupE P h T (ev x) (ev k) ok
  | .extract t j => extractE (ev t) j
  | .call { callee := .builtin .len, args := as, argTypes := Ts } => match Ts.toList, as.toList with
    | [T], [x] => lenE P h T (ev x)
    | _, _ => none
  | .call { callee := .builtin .min, args := as, argTypes := _ } => minL (as.toList.map ev)
  | .call { callee := .builtin .max, args := as, argTypes := _ } => maxL (as.toList.map ev)
  | .call { callee := .builtin .unsafeSliceData, args := as, argTypes := _ } => match as.toList with
    | [x] => uSliceE h (ev x)
    | _ => none
  | _ => none

theorem opV_opE {P : Program} {h : Hp} {ev : Operand → AV} {o : Op} {av : AV} (hv : opV P h ev o = some av) : opE P h ev o = some (av, h) := by
  unfold opV at hv
  split at hv
  all_goals first
    | (simp at hv; done)
    | (simp only [Option.some.injEq] at hv; subst hv; rfl)
    | (simp only [opE, hv, wh]; done)
    | skip
  · rename_i as Ts
    split at hv
    · rename_i T x hT hx
      simp only [opE, builtinE, hT, hx, List.map_cons, List.map_nil, hv, wh]
    · simp at hv
  · simp only [opE, builtinE, hv, wh]
  · simp only [opE, builtinE, hv, wh]
  · rename_i as Ts
    split at hv
    · rename_i x hx
      simp only [opE, builtinE, hx, List.map_cons, List.map_nil, hv, wh]
    · cases hv
end Go.M
