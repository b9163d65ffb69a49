/- Plain: heaps that keep what was there; freezing at a call; rows of equal parts. -/
import Derived.Test.YtjnpfhihefchoaaDoorMx
namespace Go.M
open Go Go.RowKit
set_option linter.unusedVariables false
set_option linter.unusedSimpArgs false

/-- What was there is there. -/
def Keep (h h' : Hp) : Prop := ∀ (i : Nat) (x : HObj), h[i]? = some x → h'[i]? = some x
theorem Keep.refl (h : Hp) : Keep h h := fun _ _ h => h
theorem Keep.trans {a b c : Hp} (x : Keep a b) (y : Keep b c) : Keep a c := fun i o h => y i o (x i o h)
theorem Keep.app (h l : Hp) : Keep h (h ++ l) := fun i x hx => get_ext l hx
theorem Keep.of_app {h h' : Hp} (k : Keep h h') (l : Hp) : Keep h (h' ++ l) := k.trans (Keep.app h' l)
/-- An object that was not there turns. -/
theorem Keep.set {h h' : Hp} (k : Keep h h') {i : Nat} (hi : h.length ≤ i) (x : HObj) : Keep h (h'.set i x) := fun j y hj => by
  have := lt_of_get hj
  rw [List.getElem?_set_ne (by omega)]; exact k j y hj
theorem Keep.len {h h' : Hp} (k : Keep h h') : h.length ≤ h'.length := by
  rcases Nat.eq_zero_or_pos h.length with h0 | h0
  · omega
  · have := lt_of_get (k (h.length - 1) _ (List.getElem?_eq_getElem (by omega))); omega

theorem get_app {h : Hp} {i : Nat} {x : HObj} (hx : h[i]? = some x) : ∀ l, (h ++ l)[i]? = some x := fun l => get_ext l hx

/-- An object's cells may say less. -/
theorem weak_obj {g : Gh} {h : Hp} {w : World} (hw : WRel g h w) {j v e : Nat} {cs cs' : List AV} (hj : h[j]? = some (.cells v e cs)) (hlen : cs'.length = cs.length)
    (hr : ∀ L vs, ObjAt g w j v e cs L vs → RelL g w cs' vs) : WRel g (h.set j (.cells v e cs')) w := by
  have ho := hw.obj j
  rw [hj] at ho
  obtain ⟨⟨L, vs, hL⟩, hv⟩ := ho
  have hlt := lt_of_get hj
  refine hw.update (Ext.refl _ _) j (fun id hne => by rw [List.getElem?_set_ne (fun e => hne e.symm)]) (fun id' hne b o hb => ⟨hb, rfl, rfl⟩) (fun id b o _ _ hb _ => hb) (fun _ _ _ => rfl) (fun _ _ => rfl) ?_ (fun b hb => .inl hb) (fun b o ho => .inl ho) (Below.refl _ w)
  rw [List.getElem?_set_self hlt]
  exact ⟨⟨L, vs, hL.loc, hL.esz, by rw [hlen]; exact hL.len, hr _ _ hL, hL.cell, hL.one, hL.there, hL.thaw, hL.own, hL.base, hL.shape, hL.base0⟩, hv⟩

theorem frzs_len (id ver esz : Nat) (cs : List AV) : ∀ l, (AV.frzs id ver esz cs l).length = l.length
  | [] => rfl
  | a :: as => by simp [AV.frzs, frzs_len id ver esz cs as]

theorem freeze_box {g : Gh} {h : Hp} {w : World} (hw : WRel g h w) {id ver esz : Nat} {cs : List AV} (hid : h[id]? = some (.cells ver esz cs)) {j v e : Nat} {cj : List AV} (hj : h[j]? = some (.cells v e cj)) (hne : j ≠ id) :
    ∃ g', WRel g' ((h.set id .dead).set j (.cells v e (AV.frzs id ver esz cs cj))) w ∧ Frozen g w g' id ver esz cs := by
  have hlt := lt_of_get hid
  have hoj := hw.obj j
  rw [hj] at hoj
  obtain ⟨⟨Lj, vj, hLj⟩, _⟩ := hoj
  obtain ⟨g', hw', F⟩ := freeze_obj (h' := h.set id .dead) hw hid (by simp [hlt]) (fun id' hne => by rw [List.getElem?_set_ne (fun h => hne h.symm)])
  have hj' : (h.set id .dead)[j]? = some (.cells v e cj) := by rw [List.getElem?_set_ne (fun e => hne e.symm)]; exact hj
  refine ⟨g', weak_obj hw' hj' (frzs_len _ _ _ _ _) ?_, F⟩
  intro L vs hL
  have hLL : L = Lj := by
    have h1 := F.ext.loc _ _ _ hLj.loc
    rw [hL.loc] at h1; simpa using h1
  subst hLL
  have hvv : vs = vj := by
    apply List.ext_getElem?
    intro k
    have l1 := hL.rel.len; have l2 := hLj.rel.len
    rcases Nat.lt_or_ge k cj.length with hk | hk
    · have h1 := List.getElem?_eq_getElem (l := vs) (i := k) (by omega)
      have h2 := List.getElem?_eq_getElem (l := vj) (i := k) (by omega)
      have e1 := hL.cell k _ h1; have e2 := hLj.cell k _ h2
      rw [e1] at e2
      rw [h1, h2, e2]
    · rw [List.getElem?_eq_none (by omega), List.getElem?_eq_none (by omega)]
  subst hvv
  exact F.rels hLj.rel

/-- At a call: an object's row is nobody's to turn any more; a box that names it says so. -/
theorem dcallV_frz {P : Program} {f : AV} {as : List AV} {h : Hp} {R : AV → Hp → Prop} (id ver esz : Nat) (cs : List AV) (hid : h[id]? = some (.cells ver esz cs)) (j v e : Nat) (cj : List AV) (hj : h[j]? = some (.cells v e cj)) (hne : j ≠ id)
    (hc : dcallV P (f.frz id ver esz cs) (AV.frzs id ver esz cs as) ((h.set id .dead).set j (.cells v e (AV.frzs id ver esz cs cj))) R) : dcallV P f as h R := by
  intro g w vf vs hw hf ha
  obtain ⟨g', hw', F⟩ := freeze_box hw hid hj hne
  exact (hc g' w vf vs hw' (F.rel hf) (F.rels ha)).mono fun e w' hcp => by
    obtain ⟨v, g2, av, h2, h3, h4, h5, h6, h7⟩ := hcp
    exact ⟨v, g2, av, h2, h3, F.ext.trans h4, h5, h6, h7⟩

/-- At a return: a row that is handed back is nobody's to turn any more. -/
theorem retQ_frz (as : List AV) {P : Program} {fn : Func} {h0 h : Hp} {R : AV → Hp → Prop} {e : Exit} {fr : Fr} (id ver esz : Nat) (cs : List AV) (he : e = .normal ∨ e = .ret) (hr : resL P h fr fn.results.toList = some as) (hid : h[id]? = some (.cells ver esz cs)) (hge : h0.length ≤ id)
    (hp : ((results1 as).frz id ver esz cs).pure = true) (hk : Keep h0 h) (hR : R ((results1 as).frz id ver esz cs) h0) : retQ P fn h0 R e fr h := by
  have hk' : Keep h0 (h.set id .dead) := hk.set hge _
  have e1 : h.set id .dead = h0 ++ (h.set id .dead).drop h0.length := by
    apply List.ext_getElem?
    intro i
    rcases Nat.lt_or_ge i h0.length with h1 | h1
    · rw [List.getElem?_append_left h1]
      have := List.getElem?_eq_getElem h1
      rw [hk' i _ this, this]
    · rw [List.getElem?_append_right h1, List.getElem?_drop, show h0.length + (i - h0.length) = i by omega]
  refine ⟨he, as, _, h0, hr, (Sink.freeze id ver esz cs hid).trans ?_, hR⟩
  rw [e1]
  exact Sink.drop _ hp

/-- A call whose arguments say more. -/
theorem dcall_le {P : Program} {f : FuncId} {as bs : List AV} {h : Hp} {R : AV → Hp → Prop} (hle : AVles as bs) (hc : dcall P f bs h R) : dcall P f as h R :=
  fun g w vs hw ha => hc g w vs hw (hle g w vs ha)

/-! ### Rows of equal parts -/
/-- The cells of a row of things. -/
def rows {α : Type} (enc : α → List AV) (l : List α) : List AV := l.flatMap enc
theorem flat_len {α : Type} (enc : α → List AV) (k : Nat) (he : ∀ a, (enc a).length = k) : ∀ l : List α, (l.flatMap enc).length = l.length * k
  | [] => by simp
  | a :: l => by simp [flat_len enc k he l, he, Nat.succ_mul, Nat.add_comm]
theorem flat_drop {α : Type} (enc : α → List AV) (k : Nat) (he : ∀ a, (enc a).length = k) : ∀ (l : List α) (i : Nat), (l.flatMap enc).drop (i * k) = (l.drop i).flatMap enc
  | l, 0 => by simp
  | [], i + 1 => by simp
  | a :: l, i + 1 => by
    rw [List.flatMap_cons, Nat.succ_mul, Nat.add_comm, ← List.drop_drop, List.drop_left' (he a), flat_drop enc k he l i]; rfl
theorem flat_take {α : Type} (enc : α → List AV) (k : Nat) (he : ∀ a, (enc a).length = k) : ∀ (l : List α) (i : Nat), (l.flatMap enc).take (i * k) = (l.take i).flatMap enc
  | l, 0 => by simp
  | [], i + 1 => by simp
  | a :: l, i + 1 => by
    rw [List.flatMap_cons, Nat.succ_mul, Nat.add_comm, List.take_add, List.take_left' (he a), List.drop_left' (he a), flat_take enc k he l i]; rfl
theorem flat_get {α : Type} (enc : α → List AV) (k : Nat) (he : ∀ a, (enc a).length = k) (l : List α) (i : Nat) (hi : i < l.length) : ((l.flatMap enc).drop (i * k)).take k = enc l[i] := by
  rw [flat_drop enc k he, List.drop_eq_getElem_cons hi, List.flatMap_cons, List.take_left' (he _)]
theorem flat_pures {α : Type} (enc : α → List AV) (he : ∀ a, AV.pures (enc a) = true) : ∀ l : List α, AV.pures (l.flatMap enc) = true
  | [] => rfl
  | a :: l => by
    rw [List.flatMap_cons]
    have : ∀ x y : List AV, AV.pures x = true → AV.pures y = true → AV.pures (x ++ y) = true := by
      intro x
      induction x with
      | nil => intro y _ hy; exact hy
      | cons b x ih => intro y hx hy; simp only [List.cons_append, AV.pures, Bool.and_eq_true] at hx ⊢; exact ⟨hx.1, ih y hx.2 hy⟩
    exact this _ _ (he a) (flat_pures enc he l)
theorem rows_len {α : Type} (enc : α → List AV) (k : Nat) (he : ∀ a, (enc a).length = k) (l : List α) : (rows enc l).length = l.length * k := flat_len enc k he l
theorem rows_get {α : Type} (enc : α → List AV) (k : Nat) (he : ∀ a, (enc a).length = k) (l : List α) (i : Nat) (hi : i < l.length) : List.take k (List.drop (i * k) (rows enc l)) = enc l[i] := flat_get enc k he l i hi
theorem rows_get1 {α : Type} (enc : α → AV) (l : List α) (i : Nat) (hi : i < l.length) : (List.drop i (rows (fun a => [enc a]) l)).head? = some (enc l[i]) := by
  have : ∀ l : List α, rows (fun a => [enc a]) l = l.map enc := by
    intro l
    unfold rows
    induction l with
    | nil => rfl
    | cons a l ih => rw [List.flatMap_cons, ih]; rfl
  rw [this, List.head?_drop, List.getElem?_map, List.getElem?_eq_getElem hi]; rfl
theorem rows_fit {l : List AV} {n k i : Nat} (hl : l.length = n * k) (hi : i < n) : (k ≤ l.length - i * k) = True := by
  rw [hl, ← Nat.sub_mul]
  exact eq_true (Nat.le_mul_of_pos_left _ (by omega))
theorem rows_pures {α : Type} (enc : α → List AV) (he : ∀ a, AV.pures (enc a) = true) (l : List α) : AV.pures (rows enc l) = true := flat_pures enc he l
theorem rows_nil {α : Type} (enc : α → List AV) : rows enc [] = [] := rfl
theorem rows_snoc {α : Type} (enc : α → List AV) (l : List α) (a : α) : rows enc l ++ enc a = rows enc (l ++ [a]) := by simp [rows]
theorem rows_take {α : Type} (enc : α → List AV) (k : Nat) (he : ∀ a, (enc a).length = k) (l : List α) (i : Nat) : List.take (i * k) (rows enc l) = rows enc (l.take i) := flat_take enc k he l i
theorem rows_drop {α : Type} (enc : α → List AV) (k : Nat) (he : ∀ a, (enc a).length = k) (l : List α) (i : Nat) : List.drop (i * k) (rows enc l) = rows enc (l.drop i) := flat_drop enc k he l i
theorem rows_all {α : Type} (enc : α → List AV) (k : Nat) (he : ∀ a, (enc a).length = k) (l : List α) : List.take (l.length * k) (rows enc l) = rows enc l := by
  rw [List.take_of_length_le]; rw [rows_len enc k he]; exact Nat.le_refl _

/-- A call that leaves the heap alone, in a region that draws its order. -/
theorem drawC {P : Program} {f : FuncId} {fs cs as : List AV} {v : AV} {H1 H2 : Hp → Hp} {K : AV → Prop} (hs : ∀ h, dcall P f (fs ++ as ++ cs) h fun av h' => av = v ∧ h' = h) (hh : ∀ l, H2 l = H1 l) (k : K v) :
    ∃ av, (∀ l, dcallV P (.fn f fs cs) as (H1 l) fun av' h' => av' = av ∧ h' = H2 l) ∧ K av :=
  ⟨v, fun l => by rw [hh l]; exact dcallV_fn (hs _), k⟩
theorem drawG {P : Program} {f : FuncId} {fs cs as : List AV} {v : AV} {H1 H2 : Hp → Hp} {K : AV → Prop} {G : Prop} (hs : G → ∀ h, dcall P f (fs ++ as ++ cs) h fun av h' => av = v ∧ h' = h) (hh : ∀ l, H2 l = H1 l) (k : K v) :
    ∃ av, (G → ∀ l, dcallV P (.fn f fs cs) as (H1 l) fun av' h' => av' = av ∧ h' = H2 l) ∧ K av :=
  ⟨v, fun g l => by rw [hh l]; exact dcallV_fn (hs g _), k⟩

/-- The end of a function that lets go all that it made, and says less of what it hands back. -/
theorem retQ_dropLe (as : List AV) (av : AV) {P : Program} {fn : Func} {h0 h : Hp} {R : AV → Hp → Prop} {e : Exit} {fr : Fr} (he : e = .normal ∨ e = .ret) (hr : resL P h fr fn.results.toList = some as) (hle : AVle (results1 as) av) (hp : av.pure = true)
    (hk : Keep h0 h) (hR : R av h0) : retQ P fn h0 R e fr h := by
  have e1 : h = h0 ++ h.drop h0.length := by
    apply List.ext_getElem?
    intro i
    rcases Nat.lt_or_ge i h0.length with h1 | h1
    · rw [List.getElem?_append_left h1]
      have := List.getElem?_eq_getElem h1
      rw [hk i _ this, this]
    · rw [List.getElem?_append_right h1, List.getElem?_drop, show h0.length + (i - h0.length) = i by omega]
  refine ⟨he, as, av, h0, hr, (Sink.le hle).trans ?_, hR⟩
  rw [e1]
  exact Sink.drop _ hp
theorem AVles.same {as : List AV} : AVles as as := AVles.refl as
end Go.M
