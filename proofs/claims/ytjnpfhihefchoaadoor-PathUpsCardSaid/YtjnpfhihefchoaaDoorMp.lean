/- Words for the walk: how frames and heaps are read. -/
import Derived.Test.YtjnpfhihefchoaaDoorMo
namespace Go.M
open Go Go.RowKit
set_option linter.unusedVariables false
set_option linter.unusedSimpArgs false

theorem put_some (fr : Fr) (t : Tmp) (v : AV) (u : Nat) : Fr.put fr (some t) v u = if u = t then v else fr u := rfl
theorem put_none (fr : Fr) (v : AV) : Fr.put fr none v = fr := rfl
theorem fr0_at (args : List AV) (t : Nat) : fr0 args t = args.getD t (.tup []) := rfl

theorem hp_get0 (h l : List HObj) : (h ++ l)[h.length]? = l[0]? := by rw [List.getElem?_append_right (Nat.le_refl _), Nat.sub_self]
theorem hp_get (h l : List HObj) (k : Nat) : (h ++ l)[h.length + k]? = l[k]? := by
  rw [List.getElem?_append_right (by omega)]; congr 1; omega
theorem hp_set0 (h l : List HObj) (o : HObj) : (h ++ l).set h.length o = h ++ l.set 0 o := by
  rw [List.set_append_right _ _ (by omega)]; simp
theorem hp_set (h l : List HObj) (k : Nat) (o : HObj) : (h ++ l).set (h.length + k) o = h ++ l.set k o := by
  rw [List.set_append_right _ _ (by omega)]; congr 2; omega
/-- An object of the heap is there behind what was laid beside it, too. -/
theorem hp_old {h l : List HObj} {id : Nat} {o : HObj} (hid : h[id]? = some o) : (h ++ l)[id]? = some o := by
  have : id < h.length := by
    rcases Nat.lt_or_ge id h.length with h1 | h1
    · exact h1
    · simp [List.getElem?_eq_none h1] at hid
  rw [List.getElem?_append_left this]; exact hid
theorem hp_oldset {h l : List HObj} {id : Nat} {o o' : HObj} (hid : h[id]? = some o) : (h ++ l).set id o' = h.set id o' ++ l := by
  have : id < h.length := by
    rcases Nat.lt_or_ge id h.length with h1 | h1
    · exact h1
    · simp [List.getElem?_eq_none h1] at hid
  rw [List.set_append_left _ _ this]

theorem wrap_i64 {n : Int} (h : -9223372036854775808 ≤ n ∧ n ≤ 9223372036854775807) : IntKind.wrap .i64 n = n := by
  simp only [IntKind.wrap, IntKind.bits, IntKind.signed]; simp; omega
theorem wrap_u64 {n : Int} (h : 0 ≤ n ∧ n < 18446744073709551616) : IntKind.wrap .u64 n = n := by
  simp only [IntKind.wrap, IntKind.bits, IntKind.signed]; simp; omega
theorem wrap_u32 {n : Int} (h : 0 ≤ n ∧ n < 4294967296) : IntKind.wrap .u32 n = n := by
  simp only [IntKind.wrap, IntKind.bits, IntKind.signed]; simp; omega
theorem wrap_u16 {n : Int} (h : 0 ≤ n ∧ n < 65536) : IntKind.wrap .u16 n = n := by
  simp only [IntKind.wrap, IntKind.bits, IntKind.signed]; simp; omega
theorem wrap_u8 {n : Int} (h : 0 ≤ n ∧ n < 256) : IntKind.wrap .u8 n = n := by
  simp only [IntKind.wrap, IntKind.bits, IntKind.signed]; simp; omega

theorem min_i64 : IntKind.min .i64 = -9223372036854775808 := by decide
theorem max_i64 : IntKind.max .i64 = 9223372036854775807 := by decide
theorem min_u64 : IntKind.min .u64 = 0 := by decide
theorem max_u64 : IntKind.max .u64 = 18446744073709551615 := by decide
theorem min_u32 : IntKind.min .u32 = 0 := by decide
theorem max_u32 : IntKind.max .u32 = 4294967295 := by decide
theorem min_u16 : IntKind.min .u16 = 0 := by decide
theorem max_u16 : IntKind.max .u16 = 65535 := by decide
theorem min_u8 : IntKind.min .u8 = 0 := by decide
theorem max_u8 : IntKind.max .u8 = 255 := by decide

theorem cv_bool (b : Bool) : cv (.bool b) = .b b := rfl
theorem cv_int (k : IntKind) (n : Int) : cv (.int k n) = if k.min ≤ n ∧ n ≤ k.max then .i k n else .any := rfl
theorem cv_string (s : ByteArray) : cv (.string s) = if (s.size : Int) ≤ imax then .s s else .any := rfl
theorem cv_nilp : cv (.pointer none) = .nilp := rfl
theorem cv_nils : cv (.slice none 0 0) = .nils := rfl
theorem cv_nilm : cv (.map none) = .nilm := rfl
theorem cv_nilf : cv .nilFunc = .nilf := rfl

/-- What an integer argument's kind says. -/
theorem dcall_int {P : Program} {f : FuncId} {args : List AV} {h : Hp} {R : AV → Hp → Prop} (j : Nat) {k : IntKind} {n : Int} (ha : args[j]? = some (.i k n)) (hd : k.min ≤ n ∧ n ≤ k.max → dcall P f args h R) : dcall P f args h R := by
  intro g w vs hw hr
  obtain ⟨v, _, hv⟩ := hr.get ha
  exact hd hv.2 g w vs hw hr
/-- How long a text argument may be. -/
theorem dcall_str {P : Program} {f : FuncId} {args : List AV} {h : Hp} {R : AV → Hp → Prop} (j : Nat) {s : ByteArray} (ha : args[j]? = some (.s s)) (hd : (s.size : Int) ≤ 9223372036854775807 → dcall P f args h R) : dcall P f args h R := by
  intro g w vs hw hr
  obtain ⟨v, _, hv⟩ := hr.get ha
  exact hd hv.2 g w vs hw hr
theorem dcall_lst {P : Program} {f : FuncId} {args : List AV} {h : Hp} {R : AV → Hp → Prop} (j : Nat) {n : Nat} {fl : Bool} {cs : List AV} (ha : args[j]? = some (.lst n fl cs)) (hd : (n : Int) ≤ 9223372036854775807 → dcall P f args h R) : dcall P f args h R := by
  intro g w vs hw hr
  obtain ⟨v, _, hv⟩ := hr.get ha
  simp only [RelV] at hv
  obtain ⟨a, c, _, _, _, hle, _⟩ := hv
  exact hd hle g w vs hw hr

/-- A contract that leaves the heap alone, used. -/
theorem dcall.pure {P : Program} {f : FuncId} {args : List AV} {h : Hp} {a : AV} {R : AV → Hp → Prop} (hc : dcall P f args h fun av h' => av = a ∧ h' = h) (hR : R a h) : dcall P f args h R :=
  hc.mono fun av h' ⟨e1, e2⟩ => by rw [e1, e2]; exact hR

/-- The end of a function that leaves nothing behind. -/
theorem retQ_pure {P : Program} {fn : Func} {h0 : Hp} {l : List HObj} {R : AV → Hp → Prop} {e : Exit} {fr : Fr} {as : List AV} (he : e = .normal ∨ e = .ret) (hr : resL P (h0 ++ l) fr fn.results.toList = some as) (hp : (results1 as).pure = true) (hR : R (results1 as) h0) :
    retQ P fn h0 R e fr (h0 ++ l) := ⟨he, as, _, h0, hr, Sink.drop l hp, hR⟩
theorem retQ_same {P : Program} {fn : Func} {h0 : Hp} {R : AV → Hp → Prop} {e : Exit} {fr : Fr} {as : List AV} (he : e = .normal ∨ e = .ret) (hr : resL P h0 fr fn.results.toList = some as) (hR : R (results1 as) h0) :
    retQ P fn h0 R e fr h0 := ⟨he, as, _, h0, hr, Sink.refl, hR⟩
theorem dcall.pure' {P : Program} {f : FuncId} {args : List AV} {h h1 : Hp} {a : AV} {R : AV → Hp → Prop} (hc : dcall P f args h fun av h' => av = a ∧ h' = h1) (hR : R a h1) : dcall P f args h R :=
  hc.mono fun av h' ⟨e1, e2⟩ => by rw [e1, e2]; exact hR
theorem retQ_to (as : List AV) {P : Program} {fn : Func} {h0 h : Hp} {R : AV → Hp → Prop} {e : Exit} {fr : Fr} (he : e = .normal ∨ e = .ret) (hr : resL P h fr fn.results.toList = some as) (hR : R (results1 as) h) :
    retQ P fn h0 R e fr h := ⟨he, as, _, h, hr, Sink.refl, hR⟩
/-- The end of a function that lets go all that it made. -/
theorem retQ_drop (as : List AV) {P : Program} {fn : Func} {h0 h : Hp} {R : AV → Hp → Prop} {e : Exit} {fr : Fr} (he : e = .normal ∨ e = .ret) (hr : resL P h fr fn.results.toList = some as) (hp : (results1 as).pure = true)
    (hk : ∀ (i : Nat) (x : HObj), h0[i]? = some x → h[i]? = some x) (hR : R (results1 as) h0) : retQ P fn h0 R e fr h := by
  have e1 : h = h0 ++ h.drop h0.length := by
    apply List.ext_getElem?
    intro i
    rcases Nat.lt_or_ge i h0.length with h1 | h1
    · rw [List.getElem?_append_left h1]
      have := List.getElem?_eq_getElem h1
      rw [hk i _ this, this]
    · rw [List.getElem?_append_right h1, List.getElem?_drop, show h0.length + (i - h0.length) = i by omega]
  rw [e1] at hr ⊢
  exact retQ_pure he hr hp hR
theorem set_self {α : Type} {l : List α} {i : Nat} {x : α} (h : l[i]? = some x) : l.set i x = l := by
  apply List.ext_getElem?
  intro j
  by_cases hj : j = i
  · subst hj
    rw [h, List.getElem?_set_self]
    rcases Nat.lt_or_ge j l.length with h1 | h1
    · exact h1
    · rw [List.getElem?_eq_none h1] at h; cases h
  · rw [List.getElem?_set_ne (fun e => hj e.symm)]
theorem lt_of_get {α : Type} {l : List α} {i : Nat} {x : α} (h : l[i]? = some x) : i < l.length := by
  rcases Nat.lt_or_ge i l.length with h1 | h1
  · exact h1
  · rw [List.getElem?_eq_none h1] at h; cases h
theorem cv_nilIface : cv .nilIface = .any := Eq.trans (Eq.refl _) rfl
end Go.M
