/- The rule of regions that draw their order. -/
import Derived.Test.YtjnpfhihefchoaaDoorMr
namespace Go.M
open Go Go.RowKit
set_option linter.unusedVariables false
set_option linter.unusedSimpArgs false

/-! ### What waits for what, as bits -/
def edgeMask (ms : List Nat) : List Edge → Nat → Nat
  | [], m => m
  | e :: es, m => edgeMask ms es (if Region.binds .any e then m ||| (1 <<< e.on) ||| ms.getD e.on 0 else m)
def masks : List Oper → List Nat → List Nat
  | [], acc => acc
  | o :: rest, acc => masks rest (acc ++ [edgeMask acc o.after.toList 0])

theorem edgeMask_bit (ms : List Nat) (j : Nat) : ∀ (es : List Edge) (m : Nat), (edgeMask ms es m).testBit j = true → m.testBit j = true ∨ ∃ e ∈ es, Region.binds .any e = true ∧ (j = e.on ∨ (ms.getD e.on 0).testBit j = true)
  | [], m, h => .inl h
  | e :: es, m, h => by
    rcases edgeMask_bit ms j es _ h with h1 | ⟨e', h1, h2, h3⟩
    · split at h1
      · rename_i hb
        simp only [Nat.testBit_or, Bool.or_eq_true] at h1
        rcases h1 with (h1 | h1) | h1
        · exact .inl h1
        · rw [Nat.testBit_shiftLeft] at h1
          simp only [Bool.and_eq_true, decide_eq_true_eq] at h1
          have : j - e.on = 0 := by
            have h2 := h1.2
            rcases Nat.eq_zero_or_pos (j - e.on) with h3 | h3
            · exact h3
            · obtain ⟨d, hd⟩ : ∃ d, j - e.on = d + 1 := ⟨j - e.on - 1, by omega⟩
              rw [hd, Nat.testBit_succ] at h2; simp at h2
          exact .inr ⟨e, by simp, hb, .inl (by have := h1.1; omega)⟩
        · exact .inr ⟨e, by simp, hb, .inr h1⟩
      · exact .inl h1
    · exact .inr ⟨e', by simp [h1], h2, h3⟩

/-- All that L holds, and what waits for nothing outside of L. -/
def Closed (ops : List Oper) (L : Nat → Bool) : Prop := ∀ i o, ops[i]? = some o → L i = true → ∀ e ∈ o.after.toList, Region.binds .any e = true → L e.on = true

def GoodM (ops : List Oper) (L : Nat → Bool) (i m : Nat) : Prop := ∀ o, ops[i]? = some o → (∀ e ∈ o.after.toList, Region.binds .any e = true → L e.on = true) → ∀ j, m.testBit j = true → L j = true

theorem masks_good {ops : List Oper} {L : Nat → Bool} (hc : Closed ops L) : ∀ (rest : List Oper) (acc : List Nat), rest = ops.drop acc.length → (∀ i, i < acc.length → GoodM ops L i (acc.getD i 0)) →
    ∀ i, i < ops.length → GoodM ops L i ((masks rest acc).getD i 0)
  | [], acc, hr, h, i, hi => by
    have : ops.length ≤ acc.length := List.drop_eq_nil_iff.1 hr.symm
    exact h i (by omega)
  | o :: rest, acc, hr, h, i, hi => by
    have hlt : acc.length < ops.length := by
      rcases Nat.lt_or_ge acc.length ops.length with h1 | h1
      · exact h1
      · rw [List.drop_eq_nil_of_le h1] at hr; cases hr
    have hd : ops.drop acc.length = ops[acc.length] :: ops.drop (acc.length + 1) := List.drop_eq_getElem_cons hlt
    rw [hd] at hr
    simp only [List.cons.injEq] at hr
    obtain ⟨ho, hr⟩ := hr
    refine masks_good hc rest _ (by simpa using hr) ?_ i hi
    intro k hk
    rw [List.length_append, List.length_singleton] at hk
    rcases Nat.lt_or_ge k acc.length with h1 | h1
    · rw [List.getD_eq_getElem?_getD, List.getElem?_append_left h1, ← List.getD_eq_getElem?_getD]; exact h k h1
    · have hk' : k = acc.length := by omega
      subst hk'
      rw [List.getD_eq_getElem?_getD, List.getElem?_append_right (Nat.le_refl _)]
      simp only [Nat.sub_self, List.getElem?_cons_zero, Option.getD_some]
      intro o' ho' he j hj
      have hoo : o' = o := by rw [List.getElem?_eq_getElem hlt, ← ho] at ho'; exact (Option.some.inj ho').symm
      subst hoo
      rcases edgeMask_bit _ _ _ _ hj with h2 | ⟨e, h2, h3, h4⟩
      · simp at h2
      · rcases h4 with rfl | h4
        · exact he e h2 h3
        · rcases Nat.lt_or_ge e.on acc.length with h5 | h5
          · have h6 := he e h2 h3
            refine h e.on h5 _ (List.getElem?_eq_getElem (by omega)) (fun e' he' hb => ?_) j h4
            exact hc e.on _ (List.getElem?_eq_getElem (by omega)) h6 e' he' hb
          · rw [List.getD_eq_getElem?_getD, List.getElem?_eq_none h5] at h4; simp at h4

/-! ### The plan -/
abbrev Plan := List (Option Nat)
def Plan.at (pl : Plan) (k : Nat) : Option Nat := pl.getD k (some 0)
def Plan.ch (pl : Plan) (k : Nat) : Bool := (pl.at k).isNone
/-- How many of the chain stand before k. -/
def Plan.cur (pl : Plan) : Nat → Nat
  | 0 => 0
  | k + 1 => pl.cur k + (if pl.ch k then 1 else 0)

theorem Plan.cur_mono (pl : Plan) {i j : Nat} (h : i ≤ j) : pl.cur i ≤ pl.cur j := by
  induction j with
  | zero => have : i = 0 := by omega
            subst this; exact Nat.le_refl _
  | succ j ih =>
    rcases Nat.lt_or_ge i (j + 1) with h1 | h1
    · simp only [Plan.cur]; have := ih (by omega); omega
    · have : i = j + 1 := by omega
      subst this; exact Nat.le_refl _

theorem Plan.cur_lt (pl : Plan) {i j : Nat} (h : i < j) (hi : pl.ch i = true) : pl.cur i < pl.cur j := by
  have : pl.cur (i + 1) ≤ pl.cur j := pl.cur_mono h
  simp only [Plan.cur, hi, if_true] at this
  omega

theorem Plan.cur_surj (pl : Plan) : ∀ (n p : Nat), p < pl.cur n → ∃ j, j < n ∧ pl.ch j = true ∧ pl.cur j = p
  | 0, p, h => by simp [Plan.cur] at h
  | n + 1, p, h => by
    rcases Nat.lt_or_ge p (pl.cur n) with h1 | h1
    · obtain ⟨j, h2, h3⟩ := pl.cur_surj n p h1
      exact ⟨j, by omega, h3⟩
    · simp only [Plan.cur] at h
      split at h
      · rename_i hc; exact ⟨n, by omega, hc, by omega⟩
      · omega

def creates : Op → Bool
  | .alloc _ | .box .. | .makeSlice .. | .makeMap _ none => true
  | _ => false

theorem creates_push {P : Program} {h h' : Hp} {ev : Operand → AV} {o : Op} {av : AV} (hc : creates o = true) (he : opE P h ev o = some (av, h')) : ∃ x, h' = h ++ [x] := by
  cases o <;> simp only [creates] at hc <;> first | cases hc | skip
  · simp only [opE, allocE] at he
    split at he
    · split at he
      · simp only [Option.some.injEq, newE, Prod.mk.injEq] at he; exact ⟨_, he.2.symm⟩
      · cases he
    · cases he
  · simp only [opE, boxE] at he
    split at he
    · split at he
      · simp only [Option.some.injEq, newE, Prod.mk.injEq] at he; exact ⟨_, he.2.symm⟩
      · cases he
    · cases he
  · rename_i r
    cases r with
    | none =>
      simp only [opE, makeMapE, Option.some.injEq, Prod.mk.injEq] at he
      exact ⟨_, he.2.symm⟩
    | some r => simp [creates] at hc
  · simp only [opE, makeSliceE] at he
    split at he
    · split at he
      · split at he
        · simp only [Option.some.injEq, Prod.mk.injEq] at he; exact ⟨_, he.2.symm⟩
        · cases he
      · cases he
    · cases he

/-! ### What is asked of the operations alone -/
def chkOne (ops : Array Oper) (pl : Plan) (ms : List Nat) (i : Nat) (o : Oper) : Bool :=
  (o.after.toList.all fun e => !Region.binds .any e || decide (e.on < i)) &&
  ((List.range ops.size).all fun j => match ops[j]? with
    | some oj => match oj.dst with
      | some t => (!((o.looksAt ops).contains t) || (((ms.getD i 0).testBit j && decide (j < i)) || (decide (i ≤ j) && (decide (i = j) || (ms.getD j 0).testBit i)))) && (decide (i ≤ j) || o.dst != some t)
      | none => true
    | none => true) &&
  (match pl.at i with
    | none => (List.range i).all fun j => !pl.ch j || (ms.getD i 0).testBit j
    | some lo => decide (lo = 1000) || decide (lo ≤ pl.cur i) && ((List.range ops.size).all fun j => !pl.ch j || (if pl.cur j < lo then (ms.getD i 0).testBit j else floats o.op || (ms.getD j 0).testBit i || (match ops[j]? with | some oj => creates oj.op | none => false))))
def chk (ops : Array Oper) (pl : Plan) : Bool :=
  let ms := masks ops.toList []
  (List.range ops.size).all fun i => match ops[i]? with | some o => chkOne ops pl ms i o | none => true

structure Chk (ops : Array Oper) (pl : Plan) (ms : List Nat) : Prop where
  back : ∀ (i : Nat) (o : Oper), ops[i]? = some o → ∀ e ∈ o.after.toList, Region.binds .any e = true → e.on < i
  look : ∀ (i j : Nat) (o oj : Oper) (t : Tmp), ops[i]? = some o → ops[j]? = some oj → oj.dst = some t → t ∈ o.looksAt ops → ((ms.getD i 0).testBit j = true ∧ j < i) ∨ (i ≤ j ∧ (i = j ∨ (ms.getD j 0).testBit i = true))
  apart : ∀ (i j : Nat) (o oj : Oper) (t : Tmp), ops[i]? = some o → ops[j]? = some oj → j < i → oj.dst = some t → o.dst ≠ some t
  chain : ∀ (i j : Nat), i < ops.size → pl.ch i = true → j < i → pl.ch j = true → (ms.getD i 0).testBit j = true
  low : ∀ (i : Nat) (lo : Nat), i < ops.size → pl.at i = some lo → lo ≠ 1000 → lo ≤ pl.cur i
  before : ∀ (i j lo : Nat), i < ops.size → j < ops.size → pl.at i = some lo → lo ≠ 1000 → pl.ch j = true → pl.cur j < lo → (ms.getD i 0).testBit j = true
  behind : ∀ (i j lo : Nat) (o oj : Oper), ops[i]? = some o → ops[j]? = some oj → pl.at i = some lo → lo ≠ 1000 → pl.ch j = true → lo ≤ pl.cur j → floats o.op = true ∨ (ms.getD j 0).testBit i = true ∨ creates oj.op = true

theorem size_of {ops : Array Oper} {i : Nat} {o : Oper} (h : ops[i]? = some o) : i < ops.size := by
  rcases Nat.lt_or_ge i ops.size with h1 | h1
  · exact h1
  · rw [Array.getElem?_eq_none h1] at h; cases h

theorem chk_spec {ops : Array Oper} {pl : Plan} (h : chk ops pl = true) : Chk ops pl (masks ops.toList []) := by
  simp only [chk, List.all_eq_true, List.mem_range] at h
  have h1 : ∀ i o, ops[i]? = some o → chkOne ops pl (masks ops.toList []) i o = true := fun i o ho => by
    have := h i (size_of ho)
    rw [ho] at this; exact this
  generalize masks ops.toList [] = ms at h1
  have h2 := fun i o ho => by
    have := h1 i o ho
    simp only [chkOne, Bool.and_eq_true, List.all_eq_true, List.mem_range, Bool.or_eq_true, Bool.not_eq_true', decide_eq_true_eq] at this
    exact this
  have get : ∀ i, i < ops.size → ∃ o, ops[i]? = some o := fun i hi => ⟨ops[i], Array.getElem?_eq_getElem hi⟩
  refine ⟨fun i o ho e he hb => ?_, fun i j o oj t ho hj ht hl => ?_, fun i j o oj t ho hj hlt ht => ?_, fun i j hi hci hlt hcj => ?_, fun i lo hi hp hx => ?_, fun i j lo hi hj hp hx hc hl => ?_, fun i j lo o oj ho hj hp hx hc hl => ?_⟩
  · rcases (h2 i o ho).1.1 e he with h3 | h3
    · rw [hb] at h3; cases h3
    · exact h3
  · have := (h2 i o ho).1.2 j (size_of hj)
    simp only [hj, ht, Bool.and_eq_true, Bool.or_eq_true, Bool.not_eq_true', decide_eq_true_eq] at this
    rcases this.1 with h3 | h3
    · rw [List.contains_eq_mem] at h3; simp [hl] at h3
    · exact h3
  · have := (h2 i o ho).1.2 j (size_of hj)
    simp only [hj, ht, Bool.and_eq_true, Bool.or_eq_true, Bool.not_eq_true', decide_eq_true_eq] at this
    rcases this.2 with h3 | h3
    · omega
    · simpa using h3
  · obtain ⟨o, ho⟩ := get i hi
    have := (h2 i o ho).2
    have hn : pl.at i = none := by simpa [Plan.ch] using hci
    simp only [hn, List.all_eq_true, List.mem_range, Bool.or_eq_true, Bool.not_eq_true'] at this
    rcases this j hlt with h3 | h3
    · rw [hcj] at h3; cases h3
    · exact h3
  · obtain ⟨o, ho⟩ := get i hi
    have := (h2 i o ho).2
    simp only [hp, hx, decide_false, Bool.false_or, Bool.or_eq_true, Bool.and_eq_true, decide_eq_true_eq] at this
    exact this.1
  · obtain ⟨o, ho⟩ := get i hi
    have := (h2 i o ho).2
    simp only [hp, hx, decide_false, Bool.false_or, Bool.and_eq_true, decide_eq_true_eq, List.all_eq_true, List.mem_range, Bool.or_eq_true, Bool.not_eq_true'] at this
    rcases this.2 j hj with h3 | h3
    · rw [hc] at h3; cases h3
    · rw [if_pos hl] at h3; exact h3
  · have := (h2 i o ho).2
    simp only [hp, hx, decide_false, Bool.false_or, Bool.and_eq_true, decide_eq_true_eq, List.all_eq_true, List.mem_range, Bool.or_eq_true, Bool.not_eq_true'] at this
    rcases this.2 j (size_of hj) with h3 | h3
    · rw [hc] at h3; cases h3
    · rw [if_neg (by omega), hj] at h3
      simpa [or_assoc] using h3
end Go.M
