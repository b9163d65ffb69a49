/- What came in, by the shapes of its types, as abstract values; and how a law's row is closed. -/
import Derived.Test.YtjnpfhihefchoaaDoorMp
import Derived.ChangeArms
import Derived.DataReads
import Derived.WideShapes
namespace Go.M
open Go Go.RowKit
set_option linter.unusedVariables false
set_option linter.unusedSimpArgs false

/-- Shapes of types. -/
inductive Sh where
  | b
  | i (k : IntKind)
  | s
  | agg (fs : List Sh)
  | sl (e : Sh)

mutual
def Sh.has : Sh → List AV → Prop
  | .b, cs => ∃ x, cs = [.b x]
  | .i k, cs => ∃ n, cs = [.i k n] ∧ k.min ≤ n ∧ n ≤ k.max
  | .s, cs => ∃ x : ByteArray, cs = [.s x] ∧ x.size ≤ maxLen
  | .agg fs, cs => Sh.hass fs cs
  | .sl e, cs => cs = [.nils] ∨ ∃ (n : Nat) (full : Bool) (xss : List (List AV)), cs = [.lst n full xss.flatten] ∧ n ≤ maxLen ∧ xss.length = n ∧ ∀ c ∈ xss, e.has c
def Sh.hass : List Sh → List AV → Prop
  | [], cs => cs = []
  | f :: fs, cs => ∃ c d, cs = c ++ d ∧ f.has c ∧ Sh.hass fs d
end

mutual
def Sh.ok (P : Program) : Sh → TypeId → Bool
  | .b, t => match P.underlying t with | some .bool => true | _ => false
  | .i k, t => match P.underlying t with | some (.int k') => decide (k' = k) | _ => false
  | .s, t => match P.underlying t with | some .string => true | _ => false
  | .agg fs, t => match P.underlying t with | some (.struct xs) => Sh.oks P fs xs.toList 0 (P.cellsOf t) | _ => false
  | .sl e, t => match P.underlying t with | some (.slice t') => e.ok P t' && decide (0 < P.cellsOf t') | _ => false
def Sh.oks (P : Program) : List Sh → List Field → Nat → Nat → Bool
  | [], [], o, n => decide (o = n)
  | f :: fs, x :: xs, o, n => decide (x.offset = o) && f.ok P x.type && Sh.oks P fs xs (o + P.cellsOf x.type) n
  | _, _, _, _ => false
end

noncomputable def gh0 (w : World) : Gh where
  loc _ _ := none
  blk _ := none
  own b o := if (w.cell? ⟨b, o, none⟩).any Value.oneCell' then .imm else .no
  base := w.heap.size
  w0 := w

theorem gh0_rel (w : World) : WRel (gh0 w) [] w where
  obj id := by simp [ObjOk, gh0]
  inj id id' b h := by simp [gh0] at h
  blkb id b h := by simp [gh0] at h
  own b o h := by
    simp only [gh0] at h
    cases hc : w.cell? ⟨b, o, none⟩ with
    | none => simp [hc] at h
    | some v => exact World.block_lt_of_cell? w _ hc
  below := Below.refl _ _
  basele := Nat.le_refl _
  one b o o' i i' h := by simp only [gh0] at h; split at h <;> cases h

theorem gh0_own {w : World} {b o : Nat} {u : Value} (h : w.cell? ⟨b, o, none⟩ = some u) (hu : u.oneCell' = true) : (gh0 w).own b o = .imm := by simp [gh0, h, hu]

section
variable {H : Type} {enc : TypeId × Value → H} {P : Program} {w : World} {held : Bool}

theorem rows_read {b o k : Nat} {Q : List AV → Prop} : ∀ (m : Nat), (∀ i, i < m → ∃ cs as, cs.length = k ∧ (∀ j, j < k → w.cell? ⟨b, o + i * k + j, none⟩ = cs[j]?) ∧ RelL (gh0 w) w as cs ∧ Q as ∧ ∀ u ∈ cs, u.oneCell' = true) →
    ∃ xss : List (List AV), ∃ vs : List Value, xss.length = m ∧ vs.length = m * k ∧ RelL (gh0 w) w xss.flatten vs ∧ (∀ j u, vs[j]? = some u → w.cell? ⟨b, o + j, none⟩ = some u ∧ u.oneCell' = true) ∧ ∀ c ∈ xss, Q c
  | 0, _ => ⟨[], [], rfl, by simp, by simp [RelL], by simp, by simp⟩
  | m + 1, h => by
    obtain ⟨xss, vs, h1, h2, h3, h4, h5⟩ := rows_read m fun i hi => h i (by omega)
    obtain ⟨cs, as, k1, k2, k3, k4, k5⟩ := h m (by omega)
    refine ⟨xss ++ [as], vs ++ cs, by simp [h1], by simp [h2, k1, Nat.succ_mul], by simpa using RelL.append h3 k3, ?_, ?_⟩
    · intro j u hj
      rcases Nat.lt_or_ge j vs.length with hl | hl
      · rw [List.getElem?_append_left hl] at hj; exact h4 j u hj
      · rw [List.getElem?_append_right hl] at hj
        have hlt : j - vs.length < k := by
          rw [← k1]
          rcases Nat.lt_or_ge (j - vs.length) cs.length with h6 | h6
          · exact h6
          · rw [List.getElem?_eq_none h6] at hj; cases hj
        have := k2 _ hlt
        rw [hj, show o + m * k + (j - vs.length) = o + j by omega] at this
        exact ⟨this, k5 u (List.mem_of_getElem? hj)⟩
    · intro c hc
      rcases List.mem_append.1 hc with h6 | h6
      · exact h5 c h6
      · rw [List.mem_singleton.1 h6]; exact k4

mutual
theorem Sh.read : ∀ (sh : Sh) (t : TypeId) (fuel : Nat) (cs : List Value) (x : DataW H × List MemPlace), sh.ok P t = true → DataW.trod enc P w 0 (fun _ => true) held fuel t cs = some x →
    ∃ as, RelL (gh0 w) w as cs ∧ sh.has as ∧ ∀ u ∈ cs, u.oneCell' = true
  | .b, t, fuel, cs, x, hk, h => by
    have ht : P.underlying t = some .bool := by simp only [Sh.ok] at hk; split at hk <;> simp_all
    obtain ⟨v, rfl, _⟩ := DataW.trod_bool ht h
    exact ⟨[.b v], by simp [RelL, RelV], ⟨v, rfl⟩, by simp [Value.oneCell']⟩
  | .i k, t, fuel, cs, x, hk, h => by
    have ht : P.underlying t = some (.int k) := by simp only [Sh.ok] at hk; split at hk <;> simp_all
    obtain ⟨v, rfl, _, hw⟩ := DataW.trod_int ht h
    simp [Lit.wf] at hw
    exact ⟨[.i k v], by simp [RelL, RelV, hw], ⟨v, rfl, hw⟩, by simp [Value.oneCell']⟩
  | .s, t, fuel, cs, x, hk, h => by
    have ht : P.underlying t = some .string := by simp only [Sh.ok] at hk; split at hk <;> simp_all
    obtain ⟨v, rfl, _, hw⟩ := DataW.trod_string ht h
    refine ⟨[.s v], ?_, ⟨v, rfl, hw⟩, by simp [Value.oneCell']⟩
    have : (v.size : Int) ≤ imax := by simp [imax]; simp [maxLen] at hw; omega
    simp [RelL, RelV, this]
  | .agg fs, t, fuel, cs, x, hk, h => by
    simp only [Sh.ok] at hk
    split at hk
    · rename_i xs ht
      obtain ⟨ys, n, rfl, _, hl, _, hf⟩ := DataW.trod_struct ht h
      obtain ⟨as, h1, h2, h3⟩ := Sh.reads fs xs.toList n 0 cs (fun i f hi => by
        have hi' : xs[i]? = some f := by simpa using hi
        have := hf i f hi'
        rcases hy : ys[i]? with _ | y
        · rename_i hlen
          have hlt : i < ys.length := by
            rw [hlen]
            rcases Nat.lt_or_ge i xs.size with h6 | h6
            · exact h6
            · rw [Array.getElem?_eq_none h6] at hi'; cases hi'
          rw [List.getElem?_eq_getElem hlt] at hy; cases hy
        · exact ⟨y, by rw [this, hy]⟩) (by rw [hl]; exact hk)
      exact ⟨as, by simpa using h1, by simpa [Sh.has] using h2, by simpa using h3⟩
    · cases hk
  | .sl e, t, fuel, cs, x, hk, h => by
    simp only [Sh.ok] at hk
    split at hk
    · rename_i t' ht
      simp only [Bool.and_eq_true, decide_eq_true_eq] at hk
      rcases DataW.trod_slice ht h with ⟨rfl, _⟩ | ⟨a, len, cap, elems, rest, n, rfl, rfl, _, _, hlc, hcm, hlen, hel, _, _⟩
      · exact ⟨[.nils], by simp [RelL, RelV], .inl rfl, by simp [Value.oneCell']⟩
      · have himax : (len : Int) ≤ imax := by simp [imax]; simp [maxLen] at hcm; omega
        by_cases hn : len = 0
        · subst hn
          exact ⟨[.lst 0 (decide (cap = 0)) [].flatten], ⟨_, [], rfl, ⟨_, cap, rfl, by simp, hlc, himax, .inl ⟨rfl, rfl⟩⟩, rfl⟩, .inr ⟨0, _, [], rfl, by simp [maxLen], rfl, by simp⟩, by simp [Value.oneCell']⟩
        · have hone : ∀ i, i < len → ∃ cs' as, w.cells? 0 (a.add (i * P.cellsOf t')) (P.cellsOf t') = some cs' ∧ RelL (gh0 w) w as cs' ∧ e.has as ∧ ∀ u ∈ cs', u.oneCell' = true := by
            intro i hi
            have := hel i hi
            rw [List.getElem?_eq_getElem (by omega)] at this
            obtain ⟨cs', h1, h2⟩ := Option.bind_eq_some_iff.1 this
            obtain ⟨as, h3, h4, h5⟩ := Sh.read e t' n cs' _ hk.1 h2
            exact ⟨cs', as, h1, h3, h4, h5⟩
          have hspot : a.spot = none := by
            obtain ⟨cs', as, h1, _⟩ := hone 0 (by omega)
            obtain ⟨_, h2, h3⟩ := World.cells?_some h1
            have h4 := h3 0 hk.2
            rw [List.getElem?_eq_getElem (by omega)] at h4
            simpa [Addr.add] using World.cell?_spot h4
          obtain ⟨b, o, sp⟩ := a
          simp only at hspot
          subst hspot
          obtain ⟨xss, vs, k1, k2, k3, k4, k5⟩ := rows_read (w := w) (b := b) (o := o) (k := P.cellsOf t') (Q := e.has) len fun i hi => by
            obtain ⟨cs', as, h1, h2, h3, h4⟩ := hone i hi
            obtain ⟨_, h5, h6⟩ := World.cells?_some h1
            refine ⟨cs', as, h5, fun j hj => ?_, h2, h3, h4⟩
            have := h6 j hj
            rwa [WideShapes.add_plain, WideShapes.add_plain] at this
          refine ⟨[.lst len (decide (cap = len)) xss.flatten], ?_, .inr ⟨len, _, xss, rfl, by omega, k1, k5⟩, by simp [Value.oneCell']⟩
          simp only [RelL, RelV]
          refine ⟨_, [], rfl, ⟨_, _, rfl, by simp, hlc, himax, .inr ⟨b, o, vs, rfl, k3, fun j u hj => ⟨(k4 j u hj).1, gh0_own (k4 j u hj).1 (k4 j u hj).2, (k4 j u hj).2⟩⟩⟩, rfl⟩
    · cases hk
theorem Sh.reads : ∀ (fs : List Sh) (xs : List Field) (fuel o : Nat) (cs : List Value), (∀ (i : Nat) (f : Field), xs[i]? = some f → ∃ y, DataW.trod enc P w 0 (fun _ => true) held fuel f.type ((cs.drop f.offset).take (P.cellsOf f.type)) = some y) →
    Sh.oks P fs xs o cs.length = true → ∃ as, RelL (gh0 w) w as (cs.drop o) ∧ Sh.hass fs as ∧ ∀ u ∈ cs.drop o, u.oneCell' = true
  | [], [], fuel, o, cs, h, hk => by
    simp [Sh.oks] at hk
    subst hk
    exact ⟨[], by simp [RelL], by simp [Sh.hass], by simp⟩
  | [], _ :: _, fuel, o, cs, h, hk => by simp [Sh.oks] at hk
  | _ :: _, [], fuel, o, cs, h, hk => by simp [Sh.oks] at hk
  | f :: fs, x :: xs, fuel, o, cs, h, hk => by
    simp only [Sh.oks, Bool.and_eq_true, decide_eq_true_eq] at hk
    obtain ⟨⟨rfl, hk1⟩, hk2⟩ := hk
    obtain ⟨y, hy⟩ := h 0 x rfl
    obtain ⟨as, h1, h2, h3⟩ := Sh.read f x.type fuel _ _ hk1 hy
    obtain ⟨bs, k1, k2, k3⟩ := Sh.reads fs xs fuel _ cs (fun i f' hi => h (i + 1) f' hi) hk2
    have e : cs.drop x.offset = (cs.drop x.offset).take (P.cellsOf x.type) ++ cs.drop (x.offset + P.cellsOf x.type) := by
      rw [← List.drop_drop, List.take_append_drop]
    refine ⟨as ++ bs, by rw [e]; exact RelL.append h1 k1, ⟨as, bs, rfl, h2, k2⟩, ?_⟩
    rw [e]
    intro u hu
    rcases List.mem_append.1 hu with h6 | h6
    · exact h3 u h6
    · exact k3 u h6
end
end

def Sh.hasV : Sh → AV → Prop
  | .agg fs, a => ∃ cs, a = .agg cs ∧ Sh.hass fs cs
  | sh, a => sh.has [a]

theorem Sh.opened {H : Type} {enc : TypeId × Value → H} {P : Program} {w : World} {held : Bool} {r : Reach} {b0 : Nat} {t : TypeId} {v : Value} {d : DataW H} {p : List MemPlace} (sh : Sh) (hk : sh.ok P t = true)
    (hv : Value.okWide P w r b0 t v) (h : DataW.Trod enc P w 0 (fun _ => true) held t v d p) : ∃ a, RelV (gh0 w) w a v ∧ sh.hasV a := by
  obtain ⟨fuel, hf⟩ := h
  obtain ⟨as, h1, h2, h3⟩ := Sh.read sh t fuel _ _ hk hf
  cases sh with
  | b =>
    have ht : P.underlying t = some .bool := by simp only [Sh.ok] at hk; split at hk <;> simp_all
    obtain ⟨x, rfl⟩ := h2
    simp only [RelL, RelV] at h1
    obtain ⟨u, us, hu, rfl, rfl⟩ := h1
    simp only [Value.okWide, ht, Cell.okWide] at hv
    have : v = .bool x := by cases v <;> simp_all [Cell.ok, Value.cells]
    exact ⟨.b x, by simp [RelV, this], x, rfl⟩
  | i k =>
    have ht : P.underlying t = some (.int k) := by simp only [Sh.ok] at hk; split at hk <;> simp_all
    obtain ⟨n, rfl, hn⟩ := h2
    simp only [RelL, RelV] at h1
    obtain ⟨u, us, hu, ⟨rfl, hr⟩, rfl⟩ := h1
    simp only [Value.okWide, ht, Cell.okWide] at hv
    have : v = .int k n := by cases v <;> simp_all [Cell.ok, Value.cells]
    exact ⟨.i k n, by simp [RelV, this, hn], n, rfl, hn⟩
  | s =>
    have ht : P.underlying t = some .string := by simp only [Sh.ok] at hk; split at hk <;> simp_all
    obtain ⟨n, rfl, hn⟩ := h2
    simp only [RelL, RelV] at h1
    obtain ⟨u, us, hu, ⟨rfl, hr⟩, rfl⟩ := h1
    simp only [Value.okWide, ht, Cell.okWide] at hv
    have : v = .string n := by cases v <;> simp_all [Cell.ok, Value.cells]
    exact ⟨.s n, by simp [RelV, this, hr], n, rfl, hn⟩
  | agg fs =>
    simp only [Sh.ok] at hk
    split at hk
    · rename_i xs ht
      simp only [Value.okWide, ht] at hv
      obtain ⟨cs, rfl, _, _⟩ := hv
      exact ⟨.agg as, by simp only [RelV]; exact ⟨cs.toList, by simp, by simpa [Value.cells] using h1⟩, as, rfl, by simpa [Sh.has] using h2⟩
    · cases hk
  | sl e =>
    have ht : ∃ t', P.underlying t = some (.slice t') := by
      simp only [Sh.ok] at hk
      split at hk
      · rename_i t' ht; exact ⟨t', ht⟩
      · cases hk
    obtain ⟨t', ht⟩ := ht
    obtain ⟨a, len, cap, rfl⟩ := WideShapes.okWide_slice ht hv
    have hl := h1.len
    simp [Value.cells] at hl
    match as, hl with
    | [a], _ =>
      simp only [RelL, Value.cells] at h1
      obtain ⟨u, us, hu, h1, rfl⟩ := h1
      simp at hu
      subst hu
      exact ⟨a, h1, h2⟩

/-- From the call in the empty abstract heap to the call itself. -/
theorem calls_of_dcall {P : Program} {f : FuncId} (hc : ∀ as w, (callFunc f as).run P w = .ok (.enter f as) w)
    {args : List AV} {w : World} {vs : List Value} {R : AV → Hp → Prop} (h : dcall P f args [] R) (hr : RelL (gh0 w) w args vs) {Q : Ending → World → Prop}
    (hq : ∀ v w' g' av h', Below w.heap.size w w' → RelV g' w' av v → R av h' → Q (.returned v) w') : Calls P f vs.toArray w Q := by
  have h1 := h (gh0 w) w vs (gh0_rel w) hr
  rw [hc] at h1
  refine (callsIn_wide.1 h1).mono ?_
  rintro e w' ⟨v, g', av, h', rfl, e1, e2, e3, e4⟩
  have hb := e2.below
  rw [e1.base, e1.w0] at hb
  exact hq v w' g' av h' hb e3 e4
end Go.M
