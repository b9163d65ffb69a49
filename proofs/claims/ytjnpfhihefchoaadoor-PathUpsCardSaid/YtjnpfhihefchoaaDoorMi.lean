/- What operations do to abstract states: maps, conversions, the rest; all in one function, and it is sound. -/
import Derived.Test.YtjnpfhihefchoaaDoorMh
import Derived.Lib.Builder
import Derived.Lib.UnsafeStr
namespace Go.M
open Go Go.RowKit
set_option linter.unusedVariables false
set_option linter.unusedSimpArgs false

/-! ### Maps -/
def keyEq : AV → AV → Option Bool
  | .s a, .s b => some (decide (a = b))
  | .i k a, .i k' b => if k = k' then some (decide (a = b)) else none
  | _, _ => none

def mapFind (k : AV) : List (AV × AV) → Nat → Option (Option (Nat × AV))
  | [], _ => some none
  | (k', v) :: r, j => match keyEq k k' with
    | some true => some (some (j, v))
    | some false => mapFind k r (j + 1)
    | none => none

def keyOk (P : Program) (T : TypeId) : Bool :=
  match P.underlying T with
  | some (.int _) | some .string => true
  | _ => false

theorem keyEq_now {P : Program} {g : Gh} {w : World} {T : TypeId} {d : TypeDesc} {x y : AV} {vx vy : Value} {r : Bool} (hu : P.underlying T = some d) (hk : keyOk P T = true) (hx : RelV g w x vx) (hy : RelV g w y vy) (h : keyEq x y = some r)
    (hf : (∃ k n, x = .i k n) → ∃ k', d = .int k') (hf2 : (∃ s, x = .s s) → d = .string) : Instr.sameNow d vx vy = some r ∧ (r = true → Instr.sameBits 10000 vy vx = true) := by
  unfold keyEq at h
  split at h
  · rename_i a b
    simp only [Option.some.injEq] at h; subst h
    rw [rel_s hx, rel_s hy, hf2 ⟨_, rfl⟩]
    refine ⟨?_, ?_⟩
    · simp only [Instr.sameNow, Option.some.injEq]; rw [← bytes_toList_inj, beq_toListBytes]
    · intro hr
      simp only [decide_eq_true_eq] at hr; subst hr
      simp [Instr.sameBits, beq_toListBytes]
  · rename_i k a k' b
    split at h
    · rename_i hkk; subst hkk
      simp only [Option.some.injEq] at h; subst h
      rw [rel_i hx, rel_i hy]
      obtain ⟨k'', rfl⟩ := hf ⟨_, _, rfl⟩
      refine ⟨by simp [Instr.sameNow, beqd], ?_⟩
      intro hr
      simp only [decide_eq_true_eq] at hr; subst hr
      simp [Instr.sameBits]
    · simp at h
  · simp at h

/-- The key's form fits its type's. -/
def keyFits : TypeDesc → AV → Bool
  | .int _, .i _ _ => true
  | .string, .s _ => true
  | _, _ => false

theorem mapFind_now {P : Program} {g : Gh} {w : World} {T : TypeId} {d : TypeDesc} {k : AV} {vk : Value} (hu : P.underlying T = some d) (hkf : keyFits d k = true) (hk : RelV g w k vk) :
    ∀ (m : List (AV × AV)) (es : List MapEntry) (j : Nat) (r : Option (Nat × AV)), RelL g w (m.map (·.1)) (es.map (·.key)) → RelL g w (m.map (·.2)) (es.map (·.val)) → mapFind k m j = some r →
      ∃ r', Instr.findNow d vk es j = some r' ∧ (match r, r' with
        | none, none => True
        | some (n, a), some (n', v) => n = n' ∧ RelV g w a v ∧ j ≤ n ∧ ∃ e, es[n - j]? = some e ∧ e.val = v ∧ Instr.sameBits 10000 e.key vk = true
        | _, _ => False)
  | [], es, j, r, h1, h2, h => by
    simp only [mapFind, Option.some.injEq] at h; subst h
    simp only [List.map_nil, RelL, List.map_eq_nil_iff] at h1; subst h1
    exact ⟨none, rfl, trivial⟩
  | (k', v) :: m, es, j, r, h1, h2, h => by
    cases es with
    | nil => simp [RelL] at h1
    | cons e es =>
      simp only [List.map_cons, RelL] at h1 h2
      obtain ⟨_, _, he1, hk', h1⟩ := h1
      obtain ⟨_, _, he2, hv, h2⟩ := h2
      simp only [List.cons.injEq] at he1 he2
      obtain ⟨rfl, rfl⟩ := he1
      obtain ⟨rfl, rfl⟩ := he2
      simp only [mapFind] at h
      have hf : (∃ kk n, k = .i kk n) → ∃ k', d = .int k' := by
        rintro ⟨kk, n, rfl⟩
        cases d <;> simp_all [keyFits]
      have hf2 : (∃ s, k = .s s) → d = .string := by
        rintro ⟨s, rfl⟩
        cases d <;> simp_all [keyFits]
      have hok : keyOk P T = true := by
        unfold keyOk; rw [hu]
        cases d <;> simp_all [keyFits]
      split at h
      · rename_i hq
        simp only [Option.some.injEq] at h; subst h
        obtain ⟨hs, hb⟩ := keyEq_now hu hok hk hk' hq hf hf2
        refine ⟨some (j, e.val), by simp [Instr.findNow, hs], rfl, hv, Nat.le_refl _, e, by simp, rfl, hb rfl⟩
      · rename_i hq
        obtain ⟨hs, _⟩ := keyEq_now hu hok hk hk' hq hf hf2
        obtain ⟨r', h3, h4⟩ := mapFind_now hu hkf hk m es (j + 1) r h1 h2 h
        refine ⟨r', by simp [Instr.findNow, hs, h3], ?_⟩
        cases r with
        | none => cases r' with
          | none => trivial
          | some x => exact h4
        | some x => cases r' with
          | none => exact h4
          | some y =>
            obtain ⟨n, a⟩ := x
            obtain ⟨n', v'⟩ := y
            obtain ⟨h5, h6, h7, e', h8, h9⟩ := h4
            refine ⟨h5, h6, by omega, e', ?_, h9⟩
            rw [show n - j = (n - (j + 1)) + 1 by omega]; simpa using h8
      · simp at h

theorem checkKey_run {P : Program} {g : Gh} {w : World} {T : TypeId} {d : TypeDesc} {k : AV} {vk : Value} (hu : P.underlying T = some d) (hkf : keyFits d k = true) (hk : RelV g w k vk) (b : Bool) : (Instr.checkKey b 10000 T vk).run P w = .ok () w := by
  rw [Instr.checkKey]
  simp only [Sem.run_bind, run_underlying hu, Result.andThen_ok]
  cases d <;> cases k <;> simp only [keyFits] at hkf <;> (try (simp at hkf; done))
  · rw [rel_i hk]; rfl
  · rw [rel_s hk]; rfl

def lookupE (P : Program) (h : Hp) (T : TypeId) (x k : AV) (ok : Bool) : Option AV :=
  match P.underlying T with
  | some (.map K E) => match P.underlying K, ti P E with
    | some d, some t =>
      if keyFits d k = true then
        match x with
        | .nilm => some (if ok then .tup [t.zv, .b false] else t.zv)
        | .mp id => match h[id]? with
          | some (.map m) => match mapFind k m 0 with
            | some (some (_, v)) => some (if ok then .tup [v, .b true] else v)
            | some none => some (if ok then .tup [t.zv, .b false] else t.zv)
            | none => none
          | _ => none
        | _ => none
      else none
    | _, _ => none
  | _ => none

theorem lookupE_run {P : Program} {g : Gh} {h : Hp} {w : World} (hw : WRel g h w) {T : TypeId} {x k av : AV} {vx vk : Value} {ok : Bool} (hx : RelV g w x vx) (hk : RelV g w k vk) (he : lookupE P h T x k ok = some av) : Yv P (Instr.lookup T vx vk ok) g w av := by
  unfold lookupE at he
  split at he
  · rename_i K E hu
    split at he
    · rename_i d t hd ht
      obtain ⟨i, dd, z, kk⟩ := ti_ok ht
      have hzr : RelV g w t.zv z := by rw [kk.zv]; exact cv_rel g w z
      split at he
      · rename_i hkf
        have fin : ∀ (a : AV) (v : Value) (b : Bool), RelV g w a v → RelV g w (if ok then .tup [a, .b b] else a) (if ok then .tuple #[v, .bool b] else v) := fun a v b hr => by
          cases ok
          · simpa using hr
          · simp only [if_true]
            exact ⟨[v, .bool b], rfl, by simp only [RelL]; exact ⟨v, _, rfl, hr, _, _, rfl, rfl, rfl⟩⟩
        split at he
        · simp only [Option.some.injEq] at he; subst he
          simp only [RelV] at hx; subst hx
          refine ⟨_, ?_, fin _ z false hzr⟩
          have hck := checkKey_run (P := P) hd hkf hk true
          simp [Instr.lookup, run_underlying hu, hck, Instr.findKey, run_underlying hd, Instr.findNow, kk.zeroValue]
        · rename_i id
          split at he
          · rename_i m hid
            have ho := hw.obj id
            rw [hid] at ho
            obtain ⟨b, es, h1, h2, h6, h3, h4⟩ := ho
            simp only [RelV] at hx
            obtain ⟨b', hb', rfl⟩ := hx
            have : b' = b := by rw [h1] at hb'; simpa using hb'.symm
            subst this
            have hck := checkKey_run (P := P) hd hkf hk es.isEmpty
            split at he
            · rename_i n v hf
              simp only [Option.some.injEq] at he; subst he
              obtain ⟨r', h5, h7⟩ := mapFind_now hd hkf hk m es.toList 0 _ h3 h4 hf
              cases r' with
              | none => exact h7.elim
              | some y =>
                obtain ⟨n', v'⟩ := y
                refine ⟨_, ?_, fin _ v' true h7.2.1⟩
                simp [Instr.lookup, run_underlying hu, getObj, Sem.run, h2, hck, Instr.findKey, run_underlying hd, h5]
            · rename_i hf
              simp only [Option.some.injEq] at he; subst he
              obtain ⟨r', h5, h7⟩ := mapFind_now hd hkf hk m es.toList 0 _ h3 h4 hf
              cases r' with
              | some y => exact h7.elim
              | none =>
                refine ⟨_, ?_, fin _ z false hzr⟩
                simp [Instr.lookup, run_underlying hu, getObj, Sem.run, h2, hck, Instr.findKey, run_underlying hd, h5, kk.zeroValue]
            · simp at he
          · simp at he
        · simp at he
      · simp at he
    · simp at he
  · simp at he

def makeMapE (h : Hp) : AV × Hp := (.mp h.length, h ++ [.map []])

theorem push_other (h : Hp) (o : HObj) (id : Nat) (hne : id ≠ h.length) : (h ++ [o])[id]? = h[id]? := by
  rcases Nat.lt_or_ge id h.length with h1 | h1
  · rw [List.getElem?_append_left h1]
  · rw [List.getElem?_eq_none h1, List.getElem?_eq_none (by simp; omega)]

theorem makeMapE_run {P : Program} {g : Gh} {h : Hp} {w : World} (hw : WRel g h w) {T : TypeId} {r : Option Value} (hr : r = none ∨ (∃ k n K E, r = some (.int k n) ∧ P.underlying T = some (.map K E))) :
    Yw P (Instr.makeMap T r) g w (makeMapE h).1 (makeMapE h).2 := by
  obtain ⟨g', e, hw', hb⟩ := alloc_blk (h' := h ++ [.map []]) hw h.length (.map #[] 0) rfl (.inl (by simp)) (push_other h _) (fun g' e hb => by
    simp only [List.getElem?_concat_length]
    exact ⟨_, #[], hb, heap_alloc_new w _, fun j e he => by simp at he, by simp [RelL], by simp [RelL]⟩)
  refine ⟨.map (some w.heap.size), _, g', ?_, e, hw', ⟨_, hb, rfl⟩⟩
  rcases hr with rfl | ⟨k, n, K, E, rfl, hu⟩
  · simp [Instr.makeMap, newObj, Sem.run]
  · simp [Instr.makeMap, newObj, Sem.run, run_underlying hu, asInt, asIntOf]

def mapPut (k v : AV) : List (AV × AV) → Option (List (AV × AV))
  | [] => some [(k, v)]
  | (k', v') :: r => match keyEq k k' with
    | some true => some ((k, v) :: r)
    | some false => match mapPut k v r with
      | some r' => some ((k', v') :: r')
      | none => none
    | none => none

def mapUpdateE (P : Program) (h : Hp) (T : TypeId) (x k v : AV) : Option Hp :=
  match P.underlying T, x with
  | some (.map K _), .mp id => match P.underlying K, h[id]? with
    | some d, some (.map m) =>
      if keyFits d k = true then
        match mapPut k v m with
        | some m' => some (h.set id (.map m'))
        | none => none
      else none
    | _, _ => none
  | _, _ => none

theorem mapPut_find {k v : AV} : ∀ {m m' : List (AV × AV)} (j : Nat), mapPut k v m = some m' → (mapFind k m j = some none ∧ m' = m ++ [(k, v)]) ∨ (∃ n a, mapFind k m j = some (some (j + n, a)) ∧ n < m.length ∧ m' = m.set n (k, v))
  | [], m', j, h => by simp only [mapPut, Option.some.injEq] at h; subst h; exact .inl ⟨rfl, rfl⟩
  | (k', v') :: r, m', j, h => by
    simp only [mapPut] at h
    split at h
    · rename_i hq
      simp only [Option.some.injEq] at h; subst h
      exact .inr ⟨0, v', by simp [mapFind, hq], by simp, by simp⟩
    · rename_i hq
      split at h
      · rename_i r' hr
        simp only [Option.some.injEq] at h; subst h
        rcases mapPut_find (j + 1) hr with ⟨h1, rfl⟩ | ⟨n, a, h1, h2, rfl⟩
        · exact .inl ⟨by simp [mapFind, hq, h1], by simp⟩
        · exact .inr ⟨n + 1, a, by simp [mapFind, hq, h1]; omega, by simp; omega, by simp⟩
      · simp at h
    · simp at h

theorem RelL.set {g : Gh} {w : World} {a : AV} {v : Value} (hr : RelV g w a v) : ∀ {as : List AV} {vs : List Value} (n : Nat), RelL g w as vs → RelL g w (as.set n a) (vs.set n v)
  | [], vs, n, h => by simp only [RelL] at h; subst h; simp [RelL]
  | b :: as, vs, n, h => by
    simp only [RelL] at h
    obtain ⟨u, vs', rfl, h1, h2⟩ := h
    cases n with
    | zero => simp only [List.set_cons_zero, RelL]; exact ⟨v, vs', rfl, hr, h2⟩
    | succ n => simp only [List.set_cons_succ, RelL]; exact ⟨u, _, rfl, h1, RelL.set hr n h2⟩

theorem mapUpdateE_run {P : Program} {g : Gh} {h h' : Hp} {w : World} (hw : WRel g h w) {T : TypeId} {x k v : AV} {vx vk vv : Value} (hx : RelV g w x vx) (hk : RelV g w k vk) (hv : RelV g w v vv) (he : mapUpdateE P h T x k v = some h') :
    ∃ w' g', (Instr.mapUpdate T vx vk vv).run P w = .ok () w' ∧ Ext g w g' w' ∧ WRel g' h' w' := by
  unfold mapUpdateE at he
  split at he
  · rename_i K E id hu
    split at he
    · rename_i d m hd hid
      split at he
      · rename_i hkf
        split at he
        · rename_i m' hm
          simp only [Option.some.injEq] at he; subst he
          have ho := hw.obj id
          rw [hid] at ho
          obtain ⟨b, es, h1, h2, h6, h3, h4⟩ := ho
          simp only [RelV] at hx
          obtain ⟨b', hb', rfl⟩ := hx
          have : b' = b := by rw [h1] at hb'; simpa using hb'.symm
          subst this
          have hlt : id < h.length := by
            rcases Nat.lt_or_ge id h.length with h5 | h5
            · exact h5
            · simp [List.getElem?_eq_none h5] at hid
          have hck := checkKey_run (P := P) hd hkf hk false
          have hother : ∀ (o : HObj) id', id' ≠ id → (h.set id o)[id']? = h[id']? := fun o id' hne => by rw [List.getElem?_set_ne (fun h => hne h.symm)]
          rcases mapPut_find 0 hm with ⟨hf, rfl⟩ | ⟨n, a, hf, hn, rfl⟩
          · obtain ⟨r', h5, h7⟩ := mapFind_now hd hkf hk m es.toList 0 _ h3 h4 hf
            cases r' with
            | some y => exact h7.elim
            | none =>
              have := put_obj (h' := h.set id (.map (m ++ [(k, v)]))) (o := .map (es.push { key := vk, val := vv, born := es.size }) (es.size + 1)) hw h1 h2 rfl rfl (fun e => by
                simp only [hlt, List.getElem?_set_self]
                refine ⟨_, es.push { key := vk, val := vv, born := es.size }, h1, by rw [World.putObj_heap_same (lt_of_heap h2)]; simp, ?_, ?_, ?_⟩
                · intro j e' hj
                  rw [Array.getElem?_push] at hj
                  split at hj
                  · rename_i hjj; simp only [Option.some.injEq] at hj; subst hj; exact hjj.symm
                  · exact h6 j e' hj
                · simp only [List.map_append, Array.toList_push]
                  exact (RelL.mono e h3).append (by simp only [List.map_cons, List.map_nil, RelL]; exact ⟨_, _, rfl, hk.mono e, rfl⟩)
                · simp only [List.map_append, Array.toList_push]
                  exact (RelL.mono e h4).append (by simp only [List.map_cons, List.map_nil, RelL]; exact ⟨_, _, rfl, hv.mono e, rfl⟩)) (hother _)
              refine ⟨_, g, ?_, this.1, this.2⟩
              simp [Instr.mapUpdate, run_underlying hu, getObj, setObj, Sem.run, h2, hck, Instr.findKey, run_underlying hd, h5, World.putObj]
          · obtain ⟨r', h5, h7⟩ := mapFind_now hd hkf hk m es.toList 0 _ h3 h4 hf
            cases r' with
            | none => exact h7.elim
            | some y =>
              obtain ⟨n', v'⟩ := y
              obtain ⟨hn', h8, h9, e0, h10, h11, h12⟩ := h7
              simp only [Nat.zero_add] at hn' h10 h9
              subst hn'
              simp only [Nat.sub_zero] at h10
              have hne : n < es.size := by
                have := h3.len
                simp at this; omega
              have he0 : es[n]? = some e0 := by simpa using h10
              have hmod : (es.modify n fun e => { e with key := vk, val := vv }).toList = es.toList.set n { e0 with key := vk, val := vv } := by
                apply List.ext_getElem?
                intro j
                simp only [Array.getElem?_toList, Array.getElem?_modify]
                by_cases hj : n = j
                · subst hj
                  have h13 : es[n] = e0 := by rw [Array.getElem?_eq_getElem hne] at he0; simpa using he0
                  simp [hne, h13]
                · rw [if_neg hj, List.getElem?_set_ne hj]; simp
              have := put_obj (h' := h.set id (.map (m.set n (k, v)))) (o := .map (es.modify n fun e => { e with key := vk, val := vv }) es.size) hw h1 h2 rfl rfl (fun e => by
                simp only [hlt, List.getElem?_set_self]
                refine ⟨_, es.modify n fun e => { e with key := vk, val := vv }, h1, by rw [World.putObj_heap_same (lt_of_heap h2)]; simp, ?_, ?_, ?_⟩
                · intro j e' hj
                  rw [Array.getElem?_modify] at hj
                  split at hj
                  · rename_i hjj; subst hjj
                    rw [he0] at hj; simp only [Option.map_some, Option.some.injEq] at hj; subst hj; exact h6 n e0 he0
                  · exact h6 j e' hj
                · rw [hmod, List.map_set, List.map_set]
                  exact RelL.set (hk.mono e) n (RelL.mono e h3)
                · rw [hmod, List.map_set, List.map_set]
                  exact RelL.set (hv.mono e) n (RelL.mono e h4)) (hother _)
              refine ⟨_, g, ?_, this.1, this.2⟩
              simp [Instr.mapUpdate, run_underlying hu, getObj, setObj, Sem.run, h2, hck, Instr.findKey, run_underlying hd, h5, he0, Instr.keyThatStays, h12, World.putObj]
        · simp at he
      · simp at he
    · simp at he
  · simp at he

/-! ### Conversions and the rest -/
/-- A pointer that becomes one of no type, and back. -/
def upE (P : Program) (h : Hp) (src dst : TypeId) (x : AV) : Option AV :=
  match P.underlying src, P.underlying dst, x with
  | some (.pointer T), some .unsafePointer, .ptr id ver off => match ti P T, h[id]? with
    | some t, some (.cells v _ cs) => if v = ver ∧ off < cs.length ∧ 0 < t.size then some (.ptr id ver off) else none
    | _, _ => none
  | some .unsafePointer, some (.pointer U), .ptr id ver 0 => match ti P U, h[id]? with
    | some t, some (.cells v _ cs) => if v = ver ∧ ver = U ∧ ver < 4294967296 ∧ t.size ≤ cs.length ∧ 0 < t.size then some (.ptr id ver 0) else none
    | _, _ => none
  | _, _, _ => none

theorem rowAt_head {P : Program} {e : TypeId} {count : Nat} (hs : 0 < P.cellsOf e) (hc : 1 ≤ count) : liesAt P P.depth e count 0 e 1 = true := by
  have hd : P.depth = (2 * (P.types.size + Made.depth) + 1) + 1 := rfl
  rw [hd]
  simp only [liesAt, Bool.or_eq_true]
  left
  rw [hd]
  have h0 : ¬ P.cellsOf e = 0 := by omega
  simp [rowAt, h0, hc, sameLayout]

theorem ti_cells {P : Program} {T : TypeId} {t : TI} {i : TypeInfo} {d : TypeDesc} {z : Value} (k : TiOk P T t i d z) : P.cellsOf T = t.size := by
  rw [k.size]; simp [Program.cellsOf, k.info]

theorem upE_run {P : Program} {g : Gh} {h : Hp} {w : World} (hw : WRel g h w) {src dst : TypeId} {x av : AV} {vx : Value} (hx : RelV g w x vx) (he : upE P h src dst x = some av) : Yv P (convert src dst vx) g w av := by
  unfold upE at he
  split at he
  · rename_i T id ver off hs hd
    split at he
    · rename_i t v e cs ht hid
      split at he
      · rename_i hc
        obtain ⟨rfl, hlt, hsz⟩ := hc
        simp only [Option.some.injEq] at he; subst he
        obtain ⟨i, d, z, k⟩ := ti_ok ht
        obtain ⟨L, vs, hL⟩ := hw.cells hid
        have hx' := hx
        simp only [RelV] at hx'
        obtain ⟨L', hl, rfl⟩ := hx'
        have hLL : L' = L := by have := hL.loc; rw [hl] at this; simpa using this
        subst hLL
        obtain ⟨n, hsh, hn⟩ := hL.shape
        have hlen := hL.len
        exact ⟨_, Lib.run_to_unsafe w _ hs hd k.info (by have := k.size; omega) hsh (by simp only; omega), hx⟩
      · cases he
    · cases he
  · rename_i U id ver hs hd
    split at he
    · rename_i t v e cs ht hid
      split at he
      · rename_i hc
        obtain ⟨rfl, rfl, hK, hle, hsz⟩ := hc
        simp only [Option.some.injEq] at he; subst he
        obtain ⟨i, d, z, k⟩ := ti_ok ht
        obtain ⟨L, vs, hL⟩ := hw.cells hid
        have hx' := hx
        simp only [RelV] at hx'
        obtain ⟨L', hl, rfl⟩ := hx'
        have hLL : L' = L := by have := hL.loc; rw [hl] at this; simpa using this
        subst hLL
        obtain ⟨n, hsh, hn⟩ := hL.shape
        have hlen := hL.len
        have h0 := hL.base0 hK
        rw [Nat.mod_eq_of_lt hK] at hsh
        refine ⟨_, Lib.run_from_unsafe w _ hs hd k.info hsh ?_, hx⟩
        simp only [h0, Nat.add_zero]
        have hce := ti_cells k
        refine rowAt_head (by omega) ?_
        rw [hce]
        exact (Nat.le_div_iff_mul_le hsz).2 (by omega)
      · cases he
    · cases he
  · cases he

def convE (P : Program) (h : Hp) (src dst : TypeId) (x : AV) : Option AV :=
  match P.underlying src, P.underlying dst with
  | some (.slice E), some .string => match P.underlying E, sliceCells h x with
    | some (.int .u8), some (n, cs) => match bytesOf cs with
      | some l => if l.length = n then some (.s ⟨l.toArray⟩) else none
      | none => none
    | _, _ => none
  | some .string, some .string => match x with
    | .s str => some (.s str)
    | _ => none
  | some (.int _), some (.int k) => match x with
    | .i _ n => some (.i k (k.wrap n))
    | _ => none
  | some (.pointer _), some .unsafePointer => upE P h src dst x
  | some .unsafePointer, some (.pointer _) => upE P h src dst x
  | _, _ => none

theorem bytesOf_rel {g : Gh} {w : World} : ∀ {cs : List AV} {vs : List Value} {l : List UInt8}, RelL g w cs vs → bytesOf cs = some l → ∃ ns : List Int, vs = ns.map (Value.int .u8) ∧ l = ns.map (fun n => UInt8.ofNat n.toNat)
  | [], vs, l, h, hb => by
    simp only [RelL] at h; subst h
    simp only [bytesOf, Option.some.injEq] at hb; subst hb
    exact ⟨[], rfl, rfl⟩
  | a :: cs, vs, l, h, hb => by
    simp only [RelL] at h
    obtain ⟨v, vs', rfl, h1, h2⟩ := h
    have hb' := hb
    unfold bytesOf at hb'
    split at hb'
    · rename_i heq; simp at heq
    · rename_i n as heq
      simp only [List.cons.injEq] at heq
      obtain ⟨rfl, rfl⟩ := heq
      split at hb'
      · rename_i l' hl
        simp only [Option.some.injEq] at hb'; subst hb'
        obtain ⟨ns, rfl, rfl⟩ := bytesOf_rel h2 hl
        exact ⟨n :: ns, by rw [rel_i h1]; rfl, rfl⟩
      · simp at hb'
    · simp at hb'

theorem bytesOf_range : ∀ {cs : List AV} {l : List UInt8} {j : Nat} {a : AV}, bytesOf cs = some l → cs[j]? = some a → ∃ n, a = .i .u8 n
  | [], l, j, a, h, hj => by simp at hj
  | c :: cs, l, j, a, h, hj => by
    have h' := h
    unfold bytesOf at h'
    split at h'
    · rename_i heq; cases heq
    · rename_i n as heq
      simp only [List.cons.injEq] at heq
      obtain ⟨rfl, rfl⟩ := heq
      cases j with
      | zero => simp at hj; exact ⟨n, hj.symm⟩
      | succ j =>
        simp only [List.getElem?_cons_succ] at hj
        split at h'
        · rename_i l' hl; exact bytesOf_range hl hj
        · cases h'
    · cases h'

theorem add_plain' (b off i : Nat) : (⟨b, off, none⟩ : Addr).add i = ⟨b, off + i, none⟩ := by
  unfold Addr.add
  by_cases h : i = 0 <;> simp [h]

theorem foldl_push (l : List Int) : ∀ s : ByteArray, (l.foldl (fun r n => r.push (UInt8.ofNat n.toNat)) s) = ⟨(s.data.toList ++ l.map fun n => UInt8.ofNat n.toNat).toArray⟩ := by
  induction l with
  | nil => intro s; simp
  | cons n l ih => intro s; rw [List.foldl_cons, ih]; simp [ByteArray.push]

theorem convE_run {P : Program} {g : Gh} {h : Hp} {w : World} (hw : WRel g h w) {src dst : TypeId} {x av : AV} {vx : Value} (hx : RelV g w x vx) (he : convE P h src dst x = some av) : Yv P (convert src dst vx) g w av := by
  unfold convE at he
  split at he
  · rename_i E hs hd
    split at he
    · rename_i n cs hE hc
      split at he
      · rename_i l hl
        split at he
        · rename_i hln
          simp only [Option.some.injEq] at he; subst he
          obtain ⟨a, c, vs, rfl, h1, h2, h3⟩ := sliceCells_rel hw hx hc
          have hsz : (((⟨l.toArray⟩ : ByteArray).size : Nat) : Int) ≤ imax := by
            have : (⟨l.toArray⟩ : ByteArray).size = l.length := by simp [ByteArray.size]
            rw [this, hln]; exact h2
          rcases h3 with ⟨rfl, rfl, rfl⟩ | ⟨b, o, rfl, hat⟩
          · simp only [bytesOf, Option.some.injEq] at hl; subst hl
            refine ⟨.string ⟨#[]⟩, ?_, ⟨rfl, hsz⟩⟩
            cases a with
            | none => simp only [convert, run_underlying hs, run_underlying hd, run_underlying hE, Sem.run_bind, Result.andThen_ok, Conv.bytesToString]; rfl
            | some a =>
              simp only [convert, run_underlying hs, run_underlying hd, run_underlying hE, Sem.run_bind, Result.andThen_ok]
              have := run_bytesToString (P := P) w a 0 c [] (by simp [loadCells, loadCellsFrom])
              rw [this]; rfl
          · obtain ⟨ns, rfl, rfl⟩ := bytesOf_rel hat.rel hl
            refine ⟨_, ?_, ⟨rfl, hsz⟩⟩
            have hload := run_loadCells_at (P := P) hat n (by simp at hln ⊢; omega)
            rw [List.take_of_length_le (by simp at hln ⊢; omega)] at hload
            have := run_bytesToString (P := P) w ⟨b, o, none⟩ n c ns hload
            simp only [convert, run_underlying hs, run_underlying hd, run_underlying hE, Sem.run_bind, Result.andThen_ok]
            rw [this, foldl_push]
            rfl
        · simp at he
      · simp at he
    · simp at he
  · rename_i hs hd
    split at he
    · simp only [Option.some.injEq] at he; subst he
      have hsz := hx.2
      rw [rel_s hx]
      exact ⟨_, by simp [convert, run_underlying hs, run_underlying hd], ⟨rfl, hsz⟩⟩
    · simp at he
  · rename_i ks k hs hd
    split at he
    · rename_i k' n
      simp only [Option.some.injEq] at he; subst he
      rw [rel_i hx]
      exact ⟨.int k (k.wrap n), by simp [convert, run_underlying hs, run_underlying hd, Conv.intToInt], ⟨rfl, wrap_fits _ _⟩⟩
    · simp at he
  · exact upE_run hw hx he
  · exact upE_run hw hx he
  · simp at he

/-! ### The bytes of a row as a string -/
def uSliceE (h : Hp) (x : AV) : Option AV :=
  match x with
  | .nils => some .nilp
  | .sl id ver off n _ => match h[id]? with
    | some (.cells v _ _) => if v = ver ∧ 0 < n then some (.ptr id ver off) else none
    | _ => none
  | _ => none

theorem uSliceE_run {P : Program} {g : Gh} {h : Hp} {w : World} (hw : WRel g h w) {x av : AV} {vx : Value} (T : Array TypeId) (R : TypeId) (hx : RelV g w x vx) (he : uSliceE h x = some av) :
    Yv P (Builtin.unsafeSliceData_ T R #[vx]) g w av := by
  unfold uSliceE at he
  split at he
  · simp only [Option.some.injEq] at he; subst he
    simp only [RelV] at hx; subst hx
    exact ⟨_, rfl, rfl⟩
  · rename_i id ver off n full
    split at he
    · rename_i v e cs hid
      split at he
      · rename_i hc
        obtain ⟨rfl, hn⟩ := hc
        simp only [Option.some.injEq] at he; subst he
        simp only [RelV] at hx
        obtain ⟨L, c, hl, rfl, h1, h2, h3, h4⟩ := hx
        exact ⟨_, Lib.run_unsafeSliceData_row w T R _ n c (by omega), L, hl, rfl⟩
      · cases he
    · cases he
  · cases he

def uStringE (P : Program) (h : Hp) (pT : TypeId) (x n : AV) : Option (AV × Hp) :=
  match P.underlying pT, x, n with
  | some (.pointer _), .nilp, .i .i64 0 => some (.s ByteArray.empty, h)
  | some (.pointer E), .ptr id ver off, .i .i64 n => match ti P E, h[id]? with
    | some t, some (.cells v _ cs) =>
      if v = ver ∧ ver % 4294967296 = E ∧ t.size = 1 ∧ 0 < n ∧ off + n.toNat ≤ cs.length then
        match bytesOf ((cs.drop off).take n.toNat) with
        | some l => some (.s ⟨l.toArray⟩, h.set id .dead)
        | none => none
      else none
    | _, _ => none
  | _, _, _ => none

theorem liesAt_row {P : Program} {e : TypeId} (hc : P.cellsOf e = 1) (count off n : Nat) (hn : off + n ≤ count) : liesAt P P.depth e count off e n = true := by
  have hd : P.depth = (2 * (P.types.size + Made.depth) + 1) + 1 := rfl
  rw [hd]
  simp only [liesAt, Bool.or_eq_true]
  left
  rw [hd]
  simp [rowAt, hc, hn, sameLayout, Nat.mod_one]

theorem uStringE_run {P : Program} {g : Gh} {h h' : Hp} {w : World} (hw : WRel g h w) {pT iT : TypeId} {x n av : AV} {vx vn : Value} (R : TypeId) (hx : RelV g w x vx) (hn : RelV g w n vn) (he : uStringE P h pT x n = some (av, h')) :
    Yw P (Builtin.unsafeString_ #[pT, iT] R #[vx, vn]) g w av h' := by
  unfold uStringE at he
  split at he
  · simp only [Option.some.injEq, Prod.mk.injEq] at he
    obtain ⟨rfl, rfl⟩ := he
    rw [rel_i hn]
    simp only [RelV] at hx; subst hx
    exact ⟨_, w, g, Lib.run_unsafeString_none w pT iT R none, Ext.refl _ _, hw, rfl, by decide⟩
  · rename_i E id ver off n hp
    split at he
    · rename_i t v e cs ht hid
      split at he
      · rename_i hc
        obtain ⟨rfl, hE, hsz, hpos, hle⟩ := hc
        split at he
        · rename_i l hl
          simp only [Option.some.injEq, Prod.mk.injEq] at he
          obtain ⟨rfl, rfl⟩ := he
          obtain ⟨i, d, z, k⟩ := ti_ok ht
          obtain ⟨L, vs, hL⟩ := hw.cells hid
          have hx' := hx
          simp only [RelV] at hx'
          obtain ⟨L', hll, rfl⟩ := hx'
          have hLL : L' = L := by have := hL.loc; rw [hll] at this; simpa using this
          subst hLL
          obtain ⟨m, hsh, hm⟩ := hL.shape
          have hlen := hL.len
          have hmax := hn.2.2
          rw [rel_i hn]
          have hrel := (hL.rel.drop off).take n.toNat
          obtain ⟨ns, hns, rfl⟩ := bytesOf_rel hrel hl
          have hvl := hL.rel.len
          have hnl : ns.length = n.toNat := by
            have := congrArg List.length hns
            simp only [List.length_map, List.length_take, List.length_drop] at this
            omega
          have hcell : ∀ j x, (ns.map fun n => UInt8.ofNat n.toNat)[j]? = some x → w.cell? ((⟨L'.block, L'.off + off, none⟩ : Addr).add j) = some (.int .u8 x.toNat) := by
            intro j x hj
            rw [List.getElem?_map] at hj
            cases hnj : ns[j]? with
            | none => rw [hnj] at hj; cases hj
            | some nj =>
              rw [hnj] at hj
              simp only [Option.map_some, Option.some.injEq] at hj
              subst hj
              have hvj : ((vs.drop off).take n.toNat)[j]? = some (.int .u8 nj) := by rw [hns, List.getElem?_map, hnj]; rfl
              have hjl : j < n.toNat := by
                rcases Nat.lt_or_ge j n.toNat with h1 | h1
                · exact h1
                · rw [List.getElem?_eq_none (by omega)] at hnj; cases hnj
              have hvj' := hvj
              rw [List.getElem?_take, if_pos hjl, List.getElem?_drop] at hvj'
              have hc := hL.cell _ _ hvj'
              obtain ⟨a, ha, hr⟩ : ∃ a, ((cs.drop off).take n.toNat)[j]? = some a ∧ RelV g w a (.int .u8 nj) := by
                have hjj : j < ((cs.drop off).take n.toNat).length := by simp; omega
                obtain ⟨v', hv', hr'⟩ := hrel.get (List.getElem?_eq_getElem hjj)
                rw [hvj] at hv'
                simp only [Option.some.injEq] at hv'
                subst hv'
                exact ⟨_, List.getElem?_eq_getElem hjj, hr'⟩
              have hrange : 0 ≤ nj ∧ nj ≤ 255 := by
                have hb := bytesOf_range hl ha
                obtain ⟨q, rfl⟩ := hb
                simp only [RelV, Value.int.injEq, true_and] at hr
                obtain ⟨rfl, h1, h2⟩ := hr
                simp [IntKind.min, IntKind.max, IntKind.signed, IntKind.bits] at h1 h2
                exact ⟨h1, h2⟩
              have hto : ((UInt8.ofNat nj.toNat).toNat : Int) = nj := by
                rw [UInt8.toNat_ofNat']; omega
              rw [add_plain', hto]
              simpa [Nat.add_assoc] using hc
          obtain ⟨e1, hw1⟩ := freezeW_obj (h' := h.set id .dead) hw hL (L'.off + off) n.toNat (by omega) (by
              have hlt : id < h.length := by
                rcases Nat.lt_or_ge id h.length with h5 | h5
                · exact h5
                · simp [List.getElem?_eq_none h5] at hid
              simp [hlt]) (fun id' hne => by rw [List.getElem?_set_ne (fun h => hne h.symm)])
          refine ⟨_, _, g, ?_, e1, hw1, rfl, ?_⟩
          · have hlb := Lib.run_loadBytes (P := P) w (ns.map fun n => UInt8.ofNat n.toNat) ⟨L'.block, L'.off + off, none⟩ .empty hcell
            have hce := ti_cells k
            rw [hE] at hsh
            have hlies := liesAt_row (P := P) (e := E) (by omega) (m / P.cellsOf E) (L'.off + off) n.toNat (by rw [hce, hsz, Nat.div_one]; omega)
            have hmax' : ¬ (9223372036854775807 : Int) < n := by
              have : IntKind.i64.max = 9223372036854775807 := by decide
              omega
            have hneg : ¬ n < 0 := by omega
            have hn0 : ¬ n = 0 := by omega
            have hmax2 : IntKind.i64.max = 9223372036854775807 := rfl
            simp only [List.length_map, hnl] at hlb
            have hempty : (ByteArray.empty.data ++ (ns.map fun n => UInt8.ofNat n.toNat).toArray) = (ns.map fun n => UInt8.ofNat n.toNat).toArray := by
              rw [show ByteArray.empty.data = #[] from rfl, Array.empty_append]
            rw [hempty] at hlb
            show Sem.run P (asInt (.int .i64 n) >>= _) w = _
            simp [asInt, asIntOf, hmax2, hmax', hneg, hn0, variablesAt, hsh, elemOf, run_underlying hp, hlies, hlb]
          · have : (⟨(ns.map fun n => UInt8.ofNat n.toNat).toArray⟩ : ByteArray).size = n.toNat := by simp [ByteArray.size, hnl]
            rw [this]
            have : IntKind.i64.max = imax := by decide
            omega
        · cases he
      · cases he
    · cases he
  · cases he

def minL : List AV → Option AV
  | [] => none
  | .i k n :: r => go k n r
  | _ => none
where go (k : IntKind) : Int → List AV → Option AV
  | n, [] => some (.i k n)
  | n, .i k' m :: r => if k = k' then go k (if m < n then m else n) r else none
  | _, _ => none

def maxL : List AV → Option AV
  | [] => none
  | .i k n :: r => go k n r
  | _ => none
where go (k : IntKind) : Int → List AV → Option AV
  | n, [] => some (.i k n)
  | n, .i k' m :: r => if k = k' then go k (if n < m then m else n) r else none
  | _, _ => none

theorem minL_go {P : Program} {g : Gh} {w : World} (k : IntKind) : ∀ (as : List AV) (vs : List Value) (n : Int) (av : AV), RelL g w as vs → k.min ≤ n ∧ n ≤ k.max → minL.go k n as = some av → ∃ v, (vs.foldlM Builtin.min2 (.int k n) : Sem Value).run P w = .ok v w ∧ RelV g w av v
  | [], vs, n, av, h, hn, he => by
    simp only [RelL] at h; subst h
    simp only [minL.go, Option.some.injEq] at he; subst he
    exact ⟨_, rfl, rfl, hn⟩
  | a :: as, vs, n, av, h, hn, he => by
    simp only [RelL] at h
    obtain ⟨v, vs', rfl, h1, h2⟩ := h
    cases a <;> simp only [minL.go] at he <;> (try (simp at he; done))
    rename_i k' m
    split at he
    · rename_i hk; subst hk
      have hm := h1.2
      rw [rel_i h1]
      obtain ⟨u, hu, hr⟩ := minL_go (P := P) k as vs' (if m < n then m else n) av h2 (by split <;> assumption) he
      exact ⟨u, by simpa [Builtin.min2] using hu, hr⟩
    · simp at he

theorem maxL_go {P : Program} {g : Gh} {w : World} (k : IntKind) : ∀ (as : List AV) (vs : List Value) (n : Int) (av : AV), RelL g w as vs → k.min ≤ n ∧ n ≤ k.max → maxL.go k n as = some av → ∃ v, (vs.foldlM Builtin.max2 (.int k n) : Sem Value).run P w = .ok v w ∧ RelV g w av v
  | [], vs, n, av, h, hn, he => by
    simp only [RelL] at h; subst h
    simp only [maxL.go, Option.some.injEq] at he; subst he
    exact ⟨_, rfl, rfl, hn⟩
  | a :: as, vs, n, av, h, hn, he => by
    simp only [RelL] at h
    obtain ⟨v, vs', rfl, h1, h2⟩ := h
    cases a <;> simp only [maxL.go] at he <;> (try (simp at he; done))
    rename_i k' m
    split at he
    · rename_i hk; subst hk
      have hm := h1.2
      rw [rel_i h1]
      obtain ⟨u, hu, hr⟩ := maxL_go (P := P) k as vs' (if n < m then m else n) av h2 (by split <;> assumption) he
      exact ⟨u, by simpa [Builtin.max2, GT.gt] using hu, hr⟩
    · simp at he

theorem minL_run {P : Program} {g : Gh} {w : World} {as : List AV} {vs : List Value} {av : AV} (T : Array TypeId) (R : TypeId) (h : RelL g w as vs) (he : minL as = some av) : ∃ v, (Builtin.min_ T R vs.toArray).run P w = .ok v w ∧ RelV g w av v := by
  cases as with
  | nil => simp [minL] at he
  | cons a as =>
    cases a <;> simp only [minL] at he <;> (try (simp at he; done))
    simp only [RelL] at h
    obtain ⟨v, vs', rfl, h1, h2⟩ := h
    obtain ⟨u, hu, hr⟩ := minL_go (P := P) _ as vs' _ av h2 h1.2 he
    exact ⟨u, by rw [rel_i h1]; simpa [Builtin.min_] using hu, hr⟩

theorem maxL_run {P : Program} {g : Gh} {w : World} {as : List AV} {vs : List Value} {av : AV} (T : Array TypeId) (R : TypeId) (h : RelL g w as vs) (he : maxL as = some av) : ∃ v, (Builtin.max_ T R vs.toArray).run P w = .ok v w ∧ RelV g w av v := by
  cases as with
  | nil => simp [maxL] at he
  | cons a as =>
    cases a <;> simp only [maxL] at he <;> (try (simp at he; done))
    simp only [RelL] at h
    obtain ⟨v, vs', rfl, h1, h2⟩ := h
    obtain ⟨u, hu, hr⟩ := maxL_go (P := P) _ as vs' _ av h2 h1.2 he
    exact ⟨u, by rw [rel_i h1]; simpa [Builtin.max_] using hu, hr⟩
end Go.M
