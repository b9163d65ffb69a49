/- What operations do to abstract states: equality, memory, slices. -/
import Derived.Test.YtjnpfhihefchoaaDoorMc
import Derived.Laws.StructEq
import Derived.LaidEql
namespace Go.M
open Go Go.RowKit
set_option linter.unusedVariables false
set_option linter.unusedSimpArgs false

theorem rel_b {g : Gh} {w : World} {x : Bool} {v : Value} (h : RelV g w (.b x) v) : v = .bool x := h
theorem rel_i {g : Gh} {w : World} {k : IntKind} {n : Int} {v : Value} (h : RelV g w (.i k n) v) : v = .int k n := h.1
theorem rel_s {g : Gh} {w : World} {x : ByteArray} {v : Value} (h : RelV g w (.s x) v) : v = .string x := h.1

theorem part_agg {P : Program} {T : TypeId} {t : TI} {i : TypeInfo} {d : TypeDesc} {z : Value} (k : TiOk P T t i d z) (ha : t.agg = true) (vs : List Value) (off : Nat) (w : World) :
    (part T vs.toArray off).run P w = .ok (.agg ((vs.drop off).take t.size).toArray) w := by
  simp only [part, Sem.run_bind, k.isAgg, Result.andThen_ok, ha, if_true, k.sizeOf, Sem.run_pure]
  congr 2
  apply Array.ext'
  simp [List.extract, Array.toList_extract]

theorem part_one {P : Program} {T : TypeId} {t : TI} {i : TypeInfo} {d : TypeDesc} {z : Value} (k : TiOk P T t i d z) (ha : t.agg = false) (vs : List Value) (off : Nat) (v : Value) (hv : vs[off]? = some v) (w : World) :
    (part T vs.toArray off).run P w = .ok v w := by
  simp only [part, Sem.run_bind, k.isAgg, Result.andThen_ok, ha, Bool.false_eq_true, if_false]
  have : vs.toArray[off]? = some v := by simpa using hv
  rw [this]; rfl

theorem eqE_run {P : Program} {g : Gh} {w : World} : ∀ (d : Nat) (T : TypeId) (x y : AV) (b : Bool) (vx vy : Value) (D : Nat), eqE P d T x y = some b → RelV g w x vx → RelV g w y vy → d ≤ D → (Op.equalIn D T vx vy).run P w = .ok b w := by
  intro d
  induction d with
  | zero => intro T x y b vx vy D h; simp [eqE] at h
  | succ d ih =>
    intro T x y b vx vy D h hx hy hD
    obtain ⟨D, rfl⟩ : ∃ D', D = D' + 1 := ⟨D - 1, by omega⟩
    unfold eqE at h
    split at h
    · rename_i hu; rw [rel_b hx, rel_b hy]; simp at h; subst h; exact run_equalIn_bool' w D T _ _ hu
    · rename_i hu
      split at h
      · rename_i hk; subst hk; rw [rel_i hx, rel_i hy]; simp only [Option.some.injEq] at h; subst h; rw [run_equalIn_int w D T _ _ _ _ hu, beqd]
      · simp at h
    · rename_i hu; rw [rel_s hx, rel_s hy]; simp only [Option.some.injEq] at h; subst h; rw [run_equalIn_string w D T _ _ hu, bytes_toList_inj]
    · rename_i fs xs ys hu
      split at h
      · simp at h
      · rename_i hst
        simp only [RelV] at hx hy
        obtain ⟨us, rfl, hx⟩ := hx
        obtain ⟨vs, rfl, hy⟩ := hy
        have hf : P.fieldsOf T = fs := by simp [Program.fieldsOf, hu]
        rw [run_equalIn_struct w D T _ _ (by rw [hf]; exact hu) (by simpa using hst), hf]
        revert h
        generalize fs.toList = l
        intro h
        clear hf hu hst
        induction l generalizing b with
        | nil => simp only [eqE.go, Option.some.injEq] at h; subst h; rfl
        | cons f l ihl =>
          simp only [eqE.go] at h
          split at h
          · simp at h
          · rename_i hn
            split at h
            · rename_i t ht
              obtain ⟨i, dd, z, k⟩ := ti_ok ht
              simp only [Op.eqFields, ne_eq, hn, not_false_eq_true, if_true]
              split at h
              · rename_i ha
                split at h
                · rename_i hle
                  split at h
                  · rename_i p q hp hq
                    simp only [Option.some.injEq] at h; subst h
                    simp only [Sem.run_bind, part_agg k ha, Result.andThen_ok]
                    rw [ih f.type _ _ p (.agg ((us.drop f.offset).take t.size).toArray) (.agg ((vs.drop f.offset).take t.size).toArray) D hp ⟨_, rfl, (hx.drop _).take _⟩ ⟨_, rfl, (hy.drop _).take _⟩ (by omega)]
                    simp only [Result.andThen_ok]
                    cases p
                    · rfl
                    · simpa using ihl q hq
                  · simp at h
                · simp at h
              · rename_i ha
                split at h
                · rename_i a b' hxa hyb
                  split at h
                  · rename_i p q hp hq
                    simp only [Option.some.injEq] at h; subst h
                    obtain ⟨u, hu, hru⟩ := hx.get hxa
                    obtain ⟨v, hv, hrv⟩ := hy.get hyb
                    have ha' : t.agg = false := by simpa using ha
                    simp only [Sem.run_bind, part_one k ha' us _ u hu, part_one k ha' vs _ v hv, Result.andThen_ok]
                    rw [ih f.type a b' p u v D hp hru hrv (by omega)]
                    simp only [Result.andThen_ok]
                    cases p
                    · rfl
                    · simpa using ihl q hq
                  · simp at h
                · simp at h
            · simp at h
    all_goals try (simp at h; done)
    all_goals try (
      rename_i hu
      split at h
      · rename_i hc
        obtain ⟨rfl, rfl, rfl, hi⟩ := hc
        simp only [RelV] at hx hy
        obtain ⟨L, hl, rfl⟩ := hx
        obtain ⟨L', hl', rfl⟩ := hy
        have hLL : L' = L := by rw [hl] at hl'; simpa using hl'.symm
        subst hLL
        obtain ⟨t, ht⟩ := Option.isSome_iff_exists.1 hi
        obtain ⟨i, d', z, k⟩ := ti_ok ht
        simp only [Option.some.injEq] at h; subst h
        simp [Op.equalIn, run_underlying hu, sizeOf, typeInfo, k.info, run_sameAddr_same]
        done
      · cases h)
    all_goals
      rename_i hu
      simp only [Option.some.injEq] at h; subst h
      simp only [RelV] at hx hy
      first
        | (subst hx; subst hy; simp [Op.equalIn, run_underlying hu]; done)
        | (subst hx; obtain ⟨_, _, rfl⟩ := hy; simp [Op.equalIn, run_underlying hu]; done)
        | (subst hy; obtain ⟨_, _, rfl⟩ := hx; simp [Op.equalIn, run_underlying hu]; done)
        | (subst hx; obtain ⟨_, _, _, rfl, _⟩ := hy; simp [Op.equalIn, run_underlying hu]; done)
        | (subst hy; obtain ⟨_, _, _, rfl, _⟩ := hx; simp [Op.equalIn, run_underlying hu]; done)
        | (subst hx; obtain ⟨_, _, rfl, _⟩ := hy; simp [Op.equalIn, run_underlying hu]; done)
        | (subst hy; obtain ⟨_, _, rfl, _⟩ := hx; simp [Op.equalIn, run_underlying hu]; done)

def binE (P : Program) (op : BinOp) (T : TypeId) (x y : AV) : Option AV :=
  match x, y with
  | .i k a, .i k' b =>
    match op with
    | .shl => if 0 ≤ b then some (.i k (shl k a b)) else none
    | .shr => if 0 ≤ b then some (.i k (shr k a b)) else none
    | op => if k = k' then intE op k a b else none
  | .s a, .s b => strE op a b
  | x, y =>
    if P.eqGuardType P.depth T = true then none else
    match op with
    | .eql => match eqE P 8 T x y with | some r => some (.b r) | none => none
    | .neq => match eqE P 8 T x y with | some r => some (.b (!r)) | none => none
    | _ => none

theorem guard_ok {P : Program} (op : BinOp) (T : TypeId) (xo yo : Operand) (vx vy : Value) (w : World) (h1 : P.eqGuardType P.depth T = false ∨ vx.oneCell' = true) (h2 : vx ≠ .nilIface) :
    (eqGuard op T xo yo vx vy).run P w = .ok () w := by
  cases vx <;> cases vy <;> first
    | (exact absurd rfl h2)
    | (cases op <;> simp [eqGuard]; done)
    | (have h3 : P.eqGuardType P.depth T = false := by simpa [Value.oneCell'] using h1
       exact run_eqGuard_agg w op T xo yo _ _ h3)

theorem bin_eq {P : Program} {g : Gh} {w : World} {T : TypeId} {x y : AV} {b : Bool} {vx vy : Value} (h : eqE P 8 T x y = some b) (hx : RelV g w x vx) (hy : RelV g w y vy)
    (hni : ∀ k a k' b, ¬ (x = .i k a ∧ y = .i k' b)) (hns : ∀ a b, ¬ (x = .s a ∧ y = .s b)) :
    (binOp .eql T vx vy).run P w = .ok (.bool b) w ∧ (binOp .neq T vx vy).run P w = .ok (.bool (!b)) w ∧ vx ≠ .nilIface := by
  have hr := eqE_run 8 T x y b vx vy 10000 h hx hy (by decide)
  have fin : ∀ (s s' : Sem Value), s = (do pure (.bool (← Op.equal T vx vy))) → s' = (do pure (.bool (!(← Op.equal T vx vy)))) → s.run P w = .ok (.bool b) w ∧ s'.run P w = .ok (.bool (!b)) w := by
    rintro s s' rfl rfl
    simp [Op.equal, Op.maxDepth, hr]
  unfold eqE at h
  split at h
  all_goals first
    | (simp at h; done)
    | exact absurd ⟨rfl, rfl⟩ (hni _ _ _ _)
    | exact absurd ⟨rfl, rfl⟩ (hns _ _)
    | skip
  all_goals
    clear h hr
    simp only [RelV] at hx hy
    first
      | (subst hx; subst hy; exact ⟨(fin _ _ rfl rfl).1, (fin _ _ rfl rfl).2, by simp⟩)
      | (obtain ⟨_, rfl, _⟩ := hx; obtain ⟨_, rfl, _⟩ := hy; exact ⟨(fin _ _ rfl rfl).1, (fin _ _ rfl rfl).2, by simp⟩)
      | (obtain ⟨_, _, rfl⟩ := hx; obtain ⟨_, _, rfl⟩ := hy; exact ⟨(fin _ _ rfl rfl).1, (fin _ _ rfl rfl).2, by simp⟩)
      | (subst hx; obtain ⟨_, _, rfl⟩ := hy; exact ⟨(fin _ _ rfl rfl).1, (fin _ _ rfl rfl).2, by simp⟩)
      | (subst hy; obtain ⟨_, _, rfl⟩ := hx; exact ⟨(fin _ _ rfl rfl).1, (fin _ _ rfl rfl).2, by simp⟩)
      | (subst hx; obtain ⟨_, _, _, rfl, _⟩ := hy; exact ⟨(fin _ _ rfl rfl).1, (fin _ _ rfl rfl).2, by simp⟩)
      | (subst hy; obtain ⟨_, _, _, rfl, _⟩ := hx; exact ⟨(fin _ _ rfl rfl).1, (fin _ _ rfl rfl).2, by simp⟩)
      | (subst hx; obtain ⟨_, _, rfl, _⟩ := hy; exact ⟨(fin _ _ rfl rfl).1, (fin _ _ rfl rfl).2, by simp⟩)
      | (subst hy; obtain ⟨_, _, rfl, _⟩ := hx; exact ⟨(fin _ _ rfl rfl).1, (fin _ _ rfl rfl).2, by simp⟩)

theorem binE_run {P : Program} {op : BinOp} {T : TypeId} {x y av : AV} {g : Gh} {w : World} {vx vy : Value} (xo yo : Operand) (h : binE P op T x y = some av) (hx : RelV g w x vx) (hy : RelV g w y vy) :
    ∃ v, (do eqGuard op T xo yo vx vy; binOp op T vx vy : Sem Value).run P w = .ok v w ∧ RelV g w av v := by
  unfold binE at h
  split at h
  · rename_i k a k' b
    have hxa := hx.2
    rw [rel_i hx, rel_i hy]
    have hg : (eqGuard op T xo yo (.int k a) (.int k' b)).run P w = .ok () w := guard_ok op T xo yo _ _ w (.inr rfl) (by simp)
    simp only [Sem.run_bind, hg, Result.andThen_ok]
    split at h
    · split at h
      · rename_i hb
        simp only [Option.some.injEq] at h; subst h
        obtain ⟨v, h1, h2⟩ := shift_run (P := P) (op := .shl) (k := k) (k' := k') (.inl rfl) hxa hb g w T
        exact ⟨v, h1, by simpa using h2⟩
      · simp at h
    · split at h
      · rename_i hb
        simp only [Option.some.injEq] at h; subst h
        obtain ⟨v, h1, h2⟩ := shift_run (P := P) (op := .shr) (k := k) (k' := k') (.inr rfl) hxa hb g w T
        exact ⟨v, h1, by simpa using h2⟩
      · simp at h
    · split at h
      · rename_i hk; subst hk; exact intE_run h hxa g w T
      · simp at h
  · rw [rel_s hx, rel_s hy]
    rename_i a b
    have hg : (eqGuard op T xo yo (.string a) (.string b)).run P w = .ok () w := guard_ok op T xo yo _ _ w (.inr rfl) (by simp)
    simp only [Sem.run_bind, hg, Result.andThen_ok]
    exact strE_run h g w T
  · rename_i hni hns
    split at h
    · simp at h
    · rename_i hgt
      have hgt' : P.eqGuardType P.depth T = false := by simpa using hgt
      split at h
      · split at h
        · rename_i r hr
          simp only [Option.some.injEq] at h; subst h
          obtain ⟨h1, h2, h3⟩ := bin_eq hr hx hy (fun k a k' b hc => hni k a k' b hc.1 hc.2) (fun a b hc => hns a b hc.1 hc.2)
          exact ⟨_, by simp only [Sem.run_bind, guard_ok .eql T xo yo vx vy w (.inl hgt') h3, Result.andThen_ok]; exact h1, rfl⟩
        · simp at h
      · split at h
        · rename_i r hr
          simp only [Option.some.injEq] at h; subst h
          obtain ⟨h1, h2, h3⟩ := bin_eq hr hx hy (fun k a k' b hc => hni k a k' b hc.1 hc.2) (fun a b hc => hns a b hc.1 hc.2)
          exact ⟨_, by simp only [Sem.run_bind, guard_ok .neq T xo yo vx vy w (.inl hgt') h3, Result.andThen_ok]; exact h2, rfl⟩
        · simp at h
      · simp at h

def unE (op : UnOp) (x : AV) : Option AV :=
  match op, x with
  | .not, .b a => some (.b (!a))
  | .neg, .i k n => some (.i k (k.wrap (0 - n)))
  | .xor, .i k n => some (.i k (bitsE .xor k (if k.signed then -1 else k.max) n))
  | _, _ => none

theorem unE_run {P : Program} {op : UnOp} {x av : AV} {g : Gh} {w : World} {vx : Value} (h : unE op x = some av) (hx : RelV g w x vx) :
    ∃ v, (Op.unary op vx).run P w = .ok v w ∧ RelV g w av v := by
  unfold unE at h
  split at h
  · simp only [Option.some.injEq] at h; subst h; rw [rel_b hx]; exact ⟨_, rfl, rfl⟩
  · simp only [Option.some.injEq] at h; subst h; rw [rel_i hx]; exact ⟨_, rfl, rfl, wrap_fits _ _⟩
  · simp only [Option.some.injEq] at h; subst h; rw [rel_i hx]; exact ⟨_, rfl, rfl, by simp only [bitsE]; exact wrap_fits _ _⟩
  · simp at h

/-! ### Bytes -/
def encB (b : UInt8) : AV := .i .u8 b.toNat
def bytesOf : List AV → Option (List UInt8)
  | [] => some []
  | .i .u8 n :: as => match bytesOf as with | some l => some (UInt8.ofNat n.toNat :: l) | none => none
  | _ => none

theorem bytesOf_enc (l : List UInt8) : bytesOf (l.map encB) = some l := by
  induction l with
  | nil => rfl
  | cons b l ih => simp [bytesOf, encB, ih]

theorem encB_rel (g : Gh) (w : World) : ∀ (l : List UInt8), RelL g w (l.map encB) (l.map fun b => Value.int .u8 b.toNat)
  | [] => by simp [RelL]
  | b :: l => by
    simp only [List.map_cons, RelL]
    have := b.toNat_lt
    exact ⟨_, _, rfl, ⟨rfl, by simp [IntKind.min, IntKind.signed], by simp [IntKind.max, IntKind.signed, IntKind.bits]; omega⟩, encB_rel g w l⟩
end Go.M
