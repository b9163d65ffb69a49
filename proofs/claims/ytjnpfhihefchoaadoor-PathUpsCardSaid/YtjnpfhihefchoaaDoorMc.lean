/- What operations do to abstract states: computed, and sound: values that touch no memory. -/
import Derived.Test.YtjnpfhihefchoaaDoorMb
import Derived.Laws.Entries
import Derived.Laws.Strings
namespace Go.M
open Go Go.RowKit
set_option linter.unusedVariables false
set_option linter.unusedSimpArgs false

/-! ### Types -/
structure TI where
  size : Nat
  bytes : Nat
  agg : Bool
  zero : List AV
  zv : AV

def cv1 : Value → AV
  | .bool b => .b b
  | .int k n => if k.min ≤ n ∧ n ≤ k.max then .i k n else .any
  | .string s => if (s.size : Int) ≤ imax then .s s else .any
  | .pointer none => .nilp
  | .slice none 0 0 => .nils
  | .map none => .nilm
  | .nilFunc => .nilf
  | _ => .any

def cv : Value → AV
  | .agg cs => .agg (cs.toList.map cv1)
  | v => cv1 v

def AV.one : AV → Bool
  | .any | .agg _ | .tup _ | .gd _ _ => false
  | _ => true

def AV.ones : List AV → Bool
  | [] => true
  | a :: as => a.one && AV.ones as

def AV.cells : AV → Option (List AV)
  | .agg cs => if AV.ones cs = true then some cs else none
  | a => if a.one = true then some [a] else none

def TypeDesc.isAgg : TypeDesc → Bool
  | .struct _ | .array _ _ => true
  | _ => false

def ti (P : Program) (T : TypeId) : Option TI :=
  match P.info? T, P.underlying T with
  | some i, some d =>
    match i.zero with
    | some z => if z.cells.size = i.size ∧ z.cells.toList.all (·.oneCell') = true then some ⟨i.size, i.bytes, TypeDesc.isAgg d, z.cells.toList.map cv1, cv z⟩ else none
    | none => none
  | _, _ => none

theorem cv1_rel (g : Gh) (w : World) (v : Value) : RelV g w (cv1 v) v := by
  unfold cv1
  split <;> (try split) <;> simp_all [RelV]

theorem RelL.map_cv1 (g : Gh) (w : World) : ∀ (vs : List Value), RelL g w (vs.map cv1) vs
  | [] => by simp [RelL]
  | v :: vs => by simp only [List.map_cons, RelL]; exact ⟨v, vs, rfl, cv1_rel g w v, RelL.map_cv1 g w vs⟩

theorem cv_rel (g : Gh) (w : World) (v : Value) : RelV g w (cv v) v := by
  unfold cv
  split
  · rename_i cs
    simp only [RelV]
    exact ⟨cs.toList, by simp, RelL.map_cv1 g w _⟩
  · exact cv1_rel g w v

structure TiOk (P : Program) (T : TypeId) (t : TI) (i : TypeInfo) (d : TypeDesc) (z : Value) : Prop where
  info : P.info? T = some i
  und : P.underlying T = some d
  zero : i.zero = some z
  size : t.size = i.size
  bytes : t.bytes = i.bytes
  agg : t.agg = TypeDesc.isAgg d
  zs : t.zero = z.cells.toList.map cv1
  zv : t.zv = cv z
  zsize : z.cells.size = i.size
  zone : z.cells.toList.all (·.oneCell') = true

theorem ti_ok {P : Program} {T : TypeId} {t : TI} (h : ti P T = some t) : ∃ i d z, TiOk P T t i d z := by
  unfold ti at h
  split at h
  · rename_i i d hi hd
    split at h
    · rename_i z hz
      split at h
      · rename_i hc
        simp only [Option.some.injEq] at h
        subst h
        exact ⟨i, d, z, hi, hd, hz, rfl, rfl, rfl, rfl, rfl, hc.1, hc.2⟩
      · simp at h
    · simp at h
  · simp at h

section types
variable {P : Program} {T : TypeId} {t : TI} {i : TypeInfo} {d : TypeDesc} {z : Value} (k : TiOk P T t i d z) (w : World)
include k
theorem TiOk.typeInfo : (typeInfo T).run P w = .ok i w := by
  simp [Go.typeInfo, program, Sem.run, k.info]
theorem TiOk.sizeOf : (sizeOf T).run P w = .ok t.size w := by
  simp [Go.sizeOf, k.typeInfo, k.size]
theorem TiOk.underlying : (underlying T).run P w = .ok d w := by
  simp [Go.underlying, program, Sem.run, k.und]
theorem TiOk.isAgg : (isAgg T).run P w = .ok t.agg w := by
  simp only [Go.isAgg, Sem.run_bind, k.underlying, Result.andThen_ok, k.agg]
  cases d <;> rfl
theorem TiOk.zeroValue : (zeroValue T).run P w = .ok z w := by
  simp [Go.zeroValue, k.typeInfo, k.zero]
theorem TiOk.zlen : t.zero.length = t.size := by
  rw [k.zs, k.size, List.length_map, Array.length_toList, k.zsize]
end types

theorem run_underlying {P : Program} {T : TypeId} {d : TypeDesc} (h : P.underlying T = some d) (w : World) : (underlying T).run P w = .ok d w := by
  simp [Go.underlying, program, Sem.run, h]

/-! ### Cells of values -/
theorem one_rel {g : Gh} {w : World} {a : AV} {v : Value} (h : RelV g w a v) (ho : a.one = true) : v.oneCell' = true := by
  cases a <;> simp only [RelV, AV.one] at h ho <;> first
    | (simp at ho; done)
    | (subst h; rfl)
    | (obtain ⟨rfl, _⟩ := h; rfl)
    | (obtain ⟨_, _, rfl, _⟩ := h; rfl)
    | (obtain ⟨_, _, _, rfl, _⟩ := h; rfl)
    | (obtain ⟨_, _, rfl⟩ := h; rfl)

theorem ones_rel {g : Gh} {w : World} : ∀ {as : List AV} {vs : List Value}, RelL g w as vs → AV.ones as = true → ∀ u ∈ vs, u.oneCell' = true
  | [], vs, h, _, u, hu => by simp only [RelL] at h; subst h; simp at hu
  | a :: as, vs, h, ho, u, hu => by
    simp only [RelL, AV.ones, Bool.and_eq_true] at h ho
    obtain ⟨v, vs', rfl, h1, h2⟩ := h
    rcases List.mem_cons.1 hu with rfl | hu
    · exact one_rel h1 ho.1
    · exact ones_rel h2 ho.2 u hu

theorem cells_of_one {v : Value} (h : v.oneCell' = true) : v.cells = #[v] := by
  cases v <;> first | rfl | (simp [Value.oneCell'] at h)

theorem cells_rel {g : Gh} {w : World} {a : AV} {v : Value} {cs : List AV} (h : RelV g w a v) (hc : a.cells = some cs) : RelL g w cs v.cells.toList ∧ ∀ u ∈ v.cells.toList, u.oneCell' = true := by
  by_cases ha : a.one = true
  · have h1 := one_rel h ha
    have hcs : cs = [a] := by
      cases a <;> simp_all [AV.cells, AV.one]
    subst hcs
    rw [cells_of_one h1]
    exact ⟨by simp only [RelL]; exact ⟨v, [], rfl, h, rfl⟩, by simpa using h1⟩
  · cases a <;> simp [AV.cells, AV.one] at hc ha
    rename_i l
    obtain ⟨h1, rfl⟩ := hc
    simp only [RelV] at h
    obtain ⟨vs, rfl, h2⟩ := h
    simp only [Value.cells]
    exact ⟨h2, ones_rel h2 h1⟩

theorem zero_rel {P : Program} {T : TypeId} {t : TI} {i : TypeInfo} {d : TypeDesc} {z : Value} (k : TiOk P T t i d z) (g : Gh) (w : World) : RelL g w t.zero z.cells.toList ∧ ∀ u ∈ z.cells.toList, u.oneCell' = true := by
  refine ⟨by rw [k.zs]; exact RelL.map_cv1 g w _, ?_⟩
  intro u hu
  have h := k.zone
  rw [List.all_eq_true] at h
  exact h u hu

/-! ### Arithmetic -/
def fits (k : IntKind) (n : Int) : Prop := k.min ≤ n ∧ n ≤ k.max

theorem wrap_fits (k : IntKind) (n : Int) : k.min ≤ k.wrap n ∧ k.wrap n ≤ k.max := by
  have h0 := Int.emod_nonneg n (b := 2 ^ k.bits) (by cases k <;> simp [IntKind.bits])
  have h1 := Int.emod_lt_of_pos n (b := 2 ^ k.bits) (by cases k <;> simp [IntKind.bits])
  cases k <;> simp only [IntKind.min, IntKind.max, IntKind.wrap, IntKind.bits, IntKind.signed] at h0 h1 ⊢ <;> simp at h0 h1 ⊢ <;> (try split) <;> omega

def shl (k : IntKind) (a b : Int) : Int := k.wrap (a * 2 ^ (min b.toNat k.bits))
def shr (k : IntKind) (a b : Int) : Int := a.fdiv (2 ^ (min b.toNat k.bits))

theorem shr_fits {k : IntKind} {a : Int} (b : Int) (h : k.min ≤ a ∧ a ≤ k.max) : k.min ≤ shr k a b ∧ shr k a b ≤ k.max := by
  have hp : (0 : Int) < 2 ^ (min b.toNat k.bits) := Int.pow_pos (by decide)
  have hm : k.min ≤ 0 := by cases k <;> decide
  have hM : 0 ≤ k.max := by cases k <;> decide
  unfold shr
  generalize (2 : Int) ^ (min b.toNat k.bits) = p at hp
  rw [Int.fdiv_eq_ediv_of_nonneg _ (by omega)]
  rcases Int.lt_or_le a 0 with h1 | h1
  · have h2 : a ≤ a / p := by
      rw [Int.le_ediv_iff_mul_le hp]
      have := Int.mul_nonneg (a := -a) (b := p - 1) (by omega) (by omega)
      rw [Int.mul_sub, Int.neg_mul] at this
      omega
    have h3 : a / p < 0 := Int.ediv_neg_of_neg_of_pos h1 hp
    omega
  · have h2 : a / p ≤ a := Int.ediv_le_self p h1
    have h3 : 0 ≤ a / p := Int.ediv_nonneg h1 (by omega)
    omega

theorem tmod_fits {k : IntKind} {a : Int} (b : Int) (h : k.min ≤ a ∧ a ≤ k.max) : k.min ≤ a.tmod b ∧ a.tmod b ≤ k.max := by
  have hm : k.min ≤ 0 := by cases k <;> decide
  have hM : 0 ≤ k.max := by cases k <;> decide
  rcases Int.le_total 0 a with h1 | h1
  · have h2 := Int.tmod_nonneg b h1
    have h3 := Int.natAbs_tmod a b
    have h4 : a.natAbs % b.natAbs ≤ a.natAbs := Nat.mod_le _ _
    omega
  · have h2 : a.tmod b ≤ 0 := by
      have := Int.tmod_nonneg b (a := -a) (by omega)
      rw [Int.neg_tmod] at this; omega
    have h3 := Int.natAbs_tmod a b
    have h4 : a.natAbs % b.natAbs ≤ a.natAbs := Nat.mod_le _ _
    omega

def bitsE (op : BinOp) (k : IntKind) (x y : Int) : Int :=
  let a := BitVec.ofInt k.bits x
  let b := BitVec.ofInt k.bits y
  match op with
  | .and => k.wrap (a &&& b).toNat
  | .or => k.wrap (a ||| b).toNat
  | .xor => k.wrap (a ^^^ b).toNat
  | _ => k.wrap (a &&& ~~~b).toNat

/-- Two integers. -/
def intE (op : BinOp) (k : IntKind) (x y : Int) : Option AV :=
  match op with
  | .add => some (.i k (k.wrap (x + y)))
  | .sub => some (.i k (k.wrap (x - y)))
  | .mul => some (.i k (k.wrap (x * y)))
  | .quo => if y = 0 then none else some (.i k (k.wrap (x.tdiv y)))
  | .rem => if y = 0 then none else some (.i k (x.tmod y))
  | .and => some (.i k (bitsE .and k x y))
  | .or => some (.i k (bitsE .or k x y))
  | .xor => some (.i k (bitsE .xor k x y))
  | .andNot => some (.i k (bitsE .andNot k x y))
  | .eql => some (.b (decide (x = y)))
  | .neq => some (.b (decide (x ≠ y)))
  | .lss => some (.b (decide (x < y)))
  | .leq => some (.b (decide (x ≤ y)))
  | .gtr => some (.b (decide (y < x)))
  | .geq => some (.b (decide (y ≤ x)))
  | _ => none

def strE (op : BinOp) (x y : ByteArray) : Option AV :=
  match op with
  | .add => if ((x.size + y.size : Nat) : Int) ≤ imax then some (.s (x ++ y)) else none
  | .eql => some (.b (decide (x = y)))
  | .neq => some (.b (decide (x ≠ y)))
  | .lss => some (.b (Op.bytesLess x.toList y.toList))
  | .leq => some (.b (Op.bytesLess x.toList y.toList || decide (x = y)))
  | .gtr => some (.b (!(Op.bytesLess x.toList y.toList || decide (x = y))))
  | .geq => some (.b (!Op.bytesLess x.toList y.toList))
  | _ => none

/-- Are two values of a type equal? d: how deep structs lie in each other. -/
def eqE (P : Program) : Nat → TypeId → AV → AV → Option Bool
  | 0, _, _, _ => none
  | d + 1, T, x, y =>
    match P.underlying T, x, y with
    | some .bool, .b a, .b b => some (a == b)
    | some (.int _), .i k a, .i k' b => if k = k' then some (decide (a = b)) else none
    | some .string, .s a, .s b => some (decide (a = b))
    | some (.struct fs), .agg xs, .agg ys => if P.stoodInHeld T = true then none else go P d fs.toList xs ys
    | some (.pointer _), .nilp, .nilp => some true
    | some (.pointer _), .nilp, .ptr _ _ _ => some false
    | some (.pointer _), .ptr _ _ _, .nilp => some false
    | some (.pointer E), .ptr i v o, .ptr i' v' o' => if i = i' ∧ v = v' ∧ o = o' ∧ (ti P E).isSome = true then some true else none
    | some (.slice _), .nils, .nils => some true
    | some (.slice _), .nils, .sl _ _ _ _ _ => some false
    | some (.slice _), .sl _ _ _ _ _, .nils => some false
    | some (.func _ _ _), .nilf, .nilf => some true
    | some (.func _ _ _), .nilf, .fn _ _ _ => some false
    | some (.func _ _ _), .fn _ _ _, .nilf => some false
    | some (.map _ _), .nilm, .nilm => some true
    | some (.map _ _), .nilm, .mp _ => some false
    | some (.map _ _), .mp _, .nilm => some false
    | _, _, _ => none
where
  go (P : Program) (d : Nat) : List Field → List AV → List AV → Option Bool
    | [], _, _ => some true
    | f :: fs, xs, ys =>
      if f.name = "_" then none else
      match ti P f.type with
      | some t =>
        if t.agg = true then
          if f.offset + t.size ≤ xs.length ∧ f.offset + t.size ≤ ys.length then
            match eqE P d f.type (.agg ((xs.drop f.offset).take t.size)) (.agg ((ys.drop f.offset).take t.size)), go P d fs xs ys with
            | some p, some q => some (p && q)
            | _, _ => none
          else none
        else
          match xs[f.offset]?, ys[f.offset]? with
          | some a, some b =>
            match eqE P d f.type a b, go P d fs xs ys with
            | some p, some q => some (p && q)
            | _, _ => none
          | _, _ => none
      | none => none

theorem bytes_toList_inj {x y : ByteArray} : (x.toList == y.toList) = decide (x = y) := by
  rw [ByteArray.toList_eq, ByteArray.toList_eq, Bool.eq_iff_iff, beq_iff_eq, decide_eq_true_eq]
  constructor
  · intro e
    cases x; cases y
    simp only [Array.toList_inj] at e
    rw [e]
  · rintro rfl; rfl

theorem beqd (x y : Int) : (x == y) = decide (x = y) := by rw [Bool.eq_iff_iff]; simp

theorem intE_run {P : Program} {op : BinOp} {k : IntKind} {x y : Int} {av : AV} (h : intE op k x y = some av) (hx : k.min ≤ x ∧ x ≤ k.max) (g : Gh) (w : World) (T : TypeId) :
    ∃ v, (binOp op T (.int k x) (.int k y)).run P w = .ok v w ∧ RelV g w av v := by
  cases op with
  | add => simp only [intE, Option.some.injEq] at h; subst h; exact ⟨.int k (k.wrap (x + y)), by simp [binOp, Op.intArith], ⟨rfl, wrap_fits _ _⟩⟩
  | sub => simp only [intE, Option.some.injEq] at h; subst h; exact ⟨.int k (k.wrap (x - y)), by simp [binOp, Op.intArith], ⟨rfl, wrap_fits _ _⟩⟩
  | mul => simp only [intE, Option.some.injEq] at h; subst h; exact ⟨.int k (k.wrap (x * y)), by simp [binOp, Op.intArith], ⟨rfl, wrap_fits _ _⟩⟩
  | quo =>
    simp only [intE] at h
    split at h
    · simp at h
    · rename_i hy; simp only [Option.some.injEq] at h; subst h; exact ⟨.int k (k.wrap (x.tdiv y)), by simp [binOp, Op.intDiv, hy], ⟨rfl, wrap_fits _ _⟩⟩
  | rem =>
    simp only [intE] at h
    split at h
    · simp at h
    · rename_i hy; simp only [Option.some.injEq] at h; subst h; exact ⟨.int k (x.tmod y), by simp [binOp, Op.intDiv, hy], ⟨rfl, tmod_fits _ hx⟩⟩
  | and => simp only [intE, Option.some.injEq] at h; subst h; exact ⟨.int k (bitsE .and k x y), by simp [binOp, Op.intBits, bitsE], ⟨rfl, by simp only [bitsE]; exact wrap_fits _ _⟩⟩
  | or => simp only [intE, Option.some.injEq] at h; subst h; exact ⟨.int k (bitsE .or k x y), by simp [binOp, Op.intBits, bitsE], ⟨rfl, by simp only [bitsE]; exact wrap_fits _ _⟩⟩
  | xor => simp only [intE, Option.some.injEq] at h; subst h; exact ⟨.int k (bitsE .xor k x y), by simp [binOp, Op.intBits, bitsE], ⟨rfl, by simp only [bitsE]; exact wrap_fits _ _⟩⟩
  | andNot => simp only [intE, Option.some.injEq] at h; subst h; exact ⟨.int k (bitsE .andNot k x y), by simp [binOp, Op.intBits, bitsE], ⟨rfl, by simp only [bitsE]; exact wrap_fits _ _⟩⟩
  | eql => simp only [intE, Option.some.injEq] at h; subst h; exact ⟨.bool (decide (x = y)), by simp [binOp, Op.intCmp, beqd, bne, GT.gt, GE.ge], rfl⟩
  | neq => simp only [intE, Option.some.injEq] at h; subst h; exact ⟨.bool (decide (x ≠ y)), by simp [binOp, Op.intCmp, beqd, bne, GT.gt, GE.ge], rfl⟩
  | lss => simp only [intE, Option.some.injEq] at h; subst h; exact ⟨.bool (decide (x < y)), by simp [binOp, Op.intCmp, beqd, bne, GT.gt, GE.ge], rfl⟩
  | leq => simp only [intE, Option.some.injEq] at h; subst h; exact ⟨.bool (decide (x ≤ y)), by simp [binOp, Op.intCmp, beqd, bne, GT.gt, GE.ge], rfl⟩
  | gtr => simp only [intE, Option.some.injEq] at h; subst h; exact ⟨.bool (decide (y < x)), by simp [binOp, Op.intCmp, beqd, bne, GT.gt, GE.ge], rfl⟩
  | geq => simp only [intE, Option.some.injEq] at h; subst h; exact ⟨.bool (decide (y ≤ x)), by simp [binOp, Op.intCmp, beqd, bne, GT.gt, GE.ge], rfl⟩
  | shl => simp [intE] at h
  | shr => simp [intE] at h

theorem shift_run {P : Program} {op : BinOp} {k k' : IntKind} {x y : Int} (hop : op = .shl ∨ op = .shr) (hx : k.min ≤ x ∧ x ≤ k.max) (hy : 0 ≤ y) (g : Gh) (w : World) (T : TypeId) :
    ∃ v, (binOp op T (.int k x) (.int k' y)).run P w = .ok v w ∧ RelV g w (.i k (if op = .shl then shl k x y else shr k x y)) v := by
  rcases hop with rfl | rfl
  · exact ⟨.int k (shl k x y), by simp [binOp, Op.shift, show ¬ y < 0 by omega, shl], ⟨rfl, by simp only [shl]; exact wrap_fits _ _⟩⟩
  · exact ⟨.int k (shr k x y), by simp [binOp, Op.shift, show ¬ y < 0 by omega, shr], ⟨rfl, shr_fits _ hx⟩⟩

theorem strE_run {P : Program} {op : BinOp} {x y : ByteArray} {av : AV} (h : strE op x y = some av) (g : Gh) (w : World) (T : TypeId) :
    ∃ v, (binOp op T (.string x) (.string y)).run P w = .ok v w ∧ RelV g w av v := by
  have hm : IntKind.i64.max = imax := by decide
  cases op with
  | add =>
    simp only [strE] at h
    split at h
    · rename_i hc
      simp only [Option.some.injEq] at h; subst h
      refine ⟨.string (x ++ y), ?_, rfl, by rw [ByteArray.size_append]; exact hc⟩
      simp only [binOp, Op.stringOp, hm]
      rw [if_neg (by omega)]; rfl
    · simp at h
  | eql => simp only [strE, Option.some.injEq] at h; subst h; exact ⟨_, by simp only [binOp, Op.stringOp, bytes_toList_inj]; rfl, rfl⟩
  | neq => simp only [strE, Option.some.injEq] at h; subst h; exact ⟨_, by simp only [binOp, Op.stringOp, bytes_toList_inj]; rfl, by simp only [RelV]; simp⟩
  | lss => simp only [strE, Option.some.injEq] at h; subst h; exact ⟨_, by simp only [binOp, Op.stringOp, bytes_toList_inj]; rfl, rfl⟩
  | leq => simp only [strE, Option.some.injEq] at h; subst h; exact ⟨_, by simp only [binOp, Op.stringOp, bytes_toList_inj]; rfl, rfl⟩
  | gtr => simp only [strE, Option.some.injEq] at h; subst h; exact ⟨_, by simp only [binOp, Op.stringOp, bytes_toList_inj]; rfl, rfl⟩
  | geq => simp only [strE, Option.some.injEq] at h; subst h; exact ⟨_, by simp only [binOp, Op.stringOp, bytes_toList_inj]; rfl, rfl⟩
  | sub | mul | quo | rem | and | or | xor | shl | shr | andNot => simp [strE] at h
end Go.M
