/- Plain: records. -/
import Derived.Test.YtjplebfagohphaaPb
namespace Go.M
open Go
set_option linter.unusedVariables false
set_option linter.unusedSimpArgs false

structure Ent where
  kind : Int
  file : Int
  index : Int
  vbn : Int
  deriving DecidableEq

structure Rec where
  seq : Int
  cp : Int
  ends : Bool
  sync : Bool
  next : Int
  l : List Ent
  deriving DecidableEq

def i64ok (n : Int) : Prop := -9223372036854775808 ≤ n ∧ n ≤ 9223372036854775807
def u64ok (n : Int) : Prop := 0 ≤ n ∧ n ≤ 18446744073709551615
def u32ok (n : Int) : Prop := 0 ≤ n ∧ n ≤ 4294967295

structure Ent.Ok (x : Ent) : Prop where
  kind : i64ok x.kind
  file : u32ok x.file
  index : u32ok x.index
  vbn : u32ok x.vbn

structure Rec.Ok (r : Rec) : Prop where
  seq : u64ok r.seq
  cp : u64ok r.cp
  next : i64ok r.next
  l : ∀ x ∈ r.l, x.Ok
  len : (r.l.length : Int) ≤ 9223372036854775807

def encEnt (x : Ent) : List AV := [.i .i64 x.kind, .i .u32 x.file, .i .u32 x.index, .i .u32 x.vbn]
@[simp] theorem encEnt_len (x : Ent) : (encEnt x).length = 4 := rfl
theorem encEnt_pures (x : Ent) : AV.pures (encEnt x) = true := rfl
def encEnts (l : List Ent) : AV := .lst l.length false (rows encEnt l)
def encRecL (r : Rec) : List AV := [.i .u64 r.seq, .i .u64 r.cp, .b r.ends, .b r.sync, .i .i64 r.next, encEnts r.l]
def encRec (r : Rec) : AV := .agg (encRecL r)
theorem ents_len (l : List Ent) : (rows encEnt l).length = l.length * 4 := rows_len encEnt 4 encEnt_len l
theorem ents_get (l : List Ent) (i : Nat) (hi : i < l.length) : List.take 4 (List.drop (i * 4) (rows encEnt l)) = encEnt l[i] := rows_get encEnt 4 encEnt_len l i hi
theorem encRec_pure (r : Rec) : (encRec r).pure = true := by
  simp [encRec, encRecL, AV.pure, AV.pures, encEnts, rows_pures encEnt encEnt_pures]

def numOk (n : Int) : Bool := decide (0 < n) && decide (n < 281474976710656)
def Ent.okB (x : Ent) : Bool :=
  if x.kind = 1 ∨ x.kind = 2 then decide (0 < x.file) && decide (0 < x.vbn)
  else if x.kind = 3 ∨ x.kind = 4 ∨ x.kind = 5 then decide (x.file = 0) && decide (x.vbn = 0) else false

def entsOk (ends : Bool) : List Ent → Bool
  | [] => true
  | x :: r => x.okB && (decide (x.kind = 5) == (ends && decide (r = []))) && entsOk ends r

def Rec.headOk (r : Rec) : Bool := numOk r.seq && numOk r.cp && decide (0 ≤ r.next) && decide (r.next ≤ 255) && !decide (r.l = []) && decide (r.l.length ≤ 15) && !(r.ends && r.sync)
def Rec.right (r : Rec) : Bool := r.headOk && entsOk r.ends r.l

theorem entsOk_at {ends : Bool} {l : List Ent} {i : Nat} (hi : i < l.length) : entsOk ends (l.drop i) = (l[i].okB && (decide (l[i].kind = 5) == (ends && decide ((i : Int) = (l.length : Int) - 1))) && entsOk ends (l.drop (i + 1))) := by
  rw [List.drop_eq_getElem_cons hi, entsOk]
  congr 3
  congr 1
  rw [Bool.eq_iff_iff]; simp; omega
theorem nil_len {α : Type} (l : List α) : (decide (l = [])) = decide (l.length = 0) := by cases l <;> simp

theorem ents_head (l : List Ent) (i : Nat) (hi : i < l.length) : (List.drop (i * 4) (rows encEnt l)).head? = some (.i .i64 l[i].kind) := by
  rw [rows_drop encEnt 4 encEnt_len, List.drop_eq_getElem_cons hi]; rfl
theorem ents_at0 (l : List Ent) (i : Nat) (hi : i < l.length) : (rows encEnt l)[i * 4]? = some (.i .i64 l[i].kind) := by
  rw [← List.head?_drop]; exact ents_head l i hi

/-! ### Bytes of records and blocks -/
def wrapped : List UInt8 := [80, 0, 0, 0]
def wrapB (c : List UInt8) : List UInt8 := wrapped ++ (c ++ List.replicate (508 - c.length) 0)
def wrapR (c : List UInt8) : AV := if c.length ≤ 508 then .tup [.s (str (wrapB c)), .i .i64 0] else .tup [.s (str []), .i .i64 70]
def unwrapOk (l : List UInt8) : Bool := decide (l.length = 512) && decide (l.take 4 = wrapped)
def unwrapR (l : List UInt8) : AV := if unwrapOk l then .tup [.s (str (l.drop 4)), .i .i64 0] else .tup [.s (str []), .i .i64 70]
def roomN (a : Int) : Int := if a < 0 then 0 else 15 - a % 16
def hpB (l p : List UInt8) : Bool := decide (p.length ≤ l.length) && decide (l.take p.length = p)

def Rec.flagN (r : Rec) : Int := if r.ends then 1 else if r.sync then 2 else 0
def Ent.bytes (x : Ent) : List UInt8 := le 1 x.kind ++ (le 4 x.file ++ (le 4 x.index ++ le 4 x.vbn))
def Rec.headBytes (r : Rec) : List UInt8 := [82] ++ (le 6 r.seq ++ (le 6 r.cp ++ (le 1 r.flagN ++ (le 2 r.next ++ le 1 (r.l.length : Int)))))
def Rec.bytes (r : Rec) : List UInt8 := r.headBytes ++ r.l.flatMap Ent.bytes
def Rec.block (r : Rec) : List UInt8 := r.bytes ++ List.replicate (512 - r.bytes.length) 0
def encodeR (r : Rec) : AV := if r.right then .tup [.s (str r.block), .i .i64 0] else .tup [.s (str []), .i .i64 70]

@[simp] theorem Ent.bytes_len (x : Ent) : x.bytes.length = 13 := by simp [Ent.bytes]
@[simp] theorem Rec.head_len (r : Rec) : r.headBytes.length = 17 := by simp [Rec.headBytes]
theorem flatB_len (l : List Ent) : (l.flatMap Ent.bytes).length = l.length * 13 := by
  induction l with
  | nil => rfl
  | cons x l ih => rw [List.flatMap_cons, List.length_append, ih, Ent.bytes_len, List.length_cons]; omega
theorem Rec.bytes_len (r : Rec) : r.bytes.length = 17 + r.l.length * 13 := by rw [Rec.bytes, List.length_append, flatB_len, Rec.head_len]

theorem Ent.ok_kind {x : Ent} (h : x.okB = true) : 1 ≤ x.kind ∧ x.kind ≤ 5 := by
  unfold Ent.okB at h
  split at h
  · omega
  · split at h
    · omega
    · simp at h

theorem entsOk_mem {ends : Bool} : ∀ {l : List Ent}, entsOk ends l = true → ∀ x ∈ l, x.okB = true
  | [], _, x, hx => by simp at hx
  | y :: l, h, x, hx => by
    simp only [entsOk, Bool.and_eq_true] at h
    rcases List.mem_cons.1 hx with rfl | hx
    · exact h.1.1
    · exact entsOk_mem h.2 x hx

structure Rec.Right (r : Rec) : Prop where
  seq : 0 < r.seq ∧ r.seq < 281474976710656
  cp : 0 < r.cp ∧ r.cp < 281474976710656
  next : 0 ≤ r.next ∧ r.next ≤ 255
  len : 0 < r.l.length ∧ r.l.length ≤ 15
  flags : ¬ (r.ends = true ∧ r.sync = true)
  ents : ∀ x ∈ r.l, x.okB = true
  all : entsOk r.ends r.l = true

theorem Rec.right_of {r : Rec} (h : r.right = true) : r.Right := by
  simp only [Rec.right, Bool.and_eq_true] at h
  obtain ⟨h1, h2⟩ := h
  simp [Rec.headOk, numOk] at h1
  obtain ⟨⟨⟨⟨⟨⟨a1, a2⟩, a3⟩, a4⟩, a5⟩, a6⟩, a7⟩ := h1
  refine ⟨a1, a2, ⟨a3, a4⟩, ⟨List.length_pos_iff.2 a5, a6⟩, ?_, entsOk_mem h2, h2⟩
  rintro ⟨e1, e2⟩
  rcases a7 with a | a <;> simp_all
end Go.M
