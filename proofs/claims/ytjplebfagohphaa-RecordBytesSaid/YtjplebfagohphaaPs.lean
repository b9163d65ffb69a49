/- Plain: reading of records. -/
import Derived.Test.YtjplebfagohphaaPr
namespace Go.M
open Go
set_option linter.unusedVariables false
set_option linter.unusedSimpArgs false

def takeOk (l : List UInt8) (a w : Int) : Prop := 1 ≤ w ∧ w ≤ 8 ∧ 0 ≤ a ∧ a + w ≤ l.length
instance (l : List UInt8) (a w : Int) : Decidable (takeOk l a w) := by unfold takeOk; infer_instance
def takeN (l : List UInt8) (a w : Int) : Int := if takeOk l a w then ofle ((l.drop a.toNat).take w.toNat) else 0

theorem takeN_nonneg (l : List UInt8) (a w : Int) : 0 ≤ takeN l a w := by
  unfold takeN; split
  · exact ofle_nonneg _
  · omega
theorem takeN_lt (l : List UInt8) (a w : Int) (k : Nat) (hk : w.toNat ≤ k) : takeN l a w < 256 ^ k := by
  unfold takeN; split
  · exact ofle_lt' (by simp; omega)
  · exact Int.pow_pos (by decide)

def entAt (b : List UInt8) (i : Nat) : Ent := ⟨takeN b (17 + 13 * (i : Int)) 1, takeN b (17 + 13 * (i : Int) + 1) 4, takeN b (17 + 13 * (i : Int) + 5) 4, takeN b (17 + 13 * (i : Int) + 9) 4⟩
def entsTo (b : List UInt8) (i : Nat) : List Ent := (List.range i).map (entAt b)
@[simp] theorem entsTo_len (b : List UInt8) (i : Nat) : (entsTo b i).length = i := by simp [entsTo]
theorem entsTo_succ (b : List UInt8) (i : Nat) : entsTo b (i + 1) = entsTo b i ++ [entAt b i] := by simp [entsTo, List.range_succ]
def cntOf (b : List UInt8) : Nat := (takeN b 16 1).toNat
def decRec (b : List UInt8) : Rec := ⟨takeN b 1 6, takeN b 7 6, decide (takeN b 13 1 = 1), decide (takeN b 13 1 = 2), takeN b 14 2, entsTo b (min (cntOf b) 16)⟩
def Rec.sector (r : Rec) : List UInt8 := r.bytes ++ List.replicate (256 - r.bytes.length) 0
def decOk (b : List UInt8) : Bool := decide (b.length = 512) && (decRec b).right && decide ((decRec b).sector = b.take 256)
def zeroRec : Rec := ⟨0, 0, false, false, 0, []⟩
def decodeR (b : List UInt8) : AV := if decOk b then .tup [encRec (decRec b), .i .i64 0] else .tup [encRec zeroRec, .i .i64 70]

theorem entAt_ok (b : List UInt8) (i : Nat) : (entAt b i).Ok := by
  have p1 : (256 : Int) ^ 1 = 256 := by decide
  have p4 : (256 : Int) ^ 4 = 4294967296 := by decide
  refine ⟨?_, ?_, ?_, ?_⟩
  · have h1 := takeN_nonneg b (17 + 13 * (i : Int)) 1
    have h2 := takeN_lt b (17 + 13 * (i : Int)) 1 1 (by decide)
    simp only [entAt, i64ok]; omega
  · have h1 := takeN_nonneg b (17 + 13 * (i : Int) + 1) 4
    have h2 := takeN_lt b (17 + 13 * (i : Int) + 1) 4 4 (by decide)
    simp only [entAt, u32ok]; omega
  · have h1 := takeN_nonneg b (17 + 13 * (i : Int) + 5) 4
    have h2 := takeN_lt b (17 + 13 * (i : Int) + 5) 4 4 (by decide)
    simp only [entAt, u32ok]; omega
  · have h1 := takeN_nonneg b (17 + 13 * (i : Int) + 9) 4
    have h2 := takeN_lt b (17 + 13 * (i : Int) + 9) 4 4 (by decide)
    simp only [entAt, u32ok]; omega

theorem decRec_ok (b : List UInt8) : (decRec b).Ok := by
  have p2 : (256 : Int) ^ 2 = 65536 := by decide
  have p6 : (256 : Int) ^ 6 = 281474976710656 := by decide
  refine ⟨?_, ?_, ?_, ?_, ?_⟩
  · have h1 := takeN_nonneg b 1 6
    have h2 := takeN_lt b 1 6 6 (by decide)
    simp only [decRec, u64ok]; omega
  · have h1 := takeN_nonneg b 7 6
    have h2 := takeN_lt b 7 6 6 (by decide)
    simp only [decRec, u64ok]; omega
  · have h1 := takeN_nonneg b 14 2
    have h2 := takeN_lt b 14 2 2 (by decide)
    simp only [decRec, i64ok]; omega
  · intro x hx
    simp only [decRec, entsTo, List.mem_map] at hx
    obtain ⟨i, _, rfl⟩ := hx
    exact entAt_ok b i
  · simp only [decRec, entsTo_len]; omega

theorem decOk_block {b : List UInt8} (r : Rec) (R : r.Right) : r.block.take 256 = r.sector := by
  have hl := r.bytes_len
  have hn := R.len
  simp only [Rec.block, Rec.sector]
  rw [List.take_append, List.take_of_length_le (by omega), List.take_replicate]
  congr 2
  omega
end Go.M
