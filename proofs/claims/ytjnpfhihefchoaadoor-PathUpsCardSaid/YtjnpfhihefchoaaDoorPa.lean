/- Plain: texts as lists of bytes, numbers as bytes. -/
import Derived.Test.YtjnpfhihefchoaaDoorMp
namespace Go.M
open Go
set_option linter.unusedVariables false
set_option linter.unusedSimpArgs false

/-- A text of these bytes. -/
def str (l : List UInt8) : ByteArray := ⟨l.toArray⟩
@[simp] theorem str_size (l : List UInt8) : (str l).size = l.length := by simp [str, ByteArray.size]
@[simp] theorem str_data (l : List UInt8) : (str l).data.toList = l := by simp [str]
theorem str_data' (l : List UInt8) : (str l).data = l.toArray := rfl
theorem str_eta (s : ByteArray) : str s.data.toList = s := by cases s with | mk d => exact congrArg ByteArray.mk (Array.toArray_toList)
theorem str_ext {s t : ByteArray} (h : s.data.toList = t.data.toList) : s = t := by rw [← str_eta s, h, str_eta]
@[simp] theorem str_inj {a b : List UInt8} : str a = str b ↔ a = b := ⟨fun h => by rw [← str_data a, h, str_data], fun h => by rw [h]⟩
theorem str_eq_iff {s : ByteArray} {l : List UInt8} : s = str l ↔ s.data.toList = l := ⟨fun h => by rw [h, str_data], fun h => by rw [← h, str_eta]⟩
@[simp] theorem toL_size (s : ByteArray) : s.data.toList.length = s.size := Array.length_toList
theorem str_append (a b : List UInt8) : str a ++ str b = str (a ++ b) := str_ext (by simp [ByteArray.data_append])
theorem toL_append (a b : ByteArray) : (a ++ b).data.toList = a.data.toList ++ b.data.toList := by simp [ByteArray.data_append]
theorem app_str (s : ByteArray) (b : List UInt8) : s ++ str b = str (s.data.toList ++ b) := str_ext (by simp [ByteArray.data_append])
theorem str_app (s : ByteArray) (b : List UInt8) : str b ++ s = str (b ++ s.data.toList) := str_ext (by simp [ByteArray.data_append])
theorem toL_extract (s : ByteArray) (i j : Nat) : (s.extract i j).data.toList = (s.data.toList.drop i).take (j - i) := by
  simp [ByteArray.data_extract, List.extract_eq_take_drop]
theorem extract_str (l : List UInt8) (i j : Nat) : (str l).extract i j = str ((l.drop i).take (j - i)) := str_ext (by rw [toL_extract, str_data, str_data])
theorem str_nil : str [] = ByteArray.empty := rfl
theorem mk_str (l : List UInt8) : (⟨l.toArray⟩ : ByteArray) = str l := rfl
theorem mk_arr (a : Array UInt8) : (⟨a⟩ : ByteArray) = str a.toList := by cases a; rfl
theorem empty_iff (s : ByteArray) : s = ByteArray.empty ↔ s.size = 0 := by
  rw [← str_nil, str_eq_iff, ← List.length_eq_zero_iff, toL_size]

theorem empty_str : ByteArray.empty = str [] := rfl
theorem bt_str (l : List UInt8) (j : Int) : bt (str l) j = ((l.getD j.toNat 0).toNat : Int) := by unfold bt; rw [str_data]
theorem bt_nat (l : List UInt8) (j : Nat) : bt (str l) (j : Int) = ((l.getD j 0).toNat : Int) := bt_str l j

/-- A number's lowest bytes, the lowest first. -/
def le : Nat → Int → List UInt8
  | 0, _ => []
  | w + 1, n => UInt8.ofNat (n % 256).toNat :: le w (n / 256)

@[simp] theorem le_length : ∀ (w : Nat) (n : Int), (le w n).length = w
  | 0, _ => rfl
  | w + 1, n => by simp [le, le_length w]

theorem le_step {w : Nat} (hw : 0 < w) (n : Int) : le w n = UInt8.ofNat (n % 256).toNat :: le (w - 1) (n / 256) := by
  obtain ⟨k, rfl⟩ : ∃ k, w = k + 1 := ⟨w - 1, by omega⟩
  rfl

theorem le_snoc : ∀ (i : Nat) (n : Int), le (i + 1) n = le i n ++ [UInt8.ofNat (n / 256 ^ i % 256).toNat]
  | 0, n => by simp [le]
  | i + 1, n => by
    rw [le, le_snoc i (n / 256), le]
    simp only [List.cons_append]
    congr 3
    rw [Int.ediv_ediv_of_nonneg (by decide), Int.pow_succ, Int.mul_comm]

/-- The number of bytes. -/
def ofle : List UInt8 → Int
  | [] => 0
  | b :: r => b.toNat + 256 * ofle r

theorem u8_lt (b : UInt8) : b.toNat < 256 := b.toNat_lt
theorem ofle_nonneg : ∀ (l : List UInt8), 0 ≤ ofle l
  | [] => by simp [ofle]
  | b :: r => by have := ofle_nonneg r; simp only [ofle]; omega
theorem ofle_lt : ∀ (l : List UInt8), ofle l < 256 ^ l.length
  | [] => by simp [ofle]
  | b :: r => by
    have := ofle_lt r
    have hb := u8_lt b
    simp only [ofle, List.length_cons, Int.pow_succ]
    omega
theorem ofle_snoc : ∀ (l : List UInt8) (b : UInt8), ofle (l ++ [b]) = ofle l + b.toNat * 256 ^ l.length
  | [], b => by simp [ofle]
  | c :: r, b => by
    simp only [List.cons_append, ofle, ofle_snoc r b, List.length_cons, Int.pow_succ]
    rw [Int.mul_add, Int.add_assoc, Int.mul_comm _ (256 : Int), Int.mul_left_comm]
theorem ofle_le : ∀ (w : Nat) (n : Int), 0 ≤ n → n < 256 ^ w → ofle (le w n) = n
  | 0, n, h0, h1 => by simp at h1; simp [le, ofle]; omega
  | w + 1, n, h0, h1 => by
    simp only [le, ofle]
    rw [ofle_le w (n / 256) (by omega) (by rw [Int.pow_succ] at h1; omega)]
    have : (UInt8.ofNat (n % 256).toNat).toNat = (n % 256).toNat := by
      rw [UInt8.toNat_ofNat']; omega
    rw [this]; omega
theorem ofle_lt' {l : List UInt8} {w : Nat} (h : l.length ≤ w) : ofle l < 256 ^ w := by
  have h1 := ofle_lt l
  have h2 : (256 : Int) ^ l.length ≤ 256 ^ w := by
    have := Int.ofNat_le.2 (Nat.pow_le_pow_right (n := 256) (by decide) h)
    rwa [Int.natCast_pow, Int.natCast_pow] at this
  omega
theorem le_ofle : ∀ (l : List UInt8), le l.length (ofle l) = l
  | [] => rfl
  | b :: r => by
    have hb := u8_lt b
    simp only [List.length_cons, le, ofle]
    have h1 : ((b.toNat : Int) + 256 * ofle r) / 256 = ofle r := by omega
    have h2 : (((b.toNat : Int) + 256 * ofle r) % 256).toNat = b.toNat := by omega
    rw [h1, h2, le_ofle r]
    simp

/-- A bit or that is a sum. -/
theorem or_add {a b i : Nat} (h : a < 2 ^ i) : a ||| b * 2 ^ i = a + b * 2 ^ i := by
  rw [Nat.or_comm, Nat.mul_comm, ← Nat.two_pow_add_eq_or_of_lt h, Nat.add_comm]

theorem bits_or_u64 {x y : Int} {i b : Nat} (hx : 0 ≤ x ∧ x < 2 ^ i) (hy : y = b * 2 ^ i) (hs : x + y < 18446744073709551616) : bitsE .or .u64 x y = x + y := by
  subst hy
  obtain ⟨n, rfl⟩ := Int.eq_ofNat_of_zero_le hx.1
  have hp : ((2 : Int) ^ i) = ((2 ^ i : Nat) : Int) := by rw [Int.natCast_pow]; rfl
  rw [hp] at hx hs ⊢
  have hn : n < 2 ^ i := Int.ofNat_lt.1 hx.2
  rw [← Int.natCast_mul] at hs ⊢
  generalize hm : b * 2 ^ i = m at hs
  have hor : n ||| m = n + m := by rw [← hm]; exact or_add hn
  have hs' : n + m < 18446744073709551616 := by omega
  have e : bitsE .or .u64 (n : Int) (m : Int) = IntKind.u64.wrap (((BitVec.ofInt 64 (n : Int)) ||| (BitVec.ofInt 64 (m : Int))).toNat : Int) := rfl
  rw [e, BitVec.ofInt_natCast, BitVec.ofInt_natCast, BitVec.toNat_or, BitVec.toNat_ofNat, BitVec.toNat_ofNat, Nat.mod_eq_of_lt (by omega), Nat.mod_eq_of_lt (by omega), hor, wrap_u64 (by omega)]
  rfl

/-! ### integers of kinds -/
theorem wrap_u8' (n : Int) : IntKind.u8.wrap n = n % 256 := by simp [IntKind.wrap, IntKind.signed, IntKind.bits]
theorem wrap_u64' (n : Int) : IntKind.u64.wrap n = n % 18446744073709551616 := by simp [IntKind.wrap, IntKind.signed, IntKind.bits]
theorem wrap_u32' (n : Int) : IntKind.u32.wrap n = n % 4294967296 := by simp [IntKind.wrap, IntKind.signed, IntKind.bits]
theorem wrap_u16' (n : Int) : IntKind.u16.wrap n = n % 65536 := by simp [IntKind.wrap, IntKind.signed, IntKind.bits]
theorem wrap_i64' {n : Int} (h : -9223372036854775808 ≤ n ∧ n ≤ 9223372036854775807) : IntKind.i64.wrap n = n := wrap_i64 h
theorem shr8 {n : Int} (hn : 0 ≤ n) : shr .u64 n 8 = n / 256 := by
  unfold shr
  rw [Int.fdiv_eq_ediv_of_nonneg _ (by decide)]
  congr 1

/-! ### heaps as lists: what is found behind a write -/
theorem hp_get_set (l : List HObj) (i j : Nat) (a : HObj) : (l.set i a)[j]? = if i = j then (l[i]?).map (fun _ => a) else l[j]? := by
  rw [List.getElem?_set]
  split
  · split
    · rename_i h1 h2; rw [List.getElem?_eq_getElem h2]; rfl
    · rename_i h1 h2; rw [List.getElem?_eq_none (by omega)]; rfl
  · rfl
theorem get_ne {l : List HObj} {i j : Nat} (X : HObj) {y : Option HObj} (hne : i ≠ j) (h : l[j]? = y) : (l.set i X)[j]? = y := by rw [hp_get_set, if_neg hne]; exact h
theorem get_at {l : List HObj} {i : Nat} (X : HObj) {y : HObj} (h : l[i]? = some y) : (l.set i X)[i]? = some X := by rw [hp_get_set, if_pos rfl, h]; rfl
theorem cv_str (l : List UInt8) (h : l.length ≤ 1000) : cv (.string (str l)) = .s (str l) := by
  unfold str
  have e : (((⟨l.toArray⟩ : ByteArray).size : Int) ≤ imax) := by
    have : (⟨l.toArray⟩ : ByteArray).size = l.length := by simp [ByteArray.size]
    rw [this]; unfold imax; omega
  rw [cv_string, if_pos e]
theorem zero_imax : ((0 : Int) ≤ imax) = True := eq_true (by decide)
theorem one_imax : ((1 : Int) ≤ imax) = True := eq_true (by decide)

theorem pow256 (i : Nat) : (256 : Int) ^ i = 2 ^ (8 * i) := by
  rw [Int.pow_mul]; rfl

theorem pow_le_u64 {i : Nat} (h : i ≤ 8) : (256 : Int) ^ i ≤ 18446744073709551616 := by
  have h2 := Int.ofNat_le.2 (Nat.pow_le_pow_right (n := 256) (by decide) h)
  rw [Int.natCast_pow, Int.natCast_pow] at h2
  exact h2

theorem shl_u64 {b : Int} {k : Nat} (hb : 0 ≤ b) (hk : k < 64) (hs : b * 2 ^ k < 18446744073709551616) : shl .u64 b (k : Int) = b * 2 ^ k := by
  unfold shl
  rw [show min ((k : Int)).toNat IntKind.u64.bits = k by simp [IntKind.bits]; omega]
  exact wrap_u64 ⟨Int.mul_nonneg hb (Int.pow_nonneg (by decide)), hs⟩

/-- A byte more is taken, above. -/
theorem take_or {l : List UInt8} {i : Nat} (hi : i < 8) (hl : i < l.length) : bitsE .or .u64 (ofle (l.take i)) (shl .u64 (l[i].toNat : Int) (8 * (i : Int))) = ofle (l.take (i + 1)) := by
  have h1 := ofle_nonneg (l.take i)
  have hlen : (l.take i).length = i := by simp; omega
  have h2 : ofle (l.take i) < 256 ^ i := by have := ofle_lt (l.take i); rwa [hlen] at this
  have hb : (l[i].toNat : Int) ≤ 255 := by have := u8_lt l[i]; omega
  have hp8 := pow_le_u64 (i := i + 1) (by omega)
  rw [Int.pow_succ] at hp8
  have hp0 : (0 : Int) < 256 ^ i := Int.pow_pos (by decide)
  have hm : (l[i].toNat : Int) * 256 ^ i ≤ 255 * 256 ^ i := Int.mul_le_mul_of_nonneg_right hb (by omega)
  have e : (8 * (i : Int)) = ((8 * i : Nat) : Int) := by omega
  have hs : shl .u64 (l[i].toNat : Int) (8 * (i : Int)) = (l[i].toNat : Int) * 2 ^ (8 * i) := by
    rw [e, shl_u64 (by omega) (by omega)]
    rw [← pow256]; omega
  rw [hs, bits_or_u64 (i := 8 * i) (b := l[i].toNat) ⟨h1, by rw [← pow256]; exact h2⟩ rfl (by rw [← pow256]; omega)]
  rw [List.take_succ_eq_append_getElem hl, ofle_snoc, hlen, pow256]

/-- A byte more is taken, below. -/
theorem take_or_down {n : Int} {b : UInt8} (h0 : 0 ≤ n) (h1 : n < 256 ^ 7) : bitsE .or .u64 (shl .u64 n 8) (b.toNat : Int) = b.toNat + 256 * n := by
  have hb := u8_lt b
  have h7 : (256 : Int) ^ 7 = 72057594037927936 := by decide
  rw [h7] at h1
  have hs : shl .u64 n 8 = n * 256 := by
    have := shl_u64 (b := n) (k := 8) h0 (by decide) (by omega)
    exact this
  rw [hs]
  obtain ⟨m, rfl⟩ := Int.eq_ofNat_of_zero_le h0
  have e : bitsE .or .u64 ((m : Int) * 256) (b.toNat : Int) = IntKind.u64.wrap (((BitVec.ofInt 64 ((m * 256 : Nat) : Int)) ||| (BitVec.ofInt 64 (b.toNat : Int))).toNat : Int) := rfl
  have hor : (m * 256) ||| b.toNat = m * 256 + b.toNat := by
    have := Nat.two_pow_add_eq_or_of_lt (i := 8) (b := b.toNat) hb m
    rw [Nat.mul_comm m 256]; exact this.symm
  rw [e, BitVec.ofInt_natCast, BitVec.ofInt_natCast, BitVec.toNat_or, BitVec.toNat_ofNat, BitVec.toNat_ofNat, Nat.mod_eq_of_lt (by omega), Nat.mod_eq_of_lt (by omega), hor, wrap_u64 (by omega)]
  omega
theorem rep_zero (n : Nat) : reps n [AV.i .u8 0] = (List.replicate n (0 : UInt8)).map encB := by
  induction n with
  | zero => rfl
  | succ n ih => simp [reps, ih, List.replicate_succ, encB]
theorem reps_zero' (l : List AV) : reps 0 l = [] := rfl
theorem reps_one (l : List AV) : reps 1 l = l := by simp [reps]
theorem reps_two (l : List AV) : reps 2 l = l ++ l := by simp [reps]
theorem min_go2 (k : IntKind) (a b : Int) : minL.go k a [.i k b] = some (.i k (min a b)) := by
  simp only [minL.go, if_true]
  congr 2
  omega
theorem max_go2 (k : IntKind) (a b : Int) : maxL.go k a [.i k b] = some (.i k (max a b)) := by
  simp only [maxL.go, if_true]
  congr 2
  omega
end Go.M
