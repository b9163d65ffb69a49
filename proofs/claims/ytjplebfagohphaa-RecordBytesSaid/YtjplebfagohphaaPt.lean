/- Plain: a record is read as it was. -/
import Derived.Test.YtjplebfagohphaaPs
namespace Go.M
open Go
set_option linter.unusedVariables false
set_option linter.unusedSimpArgs false

theorem takeN_mid {p s : List UInt8} {n : Int} {w : Nat} (hw : 1 ≤ w ∧ w ≤ 8) (h0 : 0 ≤ n) (h1 : n < 256 ^ w) {a : Int} (ha : a = p.length) {wi : Int} (hwi : wi = w) : takeN (p ++ (le w n ++ s)) a wi = n := by
  subst ha; subst hwi
  have hok : takeOk (p ++ (le w n ++ s)) (p.length : Int) (w : Int) := by
    refine ⟨by omega, by omega, by omega, ?_⟩
    simp; omega
  rw [takeN, if_pos hok]
  have e1 : ((p.length : Int)).toNat = p.length := rfl
  have e2 : ((w : Int)).toNat = w := rfl
  rw [e1, e2, List.drop_left, List.take_left' (le_length w n), ofle_le w n h0 h1]

/-- What is read ahead of byte k hangs on the first k bytes alone. -/
theorem takeN_take {c : List UInt8} {k : Nat} {a w : Int} (hk : k ≤ c.length) (hw : a + w ≤ k) : takeN c a w = takeN (c.take k) a w := by
  have hl : (c.take k).length = k := by simp; omega
  by_cases h : takeOk c a w
  · obtain ⟨h1, h2, h3, h4⟩ := h
    have h' : takeOk (c.take k) a w := ⟨h1, h2, h3, by rw [hl]; exact hw⟩
    rw [takeN, takeN, if_pos ⟨h1, h2, h3, h4⟩, if_pos h', List.drop_take, List.take_take, Nat.min_eq_left (by omega)]
  · have h' : ¬ takeOk (c.take k) a w := by
      rintro ⟨h1, h2, h3, h4⟩
      exact h ⟨h1, h2, h3, by omega⟩
    rw [takeN, takeN, if_neg h, if_neg h']

theorem flag_lt (r : Rec) : 0 ≤ r.flagN ∧ r.flagN < 256 := by unfold Rec.flagN; split; omega; split <;> omega

theorem Rec.ext' {a b : Rec} (h1 : a.seq = b.seq) (h2 : a.cp = b.cp) (h3 : a.ends = b.ends) (h4 : a.sync = b.sync) (h5 : a.next = b.next) (h6 : a.l = b.l) : a = b := by
  cases a; cases b; simp_all

theorem entAt_bytes {r : Rec} (hr : r.Ok) (R : r.Right) (s : List UInt8) {i : Nat} (hi : i < r.l.length) : entAt (r.bytes ++ s) i = r.l[i] := by
  have hx := hr.l r.l[i] (List.getElem_mem _)
  have hk := Ent.ok_kind (R.ents r.l[i] (List.getElem_mem _))
  obtain ⟨q1, q2, q3, q4⟩ := hx
  unfold u32ok at q2 q3 q4
  have p1 : (256 : Int) ^ 1 = 256 := by decide
  have p4 : (256 : Int) ^ 4 = 4294967296 := by decide
  have hsplit : r.bytes ++ s = (r.headBytes ++ (r.l.take i).flatMap Ent.bytes) ++ (le 1 r.l[i].kind ++ (le 4 r.l[i].file ++ (le 4 r.l[i].index ++ (le 4 r.l[i].vbn ++ ((r.l.drop (i + 1)).flatMap Ent.bytes ++ s))))) := by
    have e : r.l = r.l.take i ++ r.l[i] :: r.l.drop (i + 1) := by
      rw [← List.drop_eq_getElem_cons hi, List.take_append_drop]
    have e2 : r.l.flatMap Ent.bytes = (r.l.take i).flatMap Ent.bytes ++ (r.l[i].bytes ++ (r.l.drop (i + 1)).flatMap Ent.bytes) := by
      conv => lhs; rw [e]
      rw [List.flatMap_append, List.flatMap_cons]
    rw [Rec.bytes, e2]
    simp [Ent.bytes]
  have hp : (r.headBytes ++ (r.l.take i).flatMap Ent.bytes).length = 17 + 13 * i := by
    rw [List.length_append, flatB_len, Rec.head_len, List.length_take]; omega
  rw [hsplit]
  generalize hP : r.headBytes ++ (r.l.take i).flatMap Ent.bytes = P at hp
  generalize (r.l.drop (i + 1)).flatMap Ent.bytes ++ s = S
  have t1 : takeN (P ++ (le 1 r.l[i].kind ++ (le 4 r.l[i].file ++ (le 4 r.l[i].index ++ (le 4 r.l[i].vbn ++ S))))) (17 + 13 * (i : Int)) 1 = r.l[i].kind := takeN_mid (by omega) (by omega) (by omega) (by omega) rfl
  have t2 : takeN (P ++ (le 1 r.l[i].kind ++ (le 4 r.l[i].file ++ (le 4 r.l[i].index ++ (le 4 r.l[i].vbn ++ S))))) (17 + 13 * (i : Int) + 1) 4 = r.l[i].file := by
    rw [← List.append_assoc]; exact takeN_mid (by omega) (by omega) (by omega) (by simp; omega) rfl
  have t3 : takeN (P ++ (le 1 r.l[i].kind ++ (le 4 r.l[i].file ++ (le 4 r.l[i].index ++ (le 4 r.l[i].vbn ++ S))))) (17 + 13 * (i : Int) + 5) 4 = r.l[i].index := by
    rw [← List.append_assoc, ← List.append_assoc]; exact takeN_mid (by omega) (by omega) (by omega) (by simp; omega) rfl
  have t4 : takeN (P ++ (le 1 r.l[i].kind ++ (le 4 r.l[i].file ++ (le 4 r.l[i].index ++ (le 4 r.l[i].vbn ++ S))))) (17 + 13 * (i : Int) + 9) 4 = r.l[i].vbn := by
    rw [← List.append_assoc, ← List.append_assoc, ← List.append_assoc]; exact takeN_mid (by omega) (by omega) (by omega) (by simp; omega) rfl
  unfold entAt
  rw [t1, t2, t3, t4]

theorem decRec_bytes {r : Rec} (hr : r.Ok) (R : r.Right) (s : List UInt8) : decRec (r.bytes ++ s) = r := by
  have p1 : (256 : Int) ^ 1 = 256 := by decide
  have p2 : (256 : Int) ^ 2 = 65536 := by decide
  have p6 : (256 : Int) ^ 6 = 281474976710656 := by decide
  have hs := R.seq; have hc := R.cp; have hn := R.next; have hl := R.len
  have hf := flag_lt r
  have e : r.bytes ++ s = [82] ++ (le 6 r.seq ++ (le 6 r.cp ++ (le 1 r.flagN ++ (le 2 r.next ++ (le 1 (r.l.length : Int) ++ (r.l.flatMap Ent.bytes ++ s)))))) := by
    simp [Rec.bytes, Rec.headBytes]
  have t1 : takeN (r.bytes ++ s) 1 6 = r.seq := by rw [e]; exact takeN_mid (by omega) (by omega) (by omega) rfl rfl
  have t2 : takeN (r.bytes ++ s) 7 6 = r.cp := by rw [e, ← List.append_assoc]; exact takeN_mid (by omega) (by omega) (by omega) (by simp) rfl
  have t3 : takeN (r.bytes ++ s) 13 1 = r.flagN := by rw [e, ← List.append_assoc, ← List.append_assoc]; exact takeN_mid (by omega) (by omega) (by omega) (by simp) rfl
  have t4 : takeN (r.bytes ++ s) 14 2 = r.next := by rw [e, ← List.append_assoc, ← List.append_assoc, ← List.append_assoc]; exact takeN_mid (by omega) (by omega) (by omega) (by simp) rfl
  have t5 : takeN (r.bytes ++ s) 16 1 = (r.l.length : Int) := by rw [e, ← List.append_assoc, ← List.append_assoc, ← List.append_assoc, ← List.append_assoc]; exact takeN_mid (by omega) (by omega) (by omega) (by simp) rfl
  have hcnt : cntOf (r.bytes ++ s) = r.l.length := by unfold cntOf; rw [t5]; rfl
  refine Rec.ext' t1 t2 ?_ ?_ t4 ?_
  · show decide (takeN (r.bytes ++ s) 13 1 = 1) = r.ends
    rw [t3]
    unfold Rec.flagN
    cases he : r.ends <;> cases hy : r.sync <;> simp
  · show decide (takeN (r.bytes ++ s) 13 1 = 2) = r.sync
    rw [t3]
    unfold Rec.flagN
    have := R.flags
    cases he : r.ends <;> cases hy : r.sync <;> simp_all
  · show entsTo (r.bytes ++ s) (min (cntOf (r.bytes ++ s)) 16) = r.l
    rw [hcnt, Nat.min_eq_left (by omega)]
    apply List.ext_getElem
    · simp
    · intro i h1 h2
      have h3 : i < r.l.length := h2
      simp only [entsTo, List.getElem_map, List.getElem_range]
      exact entAt_bytes hr R s h3

theorem decRec_cong {c d : List UInt8} (hc : 256 ≤ c.length) (hd : 256 ≤ d.length) (h : c.take 256 = d.take 256) : decRec c = decRec d := by
  have key : ∀ a w : Int, a + w ≤ 256 → takeN c a w = takeN d a w := fun a w haw => by
    rw [takeN_take (k := 256) hc haw, h, ← takeN_take (k := 256) hd haw]
  have k5 := key 16 1 (by omega)
  have hcnt : cntOf c = cntOf d := by unfold cntOf; rw [k5]
  unfold decRec
  rw [key 1 6 (by omega), key 7 6 (by omega), key 13 1 (by omega), key 14 2 (by omega), hcnt]
  congr 1
  unfold entsTo
  apply List.map_congr_left
  intro i hi
  have hi' : i < 16 := by have := List.mem_range.1 hi; omega
  -- the fifteenth entry behind the first fifteen ends at byte 225
  have q1 := key (17 + 13 * (i : Int)) 1 (by omega)
  have q2 := key (17 + 13 * (i : Int) + 1) 4 (by omega)
  have q3 := key (17 + 13 * (i : Int) + 5) 4 (by omega)
  have q4 := key (17 + 13 * (i : Int) + 9) 4 (by omega)
  unfold entAt
  rw [q1, q2, q3, q4]

/-- Whatever stands in the second sector. -/
theorem dec_back {r : Rec} (hr : r.Ok) (R : r.Right) {c : List UInt8} (hc : c.length = 512) (h : c.take 256 = r.sector) : decOk c = true ∧ decRec c = r := by
  have hlen := r.bytes_len
  have hl := R.len
  have hsl : r.sector.length = 256 := by simp [Rec.sector]; omega
  have hdec : decRec c = r := by
    have hd : (r.sector).take 256 = r.sector := List.take_of_length_le (by omega)
    rw [decRec_cong (d := r.sector) (by omega) (by omega) (by rw [h, hd])]
    exact decRec_bytes hr R _
  refine ⟨?_, hdec⟩
  have hright : r.right = true := by
    simp only [Rec.right, R.all, Bool.and_true]
    simp only [Rec.headOk, numOk, Bool.and_eq_true, decide_eq_true_eq, Bool.not_eq_true', decide_eq_false_iff_not]
    refine ⟨⟨⟨⟨⟨⟨R.seq, R.cp⟩, R.next.1⟩, R.next.2⟩, ?_⟩, R.len.2⟩, ?_⟩
    · intro e; rw [e] at hl; simp at hl
    · have := R.flags
      cases he : r.ends <;> cases hy : r.sync <;> simp_all
  simp [decOk, hc, hdec, hright, h]

theorem decOk_head {b : List UInt8} (h : decOk b = true) : b.head? = some 82 := by
  simp only [decOk, Bool.and_eq_true, decide_eq_true_eq] at h
  obtain ⟨⟨h1, h2⟩, h3⟩ := h
  cases b with
  | nil => simp at h1
  | cons x l =>
    rw [Rec.sector, Rec.bytes, Rec.headBytes] at h3
    simp only [List.cons_append, List.take_succ_cons, List.cons.injEq] at h3
    simp [← h3.1]
theorem wrapB_len {c : List UInt8} (h : c.length ≤ 508) : (wrapB c).length = 512 := by simp [wrapB, wrapped]; omega
theorem wrapB_no (c : List UInt8) : decOk (wrapB c) = false := by
  cases h : decOk (wrapB c)
  · rfl
  · have := decOk_head h
    simp [wrapB, wrapped] at this
theorem wrapB_un {c : List UInt8} (h : c.length ≤ 508) : unwrapR (wrapB c) = .tup [.s (str (c ++ List.replicate (508 - c.length) 0)), .i .i64 0] := by
  have : unwrapOk (wrapB c) = true := by simp [unwrapOk, wrapB_len h]; simp [wrapB, wrapped]
  rw [unwrapR, this]
  simp [wrapB, wrapped]
theorem block_dec {r : Rec} (hr : r.Ok) (R : r.Right) : decodeR r.block = .tup [encRec r, .i .i64 0] := by
  have hb : r.block.length = 512 := by
    have := r.bytes_len; have := R.len
    simp [Rec.block]; omega
  obtain ⟨h1, h2⟩ := dec_back hr R hb (decOk_block (b := []) r R)
  rw [decodeR, h1, h2]; rfl
end Go.M
