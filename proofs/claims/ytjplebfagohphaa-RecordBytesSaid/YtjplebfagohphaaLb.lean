/- Arguments by their shapes: texts, records. -/
import Derived.Test.YtjplebfagohphaaWl
import Derived.Test.YtjplebfagohphaaMq
namespace Go.M
open Go Go.RowKit
set_option linter.unusedVariables false
set_option linter.unusedSimpArgs false

theorem arg_int {k : IntKind} {a : AV} (s : (Sh.i k).hasV a) : ∃ n, a = .i k n ∧ k.min ≤ n ∧ n ≤ k.max := by
  obtain ⟨n, hn, h1, h2⟩ := s
  simp only [List.cons.injEq, and_true] at hn
  exact ⟨n, hn, h1, h2⟩
theorem arg_i64 {a : AV} (s : (Sh.i .i64).hasV a) : ∃ n : Int, a = .i .i64 n ∧ -9223372036854775808 ≤ n ∧ n ≤ 9223372036854775807 := by
  obtain ⟨n, h, h1, h2⟩ := arg_int s
  rw [min_i64] at h1; rw [max_i64] at h2
  exact ⟨n, h, h1, h2⟩
theorem arg_u64 {a : AV} (s : (Sh.i .u64).hasV a) : ∃ n : Int, a = .i .u64 n ∧ 0 ≤ n ∧ n ≤ 18446744073709551615 := by
  obtain ⟨n, h, h1, h2⟩ := arg_int s
  rw [min_u64] at h1; rw [max_u64] at h2
  exact ⟨n, h, h1, h2⟩
theorem arg_str {a : AV} (s : (Sh.s).hasV a) : ∃ l : List UInt8, a = .s (str l) := by
  obtain ⟨x, hx, _⟩ := s
  simp only [List.cons.injEq, and_true] at hx
  exact ⟨x.data.toList, by rw [hx, str_eta]⟩

def shEnt : Sh := .agg [.i .i64, .i .u32, .i .u32, .i .u32]
def shRec : Sh := .agg [.i .u64, .i .u64, .b, .b, .i .i64, .sl shEnt]

theorem ent_of {c : List AV} (h : shEnt.has c) : ∃ x : Ent, c = encEnt x ∧ x.Ok := by
  simp only [shEnt, Sh.has, Sh.hass] at h
  obtain ⟨c1, d1, rfl, ⟨k, rfl, k1, k2⟩, c2, d2, rfl, ⟨f, rfl, f1, f2⟩, c3, d3, rfl, ⟨i, rfl, i1, i2⟩, c4, d4, rfl, ⟨v, rfl, v1, v2⟩, rfl⟩ := h
  rw [min_i64] at k1; rw [max_i64] at k2
  rw [min_u32] at f1 i1 v1; rw [max_u32] at f2 i2 v2
  exact ⟨⟨k, f, i, v⟩, rfl, ⟨k1, k2⟩, ⟨f1, f2⟩, ⟨i1, i2⟩, ⟨v1, v2⟩⟩

/-- A row of things, part by part. -/
theorem rows_of {α : Type} (enc : α → List AV) (Ok : α → Prop) {P : List AV → Prop} (hp : ∀ c, P c → ∃ x, c = enc x ∧ Ok x) : ∀ (xss : List (List AV)), (∀ c ∈ xss, P c) → ∃ l : List α, l.length = xss.length ∧ xss.flatten = rows enc l ∧ ∀ x ∈ l, Ok x
  | [], _ => ⟨[], rfl, rfl, by simp⟩
  | c :: xss, h => by
    obtain ⟨x, rfl, hx⟩ := hp c (h c (by simp))
    obtain ⟨l, h1, h2, h3⟩ := rows_of enc Ok hp xss (fun d hd => h d (by simp [hd]))
    refine ⟨x :: l, by simp [h1], by simp [rows, h2], ?_⟩
    intro y hy
    rcases List.mem_cons.1 hy with rfl | hy
    · exact hx
    · exact h3 y hy

/-- A slice of things. -/
theorem slice_of {α : Type} (enc : α → List AV) (Ok : α → Prop) {e : Sh} (hp : ∀ c, e.has c → ∃ x, c = enc x ∧ Ok x) {a : AV} (s : (Sh.sl e).has [a]) : ∃ l : List α, AVle a (.lst l.length false (rows enc l)) ∧ (∀ x ∈ l, Ok x) ∧ (l.length : Int) ≤ 9223372036854775807 := by
  simp only [Sh.has] at s
  rcases s with h | ⟨n, full, xss, h, h1, h2, h3⟩
  · simp only [List.cons.injEq, and_true] at h
    subst h
    exact ⟨[], .nils _, by simp, by simp⟩
  · simp only [List.cons.injEq, and_true] at h
    subst h
    obtain ⟨l, l1, l2, l3⟩ := rows_of enc Ok hp xss h3
    refine ⟨l, ?_, l3, ?_⟩
    · rw [l2, l1, h2]; exact .lst _ _ _
    · unfold maxLen at h1; omega

theorem rec_of {a : AV} (s : shRec.hasV a) : ∃ r : Rec, r.Ok ∧ AVle a (encRec r) := by
  simp only [shRec, Sh.hasV, Sh.hass] at s
  obtain ⟨cs, rfl, c1, d1, rfl, ⟨q, rfl, q1, q2⟩, c2, d2, rfl, ⟨p, rfl, p1, p2⟩, c3, d3, rfl, ⟨e, rfl⟩, c4, d4, rfl, ⟨y, rfl⟩, c5, d5, rfl, ⟨n, rfl, n1, n2⟩, c6, d6, rfl, h6, rfl⟩ := s
  rw [min_u64] at q1 p1; rw [max_u64] at q2 p2
  rw [min_i64] at n1; rw [max_i64] at n2
  have h7 : ∃ x, c6 = [x] := by
    simp only [Sh.has] at h6
    rcases h6 with h | ⟨_, _, _, h, _⟩ <;> exact ⟨_, h⟩
  obtain ⟨x, rfl⟩ := h7
  obtain ⟨l, l1, l2, l3⟩ := slice_of encEnt Ent.Ok (fun c hc => ent_of hc) h6
  refine ⟨⟨q, p, e, y, n, l⟩, ⟨⟨q1, q2⟩, ⟨p1, p2⟩, ⟨n1, n2⟩, l2, l3⟩, ?_⟩
  exact .agg (.cons (.refl _) (.cons (.refl _) (.cons (.refl _) (.cons (.refl _) (.cons (.refl _) (.cons l1 .nil))))))
end Go.M
