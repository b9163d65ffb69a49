/- Paths: the plain law. -/
import Derived.Test.YtjnpfhihefchoaaDoorPb
namespace Go.M
open Go
set_option linter.unusedVariables false
set_option linter.unusedSimpArgs false

/-- Is a text a name? -/
def isName (s : List UInt8) : Bool := decide (s ≠ []) && decide (s ≠ [46]) && decide (s ≠ [46, 46]) && decide (s.length ≤ 59) && decide (∀ b ∈ s, b ≠ 0 ∧ b ≠ 47)

/-- The pieces of a text, cut at each slash; acc stands ahead of it. -/
def spA (acc : List UInt8) : List UInt8 → List (List UInt8)
  | [] => [acc]
  | c :: t => if c = 47 then acc :: spA [] t else spA (acc ++ [c]) t

/-- Through the pieces. -/
def fld (out : List (List UInt8)) : List (List UInt8) → Option (List (List UInt8))
  | [] => some out
  | p :: r => if p = [] ∨ p = [46] then fld out r else if p = [46, 46] then fld out.dropLast r else if isName p = true then fld (out ++ [p]) r else none

def fitO : Option (List (List UInt8)) → Option (List (List UInt8))
  | some out => if out.length > 40 then none else some out
  | none => none

def splitO (s : List UInt8) : Option (List (List UInt8)) := if s.length > 1000 ∨ s.head? ≠ some 47 then none else fitO (fld [] (spA [] s))

def joinT (l : List (List UInt8)) : List UInt8 := (l.map (47 :: ·)).flatten
def joinS (l : List (List UInt8)) : List UInt8 := if l = [] then [47] else joinT l
def joinO (l : List (List UInt8)) : Option (List UInt8) := if l.length > 40 ∨ l.all isName = false ∨ (joinS l).length > 1000 then none else some (joinS l)
def wthn (a b : List (List UInt8)) : Bool := decide (a.length ≤ b.length) && decide (b.take a.length = a)
def underO (dir : List (List UInt8)) (t : List UInt8) : Option (List (List UInt8)) :=
  if t = [] then none else if t.head? = some 47 then splitO t else match joinO dir with
    | none => none
    | some s => splitO (s ++ [47] ++ t)

theorem isName_parts {p : List UInt8} (h : isName p = true) : p ≠ [] ∧ p ≠ [46] ∧ p ≠ [46, 46] ∧ p.length ≤ 59 ∧ ∀ b ∈ p, b ≠ 0 ∧ b ≠ 47 := by
  simpa [isName, and_assoc] using h

theorem spA_app : ∀ (p acc y : List UInt8), (∀ b ∈ p, b ≠ 47) → spA acc (p ++ y) = spA (acc ++ p) y
  | [], acc, y, _ => by simp
  | c :: p, acc, y, h => by
    have hc : c ≠ 47 := h c (by simp)
    rw [List.cons_append, spA, if_neg hc, spA_app p _ y (fun b hb => h b (by simp [hb]))]
    simp
theorem spA_sep (acc t : List UInt8) : spA acc (47 :: t) = acc :: spA [] t := by rw [spA, if_pos rfl]

theorem joinT_cons (p : List UInt8) (r : List (List UInt8)) : joinT (p :: r) = 47 :: (p ++ joinT r) := by simp [joinT]
theorem joinT_app (a b : List (List UInt8)) : joinT (a ++ b) = joinT a ++ joinT b := by simp [joinT]

theorem spA_join : ∀ (l : List (List UInt8)) (acc : List UInt8), l.all isName = true → spA acc (joinT l) = acc :: l
  | [], acc, _ => by simp [joinT, spA]
  | p :: r, acc, h => by
    simp only [List.all_cons, Bool.and_eq_true] at h
    have hp := (isName_parts h.1).2.2.2.2
    rw [joinT_cons, spA_sep, spA_app p [] _ (fun b hb => (hp b hb).2), List.nil_append, spA_join r p h.2]

theorem fld_names : ∀ (l out : List (List UInt8)), l.all isName = true → fld out l = some (out ++ l)
  | [], out, _ => by simp [fld]
  | p :: r, out, h => by
    simp only [List.all_cons, Bool.and_eq_true] at h
    obtain ⟨h1, h2, h3, _⟩ := isName_parts h.1
    rw [fld, if_neg (by simp [h1, h2]), if_neg h3, if_pos h.1, fld_names r _ h.2]
    simp

def lensP (l : List (List UInt8)) : Nat := (l.map fun p => p.length + 1).sum
theorem joinT_len : ∀ (l : List (List UInt8)), (joinT l).length = lensP l
  | [] => rfl
  | p :: r => by rw [joinT_cons, List.length_cons, List.length_append, joinT_len r]; simp [lensP]; omega
theorem lensP_app (a b : List (List UInt8)) : lensP (a ++ b) = lensP a + lensP b := by simp [lensP]
theorem lensP_drop (a : List (List UInt8)) : lensP a.dropLast ≤ lensP a := by
  rcases List.eq_nil_or_concat a with rfl | ⟨l, x, rfl⟩
  · simp
  · simp [List.concat_eq_append, lensP_app]

theorem spA_len : ∀ (s acc : List UInt8), lensP (spA acc s) = acc.length + s.length + 1
  | [], acc => by simp [spA, lensP]
  | c :: t, acc => by
    rw [spA]
    split
    · have := spA_len t []
      simp [lensP] at this ⊢
      omega
    · rw [spA_len t]; simp; omega

theorem fld_right : ∀ (l out m : List (List UInt8)), fld out l = some m → out.all isName = true → m.all isName = true ∧ lensP m ≤ lensP out + lensP l
  | [], out, m, h, ho => by
    simp only [fld, Option.some.injEq] at h
    subst h
    exact ⟨ho, by omega⟩
  | p :: r, out, m, h, ho => by
    have e : lensP (p :: r) = p.length + 1 + lensP r := by simp [lensP]
    rw [fld] at h
    split at h
    · have := fld_right r out m h ho; exact ⟨this.1, by omega⟩
    · split at h
      · have := fld_right r _ m h (by
          rw [List.all_eq_true] at ho ⊢
          exact fun x hx => ho x (List.dropLast_subset _ hx))
        have h3 := lensP_drop out
        exact ⟨this.1, by omega⟩
      · split at h
        · rename_i hn
          have := fld_right r _ m h (by simp [ho, hn])
          rw [lensP_app] at this
          have e2 : lensP [p] = p.length + 1 := by simp [lensP]
          exact ⟨this.1, by omega⟩
        · cases h

theorem fitO_some {o : Option (List (List UInt8))} {m : List (List UInt8)} (h : fitO o = some m) : o = some m ∧ m.length ≤ 40 := by
  cases o with
  | none => cases h
  | some x =>
    simp only [fitO] at h
    split at h
    · cases h
    · simp only [Option.some.injEq] at h; subst h; exact ⟨rfl, by omega⟩

theorem joinS_pos (l : List (List UInt8)) : (joinS l).length ≤ max 1 (lensP l) := by
  unfold joinS
  split
  · simp; omega
  · rw [joinT_len]; omega

/-- What is right, and how long its path is. -/
theorem splitO_right {s : List UInt8} {m : List (List UInt8)} (h : splitO s = some m) : m.all isName = true ∧ m.length ≤ 40 ∧ (joinS m).length ≤ max 1 s.length ∧ s.length ≤ 1000 := by
  unfold splitO at h
  split at h
  · cases h
  · rename_i hc
    obtain ⟨h1, h2⟩ := fitO_some h
    have hs : s.length ≤ 1000 := by omega
    cases s with
    | nil => simp at hc
    | cons c t =>
      have hc' : c = 47 := by simp at hc; exact hc.2
      subst hc'
      rw [spA_sep, fld, if_pos (.inl rfl)] at h1
      have := fld_right _ _ _ h1 (by simp)
      rw [spA_len] at this
      have e : lensP ([] : List (List UInt8)) = 0 := rfl
      have h3 := joinS_pos m
      simp only [List.length_cons, List.length_nil] at this hs ⊢
      exact ⟨this.1, h2, by omega, hs⟩

theorem splitO_join {l : List (List UInt8)} (h1 : l.all isName = true) (h2 : l.length ≤ 40) (h3 : (joinS l).length ≤ 1000) : splitO (joinS l) = some l := by
  have hh : (joinS l).head? = some 47 := by
    unfold joinS
    split
    · rfl
    · cases l with
      | nil => simp at *
      | cons p r => rw [joinT_cons]; rfl
  unfold splitO
  rw [if_neg (by simp [hh]; omega)]
  have : fld [] (spA [] (joinS l)) = some l := by
    by_cases he : l = []
    · subst he; decide
    · unfold joinS
      rw [if_neg he, spA_join l [] h1, fld, if_pos (.inl rfl), fld_names l [] h1, List.nil_append]
  rw [this, fitO, if_neg (by omega)]

theorem joinO_some {l : List (List UInt8)} {s : List UInt8} (h : joinO l = some s) : s = joinS l ∧ l.length ≤ 40 ∧ l.all isName = true ∧ s.length ≤ 1000 := by
  unfold joinO at h
  split at h
  · cases h
  · rename_i hc
    simp only [Option.some.injEq] at h
    subst h
    simp only [not_or, Bool.not_eq_false] at hc
    exact ⟨rfl, by omega, hc.2.1, by omega⟩
theorem joinO_of {l : List (List UInt8)} (h1 : l.all isName = true) (h2 : l.length ≤ 40) (h3 : (joinS l).length ≤ 1000) : joinO l = some (joinS l) := by
  unfold joinO
  rw [if_neg]
  simp [h1]
  omega

theorem wthn_refl (a : List (List UInt8)) : wthn a a = true := by simp [wthn]

/-- A name, one up, and what follows are what follows. -/
theorem splitO_up {name s : List UInt8} (hn : isName name = true) (hs : s.length ≤ 500) : splitO (47 :: (name ++ [47, 46, 46, 47] ++ s)) = splitO (47 :: s) := by
  obtain ⟨h1, h2, h3, h4, h5⟩ := isName_parts hn
  unfold splitO
  rw [if_neg (by simp; omega), if_neg (by simp; omega)]
  congr 1
  have e : spA [] (47 :: (name ++ [47, 46, 46, 47] ++ s)) = [] :: name :: [46, 46] :: spA [] s := by
    rw [spA_sep, List.append_assoc, spA_app name [] _ (fun b hb => (h5 b hb).2), List.nil_append]
    show _ :: spA name (47 :: 46 :: 46 :: 47 :: s) = _
    rw [spA_sep, spA, if_neg (by decide), spA, if_neg (by decide), List.nil_append, spA_sep]
    rfl
  rw [e, spA_sep, fld, if_pos (.inl rfl), fld, if_neg (by simp [h1, h2]), if_neg h3, if_pos hn, fld, if_neg (by decide), if_pos rfl, List.nil_append, fld, if_pos (.inl rfl)]
  rfl
end Go.M
