/- Arguments of layer 12; a world that holds the two tables. -/
import Derived.Test.YtjnpfhihefchoaaDoorXi
import Derived.Test.YtjnpfhihefchoaaDoorCards
import Derived.Test.YtjnpfhihefchoaaDoorTie
import Derived.WalkKit
import Derived.ProofKit
import Derived.OpenShut
import Derived.Deep.DeepHandedRow
import Derived.Lib.LaidTab
namespace Go.M
open Go
theorem arg_str {a : AV} (s : (Sh.s).hasV a) : ∃ l : List UInt8, a = .s (str l) ∧ (l.length : Int) ≤ 9223372036854775807 := by
  obtain ⟨x, hx, hs⟩ := s
  simp only [List.cons.injEq, and_true] at hx
  refine ⟨x.data.toList, by rw [hx, str_eta], ?_⟩
  rw [toL_size]
  have : maxLen = 9223372036854775807 := rfl
  omega

theorem arg_strs {a : AV} (s : (Sh.sl .s).hasV a) : ∃ l : List (List UInt8), AVle a (encStrs l) ∧ (l.length : Int) ≤ 9223372036854775807 := by
  simp only [Sh.hasV, Sh.has] at s
  rcases s with h | ⟨n, full, xss, h, h1, h2, h3⟩
  · simp only [List.cons.injEq, and_true] at h
    subst h
    exact ⟨[], .nils _, by simp⟩
  · simp only [List.cons.injEq, and_true] at h
    subst h
    have gen : ∀ yss : List (List AV), (∀ c ∈ yss, ∃ x : ByteArray, c = [.s x] ∧ x.size ≤ maxLen) → ∃ l : List (List UInt8), yss.flatten = rows encS l ∧ l.length = yss.length := by
      intro yss
      induction yss with
      | nil => intro _; exact ⟨[], rfl, rfl⟩
      | cons c r ih =>
        intro hc
        obtain ⟨l, e1, e2⟩ := ih fun c hc' => hc c (List.mem_cons_of_mem _ hc')
        obtain ⟨x, rfl, _⟩ := hc c (List.mem_cons_self ..)
        refine ⟨x.data.toList :: l, ?_, by simp [e2]⟩
        simp only [List.flatten_cons, e1, rows, List.flatMap_cons, encS, str_eta]
    obtain ⟨l, e1, e2⟩ := gen xss (fun c hc => by simpa [Sh.has] using h3 c hc)
    refine ⟨l, ?_, ?_⟩
    · rw [e1, encStrs, show n = l.length by omega]; exact .lst _ _ _
    · have : maxLen = 9223372036854775807 := rfl
      omega
end Go.M
namespace Go.Proofs.YtjnpfhihefchoaaDoor
open Go.ChangeShapes Go.WideShapes Go.ChangeAt Go.RowKit

theorem own : ownKnob Tryd.prog.godebug = none := by kernel_rfl

def filled (vs : Array Value) : Obj → Obj
  | .cells _ t frozen => .cells vs t frozen
  | o => o

/-- A world for the witness: the settled one, the two tables holding what their initialisers lay. -/
noncomputable def laidWorld (os : Os) : World :=
  { World.holding Tryd.prog os ⟨#[], #[], []⟩ with
    heap := ((World.holding Tryd.prog os ⟨#[], #[], []⟩).heap.modify 1 (filled (Go.Pinned.utf8FirstZ.map fun n : Nat => Value.int .u8 (n : Int)).toArray)).modify 2
      (filled #[.int .u8 128, .int .u8 191, .int .u8 160, .int .u8 191, .int .u8 128, .int .u8 159, .int .u8 144, .int .u8 191, .int .u8 128, .int .u8 143, .int .u8 0, .int .u8 0, .int .u8 0, .int .u8 0, .int .u8 0, .int .u8 0, .int .u8 0, .int .u8 0, .int .u8 0, .int .u8 0, .int .u8 0, .int .u8 0, .int .u8 0, .int .u8 0, .int .u8 0, .int .u8 0, .int .u8 0, .int .u8 0, .int .u8 0, .int .u8 0, .int .u8 0, .int .u8 0]) }
end Go.Proofs.YtjnpfhihefchoaaDoor
