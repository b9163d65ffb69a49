/- From a contract of the library's shelf (over worlds) to one over abstract states. -/
import Derived.Test.YtjnpfhihefchoaaDoorMu
import Derived.Test.YtjnpfhihefchoaaDoorPa
namespace Go.M
open Go Go.RowKit
set_option linter.unusedVariables false
set_option linter.unusedSimpArgs false

theorem below_rel {g : Gh} {h : Hp} {w w' : World} (hw : WRel g h w) (hb : Below w.heap.size w w') : Ext g w g w' ∧ WRel g h w' := by
  have hk : ∀ b, b < w.heap.size → w'.heap[b]? = w.heap[b]? := fun b hb' => hb.block b hb'
  have hc : ∀ b o, b < w.heap.size → w'.cell? ⟨b, o, none⟩ = w.cell? ⟨b, o, none⟩ := fun b o hb' => World.cell?_of_block (w := w) (hk b hb')
  have hf : ∀ b o, b < w.heap.size → w'.frozen? ⟨b, o, none⟩ = w.frozen? ⟨b, o, none⟩ := fun b o hb' => World.frozen?_of_block (w := w) (hk b hb')
  have e : Ext g w g w' := ⟨fun _ _ _ h => h, fun _ _ h => h, fun b o hi => ⟨hi, hc b o (hw.ownlt hi (by simp))⟩, rfl, rfl, hb.size, fun _ _ h => .inl h, fun b o hb' _ _ => by rw [hk b (lt_of_heap hb')]; exact hb', fun b s hs => by
    have hlt : b < w.heap.size := by
      rcases Nat.lt_or_ge b w.heap.size with h1 | h1
      · exact h1
      · unfold World.shape? at hs; rw [Array.getElem?_eq_none h1] at hs; cases hs
    unfold World.shape? at hs ⊢; rw [hk b hlt]; exact hs⟩
  refine ⟨e, ?_⟩
  refine hw.update e h.length (fun _ _ => rfl) (fun id _ b o hb' => ?_) (fun id b o _ _ hb' _ => by rw [hk b (lt_of_heap hb')]; exact hb') (fun _ _ _ => rfl) (fun _ _ => rfl)
    (by have := hw.obj h.length; simp at this ⊢; exact this) (fun b hb' => .inl hb') (fun b o ho => .inl ho) (hb.mono hw.basele)
  have hlt := hw.ownlt hb' (by simp)
  exact ⟨hb', hc b o hlt, hf b o hlt⟩

theorem relL_plain {g : Gh} {w : World} {as : List AV} {us vs : List Value} (hu : ∀ vs, RelL g w as vs → vs = us) (h : RelL g w as vs) : vs = us := hu vs h

/-- A contract that makes memory and turns none. -/
theorem dcall_of_calls {P : Program} {f : FuncId} {as : List AV} {us : Array Value} {av : AV} {v : Value} {h : Hp}
    (hc : ∀ as w, (callFunc f as).run P w = .ok (.enter f as) w) (hu : ∀ g w vs, RelL g w as vs → vs = us.toList) (hv : ∀ g w, RelV g w av v)
    (hk : ∀ w, Calls P f us w fun e w' => e = .returned v ∧ Below w.heap.size w w') : dcall P f as h fun av' h' => av' = av ∧ h' = h := by
  intro g w vs hw hr
  rw [hc]
  have e := hu g w vs hr
  subst e
  have hx : us.toList.toArray = us := Array.toArray_toList
  rw [hx]
  refine CallsIn.mono (F := Fence.wide) (n := 0) (callsIn_wide.2 (hk w)) ?_
  rintro e w' ⟨rfl, hb⟩
  obtain ⟨e1, hw1⟩ := below_rel hw hb
  exact ⟨v, g, av, h, rfl, e1, hw1, hv _ _, rfl, rfl⟩
end Go.M
