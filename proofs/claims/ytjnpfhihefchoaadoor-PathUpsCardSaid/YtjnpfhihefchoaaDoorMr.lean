/- Regions that draw their order: what floats, what is quiet, what stands in a chain. -/
import Derived.Test.YtjnpfhihefchoaaDoorMq
import Derived.OrdersIn
namespace Go.M
open Go Go.RowKit
set_option linter.unusedVariables false
set_option linter.unusedSimpArgs false

/-! ### In a longer heap -/
theorem get_ext {h : Hp} {id : Nat} {x : HObj} (l : Hp) (hx : h[id]? = some x) : (h ++ l)[id]? = some x := by
  rw [List.getElem?_append_left]
  · exact hx
  · rcases Nat.lt_or_ge id h.length with h1 | h1
    · exact h1
    · rw [List.getElem?_eq_none h1] at hx; cases hx

theorem ptrCells_ext {h : Hp} {p : AV} {cs : List AV} (l : Hp) (he : ptrCells h p = some cs) : ptrCells (h ++ l) p = some cs := by
  unfold ptrCells at he ⊢
  split at he
  · split at he
    · rename_i hx; rw [get_ext l hx]; exact he
    · cases he
  · exact he
  · cases he

theorem sliceCells_ext {h : Hp} {x : AV} {r : Nat × List AV} (l : Hp) (he : sliceCells h x = some r) : sliceCells (h ++ l) x = some r := by
  unfold sliceCells at he ⊢
  split at he
  · exact he
  · exact he
  · split at he
    · rename_i hx; rw [get_ext l hx]; exact he
    · cases he
  · cases he

theorem loadE_ext {P : Program} {h : Hp} {T : TypeId} {p av : AV} (l : Hp) (he : loadE P h T p = some av) : loadE P (h ++ l) T p = some av := by
  unfold loadE at he ⊢
  split at he
  · rename_i h1 h2; rw [h1, ptrCells_ext l h2]; exact he
  · cases he

theorem lenE_ext {P : Program} {h : Hp} {T : TypeId} {p av : AV} (l : Hp) (he : lenE P h T p = some av) : lenE P (h ++ l) T p = some av := by
  unfold lenE at he ⊢
  split at he
  · exact he
  · exact he
  · exact he
  · exact he
  · exact he
  · split at he
    · rename_i hx; simp only [get_ext l hx]; exact he
    · cases he
  · cases he

theorem sliceE_ext {P : Program} {h : Hp} {T : TypeId} {x av : AV} {lo hi mx : Option AV} (l : Hp) (he : sliceE P h T x lo hi mx = some av) : sliceE P (h ++ l) T x lo hi mx = some av := by
  unfold sliceE at he ⊢
  split at he
  · exact he
  · exact he
  · exact he
  · split at he
    · rename_i h1 h2 h3; rw [h1, h2, get_ext l h3]; exact he
    · cases he
  · cases he

theorem uSliceE_ext {h : Hp} {x av : AV} (l : Hp) (he : uSliceE h x = some av) : uSliceE (h ++ l) x = some av := by
  unfold uSliceE at he ⊢
  split at he
  · exact he
  · split at he
    · rename_i hx; rw [get_ext l hx]; exact he
    · cases he
  · cases he

theorem upE_ext {P : Program} {h : Hp} {s d : TypeId} {x av : AV} (l : Hp) (he : upE P h s d x = some av) : upE P (h ++ l) s d x = some av := by
  unfold upE at he ⊢
  split at he
  · rename_i h1 h2
    split at he
    · rename_i h3 h4; simp only [h1, h2, h3, get_ext l h4]; exact he
    · cases he
  · rename_i h1 h2
    split at he
    · rename_i h3 h4; simp only [h1, h2, h3, get_ext l h4]; exact he
    · cases he
  · cases he

theorem convE_ext {P : Program} {h : Hp} {s d : TypeId} {x av : AV} (l : Hp) (he : convE P h s d x = some av) : convE P (h ++ l) s d x = some av := by
  unfold convE at he ⊢
  split at he
  · rename_i h1 h2
    split at he
    · rename_i h3 h4; simp only [h1, h2, h3, sliceCells_ext l h4]; exact he
    · cases he
  · exact he
  · exact he
  · exact upE_ext l he
  · exact upE_ext l he
  · cases he

theorem lookupE_ext {P : Program} {h : Hp} {T : TypeId} {x k av : AV} {ok : Bool} (l : Hp) (he : lookupE P h T x k ok = some av) : lookupE P (h ++ l) T x k ok = some av := by
  unfold lookupE at he ⊢
  split at he
  · split at he
    · split at he
      · rename_i hk
        rw [if_pos hk]
        split at he
        · exact he
        · split at he
          · rename_i hx; rw [get_ext l hx]; exact he
          · cases he
        · cases he
      · cases he
    · cases he
  · cases he

/-- Operations that leave the abstract heap as it is. -/
def opW (P : Program) (h : Hp) (ev : Operand → AV) (o : Op) : Option AV :=
  match o with
  | .buildSlice T n ps => buildSliceE P T n (ps.toList.map fun p => (p.1, ev p.2))
  | o => opV P h ev o

theorem opW_opE {P : Program} {h : Hp} {ev : Operand → AV} {o : Op} {av : AV} (hv : opW P h ev o = some av) : opE P h ev o = some (av, h) := by
  unfold opW at hv
  split at hv
  · simp only [opE, hv, wh]
  · exact opV_opE hv

theorem opV_ext {P : Program} {h : Hp} {ev : Operand → AV} {o : Op} {av : AV} (l : Hp) (hv : opV P h ev o = some av) : opV P (h ++ l) ev o = some av := by
  unfold opV at hv ⊢
  split at hv
  all_goals first
    | exact hv
    | exact loadE_ext l hv
    | exact convE_ext l hv
    | exact sliceE_ext l hv
    | exact lookupE_ext l hv
    | skip
  · split at hv
    · exact lenE_ext l hv
    · cases hv
  · split at hv
    · exact uSliceE_ext l hv
    · cases hv

theorem opW_ext {P : Program} {h : Hp} {ev : Operand → AV} {o : Op} {av : AV} (l : Hp) (hv : opW P h ev o = some av) : opW P (h ++ l) ev o = some av := by
  unfold opW at hv ⊢
  split at hv
  · exact hv
  · exact opV_ext l hv

/-- Operations that look at no heap. -/
def floats : Op → Bool
  | .move _ | .assign _ | .pick .. | .build .. | .nilCheck _ | .binOp .. | .unOp .. | .makeFunc (.func _) .. | .fieldAddr .. | .field .. | .indexAddr .. | .index .. | .extract .. | .buildSlice .. => true
  | _ => false

theorem opW_any {P : Program} {h h' : Hp} {ev : Operand → AV} {o : Op} (hf : floats o = true) : opW P h ev o = opW P h' ev o := by
  cases o <;> simp [floats] at hf <;> first | rfl | skip
  all_goals (rename_i f _ _; cases f <;> first | rfl | simp [floats] at hf)

/-! ### By what is looked at -/
theorem mapP_congr {ev ev' : Operand → AV} {ps : Array (Nat × Operand)} (h : ∀ x ∈ (ps.toList.map (·.2)), ev x = ev' x) : (ps.toList.map fun p => (p.1, ev p.2)) = ps.toList.map fun p => (p.1, ev' p.2) :=
  List.map_congr_left fun p hp => by rw [h p.2 (List.mem_map_of_mem hp)]
theorem mapA_congr {ev ev' : Operand → AV} {ps : Array Operand} (h : ∀ x ∈ ps, ev x = ev' x) : ps.toList.map ev = ps.toList.map ev' :=
  List.map_congr_left fun p hp => h p (by simpa using hp)
theorem mapO_congr {ev ev' : Operand → AV} {o : Option Operand} (h : ∀ x, o = some x → ev x = ev' x) : o.map ev = o.map ev' := by
  cases o with
  | none => rfl
  | some x => simp [h x rfl]

theorem opE_congr {P : Program} {h : Hp} {ev ev' : Operand → AV} {o : Op} (hx : ∀ x ∈ o.operands, ev x = ev' x) : opE P h ev o = opE P h ev' o := by
  cases o <;> first
    | rfl
    | (simp [Op.operands] at hx; simp [opE, hx]; done)
    | skip
  case build T ps => simp only [opE]; rw [mapP_congr (ev := ev) (ev' := ev') (by simpa [Op.operands] using hx)]
  case buildSlice T n ps => simp only [opE]; rw [mapP_congr (ev := ev) (ev' := ev') (by simpa [Op.operands] using hx)]
  case makeFunc f fs cs =>
    cases f with
    | func f =>
      simp only [opE]
      rw [mapA_congr (ev := ev) (ev' := ev') (ps := fs) (fun x h => hx x (by simp [Op.operands, h])), mapA_congr (ev := ev) (ev' := ev') (ps := cs) (fun x h => hx x (by simp [Op.operands, h]))]
    | _ => rfl
  case slice T x lo hi mx =>
    simp only [opE]
    rw [hx x (by simp [Op.operands]), mapO_congr (ev := ev) (ev' := ev') (o := lo) (fun y e => hx y (by simp [Op.operands, e])), mapO_congr (ev := ev) (ev' := ev') (o := hi) (fun y e => hx y (by simp [Op.operands, e])),
      mapO_congr (ev := ev) (ev' := ev') (o := mx) (fun y e => hx y (by simp [Op.operands, e]))]
  case call c =>
    cases c with
    | mk callee args argTypes =>
      cases callee <;> first | rfl | skip
      simp only [opE]
      rw [mapA_congr (ev := ev) (ev' := ev') (ps := args) (fun x h => hx x (by simp [Op.operands, Call.operands, h]))]
  case makeMap t r => cases r <;> rfl

theorem opV_congr {P : Program} {h : Hp} {ev ev' : Operand → AV} {o : Op} (hx : ∀ x ∈ o.operands, ev x = ev' x) : opV P h ev o = opV P h ev' o := by
  cases o <;> first
    | rfl
    | (simp [Op.operands] at hx; simp [opV, hx]; done)
    | skip
  case build T ps => simp only [opV]; rw [mapP_congr (ev := ev) (ev' := ev') (by simpa [Op.operands] using hx)]
  case makeFunc f fs cs =>
    cases f with
    | func f =>
      simp only [opV]
      rw [mapA_congr (ev := ev) (ev' := ev') (ps := fs) (fun x h => hx x (by simp [Op.operands, h])), mapA_congr (ev := ev) (ev' := ev') (ps := cs) (fun x h => hx x (by simp [Op.operands, h]))]
    | _ => rfl
  case slice T x lo hi mx =>
    simp only [opV]
    rw [hx x (by simp [Op.operands]), mapO_congr (ev := ev) (ev' := ev') (o := lo) (fun y e => hx y (by simp [Op.operands, e])), mapO_congr (ev := ev) (ev' := ev') (o := hi) (fun y e => hx y (by simp [Op.operands, e])),
      mapO_congr (ev := ev) (ev' := ev') (o := mx) (fun y e => hx y (by simp [Op.operands, e]))]
  case call c =>
    cases c with
    | mk callee args argTypes =>
      cases callee <;> first | rfl | skip
      rename_i b
      have hm : ∀ x ∈ args.toList, ev x = ev' x := fun x h => hx x (by simp [Op.operands, Call.operands]; simpa using h)
      cases b <;> first | rfl | skip
      · simp only [opV]
        generalize args.toList = l at hm
        generalize argTypes.toList = T
        match T, l, hm with
        | [T], [x], hm => simp only [hm x (by simp)]
        | [], _, _ => rfl
        | _ :: _ :: _, _, _ => rfl
        | [_], [], _ => rfl
        | [_], _ :: _ :: _, _ => rfl
      · simp only [opV]; rw [List.map_congr_left hm]
      · simp only [opV]; rw [List.map_congr_left hm]
      · simp only [opV]
        generalize args.toList = l at hm
        match l, hm with
        | [x], hm => simp only [hm x (by simp)]
        | [], _ => rfl
        | _ :: _ :: _, _ => rfl

theorem opW_congr {P : Program} {h : Hp} {ev ev' : Operand → AV} {o : Op} (hx : ∀ x ∈ o.operands, ev x = ev' x) : opW P h ev o = opW P h ev' o := by
  unfold opW
  split
  · rename_i T n ps
    rw [mapP_congr (ev := ev) (ev' := ev') (by simpa [Op.operands] using hx)]
  · exact opV_congr hx
end Go.M
