/- Texts cut and joined, by the library's contracts; names. -/
import Derived.Test.YtjnpfhihefchoaaDoorMt
import Derived.Test.YtjnpfhihefchoaaDoorMx
import Derived.Test.YtjnpfhihefchoaaDoorMv
import Derived.Test.YtjnpfhihefchoaaDoorPp
import Derived.Test.YtjnpfhihefchoaaDoorSh
import Derived.Lib.IndexLaws
namespace Go.M
open Go.RowKit
open Go Go.Proofs
set_option maxRecDepth 20000
set_option linter.unusedVariables false
set_option linter.unusedSimpArgs false
set_option linter.unnecessarySimpa false
attribute [local congr] ifV_congr ifC_congr ifE_congr ifG_congr ifB_congr ifH_congr brB_congr dz_congr wz_congr qz_congr dwp_congr dcallV_congr dcall_congr retQ_congr thenQ_congr inBlockQ_congr noGotoQ_congr
attribute [local simp] hold_eq hp_get_set zero_imax one_imax cv_str mk_arr empty_str str_append extract_str ifV_some ifV_none ifC_some ifC_none ifE_some ifE_none ifG_some ifB_b ifH_some brB_true brB_false pt_at fz_at putL_z putL_n guardZ dz_nil dz_plain dz_plain0 dz_guard wz_skip wz_label wz_exit wz_goto wz_ret wz_region wz_draw wz_seq wz_cond wz_block wz_scope wz_loop wz_range qz_nil qz_plan qz_quiet qz_quiet_g qz_turn qz_turn0 hsAt thenQ inBlockQ noGotoQ callV opE opW evO wh wa pickE st sts gds condsOf opV allocE boxE buildE fillE splice newE loadE ptrCells storeE AV.cells AV.ones AV.one nilCheckE eqE eqE.go binE intE strE unE convE upE uSliceE uStringE sliceE sliceParts bnd sliceFull fieldAddrE indexAddrE indexE extractE builtinE lenE minL maxL min_go2 max_go2 appendE srcCells sliceCells copyE makeSliceE makeMapE buildSliceE reps_zero' reps_one reps_two cv_bool cv_int cv_nilp cv_nils cv_nilm cv_nilf cv_nilIface min_i64 max_i64 min_u64 max_u64 min_u32 max_u32 min_u16 max_u16 min_u8 max_u8 hp_get0 hp_get hp_set0 hp_set ty0 ty1 ty2 ty3 ty4 ty5

def encS (s : List UInt8) : List AV := [.s (str s)]
theorem encS_len (s : List UInt8) : (encS s).length = 1 := rfl
def encStrs (l : List (List UInt8)) : AV := .lst l.length false (rows encS l)

theorem index_range (s : List UInt8) (c : UInt8) (hs : (s.length : Int) ≤ imax) : IntKind.i64.min ≤ Go.Lib.indexByte s c ∧ Go.Lib.indexByte s c ≤ IntKind.i64.max := by
  have h1 := Go.Lib.indexByte_ge s c
  have h2 : Go.Lib.indexByte s c ≤ imax := by
    by_cases h : Go.Lib.indexByte s c < 0
    · unfold imax; omega
    · obtain ⟨o, ho⟩ := Int.eq_ofNat_of_zero_le (by omega : 0 ≤ Go.Lib.indexByte s c)
      have := (Go.Lib.indexByte_some ho).1
      have hlt : o < s.length := by
        rcases Nat.lt_or_ge o s.length with h3 | h3
        · exact h3
        · rw [List.getElem?_eq_none h3] at this; cases this
      unfold imax at hs ⊢; omega
  rw [min_i64, max_i64]
  unfold imax at h2
  omega

theorem indexByte_spec (s : List UInt8) (c : Int) (hs : (s.length : Int) ≤ imax) (h : Hp) : dcall Tryd.prog 26 [.s (str s), .i .u8 c] h fun av h' => av = .i .i64 (Go.Lib.indexByte s c.toNat.toUInt8) ∧ h' = h := by
  refine dcall_of_calls (us := #[.string (str s), .int .u8 c]) (v := .int .i64 (Go.Lib.indexByte s c.toNat.toUInt8)) Tryd.call26 ?_ ?_ ?_
  · intro g w vs hr
    simp only [RelL, RelV] at hr
    obtain ⟨v, vs', rfl, ⟨rfl, _⟩, v2, vs2, rfl, ⟨rfl, _⟩, rfl⟩ := hr
    rfl
  · intro g w
    simp only [RelV]
    exact ⟨by trivial, index_range _ _ hs⟩
  · intro w
    refine (Go.Proofs.Tryd.strings_IndexByte (str s) c w).mono ?_
    rintro e w' ⟨rfl, rfl⟩
    rw [str_data]
    exact ⟨rfl, Below.refl _ _⟩

theorem index_spec (s : List UInt8) (hs : (s.length : Int) ≤ imax) (h : Hp) : dcall Tryd.prog 36 [.s (str s), .s (str [47])] h fun av h' => av = .i .i64 (Go.Lib.indexByte s 47) ∧ h' = h := by
  refine dcall_of_calls (us := #[.string (str s), .string ⟨#[47]⟩]) (v := .int .i64 (Go.Lib.indexByte s 47)) Tryd.call36 ?_ ?_ ?_
  · intro g w vs hr
    simp only [RelL, RelV] at hr
    obtain ⟨v, vs', rfl, ⟨rfl, _⟩, v2, vs2, rfl, ⟨rfl, _⟩, rfl⟩ := hr
    rfl
  · intro g w
    simp only [RelV]
    exact ⟨by trivial, index_range _ _ hs⟩
  · intro w
    refine (Go.Proofs.Tryd.strings_Index_one (str s) 47 w).mono ?_
    rintro e w' ⟨rfl, rfl⟩
    rw [str_data]
    exact ⟨rfl, Below.refl _ _⟩

theorem hasPrefix_spec (s p : List UInt8) (h : Hp) : dcall Tryd.prog 17 [.s (str s), .s (str p)] h fun av h' => av = .b (Go.Lib.hasPrefix s p) ∧ h' = h := by
  refine dcall_of_calls (us := #[.string (str s), .string (str p)]) (v := .bool (Go.Lib.hasPrefix s p)) Tryd.call17 ?_ ?_ ?_
  · intro g w vs hr
    simp only [RelL, RelV] at hr
    obtain ⟨v, vs', rfl, ⟨rfl, _⟩, v2, vs2, rfl, ⟨rfl, _⟩, rfl⟩ := hr
    rfl
  · intro g w
    simp only [RelV]
  · intro w
    refine (Go.Proofs.Tryd.strings_HasPrefix (str s) (str p) w).mono ?_
    rintro e w' ⟨rfl, rfl⟩
    rw [str_data, str_data]
    exact ⟨rfl, Below.refl _ _⟩

theorem relL_strs {g : Gh} {w : World} : ∀ {l : List (List UInt8)} {vs : List Value}, RelL g w (rows encS l) vs → vs = l.map fun s => .string (str s)
  | [], vs, h => by simpa [rows, RelL] using h
  | s :: l, vs, h => by
    simp only [rows, List.flatMap_cons, encS, List.cons_append, List.nil_append, RelL, RelV] at h
    obtain ⟨v, vs', rfl, ⟨rfl, _⟩, h2⟩ := h
    rw [relL_strs (l := l) h2]
    rfl

theorem join_spec (l : List (List UInt8)) (full : Bool) (hl : (Go.Lib.join l [47]).length ≤ 140737488355328) (hn : l.length ≤ 140737488355328) (h : Hp) :
    dcall Tryd.prog 22 [.lst l.length full (rows encS l), .s (str [47])] h fun av h' => av = .s (str (Go.Lib.join l [47])) ∧ h' = h := by
  intro g w vs hw hr
  rw [Tryd.call22]
  simp only [RelL, RelV] at hr
  obtain ⟨v1, vs', rfl, ⟨a, c, rfl, _, hc, _, hcase⟩, v2, vs2, rfl, ⟨rfl, _⟩, rfl⟩ := hr
  have fin : ∀ w', Below w.heap.size w w' → ∃ v g' av h', Ending.returned (.string (str (Go.Lib.join l [47]))) = .returned v ∧ Ext g w g' w' ∧ WRel g' h' w' ∧ RelV g' w' av v ∧ av = .s (str (Go.Lib.join l [47])) ∧ h' = h := by
    intro w' hb
    obtain ⟨e1, hw1⟩ := below_rel hw hb
    exact ⟨_, g, _, h, rfl, e1, hw1, by simp only [RelV, str_size]; exact ⟨by trivial, by unfold imax; omega⟩, rfl, rfl⟩
  by_cases he : l = []
  · subst he
    refine CallsIn.mono (F := Fence.wide) (n := 0) (callsIn_wide.2 (Any.strings_Join_none Go.Proofs.Tryd.lays156 Go.Proofs.Tryd.Builder_Extra_156 a c (str [47]) w)) ?_
    rintro e w' ⟨rfl, rfl⟩
    exact fin _ (Below.refl _ _)
  · rcases hcase with ⟨h0, _⟩ | ⟨b, o, us, rfl, hrel, himm⟩
    · exact absurd (List.eq_nil_of_length_eq_zero h0) he
    have hus := relL_strs hrel
    subst hus
    have hmap : ((l.map str).map fun x => x.data.toList) = l := by
      rw [List.map_map]
      conv => rhs; rw [← List.map_id l]
      exact List.map_congr_left fun s _ => str_data s
    have hbk : b < w.heap.size := by
      obtain ⟨s, r, rfl⟩ := List.exists_cons_of_ne_nil he
      exact hw.ownlt (himm 0 _ rfl).2.1 (by simp)
    have H := Go.Proofs.Tryd.strings_Join b o c (l.map str) (str [47]) w (fun j x hx => by
      refine (himm j (.string x) ?_).1
      rw [List.getElem?_map] at hx ⊢
      cases hj : l[j]? with
      | none => rw [hj] at hx; cases hx
      | some s => rw [hj] at hx; simp only [Option.map_some, Option.some.injEq] at hx ⊢; rw [hx]) hbk (by simpa using hn) (by simpa using hc) (by rw [hmap, str_data]; exact hl)
    rw [hmap, str_data, List.length_map] at H
    refine CallsIn.mono (F := Fence.wide) (n := 0) (callsIn_wide.2 H) ?_
    rintro e w' ⟨rfl, hb⟩
    exact fin _ hb

theorem index_neg (s : List UInt8) (c : UInt8) : Go.Lib.indexByte s c < 0 ↔ c ∉ s := by
  constructor
  · intro h hm
    have h1 := Go.Lib.indexByte_ge s c
    obtain ⟨k, hk⟩ := List.mem_iff_getElem?.1 hm
    exact Go.Lib.indexByte_none (by omega) k hk
  · intro h
    by_cases h1 : Go.Lib.indexByte s c < 0
    · exact h1
    · have h1 : 0 ≤ Go.Lib.indexByte s c := by omega
      obtain ⟨o, ho⟩ := Int.eq_ofNat_of_zero_le h1
      exact absurd (List.mem_iff_getElem?.2 ⟨o, (Go.Lib.indexByte_some ho).1⟩) h
end Go.M
