/- The laws of layer 12. -/
import Derived.Test.YtjnpfhihefchoaaDoorXh
namespace Go.M
open Go Go.Proofs
set_option maxRecDepth 20000
set_option linter.unusedVariables false
set_option linter.unusedSimpArgs false
set_option linter.unnecessarySimpa false
attribute [local congr] ifV_congr ifC_congr ifE_congr ifG_congr ifB_congr ifH_congr brB_congr dz_congr wz_congr qz_congr dwp_congr dcallV_congr dcall_congr retQ_congr thenQ_congr inBlockQ_congr noGotoQ_congr
attribute [local simp] hold_eq hp_get_set zero_imax one_imax cv_str mk_arr empty_str str_append extract_str ifV_some ifV_none ifC_some ifC_none ifE_some ifE_none ifG_some ifB_b ifH_some brB_true brB_false pt_at fz_at putL_z putL_n guardZ dz_nil dz_plain dz_plain0 dz_guard wz_skip wz_label wz_exit wz_goto wz_ret wz_region wz_draw wz_seq wz_cond wz_block wz_scope wz_loop wz_range qz_nil qz_plan qz_quiet qz_quiet_g qz_turn qz_turn0 hsAt thenQ inBlockQ noGotoQ callV opE opW evO wh wa pickE st sts gds condsOf opV allocE boxE buildE fillE splice newE loadE ptrCells storeE AV.cells AV.ones AV.one nilCheckE eqE eqE.go binE intE strE unE convE upE uSliceE uStringE sliceE sliceParts bnd sliceFull fieldAddrE indexAddrE indexE extractE builtinE lenE minL maxL min_go2 max_go2 appendE srcCells sliceCells copyE makeSliceE makeMapE buildSliceE reps_zero' reps_one reps_two cv_bool cv_int cv_nilp cv_nils cv_nilm cv_nilf cv_nilIface min_i64 max_i64 min_u64 max_u64 min_u32 max_u32 min_u16 max_u16 min_u8 max_u8 hp_get0 hp_get hp_set0 hp_set ty0 ty1 ty2 ty3 ty4 ty5

theorem strs_take (l : List (List UInt8)) (k : Nat) : AV.lst (min l.length k) false (List.take (min l.length k) (rows encS l)) = encStrs (l.take k) := by
  have := rows_take encS 1 encS_len l (min l.length k)
  rw [Nat.mul_one] at this
  rw [this, encStrs, List.length_take, Nat.min_comm k]
  congr 2
  rw [Nat.min_comm, ← List.take_take, List.take_length]

theorem str_take (s : List UInt8) (k : Nat) : List.take (min s.length k) s = s.take k := by rw [Nat.min_comm, ← List.take_take, List.take_length]

/-- What an answer looks like. -/
theorem splitR_form (s : List UInt8) : ∃ (x : List (List UInt8)) (e : Int), splitR s = .tup [encStrs x, .i .i64 e] ∧ (x.length : Int) ≤ 9223372036854775807 := by
  cases h : splitO s with
  | none => exact ⟨[], 120, splitR_none h, by simp⟩
  | some l => exact ⟨l, 0, splitR_some h, by have := (splitO_right h).2.1; omega⟩
theorem joinR_form (l : List (List UInt8)) : ∃ (x : List UInt8) (e : Int), joinR l = .tup [.s (str x), .i .i64 e] := by
  cases h : joinO l with
  | none => exact ⟨[], 120, joinR_none h⟩
  | some s => exact ⟨s, 0, joinR_some h⟩
theorem underO_len {dir : List (List UInt8)} {t : List UInt8} {l : List (List UInt8)} (h : underO dir t = some l) : l.length ≤ 40 := by
  unfold underO at h
  split at h
  · cases h
  · split at h
    · exact (splitO_right h).2.1
    · split at h
      · cases h
      · exact (splitO_right h).2.1
theorem underR_form (dir : List (List UInt8)) (t : List UInt8) : ∃ (x : List (List UInt8)) (e : Int), underR dir t = .tup [encStrs x, .i .i64 e] ∧ (x.length : Int) ≤ 9223372036854775807 := by
  cases h : underO dir t with
  | none => exact ⟨[], 120, by rw [underR, h], by simp⟩
  | some l => exact ⟨l, 0, by rw [underR, h], by have := underO_len h; omega⟩

theorem pathSplits_spec (s : List UInt8) (l : List (List UInt8)) (hl : (l.length : Int) ≤ 9223372036854775807) (h : Hp) : dcall Tryd.prog 3 [.s (str s), encStrs l] h fun av h' => av = .b true ∧ h' = h := by
  refine call_z Tryd.func3 rfl Tryd.call3 Tryd.ntmps3 (by simp) ?_
  have m1 : min (s.length : Int) 2000 = ((min s.length 2000 : Nat) : Int) := by omega
  have m2 : min (l.length : Int) 50 = ((min l.length 50 : Nat) : Int) := by omega
  have k1 : min s.length 2000 ≤ s.length := by omega
  have k2 : min l.length 50 ≤ l.length := by omega
  have hl2 : ((l.take 50).length : Int) ≤ 9223372036854775807 := by rw [List.length_take]; omega
  have st := strs_take l 50
  simp
  refine dcallV_fn (dcall.pure (shown_spec _) ?_)
  simp [m1, k1, str_take]
  simp only [encStrs]
  simp [m2, k2, st]
  obtain ⟨x, e, hx, hxl⟩ := splitR_form (s.take 2000)
  obtain ⟨y, f, hy⟩ := joinR_form (l.take 50)
  refine dcallV_fn (dcall.pure (split_spec _ _) ?_)
  simp [hx]
  refine dcallV_fn (dcall.pure (refSplit_spec _ _) ?_)
  simp [hx]
  refine dcallV_fn (dcall.pure (join_spec' _ hl2 _) ?_)
  simp [hy]
  refine dcallV_fn (dcall.pure (refJoin_spec _ hl2 _) ?_)
  simp [hy]
  refine dcallV_fn (dcall.pure (same_spec x x hxl hxl _) ?_)
  simp
  exact retQ_to [.b true] (.inr rfl) (by simp [resL, resE, Tryd.results3]) ⟨rfl, rfl⟩
end Go.M
