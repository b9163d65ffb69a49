/- Paths of parts, by the program and by the reference. -/
import Derived.Test.YtjnpfhihefchoaaDoorXc
namespace Go.M
open Go Go.Proofs
set_option maxRecDepth 20000
set_option linter.unusedVariables false
set_option linter.unusedSimpArgs false
set_option linter.unnecessarySimpa false
attribute [local congr] ifV_congr ifC_congr ifE_congr ifG_congr ifB_congr ifH_congr brB_congr dz_congr wz_congr qz_congr dwp_congr dcallV_congr dcall_congr retQ_congr thenQ_congr inBlockQ_congr noGotoQ_congr
attribute [local simp] hold_eq hp_get_set zero_imax one_imax cv_str mk_arr empty_str str_append extract_str ifV_some ifV_none ifC_some ifC_none ifE_some ifE_none ifG_some ifB_b ifH_some brB_true brB_false pt_at fz_at putL_z putL_n guardZ dz_nil dz_plain dz_plain0 dz_guard wz_skip wz_label wz_exit wz_goto wz_ret wz_region wz_draw wz_seq wz_cond wz_block wz_scope wz_loop wz_range qz_nil qz_plan qz_quiet qz_quiet_g qz_turn qz_turn0 hsAt thenQ inBlockQ noGotoQ callV opE opW evO wh wa pickE st sts gds condsOf opV allocE boxE buildE fillE splice newE loadE ptrCells storeE AV.cells AV.ones AV.one nilCheckE eqE eqE.go binE intE strE unE convE upE uSliceE uStringE sliceE sliceParts bnd sliceFull fieldAddrE indexAddrE indexE extractE builtinE lenE minL maxL min_go2 max_go2 appendE srcCells sliceCells copyE makeSliceE makeMapE buildSliceE reps_zero' reps_one reps_two cv_bool cv_int cv_nilp cv_nils cv_nilm cv_nilf cv_nilIface min_i64 max_i64 min_u64 max_u64 min_u32 max_u32 min_u16 max_u16 min_u8 max_u8 hp_get0 hp_get hp_set0 hp_set ty0 ty1 ty2 ty3 ty4 ty5

def joinR (l : List (List UInt8)) : AV := match joinO l with
  | some s => .tup [.s (str s), .i .i64 0]
  | none => .tup [.s (str []), .i .i64 120]
theorem joinR_none {l : List (List UInt8)} (h : joinO l = none) : joinR l = .tup [.s (str []), .i .i64 120] := by rw [joinR, h]
theorem joinR_some {l : List (List UInt8)} {s : List UInt8} (h : joinO l = some s) : joinR l = .tup [.s (str s), .i .i64 0] := by rw [joinR, h]

theorem join_47 (l : List (List UInt8)) : 47 :: Go.Lib.join l [47] = joinS l := by
  cases l with
  | nil => rfl
  | cons p r =>
    rw [Go.Lib.join_cons, joinS, if_neg (by simp), joinT_cons]
    rfl

theorem names_len : ∀ (l : List (List UInt8)), l.all isName = true → (joinT l).length ≤ 60 * l.length
  | [], _ => by simp [joinT]
  | p :: r, h => by
    simp only [List.all_cons, Bool.and_eq_true] at h
    have h1 := names_len r h.2
    have h2 := (isName_parts h.1).2.2.2.1
    rw [joinT_cons]
    simp
    omega

theorem all_not {l : List (List UInt8)} {i : Nat} (hi : i < l.length) (h : isName l[i] = false) : l.all isName = false := by
  rw [List.all_eq_false]
  exact ⟨l[i], List.getElem_mem hi, by simp [h]⟩

theorem refJoin_spec (l : List (List UInt8)) (hl : (l.length : Int) ≤ 9223372036854775807) (h : Hp) : dcall Tryd.prog 11 [encStrs l] h fun av h' => av = joinR l ∧ h' = h := by
  refine call_z Tryd.func11 rfl Tryd.call11 Tryd.ntmps11 (by simp) ?_
  simp [encStrs]
  refine brB_split (fun c => ?_) (fun c => ?_) <;> simp at c
  · have hn : joinO l = none := if_pos (.inl (by omega))
    simp
    exact retQ_to [.s (str []), .i .i64 120] (.inr rfl) (by simp [resL, resE, Tryd.results11]) ⟨(joinR_none hn).symm, rfl⟩
  · have hl40 : l.length ≤ 40 := by omega
    simp
    refine loop_z (fun m fr h' => ∃ (i : Nat), m = l.length - i ∧ i ≤ l.length ∧ fr 5 = .i .i64 i ∧ fr 0 = encStrs l ∧ fr 4 = .s (str (joinT (l.take i))) ∧ (l.take i).all isName = true ∧ h' = h) l.length
      ⟨0, by simp, by simp, by simp, by simp [encStrs], by simp [joinT], by simp, rfl⟩ ?_
    rintro m fr h' ⟨i, hm, hi, f5, f0, f4, hall, rfl⟩
    have hlen := names_len _ hall
    rw [List.length_take] at hlen
    simp [f5, f0, f4, encStrs]
    refine brB_split (fun c => ?_) (fun c => ?_) <;> simp at c
    · have e1 := strs_get l i c
      simp [f5, f0, f4, encStrs, c, e1, strs_len]
      refine dcallV_fn (dcall.pure (refIsName_spec _ _) ?_)
      simp
      cases hn : isName l[i]
      · simp
        have hj : joinO l = none := if_pos (.inr (.inl (all_not c hn)))
        exact retQ_to [.s (str []), .i .i64 120] (.inr rfl) (by simp [resL, resE, Tryd.results11]) ⟨(joinR_none hj).symm, rfl⟩
      · have hln := (isName_parts hn).2.2.2.1
        have r1 : ((joinT (l.take i)).length : Int) + 1 ≤ imax := by unfold imax; omega
        have r2 : ((joinT (l.take i)).length : Int) + 1 + (l[i].length : Int) ≤ imax := by unfold imax; omega
        simp [f5, f0, f4, encStrs, c, e1, strs_len, r1, r2]
        refine ⟨l.length - (i + 1), by omega, i + 1, rfl, by omega, by rw [wrap_i64' (by omega)]; rfl, ?_, ?_⟩
        · rw [List.take_succ_eq_append_getElem c, joinT_app]; simp [joinT]
        · intro x hx
          rw [List.take_succ_eq_append_getElem c, List.mem_append, List.mem_singleton] at hx
          rcases hx with hx | rfl
          · exact List.all_eq_true.1 hall x hx
          · exact hn
    · have : i = l.length := by omega
      subst this
      rw [List.take_length] at hall f4 hlen
      simp [f4]
      refine brB_split (fun c => ?_) (fun c => ?_) <;> simp at c
      · have hj : joinO l = none := if_pos (.inr (.inr (by
          unfold joinS
          split
          · rename_i he; subst he; simp [joinT] at c
          · omega)))
        simp
        exact retQ_to [.s (str []), .i .i64 120] (.inr rfl) (by simp [resL, resE, Tryd.results11]) ⟨(joinR_none hj).symm, rfl⟩
      · simp [f4]
        by_cases he : l = []
        · subst he
          have hj : joinO [] = some [47] := by decide
          simp [joinT]
          exact retQ_to [.s (str [47]), .i .i64 0] (.inr rfl) (by simp [resL, resE, Tryd.results11]) ⟨(joinR_some hj).symm, rfl⟩
        · have hs : joinS l = joinT l := by rw [joinS, if_neg he]
          have hj : joinO l = some (joinT l) := by rw [← hs]; exact joinO_of hall hl40 (by rw [hs]; omega)
          have hne : joinT l ≠ [] := by
            obtain ⟨p, r, rfl⟩ := List.exists_cons_of_ne_nil he
            rw [joinT_cons]; simp
          simp [hne]
          exact retQ_to [.s (str (joinT l)), .i .i64 0] (.inr rfl) (by simp [resL, resE, Tryd.results11, f4]) ⟨(joinR_some hj).symm, rfl⟩

theorem join_spec' (l : List (List UInt8)) (hl : (l.length : Int) ≤ 9223372036854775807) (h : Hp) : dcall Tryd.prog 10 [encStrs l] h fun av h' => av = joinR l ∧ h' = h := by
  refine call_z Tryd.func10 rfl Tryd.call10 Tryd.ntmps10 (by simp) ?_
  simp [encStrs]
  refine brB_split (fun c => ?_) (fun c => ?_) <;> simp at c
  · have hn : joinO l = none := if_pos (.inl (by omega))
    simp
    exact retQ_to [.s (str []), .i .i64 120] (.inr rfl) (by simp [resL, resE, Tryd.results10]) ⟨(joinR_none hn).symm, rfl⟩
  · have hl40 : l.length ≤ 40 := by omega
    simp
    refine loop_z (fun m fr h' => ∃ (i : Nat), m = l.length - i ∧ i ≤ l.length ∧ fr 12 = .i .i64 i ∧ fr 11 = .i .i64 l.length ∧ fr 10 = encStrs l ∧ fr 0 = encStrs l ∧ (l.take i).all isName = true ∧ h' = h) l.length
      ⟨0, by simp, by simp, by simp, by simp, by simp [encStrs], by simp [encStrs], by simp, rfl⟩ ?_
    rintro m fr h' ⟨i, hm, hi, f12, f11, f10, f0, hall, rfl⟩
    simp [f12, f11, f10, f0, encStrs]
    refine brB_split (fun c => ?_) (fun c => ?_) <;> simp at c
    · have e1 := strs_get l i c
      simp [f12, f11, f10, f0, encStrs, c, e1, strs_len]
      refine dcallV_fn (dcall.pure (isName_spec _ _) ?_)
      simp
      cases hn : isName l[i]
      · simp
        have hj : joinO l = none := if_pos (.inr (.inl (all_not c hn)))
        exact retQ_to [.s (str []), .i .i64 120] (.inr rfl) (by simp [resL, resE, Tryd.results10]) ⟨(joinR_none hj).symm, rfl⟩
      · simp [f12, f11, f10, f0, encStrs]
        refine ⟨l.length - (i + 1), by omega, i + 1, rfl, by omega, by rw [wrap_i64' (by omega)]; rfl, ?_⟩
        · intro x hx
          rw [List.take_succ_eq_append_getElem c, List.mem_append, List.mem_singleton] at hx
          rcases hx with hx | rfl
          · exact List.all_eq_true.1 hall x hx
          · exact hn
    · have : i = l.length := by omega
      subst this
      rw [List.take_length] at hall
      have hlen := names_len _ hall
      have hj := join_47 l
      have hjl : (joinS l).length ≤ 2400 + 1 := by
        unfold joinS; split
        · simp
        · omega
      have hj2 : (Go.Lib.join l [47]).length ≤ 2401 := by
        have := congrArg List.length hj
        simp at this
        omega
      simp [f0, encStrs]
      refine dcallV_fn (dcall.pure (join_spec l false (by omega) (by omega) _) ?_)
      have r1 : 1 + ((Go.Lib.join l [47]).length : Int) ≤ imax := by unfold imax; omega
      simp [r1, hj]
      refine brB_split (fun c => ?_) (fun c => ?_) <;> simp at c
      · have hj : joinO l = none := if_pos (.inr (.inr (by omega)))
        simp
        exact retQ_to [.s (str []), .i .i64 120] (.inr rfl) (by simp [resL, resE, Tryd.results10]) ⟨(joinR_none hj).symm, rfl⟩
      · have hj : joinO l = some (joinS l) := joinO_of hall hl40 (by omega)
        simp
        exact retQ_to [.s (str (joinS l)), .i .i64 0] (.inr rfl) (by simp [resL, resE, Tryd.results10]) ⟨(joinR_some hj).symm, rfl⟩
end Go.M
