/- Names, by the program and by the reference. -/
import Derived.Test.YtjnpfhihefchoaaDoorXa
namespace Go.M
open Go Go.Proofs
set_option maxRecDepth 20000
set_option linter.unusedVariables false
set_option linter.unusedSimpArgs false
set_option linter.unnecessarySimpa false
attribute [local congr] ifV_congr ifC_congr ifE_congr ifG_congr ifB_congr ifH_congr brB_congr dz_congr wz_congr qz_congr dwp_congr dcallV_congr dcall_congr retQ_congr thenQ_congr inBlockQ_congr noGotoQ_congr
attribute [local simp] hold_eq hp_get_set zero_imax one_imax cv_str mk_arr empty_str str_append extract_str ifV_some ifV_none ifC_some ifC_none ifE_some ifE_none ifG_some ifB_b ifH_some brB_true brB_false pt_at fz_at putL_z putL_n guardZ dz_nil dz_plain dz_plain0 dz_guard wz_skip wz_label wz_exit wz_goto wz_ret wz_region wz_draw wz_seq wz_cond wz_block wz_scope wz_loop wz_range qz_nil qz_plan qz_quiet qz_quiet_g qz_turn qz_turn0 hsAt thenQ inBlockQ noGotoQ callV opE opW evO wh wa pickE st sts gds condsOf opV allocE boxE buildE fillE splice newE loadE ptrCells storeE AV.cells AV.ones AV.one nilCheckE eqE eqE.go binE intE strE unE convE upE uSliceE uStringE sliceE sliceParts bnd sliceFull fieldAddrE indexAddrE indexE extractE builtinE lenE minL maxL min_go2 max_go2 appendE srcCells sliceCells copyE makeSliceE makeMapE buildSliceE reps_zero' reps_one reps_two cv_bool cv_int cv_nilp cv_nils cv_nilm cv_nilf cv_nilIface min_i64 max_i64 min_u64 max_u64 min_u32 max_u32 min_u16 max_u16 min_u8 max_u8 hp_get0 hp_get hp_set0 hp_set ty0 ty1 ty2 ty3 ty4 ty5

theorem isName_false {s : List UInt8} (h : ¬ (s ≠ [] ∧ s ≠ [46] ∧ s ≠ [46, 46] ∧ s.length ≤ 59 ∧ ∀ b ∈ s, b ≠ 0 ∧ b ≠ 47)) : isName s = false := by
  cases hh : isName s
  · rfl
  · exact absurd (isName_parts hh) h
theorem isName_true {s : List UInt8} (h : s ≠ [] ∧ s ≠ [46] ∧ s ≠ [46, 46] ∧ s.length ≤ 59 ∧ ∀ b ∈ s, b ≠ 0 ∧ b ≠ 47) : isName s = true := by
  simpa [isName, and_assoc] using h

theorem isName_spec (s : List UInt8) (h : Hp) : dcall Tryd.prog 19 [.s (str s)] h fun av h' => av = .b (isName s) ∧ h' = h := by
  refine call_z Tryd.func19 rfl Tryd.call19 Tryd.ntmps19 (by simp) ?_
  simp
  refine brB_split (fun c => ?_) (fun c => ?_) <;> simp at c
  · have hn : isName s = false := by
      refine isName_false ?_
      rintro ⟨h1, h2, h3, h4, h5⟩
      rcases c with ((c | c) | c) | c
      · exact h1 c
      · exact h2 c
      · exact h3 c
      · omega
    simp
    exact retQ_to [.b false] (.inr rfl) (by simp [resL, resE, Tryd.results19]) ⟨by simp [results1, hn], rfl⟩
  · have hs : (s.length : Int) ≤ imax := by unfold imax; omega
    simp
    refine dcallV_fn (dcall.pure (indexByte_spec _ _ hs _) ?_)
    simp
    by_cases c0 : Go.Lib.indexByte s 0 < 0
    · simp [c0]
      refine dcallV_fn (dcall.pure (indexByte_spec _ _ hs _) ?_)
      simp
      have e : isName s = decide (Go.Lib.indexByte s 47 < 0) := by
        rw [index_neg] at c0
        rw [Bool.eq_iff_iff, decide_eq_true_iff, index_neg]
        constructor
        · intro hh hm
          exact ((isName_parts hh).2.2.2.2 _ hm).2 rfl
        · intro hh
          exact isName_true ⟨c.1.1.1, c.1.1.2, c.1.2, by omega, fun b hb => ⟨fun e => c0 (e ▸ hb), fun e => hh (e ▸ hb)⟩⟩
      exact retQ_to [.b (isName s)] (.inr rfl) (by simp [resL, resE, Tryd.results19, e, c0]) ⟨rfl, rfl⟩
    · simp [c0]
      have e : isName s = false := by
        refine isName_false ?_
        rintro ⟨h1, h2, h3, h4, h5⟩
        rw [index_neg] at c0
        exact (h5 0 (Classical.not_not.1 c0)).1 rfl
      exact retQ_to [.b false] (.inr rfl) (by simp [resL, resE, Tryd.results19]) ⟨by simp [results1, e], rfl⟩

theorem u8_zero (b : UInt8) : b.toNat = 0 ↔ b = 0 := ⟨fun h => UInt8.toNat_inj.1 (by rw [h]; rfl), fun h => by rw [h]; rfl⟩
theorem u8_slash (b : UInt8) : ((b.toNat : Int) = 47) ↔ b = 47 := ⟨fun h => UInt8.toNat_inj.1 (by show b.toNat = 47; omega), fun h => by rw [h]; rfl⟩

theorem refIsName_spec (s : List UInt8) (h : Hp) : dcall Tryd.prog 21 [.s (str s)] h fun av h' => av = .b (isName s) ∧ h' = h := by
  refine call_z Tryd.func21 rfl Tryd.call21 Tryd.ntmps21 (by simp) ?_
  simp
  refine brB_split (fun c => ?_) (fun c => ?_) <;> simp at c
  · have hn : isName s = false := by
      refine isName_false ?_
      rintro ⟨h1, h2, h3, h4, h5⟩
      have := List.length_pos_iff.2 h1
      rcases c with ((c | c) | c) | c
      · omega
      · omega
      · exact h2 c
      · exact h3 c
    simp
    exact retQ_to [.b false] (.inr rfl) (by simp [resL, resE, Tryd.results21]) ⟨by simp [results1, hn], rfl⟩
  · have cc := c
    simp
    refine loop_z (fun m fr h' => ∃ (i : Nat), m = s.length - i ∧ i ≤ s.length ∧ fr 3 = .i .i64 i ∧ fr 0 = .s (str s) ∧ (∀ b ∈ s.take i, b ≠ 0 ∧ b ≠ 47) ∧ h' = h) s.length
      ⟨0, by simp, by simp, by simp, by simp, by simp, rfl⟩ ?_
    rintro m fr h' ⟨i, hm, hi, f3, f0, hb, rfl⟩
    simp [f3, f0]
    refine brB_split (fun c => ?_) (fun c => ?_) <;> simp at c
    · simp [f3, f0, c, bt_nat]
      refine brB_split (fun c1 => ?_) (fun c1 => ?_)
      · have hn : isName s = false := by
          refine isName_false ?_
          rintro ⟨h1, h2, h3, h4, h5⟩
          have hx := h5 s[i] (List.getElem_mem c)
          simp only [u8_zero, u8_slash, Bool.or_eq_true, decide_eq_true_eq] at c1
          exact c1.elim hx.1 hx.2
        simp
        exact retQ_to [.b false] (.inr rfl) (by simp [resL, resE, Tryd.results21]) ⟨by simp [results1, hn], rfl⟩
      · simp [f3, f0]
        refine ⟨s.length - (i + 1), by omega, i + 1, rfl, by omega, by rw [wrap_i64' (by omega)]; rfl, ?_⟩
        intro b hbb
        rw [List.take_succ_eq_append_getElem c, List.mem_append] at hbb
        simp only [u8_zero, u8_slash, Bool.or_eq_false_iff, decide_eq_false_iff_not] at c1
        rcases hbb with hbb | hbb
        · exact hb b hbb
        · rw [List.mem_singleton.1 hbb]; exact c1
    · have : i = s.length := by omega
      subst this
      simp
      rw [List.take_length] at hb
      have hn : isName s = true := isName_true ⟨by rintro rfl; simp at cc, cc.1.2, cc.2, by omega, hb⟩
      exact retQ_to [.b true] (.inr rfl) (by simp [resL, resE, Tryd.results21]) ⟨by simp [results1, hn], rfl⟩
end Go.M
