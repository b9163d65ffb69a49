/- Under; what is shown of layer 12. -/
import Derived.Test.YtjnpfhihefchoaaDoorXg
namespace Go.M
open Go Go.Proofs
set_option maxRecDepth 20000
set_option linter.unusedVariables false
set_option linter.unusedSimpArgs false
set_option linter.unnecessarySimpa false
attribute [local congr] ifV_congr ifC_congr ifE_congr ifG_congr ifB_congr ifH_congr brB_congr dz_congr wz_congr qz_congr dwp_congr dcallV_congr dcall_congr retQ_congr thenQ_congr inBlockQ_congr noGotoQ_congr
attribute [local simp] hold_eq hp_get_set zero_imax one_imax cv_str mk_arr empty_str str_append extract_str ifV_some ifV_none ifC_some ifC_none ifE_some ifE_none ifG_some ifB_b ifH_some brB_true brB_false pt_at fz_at putL_z putL_n guardZ dz_nil dz_plain dz_plain0 dz_guard wz_skip wz_label wz_exit wz_goto wz_ret wz_region wz_draw wz_seq wz_cond wz_block wz_scope wz_loop wz_range qz_nil qz_plan qz_quiet qz_quiet_g qz_turn qz_turn0 hsAt thenQ inBlockQ noGotoQ callV opE opW evO wh wa pickE st sts gds condsOf opV allocE boxE buildE fillE splice newE loadE ptrCells storeE AV.cells AV.ones AV.one nilCheckE eqE eqE.go binE intE strE unE convE upE uSliceE uStringE sliceE sliceParts bnd sliceFull fieldAddrE indexAddrE indexE extractE builtinE lenE minL maxL min_go2 max_go2 appendE srcCells sliceCells copyE makeSliceE makeMapE buildSliceE reps_zero' reps_one reps_two cv_bool cv_int cv_nilp cv_nils cv_nilm cv_nilf cv_nilIface min_i64 max_i64 min_u64 max_u64 min_u32 max_u32 min_u16 max_u16 min_u8 max_u8 hp_get0 hp_get hp_set0 hp_set ty0 ty1 ty2 ty3 ty4 ty5

def underR (dir : List (List UInt8)) (t : List UInt8) : AV := match underO dir t with
  | some l => .tup [encStrs l, .i .i64 0]
  | none => .tup [encStrs [], .i .i64 120]

theorem split_pure (s : List UInt8) : (splitR s).pure = true := by unfold splitR; cases splitO s <;> simp [AV.pure, AV.pures, strs_pure]

theorem under_spec (dir : List (List UInt8)) (t : List UInt8) (hd : (dir.length : Int) ≤ 9223372036854775807) (ht : t.length ≤ 3000) (h : Hp) : dcall Tryd.prog 14 [encStrs dir, .s (str t)] h fun av h' => av = underR dir t ∧ h' = h := by
  refine call_z Tryd.func14 rfl Tryd.call14 Tryd.ntmps14 (by simp) ?_
  rcases t with _ | ⟨c0, t0⟩
  · have hu : underR dir [] = .tup [encStrs [], .i .i64 120] := rfl
    simp
    exact retQ_dropLe [.nils, .i .i64 120] _ (.inr rfl) (by simp [resL, resE, Tryd.results14]) (nil_le _) (by simp [AV.pure, AV.pures, strs_pure]) (Keep.refl _) ⟨hu.symm, rfl⟩
  generalize hs : c0 :: t0 = t at *
  have hpos : 0 < t.length := by rw [← hs]; simp
  have hb : bt (str t) 0 = (c0.toNat : Int) := by rw [← hs]; rfl
  have hh : t.head? = some c0 := by rw [← hs]; rfl
  have hne : ¬ t = [] := by rw [← hs]; simp
  simp [hpos, hb, hne]
  refine brB_split (fun c1 => ?_) (fun c1 => ?_)
  · simp only [decide_eq_true_eq, u8_slash] at c1
    have hu : underR dir t = splitR t := by
      unfold underR underO splitR
      rw [if_neg hne, if_pos (by rw [hh, c1])]
      cases splitO t <;> rfl
    simp
    refine dcallV_fn (dcall.pure (split_spec _ _) ?_)
    cases hsp : splitO t with
    | none =>
      rw [splitR_none hsp] at hu ⊢
      simp
      exact retQ_to [encStrs [], .i .i64 120] (.inr rfl) (by simp [resL, resE, Tryd.results14]) ⟨hu.symm, rfl⟩
    | some l =>
      rw [splitR_some hsp] at hu ⊢
      simp
      exact retQ_to [encStrs l, .i .i64 0] (.inr rfl) (by simp [resL, resE, Tryd.results14]) ⟨hu.symm, rfl⟩
  · simp only [decide_eq_false_iff_not, u8_slash] at c1
    simp
    refine dcallV_fn (dcall.pure (join_spec' dir hd _) ?_)
    cases hj : joinO dir with
    | none =>
      rw [joinR_none hj]
      have hu : underR dir t = .tup [encStrs [], .i .i64 120] := by
        unfold underR underO
        rw [if_neg hne, if_neg (by rw [hh]; simpa using c1), hj]
      simp
      exact retQ_dropLe [.nils, .i .i64 120] _ (.inr rfl) (by simp [resL, resE, Tryd.results14]) (nil_le _) (by simp [AV.pure, AV.pures, strs_pure]) (Keep.refl _) ⟨hu.symm, rfl⟩
    | some j =>
      rw [joinR_some hj]
      have hu : underR dir t = splitR (j ++ 47 :: t) := by
        unfold underR underO splitR
        rw [if_neg hne, if_neg (by rw [hh]; simpa using c1), hj]
        simp
        cases splitO (j ++ 47 :: t) <;> rfl
      obtain ⟨_, _, _, hjl⟩ := joinO_some hj
      have r1 : (j.length : Int) + 1 ≤ imax := by unfold imax; omega
      have r2 : (j.length : Int) + 1 + (t.length : Int) ≤ imax := by unfold imax; omega
      simp [r1, r2]
      refine dcallV_fn (dcall.pure (split_spec _ _) ?_)
      cases hsp : splitO (j ++ 47 :: t) with
      | none =>
        rw [splitR_none hsp] at hu ⊢
        simp
        exact retQ_to [encStrs [], .i .i64 120] (.inr rfl) (by simp [resL, resE, Tryd.results14]) ⟨hu.symm, rfl⟩
      | some l =>
        rw [splitR_some hsp] at hu ⊢
        simp
        exact retQ_to [encStrs l, .i .i64 0] (.inr rfl) (by simp [resL, resE, Tryd.results14]) ⟨hu.symm, rfl⟩

theorem refUnder_spec (dir : List (List UInt8)) (t : List UInt8) (hd : (dir.length : Int) ≤ 9223372036854775807) (ht : t.length ≤ 3000) (h : Hp) : dcall Tryd.prog 15 [encStrs dir, .s (str t)] h fun av h' => av = underR dir t ∧ h' = h := by
  refine call_z Tryd.func15 rfl Tryd.call15 Tryd.ntmps15 (by simp) ?_
  rcases t with _ | ⟨c0, t0⟩
  · have hu : underR dir [] = .tup [encStrs [], .i .i64 120] := rfl
    simp
    exact retQ_dropLe [.nils, .i .i64 120] _ (.inr rfl) (by simp [resL, resE, Tryd.results15]) (nil_le _) (by simp [AV.pure, AV.pures, strs_pure]) (Keep.refl _) ⟨hu.symm, rfl⟩
  generalize hs : c0 :: t0 = t at *
  have hpos : 0 < t.length := by rw [← hs]; simp
  have hb : bt (str t) 0 = (c0.toNat : Int) := by rw [← hs]; rfl
  have hh : t.head? = some c0 := by rw [← hs]; rfl
  have hne : ¬ t = [] := by rw [← hs]; simp
  simp [hpos, hb, hne]
  refine brB_split (fun c1 => ?_) (fun c1 => ?_)
  · simp only [decide_eq_true_eq, u8_slash] at c1
    have hu : underR dir t = splitR t := by
      unfold underR underO splitR
      rw [if_neg hne, if_pos (by rw [hh, c1])]
      cases splitO t <;> rfl
    simp
    refine dcallV_fn (dcall.pure (refSplit_spec _ _) ?_)
    cases hsp : splitO t with
    | none =>
      rw [splitR_none hsp] at hu ⊢
      simp
      exact retQ_to [encStrs [], .i .i64 120] (.inr rfl) (by simp [resL, resE, Tryd.results15]) ⟨hu.symm, rfl⟩
    | some l =>
      rw [splitR_some hsp] at hu ⊢
      simp
      exact retQ_to [encStrs l, .i .i64 0] (.inr rfl) (by simp [resL, resE, Tryd.results15]) ⟨hu.symm, rfl⟩
  · simp only [decide_eq_false_iff_not, u8_slash] at c1
    simp
    refine dcallV_fn (dcall.pure (refJoin_spec dir hd _) ?_)
    cases hj : joinO dir with
    | none =>
      rw [joinR_none hj]
      have hu : underR dir t = .tup [encStrs [], .i .i64 120] := by
        unfold underR underO
        rw [if_neg hne, if_neg (by rw [hh]; simpa using c1), hj]
      simp
      exact retQ_dropLe [.nils, .i .i64 120] _ (.inr rfl) (by simp [resL, resE, Tryd.results15]) (nil_le _) (by simp [AV.pure, AV.pures, strs_pure]) (Keep.refl _) ⟨hu.symm, rfl⟩
    | some j =>
      rw [joinR_some hj]
      have hu : underR dir t = splitR (j ++ 47 :: t) := by
        unfold underR underO splitR
        rw [if_neg hne, if_neg (by rw [hh]; simpa using c1), hj]
        simp
        cases splitO (j ++ 47 :: t) <;> rfl
      obtain ⟨_, _, _, hjl⟩ := joinO_some hj
      have r1 : (j.length : Int) + 1 ≤ imax := by unfold imax; omega
      have r2 : (j.length : Int) + 1 + (t.length : Int) ≤ imax := by unfold imax; omega
      simp [r1, r2]
      refine dcallV_fn (dcall.pure (refSplit_spec _ _) ?_)
      cases hsp : splitO (j ++ 47 :: t) with
      | none =>
        rw [splitR_none hsp] at hu ⊢
        simp
        exact retQ_to [encStrs [], .i .i64 120] (.inr rfl) (by simp [resL, resE, Tryd.results15]) ⟨hu.symm, rfl⟩
      | some l =>
        rw [splitR_some hsp] at hu ⊢
        simp
        exact retQ_to [encStrs l, .i .i64 0] (.inr rfl) (by simp [resL, resE, Tryd.results15]) ⟨hu.symm, rfl⟩

theorem shown_spec (h : Hp) : dcall Tryd.prog 7 [] h fun av h' => av = .b true ∧ h' = h := by
  have e1 : splitR [47, 97, 47, 47, 98, 47, 46, 47, 99, 47, 46, 46, 47, 100] = .tup [encStrs [[97], [98], [100]], .i .i64 0] := splitR_some (by decide)
  have e2 : splitR [47, 46, 46] = .tup [encStrs [], .i .i64 0] := splitR_some (by decide)
  have e3 : splitR [97] = .tup [encStrs [], .i .i64 120] := splitR_none (by decide)
  refine call_z Tryd.func7 rfl Tryd.call7 Tryd.ntmps7 (by simp) ?_
  simp
  refine dcallV_fn (dcall.pure (split_spec _ _) ?_)
  simp [e1]
  refine dcallV_fn (dcall.pure (split_spec _ _) ?_)
  simp [e2]
  refine dcallV_fn (dcall.pure (split_spec _ _) ?_)
  simp [e3, reps]
  refine dcallV_fn ?_
  simp only [List.nil_append, List.append_nil]
  refine dcall_le (bs := [encStrs [[97], [98], [100]], encStrs [[97], [98], [100]]]) (.cons (.refl _) (.cons (.lst _ _ _) .nil)) (dcall.pure (same_spec _ _ (by decide) (by decide) _) ?_)
  simp [encStrs]
  exact retQ_to [.b true] (.inr rfl) (by simp [resL, resE, Tryd.results7]) ⟨rfl, rfl⟩
end Go.M
