/- The laws of layer 12, the second part. -/
import Derived.Test.YtjnpfhihefchoaaDoorXi
namespace Go.M
open Go Go.Proofs
set_option maxRecDepth 20000
set_option linter.unusedVariables false
set_option linter.unusedSimpArgs false
set_option linter.unnecessarySimpa false
attribute [local congr] ifV_congr ifC_congr ifE_congr ifG_congr ifB_congr ifH_congr brB_congr dz_congr wz_congr qz_congr dwp_congr dcallV_congr dcall_congr retQ_congr thenQ_congr inBlockQ_congr noGotoQ_congr
attribute [local simp] hold_eq hp_get_set zero_imax one_imax cv_str mk_arr empty_str str_append extract_str ifV_some ifV_none ifC_some ifC_none ifE_some ifE_none ifG_some ifB_b ifH_some brB_true brB_false pt_at fz_at putL_z putL_n guardZ dz_nil dz_plain dz_plain0 dz_guard wz_skip wz_label wz_exit wz_goto wz_ret wz_region wz_draw wz_seq wz_cond wz_block wz_scope wz_loop wz_range qz_nil qz_plan qz_quiet qz_quiet_g qz_turn qz_turn0 hsAt thenQ inBlockQ noGotoQ callV opE opW evO wh wa pickE st sts gds condsOf opV allocE boxE buildE fillE splice newE loadE ptrCells storeE AV.cells AV.ones AV.one nilCheckE eqE eqE.go binE intE strE unE convE upE uSliceE uStringE sliceE sliceParts bnd sliceFull fieldAddrE indexAddrE indexE extractE builtinE lenE minL maxL min_go2 max_go2 appendE srcCells sliceCells copyE makeSliceE makeMapE buildSliceE reps_zero' reps_one reps_two cv_bool cv_int cv_nilp cv_nils cv_nilm cv_nilf cv_nilIface min_i64 max_i64 min_u64 max_u64 min_u32 max_u32 min_u16 max_u16 min_u8 max_u8 hp_get0 hp_get hp_set0 hp_set ty0 ty1 ty2 ty3 ty4 ty5

theorem pathUnder_spec (l : List (List UInt8)) (t : List UInt8) (o : List (List UInt8)) (hl : (l.length : Int) ≤ 9223372036854775807) (ho : (o.length : Int) ≤ 9223372036854775807) (h : Hp) : dcall Tryd.prog 6 [encStrs l, .s (str t), encStrs o] h fun av h' => av = .b true ∧ h' = h := by
  refine call_z Tryd.func6 rfl Tryd.call6 Tryd.ntmps6 (by simp) ?_
  have m1 : min (t.length : Int) 2000 = ((min t.length 2000 : Nat) : Int) := by omega
  have m2 : min (l.length : Int) 50 = ((min l.length 50 : Nat) : Int) := by omega
  have k1 : min t.length 2000 ≤ t.length := by omega
  have k2 : min l.length 50 ≤ l.length := by omega
  have hl2 : ((l.take 50).length : Int) ≤ 9223372036854775807 := by rw [List.length_take]; omega
  have ht2 : (t.take 2000).length ≤ 3000 := by rw [List.length_take]; omega
  have st := strs_take l 50
  simp
  refine dcallV_fn (dcall.pure (shown_spec _) ?_)
  simp only [encStrs]
  simp [m1, k1, str_take, m2, k2, st]
  obtain ⟨x, e, hx, hxl⟩ := underR_form (l.take 50) (t.take 2000)
  refine dcallV_fn (dcall.pure (under_spec _ _ hl2 ht2 _) ?_)
  simp [hx]
  refine dcallV_fn (dcall.pure (refUnder_spec _ _ hl2 ht2 _) ?_)
  simp [hx]
  refine dcallV_fn (dcall.pure (same_spec x x hxl hxl _) ?_)
  simp
  refine dcallV_fn (dcall.pure (within_spec (l.take 50) o hl2 ho _) ?_)
  simp
  refine dcallV_fn (dcall.pure (refWithin_spec (l.take 50) o hl2 ho _) ?_)
  simp
  exact retQ_to [.b true] (.inr rfl) (by simp [resL, resE, Tryd.results6]) ⟨rfl, rfl⟩

/-- What was joined, and split again. -/
theorem back_one (p : List (List UInt8)) (hp : (p.length : Int) ≤ 9223372036854775807) : (∃ a, joinR p = .tup [.s (str a), .i .i64 0] ∧ splitR a = .tup [encStrs p, .i .i64 0]) ∨ (joinR p = .tup [.s (str []), .i .i64 120] ∧ splitR [] = .tup [encStrs [], .i .i64 120]) := by
  cases h : joinO p with
  | none => exact .inr ⟨joinR_none h, splitR_none (by decide)⟩
  | some a =>
    obtain ⟨e1, e2, e3, e4⟩ := joinO_some h
    refine .inl ⟨a, joinR_some h, splitR_some ?_⟩
    subst e1
    exact splitO_join e3 e2 e4

/-- What was split, joined, and split again. -/
theorem back_two (s : List UInt8) : (∃ m b, splitR s = .tup [encStrs m, .i .i64 0] ∧ joinR m = .tup [.s (str b), .i .i64 0] ∧ splitR b = .tup [encStrs m, .i .i64 0] ∧ b.length ≤ max 1 s.length ∧ m.length ≤ 40) ∨
    (splitR s = .tup [encStrs [], .i .i64 120] ∧ joinR [] = .tup [.s (str [47]), .i .i64 0] ∧ splitR [47] = .tup [encStrs [], .i .i64 0]) := by
  cases h : splitO s with
  | none => exact .inr ⟨splitR_none h, joinR_some (by decide), splitR_some (by decide)⟩
  | some m =>
    obtain ⟨h1, h2, h3, h4⟩ := splitO_right h
    exact .inl ⟨m, joinS m, splitR_some h, joinR_some (joinO_of h1 h2 (by omega)), splitR_some (splitO_join h1 h2 (by omega)), h3, h2⟩

theorem pathBack_spec (l : List (List UInt8)) (s : List UInt8) (hl : (l.length : Int) ≤ 9223372036854775807) (h : Hp) : dcall Tryd.prog 4 [encStrs l, .s (str s)] h fun av h' => av = .b true ∧ h' = h := by
  refine call_z Tryd.func4 rfl Tryd.call4 Tryd.ntmps4 (by simp) ?_
  have m1 : min (s.length : Int) 2000 = ((min s.length 2000 : Nat) : Int) := by omega
  have m2 : min (l.length : Int) 50 = ((min l.length 50 : Nat) : Int) := by omega
  have k1 : min s.length 2000 ≤ s.length := by omega
  have k2 : min l.length 50 ≤ l.length := by omega
  have hl2 : ((l.take 50).length : Int) ≤ 9223372036854775807 := by rw [List.length_take]; omega
  have st := strs_take l 50
  simp
  refine dcallV_fn (dcall.pure (shown_spec _) ?_)
  simp only [encStrs]
  simp [m1, k1, str_take, m2, k2, st]
  generalize hp : l.take 50 = p at *
  generalize hq : s.take 2000 = q at *
  refine dcallV_fn (dcall.pure (join_spec' p hl2 _) ?_)
  rcases back_two q with ⟨m, b, c1, c2, c3, c4, c5⟩ | ⟨c1, c2, c3⟩
  · have hm : (m.length : Int) ≤ 9223372036854775807 := by omega
    have mx : (b.length : Int) ≤ max 1 (q.length : Int) := by omega
    have hmm : max (1 : Int) (q.length : Int) = max (1 : Int) (q.length : Int) := rfl
    rcases back_one p hl2 with ⟨a, d1, d2⟩ | ⟨d1, d2⟩
    · rw [d1]
      simp
      refine dcallV_fn (dcall.pure (split_spec _ _) ?_)
      simp [d2]
      refine dcallV_fn (dcall.pure (split_spec _ _) ?_)
      simp [c1]
      refine dcallV_fn (dcall.pure (join_spec' m hm _) ?_)
      simp [c2]
      refine dcallV_fn (dcall.pure (split_spec _ _) ?_)
      simp [c3]
      refine dcallV_fn (dcall.pure (same_spec p p hl2 hl2 _) ?_)
      simp [mx]
      refine dcallV_fn (dcall.pure (same_spec m m hm hm _) ?_)
      simp
      refine dcallV_fn (dcall.pure (within_spec m m hm hm _) ?_)
      simp [wthn_refl]
      refine dcallV_fn (dcall.pure (within_spec m m hm hm _) ?_)
      simp [wthn_refl]
      exact retQ_to [.b true] (.inr rfl) (by simp [resL, resE, Tryd.results4]) ⟨rfl, rfl⟩
    · rw [d1]
      simp
      refine dcallV_fn (dcall.pure (split_spec _ _) ?_)
      simp [d2]
      refine dcallV_fn (dcall.pure (split_spec _ _) ?_)
      simp [c1]
      refine dcallV_fn (dcall.pure (join_spec' m hm _) ?_)
      simp [c2]
      refine dcallV_fn (dcall.pure (split_spec _ _) ?_)
      simp [c3, mx]
      refine dcallV_fn (dcall.pure (same_spec m m hm hm _) ?_)
      simp
      refine dcallV_fn (dcall.pure (within_spec m m hm hm _) ?_)
      simp [wthn_refl]
      refine dcallV_fn (dcall.pure (within_spec m m hm hm _) ?_)
      simp [wthn_refl]
      exact retQ_to [.b true] (.inr rfl) (by simp [resL, resE, Tryd.results4]) ⟨rfl, rfl⟩
  · have mx : (1 : Int) ≤ max 1 (q.length : Int) := by omega
    rcases back_one p hl2 with ⟨a, d1, d2⟩ | ⟨d1, d2⟩
    · rw [d1]
      simp
      refine dcallV_fn (dcall.pure (split_spec _ _) ?_)
      simp [d2]
      refine dcallV_fn (dcall.pure (split_spec _ _) ?_)
      simp [c1]
      refine dcallV_fn (dcall.pure (join_spec' [] (by simp) _) ?_)
      simp [c2]
      refine dcallV_fn (dcall.pure (split_spec _ _) ?_)
      simp [c3, mx]
      refine dcallV_fn (dcall.pure (same_spec p p hl2 hl2 _) ?_)
      simp [mx]
      exact retQ_to [.b true] (.inr rfl) (by simp [resL, resE, Tryd.results4]) ⟨rfl, rfl⟩
    · rw [d1]
      simp
      refine dcallV_fn (dcall.pure (split_spec _ _) ?_)
      simp [d2]
      refine dcallV_fn (dcall.pure (split_spec _ _) ?_)
      simp [c1]
      refine dcallV_fn (dcall.pure (join_spec' [] (by simp) _) ?_)
      simp [c2]
      refine dcallV_fn (dcall.pure (split_spec _ _) ?_)
      simp [c3, mx]
      exact retQ_to [.b true] (.inr rfl) (by simp [resL, resE, Tryd.results4]) ⟨rfl, rfl⟩
end Go.M
