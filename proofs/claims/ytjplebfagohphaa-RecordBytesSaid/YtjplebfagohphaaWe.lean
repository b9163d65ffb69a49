/- record: what may be. -/
import Derived.Test.YtjplebfagohphaaWd
import Derived.Test.YtjplebfagohphaaPr
namespace Go.M
open Go Go.Proofs
set_option maxRecDepth 20000
set_option linter.unusedVariables false
set_option linter.unusedSimpArgs false
set_option linter.unnecessarySimpa false
attribute [local congr] ifV_congr ifC_congr ifE_congr ifG_congr ifB_congr ifH_congr brB_congr dz_congr wz_congr qz_congr dwp_congr dcallV_congr dcall_congr retQ_congr thenQ_congr inBlockQ_congr noGotoQ_congr
attribute [local simp] hold_eq hp_get_set zero_imax one_imax cv_str mk_arr empty_str str_append extract_str ifV_some ifV_none ifC_some ifC_none ifE_some ifE_none ifG_some ifB_b ifH_some brB_true brB_false pt_at fz_at putL_z putL_n guardZ dz_nil dz_plain dz_plain0 dz_guard wz_skip wz_label wz_exit wz_goto wz_ret wz_region wz_draw wz_seq wz_cond wz_block wz_scope wz_loop wz_range qz_nil qz_plan qz_quiet qz_quiet_g qz_turn qz_turn0 thenQ inBlockQ noGotoQ callV opE opW evO wh wa pickE st sts gds condsOf opV allocE boxE buildE fillE splice newE loadE ptrCells storeE AV.cells AV.ones AV.one nilCheckE eqE eqE.go binE intE strE unE convE upE uSliceE uStringE sliceE sliceParts bnd sliceFull fieldAddrE indexAddrE indexE extractE builtinE lenE minL maxL min_go2 max_go2 appendE srcCells sliceCells copyE makeSliceE makeMapE buildSliceE reps_zero' reps_one reps_two cv_bool cv_int cv_nilp cv_nils cv_nilm cv_nilf cv_nilIface min_i64 max_i64 min_u64 max_u64 min_u32 max_u32 min_u16 max_u16 min_u8 max_u8 hp_get0 hp_get hp_set0 hp_set ty0 ty1 ty2 ty3 ty4 ty5 ty6 ty7 ty8 ty9 ty10 ty11

theorem isNumber_spec (n : Int) (h : Hp) : dcall Try.prog 66 [.i .u64 n] h fun av h' => av = .b (numOk n) ∧ h' = h := by
  refine call_z Try.func66 rfl Try.call66 Try.ntmps66 (by simp) ?_
  simp
  exact retQ_to [.b (numOk n)] (.inr rfl) (by simp [resL, resE, Try.results66, numOk]) ⟨rfl, rfl⟩

theorem refNumber_spec (n : Int) (h : Hp) : dcall Try.prog 68 [.i .u64 n] h fun av h' => av = .b (numOk n) ∧ h' = h := by
  refine call_z Try.func68 rfl Try.call68 Try.ntmps68 (by simp) ?_
  simp
  exact retQ_to [.b (numOk n)] (.inr rfl) (by simp [resL, resE, Try.results68, numOk, Int.add_one_le_iff]; rfl) ⟨rfl, rfl⟩

theorem isEntry_spec (x : Ent) (hx : x.Ok) (h : Hp) : dcall Try.prog 67 [.agg (encEnt x)] h fun av h' => av = .b x.okB ∧ h' = h := by
  refine call_z Try.func67 rfl Try.call67 Try.ntmps67 (by simp) ?_
  by_cases h1 : x.kind = 1
  · simp [encEnt, h1]
    exact retQ_drop [.b x.okB] (.inr rfl) (by simp [resL, resE, Try.results67, Ent.okB, h1]) rfl (Keep.app _ _) ⟨rfl, rfl⟩
  by_cases h2 : x.kind = 2
  · simp [encEnt, h2]
    exact retQ_drop [.b x.okB] (.inr rfl) (by simp [resL, resE, Try.results67, Ent.okB, h2]) rfl (Keep.app _ _) ⟨rfl, rfl⟩
  by_cases h3 : x.kind = 3
  · simp [encEnt, h3]
    exact retQ_drop [.b x.okB] (.inr rfl) (by simp [resL, resE, Try.results67, Ent.okB, h3]) rfl (Keep.app _ _) ⟨rfl, rfl⟩
  by_cases h4 : x.kind = 4
  · simp [encEnt, h4]
    exact retQ_drop [.b x.okB] (.inr rfl) (by simp [resL, resE, Try.results67, Ent.okB, h4]) rfl (Keep.app _ _) ⟨rfl, rfl⟩
  by_cases h5 : x.kind = 5
  · simp [encEnt, h5]
    exact retQ_drop [.b x.okB] (.inr rfl) (by simp [resL, resE, Try.results67, Ent.okB, h5]) rfl (Keep.app _ _) ⟨rfl, rfl⟩
  simp [encEnt, h1, h2, h3, h4, h5]
  exact retQ_drop [.b x.okB] (.inr rfl) (by simp [resL, resE, Try.results67, Ent.okB, h1, h2, h3, h4, h5]) rfl (Keep.app _ _) ⟨rfl, rfl⟩

theorem refEntry_spec (x : Ent) (hx : x.Ok) (h : Hp) : dcall Try.prog 69 [.agg (encEnt x)] h fun av h' => av = .b x.okB ∧ h' = h := by
  have hf := hx.file
  have hv := hx.vbn
  unfold u32ok at hf hv
  refine call_z Try.func69 rfl Try.call69 Try.ntmps69 (by simp) ?_
  simp [encEnt]
  refine brB_split (fun c => ?_) (fun c => ?_) <;> simp at c
  · simp
    refine retQ_drop [.b x.okB] (.inr rfl) ?_ rfl (Keep.app _ _) ⟨rfl, rfl⟩
    simp [resL, resE, Try.results69, Ent.okB, c]
    rw [Bool.eq_iff_iff]; simp; omega
  · simp
    refine retQ_drop [.b x.okB] (.inr rfl) ?_ rfl (Keep.app _ _) ⟨rfl, rfl⟩
    simp [resL, resE, Try.results69, Ent.okB, c]
    rw [Bool.eq_iff_iff]; simp; omega

theorem right_spec (r : Rec) (hr : r.Ok) (h : Hp) : dcall Try.prog 18 [encRec r] h fun av h' => av = .b r.right ∧ h' = h := by
  obtain ⟨hr1, hr2, hr3, hr4, hr5⟩ := hr
  refine call_z Try.func18 rfl Try.call18 Try.ntmps18 (by simp) ?_
  simp [encRec, encRecL, encEnts]
  refine dcallV_fn (dcall.pure (isNumber_spec _ _) ?_)
  cases h1 : numOk r.seq
  · simp
    exact retQ_drop [.b r.right] (.inr rfl) (by simp [resL, resE, Try.results18, Rec.right, Rec.headOk, h1]) rfl (Keep.app _ _) ⟨rfl, rfl⟩
  simp
  refine dcallV_fn (dcall.pure (isNumber_spec _ _) ?_)
  simp
  refine brB_split (fun c => ?_) (fun c => ?_) <;> simp at c
  · simp
    refine retQ_drop [.b r.right] (.inr rfl) ?_ rfl (Keep.app _ _) ⟨rfl, rfl⟩
    have hf : r.headOk = false := by
      cases hh : r.headOk
      · rfl
      · exfalso
        simp [Rec.headOk] at hh
        obtain ⟨⟨⟨⟨⟨⟨a1, a2⟩, a3⟩, a4⟩, a5⟩, a6⟩, a7⟩ := hh
        rcases c with ((((c | c) | c) | c) | c) | c <;> first | omega | simp_all
    simp [resL, resE, Try.results18, Rec.right, hf]
  · obtain ⟨⟨⟨⟨⟨a2, a3⟩, a4⟩, a5⟩, a6⟩, a7⟩ := c
    have hf : r.headOk = true := by
      simp only [Rec.headOk, h1, a2, Bool.true_and, Bool.and_eq_true, decide_eq_true_eq, Bool.not_eq_true', decide_eq_false_iff_not]
      refine ⟨⟨⟨⟨a3, a4⟩, a5⟩, by omega⟩, ?_⟩
      cases he : r.ends <;> simp_all
    have hpos : 0 < r.l.length := List.length_pos_iff.2 a5
    simp
    refine loop_z (fun m fr h' => ∃ (i : Nat), m = r.l.length - i ∧ i ≤ r.l.length ∧ fr 53 = .i .i64 i ∧ fr 52 = .i .i64 r.l.length ∧ fr 51 = .lst r.l.length false (rows encEnt r.l) ∧ fr 1 = .ptr h.length 25 0 ∧ fr 3 = .i .i64 ((r.l.length : Int) - 1) ∧
      entsOk r.ends r.l = entsOk r.ends (r.l.drop i) ∧ h'[h.length]? = some (.cells 25 1 (encRecL r)) ∧ Keep h h') r.l.length ⟨0, by simp, by simp, by simp, by simp, by simp, by simp, by simp; rw [wrap_i64' (by omega)], rfl, by simp [encRecL, encEnts], Keep.app _ _⟩ ?_
    rintro m fr h' ⟨i, hm, hi, f53, f52, f51, f1, f3, hall, hbox, hk⟩
    have hbox' := get_app hbox
    simp [f53, f52]
    refine brB_split (fun c => ?_) (fun c => ?_) <;> simp at c
    · have hel := ents_get r.l i c
      have hx := hr4 r.l[i] (List.getElem_mem _)
      have hat := entsOk_at (ends := r.ends) c
      have hfit := rows_fit (ents_len r.l) c
      have hnew : ∀ x l, (h' ++ x :: l)[h'.length]? = some x := fun x l => by simp
      rw [ents_len] at hfit
      simp [f53, f52, f51, hel, c, ents_len, hfit, encEnt]
      refine dcallV_fn (dcall.pure (isEntry_spec r.l[i] hx _) ?_)
      cases h2 : r.l[i].okB
      · have hff : entsOk r.ends r.l = false := by rw [hall, hat, h2]; rfl
        simp [f1, f3, hbox', encRecL, encEnts]
        exact retQ_drop [.b r.right] (.inr rfl) (by simp [resL, resE, Try.results18, Rec.right, hff]) rfl (hk.of_app _) ⟨rfl, rfl⟩
      simp [hbox', encRecL, encEnts, f1, f3]
      refine brB_split (fun c1 => ?_) (fun c1 => ?_)
      · have hff : entsOk r.ends r.l = false := by
          rw [hall, hat, h2]
          generalize decide (r.l[i].kind = 5) = A at c1 ⊢
          generalize (r.ends && decide ((i : Int) = (r.l.length : Int) - 1)) = B at c1 ⊢
          cases A <;> cases B <;> simp_all
        simp
        exact retQ_drop [.b r.right] (.inr rfl) (by simp [resL, resE, Try.results18, Rec.right, hff]) rfl (hk.of_app _) ⟨rfl, rfl⟩
      · have hnx : entsOk r.ends r.l = entsOk r.ends (r.l.drop (i + 1)) := by
          rw [hall, hat, h2]
          generalize decide (r.l[i].kind = 5) = A at c1 ⊢
          generalize (r.ends && decide ((i : Int) = (r.l.length : Int) - 1)) = B at c1 ⊢
          cases A <;> cases B <;> simp_all
        simp [f1, f3, f53, f52, f51]
        refine ⟨r.l.length - (i + 1), by omega, i + 1, rfl, by omega, by rw [wrap_i64' (by omega)]; rfl, hnx, hbox' _, hk.of_app _⟩
    · have : i = r.l.length := by omega
      subst this
      have hT : entsOk r.ends r.l = true := by rw [hall]; simp [entsOk]
      simp
      exact retQ_drop [.b r.right] (.inr rfl) (by simp [resL, resE, Try.results18, Rec.right, hf, hT]) rfl hk ⟨rfl, rfl⟩
theorem refRight_spec (r : Rec) (hr : r.Ok) (h : Hp) : dcall Try.prog 19 [encRec r] h fun av h' => av = .b r.right ∧ h' = h := by
  obtain ⟨hr1, hr2, hr3, hr4, hr5⟩ := hr
  refine call_z Try.func19 rfl Try.call19 Try.ntmps19 (by simp) ?_
  simp [encRec, encRecL, encEnts]
  refine dcallV_fn (dcall.pure (refNumber_spec _ _) ?_)
  simp
  refine dcallV_fn (dcall.pure (refNumber_spec _ _) ?_)
  simp
  refine brB_split (fun c => ?_) (fun c => ?_) <;> simp at c
  · simp
    refine retQ_drop [.b r.right] (.inr rfl) ?_ rfl (Keep.app _ _) ⟨rfl, rfl⟩
    have hf : r.headOk = false := by
      cases hh : r.headOk
      · rfl
      · exfalso
        simp [Rec.headOk] at hh
        obtain ⟨⟨⟨⟨⟨⟨a1, a2⟩, a3⟩, a4⟩, a5⟩, a6⟩, a7⟩ := hh
        have a8 := List.length_pos_iff.2 a5
        rcases c with (((((c | c) | c) | c) | c) | c) | c <;> first | omega | simp_all
    simp [resL, resE, Try.results19, Rec.right, hf]
  · obtain ⟨⟨⟨⟨⟨⟨a1, a2⟩, a3⟩, a4⟩, a5⟩, a6⟩, a7⟩ := c
    have a5' : ¬ r.l = [] := fun e => by rw [e] at a5; simp at a5
    have hf : r.headOk = true := by
      simp only [Rec.headOk, a1, a2, Bool.true_and, Bool.and_eq_true, decide_eq_true_eq, Bool.not_eq_true', decide_eq_false_iff_not]
      refine ⟨⟨⟨⟨a3, a4⟩, a5'⟩, by omega⟩, ?_⟩
      cases he : r.ends <;> simp_all
    simp
    refine loop_z (fun m fr h' => ∃ (i : Nat), m = r.l.length - i ∧ i ≤ r.l.length ∧ fr 5 = .i .i64 i ∧ fr 1 = .ptr h.length 25 0 ∧
      entsOk r.ends r.l = entsOk r.ends (r.l.drop i) ∧ h'[h.length]? = some (.cells 25 1 (encRecL r)) ∧ Keep h h') r.l.length ⟨0, by simp, by simp, by simp, by simp, rfl, by simp [encRecL, encEnts], Keep.app _ _⟩ ?_
    rintro m fr h' ⟨i, hm, hi, f5, f1, hall, hbox, hk⟩
    simp [encRecL, encEnts] at hbox
    have hbox' := get_app hbox
    simp [f5, f1, hbox]
    refine brB_split (fun c => ?_) (fun c => ?_) <;> simp at c
    · have hel := ents_get r.l i c
      have hx := hr4 r.l[i] (List.getElem_mem _)
      have hat := entsOk_at (ends := r.ends) c
      have hfit := rows_fit (ents_len r.l) c
      rw [ents_len] at hfit
      have hw : IntKind.i64.wrap ((r.l.length : Int) - 1) = (r.l.length : Int) - 1 := wrap_i64' (by omega)
      have hel0 := ents_head r.l i c
      have hel1 := ents_at0 r.l i c
      simp [f5, f1, hbox, hw, hel, hel0, hel1, c, ents_len, hfit, encEnt]
      refine dcallV_fn (dcall.pure (refEntry_spec r.l[i] hx _) ?_)
      cases h2 : r.l[i].okB
      · have hff : entsOk r.ends r.l = false := by rw [hall, hat, h2]; rfl
        simp [f5, f1, hbox, hw, hel, hel0, hel1, c, ents_len, hfit, encEnt]
        exact retQ_drop [.b r.right] (.inr rfl) (by simp [resL, resE, Try.results19, Rec.right, hff]) rfl hk ⟨rfl, rfl⟩
      simp [f5, f1, hbox, hw, hel, hel0, hel1, c, ents_len, hfit, encEnt]
      refine brB_split (fun c1 => ?_) (fun c1 => ?_)
      · have hff : entsOk r.ends r.l = false := by
          rw [hall, hat, h2]
          generalize decide (r.l[i].kind = 5) = A at c1 ⊢
          generalize (r.ends && decide ((i : Int) = (r.l.length : Int) - 1)) = B at c1 ⊢
          cases A <;> cases B <;> simp_all
        simp
        exact retQ_drop [.b r.right] (.inr rfl) (by simp [resL, resE, Try.results19, Rec.right, hff]) rfl hk ⟨rfl, rfl⟩
      · have hnx : entsOk r.ends r.l = entsOk r.ends (r.l.drop (i + 1)) := by
          rw [hall, hat, h2]
          generalize decide (r.l[i].kind = 5) = A at c1 ⊢
          generalize (r.ends && decide ((i : Int) = (r.l.length : Int) - 1)) = B at c1 ⊢
          cases A <;> cases B <;> simp_all
        simp [f1, f5]
        exact ⟨r.l.length - (i + 1), by omega, i + 1, rfl, by omega, by rw [wrap_i64' (by omega)]; rfl, hnx, by rw [hbox]; simp [encRecL, encEnts], hk⟩
    · have : i = r.l.length := by omega
      subst this
      have hT : entsOk r.ends r.l = true := by rw [hall]; simp [entsOk]
      simp
      exact retQ_drop [.b r.right] (.inr rfl) (by simp [resL, resE, Try.results19, Rec.right, hf, hT]) rfl hk ⟨rfl, rfl⟩
end Go.M
