/- Comparing records; what is shown of layer 7. -/
import Derived.Test.YtjplebfagohphaaWj
import Derived.Test.YtjplebfagohphaaPt
namespace Go.M
open Go Go.Proofs
set_option maxRecDepth 20000
set_option linter.unusedVariables false
set_option linter.unusedSimpArgs false
set_option linter.unnecessarySimpa false
attribute [local congr] ifV_congr ifC_congr ifE_congr ifG_congr ifB_congr ifH_congr brB_congr dz_congr wz_congr qz_congr dwp_congr dcallV_congr dcall_congr retQ_congr thenQ_congr inBlockQ_congr noGotoQ_congr
attribute [local simp] hold_eq hp_get_set zero_imax one_imax cv_str mk_arr empty_str str_append extract_str ifV_some ifV_none ifC_some ifC_none ifE_some ifE_none ifG_some ifB_b ifH_some brB_true brB_false pt_at fz_at putL_z putL_n guardZ dz_nil dz_plain dz_plain0 dz_guard wz_skip wz_label wz_exit wz_goto wz_ret wz_region wz_draw wz_seq wz_cond wz_block wz_scope wz_loop wz_range qz_nil qz_plan qz_quiet qz_quiet_g qz_turn qz_turn0 thenQ inBlockQ noGotoQ callV opE opW evO wh wa pickE st sts gds condsOf opV allocE boxE buildE fillE splice newE loadE ptrCells storeE AV.cells AV.ones AV.one nilCheckE eqE eqE.go binE intE strE unE convE upE uSliceE uStringE sliceE sliceParts bnd sliceFull fieldAddrE indexAddrE indexE extractE builtinE lenE minL maxL min_go2 max_go2 appendE srcCells sliceCells copyE makeSliceE makeMapE buildSliceE reps_zero' reps_one reps_two cv_bool cv_int cv_nilp cv_nils cv_nilm cv_nilf cv_nilIface min_i64 max_i64 min_u64 max_u64 min_u32 max_u32 min_u16 max_u16 min_u8 max_u8 hp_get0 hp_get hp_set0 hp_set ty0 ty1 ty2 ty3 ty4 ty5 ty6 ty7 ty8 ty9 ty10 ty11

theorem same_spec (a b : Rec) (ha : (a.l.length : Int) ≤ 9223372036854775807) (hb : (b.l.length : Int) ≤ 9223372036854775807) (h : Hp) : dcall Try.prog 20 [encRec a, encRec b] h fun av h' => av = .b (decide (a = b)) ∧ h' = h := by
  refine call_z Try.func20 rfl Try.call20 Try.ntmps20 (by simp) ?_
  simp [encRec, encRecL, encEnts]
  refine brB_split (fun c => ?_) (fun c => ?_) <;> simp at c
  · have hn : decide (a = b) = false := by
      apply decide_eq_false
      rintro rfl
      simp at c
    simp
    exact retQ_drop [.b (decide (a = b))] (.inr rfl) (by simp [resL, resE, Try.results20, hn]) rfl (Keep.app _ _) ⟨rfl, rfl⟩
  · obtain ⟨⟨⟨⟨⟨c1, c2⟩, c3⟩, c4⟩, c5⟩, c6⟩ := c
    have hl : a.l.length = b.l.length := by omega
    simp
    refine loop_z (fun m fr h' => ∃ (i : Nat), m = a.l.length - i ∧ i ≤ a.l.length ∧ fr 5 = .i .i64 i ∧ fr 2 = .ptr h.length 25 0 ∧ fr 3 = .ptr (h.length + 1) 25 0 ∧ a.l.take i = b.l.take i ∧ h' = h ++ [.cells 25 1 (encRecL a), .cells 25 1 (encRecL b)]) a.l.length
      ⟨0, by simp, by simp, by simp, by simp, by simp, by simp, by simp [encRecL, encEnts]⟩ ?_
    rintro m fr h' ⟨i, hm, hi, f5, f2, f3, htk, rfl⟩
    simp [f5, f2, f3, encRecL, encEnts]
    refine brB_split (fun c => ?_) (fun c => ?_) <;> simp at c
    · have cb : i < b.l.length := by omega
      have e1 := ents_get a.l i c
      have e2 := ents_get b.l i cb
      have q1 := rows_fit (ents_len a.l) c
      have q2 := rows_fit (ents_len b.l) cb
      rw [ents_len] at q1 q2
      simp [f5, f2, f3, encRecL, encEnts]
      refine draw_z [] (by kernel_rfl) (by kernel_rfl) ?_
      simp [f5, f2, f3, c, cb, e1, e2, ents_len, q1, q2, encEnt]
      refine brB_split (fun c7 => ?_) (fun c7 => ?_)
      · have hn : decide (a = b) = false := by
          apply decide_eq_false
          rintro rfl
          simp at c7
        simp
        exact retQ_drop [.b (decide (a = b))] (.inr rfl) (by simp [resL, resE, Try.results20, hn]) rfl (Keep.app _ _) ⟨rfl, rfl⟩
      · have hx : a.l[i] = b.l[i] := by
          simp at c7
          cases hA : a.l[i]; cases hB : b.l[i]; simp_all
        simp [f5, f2, f3]
        refine ⟨a.l.length - (i + 1), by omega, i + 1, rfl, by omega, by rw [wrap_i64' (by omega)]; rfl, ?_⟩
        rw [List.take_succ_eq_append_getElem c, List.take_succ_eq_append_getElem cb, htk, hx]
    · have : i = a.l.length := by omega
      subst this
      have hll : a.l = b.l := by
        rw [List.take_length, hl, List.take_length] at htk; exact htk
      have hy : decide (a = b) = true := decide_eq_true (Rec.ext' c1 c2 c3 c4 c5 hll)
      simp
      exact retQ_drop [.b (decide (a = b))] (.inr rfl) (by simp [resL, resE, Try.results20, hy]) rfl (Keep.app _ _) ⟨rfl, rfl⟩

def firstRec : Rec := ⟨1, 1, false, false, 2, [⟨1, 3, 0, 5⟩]⟩
theorem firstRec_ok : firstRec.Ok := by
  refine ⟨by simp [u64ok, firstRec], by simp [u64ok, firstRec], by simp [i64ok, firstRec], ?_, by decide⟩
  intro x hx
  simp [firstRec] at hx
  subst hx
  exact ⟨by simp [i64ok], by simp [u32ok], by simp [u32ok], by simp [u32ok]⟩
theorem firstRec_right : firstRec.right = true := by decide

theorem first_spec (h : Hp) : dcall Try.prog 55 [] h fun av h' => av = encRec firstRec ∧ h' = h := by
  refine call_z Try.func55 rfl Try.call55 Try.ntmps55 (by simp) ?_
  simp
  exact retQ_dropLe [.agg [.i .u64 1, .i .u64 1, .b false, .b false, .i .i64 2, .lst 1 true [.i .i64 1, .i .u32 3, .i .u32 0, .i .u32 5]]] (encRec firstRec) (.inr rfl) (by simp [resL, resE, Try.results55])
    (.agg (.cons (.refl _) (.cons (.refl _) (.cons (.refl _) (.cons (.refl _) (.cons (.refl _) (.cons (.lst _ _ _) .nil))))))) (encRec_pure _) (Keep.app _ _) ⟨rfl, rfl⟩

theorem shown7_spec (h : Hp) : dcall Try.prog 13 [] h fun av h' => av = .b true ∧ h' = h := by
  have R := Rec.right_of firstRec_right
  have e1 : encodeR firstRec = .tup [.s (str firstRec.block), .i .i64 0] := by rw [encodeR, firstRec_right]; rfl
  have e2 : decodeR firstRec.block = .tup [encRec firstRec, .i .i64 0] := block_dec firstRec_ok R
  have e3 : wrapR [97, 98] = .tup [.s (str (wrapB [97, 98])), .i .i64 0] := by rw [wrapR, if_pos (by decide)]
  have e4 : unwrapR (wrapB [97, 98]) = .tup [.s (str ([97, 98] ++ List.replicate (508 - 2) 0)), .i .i64 0] := wrapB_un (by decide)
  have e5 : decodeR (wrapB [97, 98]) = .tup [encRec zeroRec, .i .i64 70] := by rw [decodeR, wrapB_no]; rfl
  refine call_z Try.func13 rfl Try.call13 Try.ntmps13 (by simp) ?_
  simp
  refine dcallV_fn (dcall.pure (first_spec _) ?_)
  simp
  refine dcallV_fn (dcall.pure (encode_spec _ firstRec_ok _) ?_)
  simp [e1]
  refine dcallV_fn (dcall.pure (decode_spec _ _) ?_)
  simp [e2, encRec, encRecL, encEnts]
  refine dcallV_fn (dcall.pure (wrap_spec _ _) ?_)
  simp [e3]
  refine dcallV_fn (dcall.pure (unwrap_spec _ _) ?_)
  simp [e4]
  refine dcallV_fn (dcall.pure (decode_spec _ _) ?_)
  simp [e5, encRec, encRecL, encEnts]
  refine draw_z [] (by kernel_rfl) (by kernel_rfl) ?_
  simp
  refine drawC (v := encRec firstRec) (fun h => first_spec h) (fun l => by first | rfl | simp) ?_
  refine drawC (v := .b true) (fun h => (same_spec firstRec firstRec (by decide) (by decide) h).mono fun av h' e => by simpa using e) (fun l => by first | rfl | simp) ?_
  simp [List.take_append]
  refine drawC (v := .i .i64 15) (fun h => (room_spec 16 h).mono fun av h' e => by simpa [roomN] using e) (fun l => by first | rfl | simp) ?_
  simp
  exact retQ_drop [.b true] (.inr rfl) (by simp [resL, resE, Try.results13]) rfl (Keep.app _ _) ⟨rfl, rfl⟩
end Go.M
