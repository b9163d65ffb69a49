/- The laws of layer 7, walked. -/
import Derived.Test.YtjplebfagohphaaWk
namespace Go.M
open Go Go.Proofs
set_option maxRecDepth 20000
set_option linter.unusedVariables false
set_option linter.unusedSimpArgs false
set_option linter.unnecessarySimpa false
attribute [local congr] ifV_congr ifC_congr ifE_congr ifG_congr ifB_congr ifH_congr brB_congr dz_congr wz_congr qz_congr dwp_congr dcallV_congr dcall_congr retQ_congr thenQ_congr inBlockQ_congr noGotoQ_congr
attribute [local simp] hold_eq hp_get_set zero_imax one_imax cv_str mk_arr empty_str str_append extract_str ifV_some ifV_none ifC_some ifC_none ifE_some ifE_none ifG_some ifB_b ifH_some brB_true brB_false pt_at fz_at putL_z putL_n guardZ dz_nil dz_plain dz_plain0 dz_guard wz_skip wz_label wz_exit wz_goto wz_ret wz_region wz_draw wz_seq wz_cond wz_block wz_scope wz_loop wz_range qz_nil qz_plan qz_quiet qz_quiet_g qz_turn qz_turn0 thenQ inBlockQ noGotoQ callV opE opW evO wh wa pickE st sts gds condsOf opV allocE boxE buildE fillE splice newE loadE ptrCells storeE AV.cells AV.ones AV.one nilCheckE eqE eqE.go binE intE strE unE convE upE uSliceE uStringE sliceE sliceParts bnd sliceFull fieldAddrE indexAddrE indexE extractE builtinE lenE minL maxL min_go2 max_go2 appendE srcCells sliceCells copyE makeSliceE makeMapE buildSliceE reps_zero' reps_one reps_two cv_bool cv_int cv_nilp cv_nils cv_nilm cv_nilf cv_nilIface min_i64 max_i64 min_u64 max_u64 min_u32 max_u32 min_u16 max_u16 min_u8 max_u8 hp_get0 hp_get hp_set0 hp_set ty0 ty1 ty2 ty3 ty4 ty5 ty6 ty7 ty8 ty9 ty10 ty11

theorem recordRooms_spec (a : Int) (ha : -9223372036854775808 ≤ a ∧ a ≤ 9223372036854775807) (h : Hp) : dcall Try.prog 6 [.i .i64 a] h fun av _ => av = .b true := by
  refine call_z Try.func6 rfl Try.call6 Try.ntmps6 (by simp) ?_
  simp
  refine dcallV_fn (dcall.pure (shown7_spec _) ?_)
  by_cases h1 : a < 0
  · have h2 : ¬ 0 < a := by omega
    simp [h1, h2]
    refine dcallV_fn (dcall.pure (room_spec a _) ?_)
    have e : roomN a = 0 := by rw [roomN, if_pos h1]
    simp [e]
    exact retQ_to [.b true] (.inr rfl) (by simp [resL, resE, Try.results6]) rfl
  by_cases h2 : 1099511627776 < a
  · have h3 : 0 < a := by omega
    simp [h1, h2, h3]
    exact retQ_to [.b true] (.inr rfl) (by simp [resL, resE, Try.results6]) rfl
  · simp [h1, h2]
    refine dcallV_fn (dcall.pure (room_spec a _) ?_)
    have w1 : IntKind.i64.wrap (a + 1) = a + 1 := wrap_i64' (by omega)
    simp [w1]
    refine dcallV_fn (dcall.pure (room_spec (a + 1) _) ?_)
    have e1 : roomN a = 15 - a % 16 := by rw [roomN, if_neg h1]
    have e2 : roomN (a + 1) = 15 - (a + 1) % 16 := by rw [roomN, if_neg (by omega)]
    have e3 : roomN (a + 16) = 15 - a % 16 := by rw [roomN, if_neg (by omega)]; omega
    have w2 : IntKind.i64.wrap (15 - a % 16 - 1) = 15 - a % 16 - 1 := wrap_i64' (by omega)
    have w3 : IntKind.i64.wrap (a + 16) = a + 16 := wrap_i64' (by omega)
    have g1 : (0 : Int) ≤ 15 - a % 16 := by omega
    have g2 : (15 : Int) - a % 16 < 16 := by omega
    by_cases h0 : a % 16 = 15
    · have g4 : (a + 1) % 16 = 0 := by omega
      simp [e1, e2, h0, g4, w3]
      refine dcallV_fn (dcall.pure (room_spec (a + 16) _) ?_)
      simp [e3, h0]
      exact retQ_to [.b true] (.inr rfl) (by simp [resL, resE, Try.results6]) rfl
    · have g3 : ¬ ((15 : Int) - a % 16 = 0) := by omega
      have g5 : (0 : Int) < 15 - a % 16 := by omega
      have g6 : (15 : Int) - (a + 1) % 16 = 15 - a % 16 - 1 := by omega
      rw [g6] at e2
      generalize 15 - a % 16 = N at *
      simp [e1, e2, g1, g2, g3, g5, w2, w3]
      refine dcallV_fn (dcall.pure (room_spec (a + 16) _) ?_)
      simp [e3]
      exact retQ_to [.b true] (.inr rfl) (by simp [resL, resE, Try.results6]) rfl

theorem recordWraps_spec (l b : List UInt8) (a : Int) (h : Hp) : dcall Try.prog 4 [.s (str l), .s (str b), .i .i64 a] h fun av _ => av = .b true := by
  refine call_z Try.func4 rfl Try.call4 Try.ntmps4 (by simp) ?_
  have e1 : ∃ x e, wrapR l = .tup [.s (str x), .i .i64 e] := by unfold wrapR; split <;> exact ⟨_, _, rfl⟩
  have e2 : ∃ x e, unwrapR b = .tup [.s (str x), .i .i64 e] := by unfold unwrapR; split <;> exact ⟨_, _, rfl⟩
  obtain ⟨x, e, e1⟩ := e1
  obtain ⟨y, f, e2⟩ := e2
  simp
  refine dcallV_fn (dcall.pure (shown7_spec _) ?_)
  simp
  refine dcallV_fn (dcall.pure (wrap_spec _ _) ?_)
  simp [e1]
  refine dcallV_fn (dcall.pure (refWrap_spec _ _) ?_)
  simp [e1]
  refine dcallV_fn (dcall.pure (unwrap_spec _ _) ?_)
  simp [e2]
  refine dcallV_fn (dcall.pure (refUnwrap_spec _ _) ?_)
  simp [e2]
  refine dcallV_fn (dcall.pure (room_spec _ _) ?_)
  simp
  refine dcallV_fn (dcall.pure (refRoom_spec _ _) ?_)
  simp
  exact retQ_to [.b true] (.inr rfl) (by simp [resL, resE, Try.results4]) rfl

theorem recordBack_spec (r : Rec) (hr : r.Ok) (l : List UInt8) (h : Hp) : dcall Try.prog 5 [encRec r, .s (str l)] h fun av _ => av = .b true := by
  refine dcall_str 1 rfl fun hl0 => ?_
  simp at hl0
  refine call_z Try.func5 rfl Try.call5 Try.ntmps5 (by simp) ?_
  simp [encRec, encRecL, encEnts]
  refine dcallV_fn (dcall.pure (shown7_spec _) ?_)
  simp
  refine dcallV_fn (dcall.pure (encode_spec r hr _) ?_)
  cases hR : r.right
  · have e1 : encodeR r = .tup [.s (str []), .i .i64 70] := by rw [encodeR, hR]; rfl
    simp [e1]
    refine dcallV_fn (dcall.pure (right_spec r hr _) ?_)
    simp [hR]
    exact retQ_to [.b true] (.inr rfl) (by simp [resL, resE, Try.results5]) rfl
  · have R := Rec.right_of hR
    have e1 : encodeR r = .tup [.s (str r.block), .i .i64 0] := by rw [encodeR, hR]; rfl
    have hb : r.block.length = 512 := by
      have := r.bytes_len; have := R.len
      simp [Rec.block]; omega
    have hT := decOk_block (b := []) r R
    have hmin : min (l.length : Int) 256 = ((min l.length 256 : Nat) : Int) := by omega
    have hk : min l.length 256 ≤ 256 := by omega
    have hk2 : min l.length 256 ≤ l.length := by omega
    generalize min l.length 256 = k at hmin hk hk2
    simp [e1, hb, hmin, hk2]
    refine draw_z [] (by kernel_rfl) (by kernel_rfl) ?_
    have w1 : IntKind.i64.wrap (256 + (k : Int)) = 256 + (k : Int) := wrap_i64' (by omega)
    have g1 : (256 + (k : Int)).toNat = 256 + k := by omega
    have g2 : 256 + k ≤ 512 := by omega
    have g0 : (0 : Int) ≤ 256 + (k : Int) := by omega
    have i1 : (256 : Int) + (k : Int) ≤ imax := by unfold imax; omega
    have g3 : min k l.length = k := by omega
    have i2 : (256 : Int) + (k : Int) + ((512 - (256 + k) : Nat) : Int) ≤ imax := by unfold imax; omega
    have hsl : r.sector.length = 256 := by
      have := r.bytes_len; have := R.len
      simp [Rec.sector]; omega
    have hc : (r.sector ++ (l.take k ++ r.block.drop (256 + k))).length = 512 := by simp [hsl, hb]; omega
    have hct : (r.sector ++ (l.take k ++ r.block.drop (256 + k))).take 256 = r.sector := by rw [List.take_left' hsl]
    obtain ⟨d1, d2⟩ := dec_back hr R hc hct
    have hd : decodeR (r.sector ++ (l.take k ++ r.block.drop (256 + k))) = .tup [encRec r, .i .i64 0] := by rw [decodeR, d1, d2]; rfl
    have i5 : (512 : Int) ≤ imax := by decide
    simp [hb, hmin, hk2, w1, g0, g1, g2, g3, i1, i2, i5, hT, hsl, List.take_of_length_le]
    refine dcallV_fn (dcall.pure (decode_spec _ _) ?_)
    simp [hd, encRec, encRecL, encEnts]
    refine dcallV_fn (dcall.pure (same_spec r r hr.len hr.len _) ?_)
    simp
    exact retQ_to [.b true] (.inr rfl) (by simp [resL, resE, Try.results5]) rfl

theorem recordBytes_spec (r : Rec) (hr : r.Ok) (l : List UInt8) (h : Hp) : dcall Try.prog 3 [encRec r, .s (str l)] h fun av _ => av = .b true := by
  have e1 : ∃ x e, encodeR r = .tup [.s (str x), .i .i64 e] := by unfold encodeR; split <;> exact ⟨_, _, rfl⟩
  have e2 : ∃ (q : Rec) (e : Int), q.Ok ∧ decodeR l = .tup [encRec q, .i .i64 e] := by
    unfold decodeR; split
    · exact ⟨_, _, decRec_ok l, rfl⟩
    · exact ⟨zeroRec, _, ⟨by simp [u64ok, zeroRec], by simp [u64ok, zeroRec], by simp [i64ok, zeroRec], fun x hx => by simp [zeroRec] at hx, by decide⟩, rfl⟩
  obtain ⟨x, e, e1⟩ := e1
  obtain ⟨q, f, hq, e2⟩ := e2
  refine call_z Try.func3 rfl Try.call3 Try.ntmps3 (by simp) ?_
  simp [encRec, encRecL, encEnts]
  refine dcallV_fn (dcall.pure (shown7_spec _) ?_)
  simp
  refine dcallV_fn (dcall.pure (encode_spec r hr _) ?_)
  simp [e1]
  refine dcallV_fn (dcall.pure (refEncode_spec r hr _) ?_)
  simp [e1]
  refine dcallV_fn (dcall.pure (decode_spec _ _) ?_)
  simp [e2, encRec, encRecL, encEnts]
  refine dcallV_fn (dcall.pure (refDecode_spec _ _) ?_)
  simp [e2, encRec, encRecL, encEnts]
  refine draw_z [] (by kernel_rfl) (by kernel_rfl) ?_
  simp
  refine drawC (v := .b r.right) (fun h => right_spec r hr h) (fun l => by first | rfl | simp) ?_
  refine drawC (v := .b r.right) (fun h => refRight_spec r hr h) (fun l => by first | rfl | simp) ?_
  simp
  refine drawC (v := .b true) (fun h => (same_spec q q hq.len hq.len h).mono fun av h' e => by simpa using e) (fun l => by first | rfl | simp) ?_
  simp
  exact retQ_to [.b true] (.inr rfl) (by simp [resL, resE, Try.results3]) rfl
end Go.M
