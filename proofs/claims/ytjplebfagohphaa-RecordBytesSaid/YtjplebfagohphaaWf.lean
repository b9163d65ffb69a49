/- record: blocks, places, flags. -/
import Derived.Test.YtjplebfagohphaaWe
namespace Go.M
open Go Go.Proofs
set_option maxRecDepth 20000
set_option linter.unusedVariables false
set_option linter.unusedSimpArgs false
set_option linter.unnecessarySimpa false
attribute [local congr] ifV_congr ifC_congr ifE_congr ifG_congr ifB_congr ifH_congr brB_congr dz_congr wz_congr qz_congr dwp_congr dcallV_congr dcall_congr retQ_congr thenQ_congr inBlockQ_congr noGotoQ_congr
attribute [local simp] hold_eq hp_get_set zero_imax one_imax cv_str mk_arr empty_str str_append extract_str ifV_some ifV_none ifC_some ifC_none ifE_some ifE_none ifG_some ifB_b ifH_some brB_true brB_false pt_at fz_at putL_z putL_n guardZ dz_nil dz_plain dz_plain0 dz_guard wz_skip wz_label wz_exit wz_goto wz_ret wz_region wz_draw wz_seq wz_cond wz_block wz_scope wz_loop wz_range qz_nil qz_plan qz_quiet qz_quiet_g qz_turn qz_turn0 thenQ inBlockQ noGotoQ callV opE opW evO wh wa pickE st sts gds condsOf opV allocE boxE buildE fillE splice newE loadE ptrCells storeE AV.cells AV.ones AV.one nilCheckE eqE eqE.go binE intE strE unE convE upE uSliceE uStringE sliceE sliceParts bnd sliceFull fieldAddrE indexAddrE indexE extractE builtinE lenE minL maxL min_go2 max_go2 appendE srcCells sliceCells copyE makeSliceE makeMapE buildSliceE reps_zero' reps_one reps_two cv_bool cv_int cv_nilp cv_nils cv_nilm cv_nilf cv_nilIface min_i64 max_i64 min_u64 max_u64 min_u32 max_u32 min_u16 max_u16 min_u8 max_u8 hp_get0 hp_get hp_set0 hp_set ty0 ty1 ty2 ty3 ty4 ty5 ty6 ty7 ty8 ty9 ty10 ty11

theorem wrap_spec (l : List UInt8) (h : Hp) : dcall Try.prog 21 [.s (str l)] h fun av h' => av = wrapR l ∧ h' = h := by
  refine call_z Try.func21 rfl Try.call21 Try.ntmps21 (by simp) ?_
  simp
  refine brB_split (fun c => ?_) (fun c => ?_) <;> simp at c
  · have hn : ¬ l.length ≤ 508 := by omega
    simp
    exact retQ_to [.s (str []), .i .i64 70] (.inr rfl) (by simp [resL, resE, Try.results21]) ⟨by rw [wrapR, if_neg hn]; rfl, rfl⟩
  · have e1 : (4 : Int) + (l.length : Int) ≤ imax := by unfold imax; omega
    have e2 : ((l.length + 4 : Nat) : Int) ≤ imax := by unfold imax; omega
    have e3 : (l.length : Int) + 4 ≤ imax := by unfold imax; omega
    simp [e1, e2, e3]
    refine dcallV_fn (dcall.pure (fit_spec _ _ _) ?_)
    have hf : (([80, 0, 0, 0] ++ l).length : Int) ≤ 512 ∧ (512 : Int) ≤ 65536 := by simp; omega
    have hb : ([80, 0, 0, 0] ++ l) ++ List.replicate ((512 : Int).toNat - ([80, 0, 0, 0] ++ l).length) 0 = wrapB l := by
      simp [wrapB, wrapped]
    have hR : fitR ([80, 0, 0, 0] ++ l) 512 = .tup [.s (str (wrapB l)), .i .i64 0] := by rw [fitR, if_pos hf, hb]
    simp [show fitR (80 :: 0 :: 0 :: 0 :: l) 512 = .tup [.s (str (wrapB l)), .i .i64 0] from hR]
    exact retQ_to [.s (str (wrapB l)), .i .i64 0] (.inr rfl) (by simp [resL, resE, Try.results21]) ⟨by rw [wrapR, if_pos (by omega)]; rfl, rfl⟩

theorem refWrap_spec (l : List UInt8) (h : Hp) : dcall Try.prog 22 [.s (str l)] h fun av h' => av = wrapR l ∧ h' = h := by
  refine call_z Try.func22 rfl Try.call22 Try.ntmps22 (by simp) ?_
  simp
  refine brB_split (fun c => ?_) (fun c => ?_) <;> simp at c
  · have hn : ¬ l.length ≤ 508 := by omega
    simp
    exact retQ_to [.s (str []), .i .i64 70] (.inr rfl) (by simp [resL, resE, Try.results22]) ⟨by rw [wrapR, if_neg hn]; rfl, rfl⟩
  · have e1 : (4 : Int) + (l.length : Int) ≤ imax := by unfold imax; omega
    have e3 : (l.length : Int) + 4 ≤ imax := by unfold imax; omega
    have e4 : IntKind.i64.wrap (508 - (l.length : Int)) = 508 - (l.length : Int) := wrap_i64' (by omega)
    have e5 : (0 : Int) ≤ 508 - (l.length : Int) := by omega
    have e6 : (508 : Int) - (l.length : Int) ≤ 281474976710656 := by omega
    have e7 : ((508 : Int) - (l.length : Int)).toNat = 508 - l.length := by omega
    have e8 : (l.length : Int) + 4 + ((508 - l.length : Nat) : Int) ≤ imax := by unfold imax; omega
    have hby : bytesOf (reps (508 - l.length) [AV.i .u8 0]) = some (List.replicate (508 - l.length) 0) := by rw [rep_zero, bytesOf_enc]
    have hla : (reps (508 - l.length) [AV.i .u8 0]).length = 508 - l.length := by rw [rep_zero]; simp
    have e9 : (l.length : Int) + 1 + 1 + 1 + 1 + ((508 - l.length : Nat) : Int) ≤ imax := by unfold imax; omega
    simp [c, e1, e3, e4, e5, e6, e7, e8, e9, hby, hla, List.take_of_length_le]
    exact retQ_drop [.s (str (wrapB l)), .i .i64 0] (.inr rfl) (by simp [resL, resE, Try.results22, wrapB, wrapped]) rfl (Keep.app _ _) ⟨by rw [wrapR, if_pos (by omega)]; rfl, rfl⟩

theorem hasPrefix0_spec (l p : List UInt8) (h : Hp) : dcall Try.prog 117 [.s (str l), .s (str p)] h fun av h' => av = .b (hpB l p) ∧ h' = h := by
  refine call_z Try.func117 rfl Try.call117 Try.ntmps117 (by simp) ?_
  by_cases hl : p.length ≤ l.length
  · simp [hl]
    exact retQ_to [.b (hpB l p)] (.inr rfl) (by simp [resL, resE, Try.results117, hpB, hl]) ⟨rfl, rfl⟩
  · simp [hl]
    exact retQ_to [.b (hpB l p)] (.inr rfl) (by simp [resL, resE, Try.results117, hpB, hl]) ⟨rfl, rfl⟩

theorem cutPrefix0_spec (l p : List UInt8) (h : Hp) : dcall Try.prog 104 [.s (str l), .s (str p)] h fun av h' => av = .tup [.s (str (if hpB l p then l.drop p.length else l)), .b (hpB l p)] ∧ h' = h := by
  refine call_z Try.func104 rfl Try.call104 Try.ntmps104 (by simp) ?_
  simp
  refine dcallV_fn (dcall.pure (hasPrefix0_spec _ _ _) ?_)
  cases hh : hpB l p
  · simp
    exact retQ_to [.s (str l), .b false] (.inr rfl) (by simp [resL, resE, Try.results104]) ⟨rfl, rfl⟩
  · have hl : p.length ≤ l.length := by simp [hpB] at hh; exact hh.1
    simp [hl, List.take_of_length_le]
    exact retQ_to [.s (str (l.drop p.length)), .b true] (.inr rfl) (by simp [resL, resE, Try.results104]) ⟨rfl, rfl⟩

theorem cutPrefix_spec (l p : List UInt8) (h : Hp) : dcall Try.prog 70 [.s (str l), .s (str p)] h fun av h' => av = .tup [.s (str (if hpB l p then l.drop p.length else l)), .b (hpB l p)] ∧ h' = h := by
  refine call_z Try.func70 rfl Try.call70 Try.ntmps70 (by simp) ?_
  simp
  refine dcallV_fn (dcall.pure (cutPrefix0_spec _ _ _) ?_)
  simp
  exact retQ_to [.s (str (if hpB l p then l.drop p.length else l)), .b (hpB l p)] (.inr rfl) (by simp [resL, resE, Try.results70]) ⟨rfl, rfl⟩

theorem unwrap_spec (l : List UInt8) (h : Hp) : dcall Try.prog 23 [.s (str l)] h fun av h' => av = unwrapR l ∧ h' = h := by
  refine call_z Try.func23 rfl Try.call23 Try.ntmps23 (by simp) ?_
  simp
  refine dcallV_fn (dcall.pure (cutPrefix_spec _ _ _) ?_)
  have e1 : ((l.length : Int) = 512) = (l.length = 512) := by simp; omega
  cases hh : hpB l [80, 0, 0, 0]
  · have hu : unwrapOk l = false := by
      simp [hpB] at hh
      rw [unwrapOk, wrapped, Bool.and_eq_false_iff]
      by_cases hl : l.length = 512
      · exact .inr (decide_eq_false (hh (by omega)))
      · exact .inl (decide_eq_false hl)
    simp
    exact retQ_to [.s (str []), .i .i64 70] (.inr rfl) (by simp [resL, resE, Try.results23]) ⟨by rw [unwrapR, hu]; rfl, rfl⟩
  · have h1 : l.take 4 = wrapped := by simp [hpB] at hh; exact hh.2
    by_cases hl : l.length = 512
    · have hu : unwrapOk l = true := by simp [unwrapOk, hl, h1]
      simp [hl]
      exact retQ_to [.s (str (l.drop 4)), .i .i64 0] (.inr rfl) (by simp [resL, resE, Try.results23]) ⟨by rw [unwrapR, hu]; rfl, rfl⟩
    · have hu : unwrapOk l = false := by simp [unwrapOk, hl]
      have hl2 : ¬ ((l.length : Int) = 512) := by omega
      simp [hl2]
      exact retQ_to [.s (str []), .i .i64 70] (.inr rfl) (by simp [resL, resE, Try.results23]) ⟨by rw [unwrapR, hu]; rfl, rfl⟩

theorem refUnwrap_spec (l : List UInt8) (h : Hp) : dcall Try.prog 24 [.s (str l)] h fun av h' => av = unwrapR l ∧ h' = h := by
  refine call_z Try.func24 rfl Try.call24 Try.ntmps24 (by simp) ?_
  by_cases hl : l.length = 512
  · cases hh : decide (l.take 4 = [80, 0, 0, 0])
    · have hu : unwrapOk l = false := by unfold unwrapOk wrapped; rw [hh]; simp
      simp [hl, hh]
      exact retQ_to [.s (str []), .i .i64 70] (.inr rfl) (by simp [resL, resE, Try.results24]) ⟨by rw [unwrapR, hu]; rfl, rfl⟩
    · have hu : unwrapOk l = true := by unfold unwrapOk wrapped; rw [hh]; simp [hl]
      have hla : List.take 508 (l.drop 4) = l.drop 4 := List.take_of_length_le (by simp; omega)
      simp [hl, hh, hla]
      exact retQ_to [.s (str (l.drop 4)), .i .i64 0] (.inr rfl) (by simp [resL, resE, Try.results24]) ⟨by rw [unwrapR, hu]; rfl, rfl⟩
  · have hu : unwrapOk l = false := by simp [unwrapOk, hl]
    have hl2 : ¬ ((l.length : Int) = 512) := by omega
    by_cases h4 : 4 ≤ l.length
    · simp [hl2, h4]
      exact retQ_to [.s (str []), .i .i64 70] (.inr rfl) (by simp [resL, resE, Try.results24]) ⟨by rw [unwrapR, hu]; rfl, rfl⟩
    · simp [hl2, h4]
      exact retQ_to [.s (str []), .i .i64 70] (.inr rfl) (by simp [resL, resE, Try.results24]) ⟨by rw [unwrapR, hu]; rfl, rfl⟩

theorem room_spec (a : Int) (h : Hp) : dcall Try.prog 25 [.i .i64 a] h fun av h' => av = .i .i64 (roomN a) ∧ h' = h := by
  refine call_z Try.func25 rfl Try.call25 Try.ntmps25 (by simp) ?_
  simp
  refine brB_split (fun c => ?_) (fun c => ?_) <;> simp at c
  · simp
    exact retQ_to [.i .i64 (roomN a)] (.inr rfl) (by simp [resL, resE, Try.results25, roomN, c]) ⟨rfl, rfl⟩
  · have e1 : a.tmod 16 = a % 16 := Int.tmod_eq_emod_of_nonneg c
    have e2 : IntKind.i64.wrap (16 - a % 16) = 16 - a % 16 := wrap_i64' (by omega)
    have e3 : IntKind.i64.wrap (16 - a % 16 - 1) = 16 - a % 16 - 1 := wrap_i64' (by omega)
    simp [e1, e2, e3]
    exact retQ_to [.i .i64 (roomN a)] (.inr rfl) (by simp [resL, resE, Try.results25, roomN, show ¬ a < 0 by omega]; omega) ⟨rfl, rfl⟩

theorem refRoom_spec (a : Int) (h : Hp) : dcall Try.prog 26 [.i .i64 a] h fun av h' => av = .i .i64 (roomN a) ∧ h' = h := by
  refine call_z Try.func26 rfl Try.call26 Try.ntmps26 (by simp) ?_
  simp
  refine brB_split (fun c => ?_) (fun c => ?_) <;> simp at c
  · simp
    exact retQ_to [.i .i64 (roomN a)] (.inr rfl) (by simp [resL, resE, Try.results26, roomN, c]) ⟨rfl, rfl⟩
  · have e1 : a.tmod 16 = a % 16 := Int.tmod_eq_emod_of_nonneg c
    have e2 : IntKind.i64.wrap (15 - a % 16) = 15 - a % 16 := wrap_i64' (by omega)
    simp [e1, e2]
    exact retQ_to [.i .i64 (roomN a)] (.inr rfl) (by simp [resL, resE, Try.results26, roomN, show ¬ a < 0 by omega]) ⟨rfl, rfl⟩

theorem flag_spec (r : Rec) (h : Hp) : dcall Try.prog 59 [encRec r] h fun av h' => av = .i .u64 r.flagN ∧ h' = h := by
  refine call_z Try.func59 rfl Try.call59 Try.ntmps59 (by simp) ?_
  simp [encRec, encRecL, encEnts]
  cases h1 : r.ends
  · cases h2 : r.sync
    · simp
      exact retQ_drop [.i .u64 r.flagN] (.inr rfl) (by simp [resL, resE, Try.results59, Rec.flagN, h1, h2]) rfl (Keep.app _ _) ⟨rfl, rfl⟩
    · simp
      exact retQ_drop [.i .u64 r.flagN] (.inr rfl) (by simp [resL, resE, Try.results59, Rec.flagN, h1, h2]) rfl (Keep.app _ _) ⟨rfl, rfl⟩
  · simp
    exact retQ_drop [.i .u64 r.flagN] (.inr rfl) (by simp [resL, resE, Try.results59, Rec.flagN, h1]) rfl (Keep.app _ _) ⟨rfl, rfl⟩
end Go.M
