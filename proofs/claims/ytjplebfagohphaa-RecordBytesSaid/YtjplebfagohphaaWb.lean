/- Numbers as bytes and back, by the reference and by num: Bytes, isWidth, parts, Take. -/
import Derived.Test.YtjplebfagohphaaWa
namespace Go.M
open Go Go.Proofs
set_option maxRecDepth 20000
set_option linter.unusedVariables false
set_option linter.unusedSimpArgs false
set_option linter.unnecessarySimpa false
attribute [local congr] ifV_congr ifC_congr ifE_congr ifG_congr ifB_congr ifH_congr brB_congr dz_congr wz_congr qz_congr dwp_congr dcallV_congr dcall_congr retQ_congr thenQ_congr inBlockQ_congr noGotoQ_congr
attribute [local simp] hold_eq hp_get_set zero_imax one_imax cv_str mk_arr empty_str str_append extract_str ifV_some ifV_none ifC_some ifC_none ifE_some ifE_none ifG_some ifB_b ifH_some brB_true brB_false pt_at fz_at putL_z putL_n guardZ dz_nil dz_plain dz_plain0 dz_guard wz_skip wz_label wz_exit wz_goto wz_ret wz_region wz_draw wz_seq wz_cond wz_block wz_scope wz_loop wz_range qz_nil qz_plan qz_quiet qz_quiet_g qz_turn qz_turn0 thenQ inBlockQ noGotoQ callV opE opW evO wh wa pickE st sts gds condsOf opV allocE boxE buildE fillE splice newE loadE ptrCells storeE AV.cells AV.ones AV.one nilCheckE eqE eqE.go binE intE strE unE convE upE uSliceE uStringE sliceE sliceParts bnd sliceFull fieldAddrE indexAddrE indexE extractE builtinE lenE minL maxL min_go2 max_go2 appendE srcCells sliceCells copyE makeSliceE makeMapE buildSliceE reps_zero' reps_one reps_two cv_bool cv_int cv_nilp cv_nils cv_nilm cv_nilf cv_nilIface min_i64 max_i64 min_u64 max_u64 min_u32 max_u32 min_u16 max_u16 min_u8 max_u8 hp_get0 hp_get hp_set0 hp_set ty0 ty1 ty2 ty3 ty4 ty5 ty6 ty7 ty8 ty9 ty10 ty11

theorem refBytes_spec (n w : Int) (hn : 0 ≤ n ∧ n ≤ 18446744073709551615) (hw : w ≤ 1000) (h : Hp) :
    dcall Try.prog 100 [.i .u64 n, .i .i64 w] h fun av h' => av = .s (str (le w.toNat n)) ∧ h' = h := by
  refine call_z Try.func100 rfl Try.call100 Try.ntmps100 (by simp) ?_
  simp
  refine loop_z (fun m fr h' => ∃ (i : Nat) (nn : Int) (l : List UInt8), m = w.toNat - i ∧ i ≤ w.toNat ∧ fr 6 = .i .i64 i ∧ fr 1 = .i .i64 w ∧ fr 0 = .i .u64 nn ∧ (0 ≤ nn ∧ nn ≤ 18446744073709551615) ∧ l ++ le (w.toNat - i) nn = le w.toNat n ∧ l.length = i ∧
    ((i = 0 ∧ fr 5 = .nils ∧ h' = h) ∨ (0 < i ∧ ∃ v, fr 5 = .sl h.length v 0 i false ∧ h' = h ++ [.cells v 1 (l.map encB)] ∧ v % 4294967296 = 5))) w.toNat ⟨0, n, [], by simp, by simp, by simp, by simp, by simp, hn, by simp, rfl, .inl ⟨rfl, by simp, rfl⟩⟩ ?_
  rintro m fr h' ⟨i, nn, l, hm, hi, f6, f1, f0, hnn, hbs, hlen, hbuf⟩
  rcases hbuf with ⟨rfl, f5, rfl⟩ | ⟨hpos, v, f5, rfl, hv⟩
  · have hbs0 : l = [] := List.eq_nil_of_length_eq_zero hlen
    subst hbs0
    simp [f6, f1, f0, f5, reps, buildSliceE]
    refine brB_split (fun c => ?_) (fun c => ?_) <;> simp at c
    · have hr1 : (1 : Nat) ≤ room := by unfold room; omega
      simp [f6, f1, f0, f5, reps, buildSliceE, hr1]
      refine ⟨w.toNat - 1, by omega, 1, rfl, by omega, by rw [wrap_i64' (by omega)]; rfl, by rw [shr8 hnn.1]; omega, [UInt8.ofNat (nn % 256).toNat], ?_, rfl, by omega, 5, ⟨rfl, rfl⟩, ⟨rfl, ?_⟩, by decide⟩
      · rw [← hbs, shr8 hnn.1]; simp only [List.nil_append, Nat.sub_zero]; rw [le_step (w := w.toNat) (by omega) nn]; rfl
      · rw [wrap_u8', List.map_cons, encB_of _ (by omega) (by omega)]; rfl
    · have hw0 : w.toNat = 0 := by omega
      simp [f5, bytesOf]
      exact retQ_to [.s (str [])] (.inr rfl) (by simp [resL, resE, Try.results100]) ⟨by simp [results1, hw0, le], rfl⟩
  · have hrm : i + 1 ≤ room := by unfold room; omega
    have him : (i : Int) + 1 ≤ imax := by unfold imax; omega
    have hby : bytesOf (l.map encB) = some l := bytesOf_enc l
    simp [f6, f1]
    refine brB_split (fun c => ?_) (fun c => ?_) <;> simp at c
    · simp [f6, f1, f0, f5, reps, buildSliceE, hv, hlen, hrm, him, List.take_of_length_le]
      refine ⟨w.toNat - (i + 1), by omega, i + 1, rfl, by omega, by rw [wrap_i64' (by omega)]; rfl, by rw [shr8 hnn.1]; omega, l ++ [UInt8.ofNat (nn % 256).toNat], ?_, by simp [hlen], by omega, v + 4294967296, ⟨rfl, rfl⟩, ⟨rfl, ?_⟩, by omega⟩
      · rw [← hbs, shr8 hnn.1, le_step (w := w.toNat - i) (by omega) nn, show w.toNat - (i + 1) = w.toNat - i - 1 by omega]; simp
      · rw [wrap_u8', List.map_append, List.map_cons, encB_of _ (by omega) (by omega)]; rfl
    · have hwi : w.toNat - i = 0 := by omega
      rw [hwi] at hbs
      simp only [le, List.append_nil] at hbs
      simp [f5, hlen, List.take_of_length_le, hby]
      exact retQ_drop [.s (str l)] (.inr rfl) (by simp [resL, resE, Try.results100]) rfl (fun i x hx => get_ext _ hx) ⟨by simp [results1, hbs], rfl⟩

theorem isWidth_spec (n : Int) (h : Hp) : dcall Try.prog 96 [.i .i64 n] h fun av h' => av = .b (decide (1 ≤ n) && decide (n ≤ 8)) ∧ h' = h := by
  refine call_z Try.func96 rfl Try.call96 Try.ntmps96 (by simp) ?_
  simp
  exact retQ_to [.b (decide (1 ≤ n) && decide (n ≤ 8))] (.inr rfl) (by simp [resL, resE, Try.results96]) ⟨rfl, rfl⟩

theorem parts_spec (n w : Int) (h : Hp) : dcall Try.prog 97 [.i .u64 n, .i .i64 w] h fun av h' => av = .fn 115 [] [.ptr (h.length + 1) 3 0, .ptr h.length 22 0] ∧ h' = h ++ [.cells 22 1 [.i .u64 n], .cells 3 1 [.i .i64 w]] := by
  refine call_z Try.func97 rfl Try.call97 Try.ntmps97 (by simp) ?_
  simp
  exact retQ_to [.fn 115 [] [.ptr (h.length + 1) 3 0, .ptr h.length 22 0]] (.inr rfl) (by simp [resL, resE, Try.results97]) ⟨rfl, rfl⟩

theorem parts1_spec (y : AV) (wb nb : Nat) (n w : Int) (hn : 0 ≤ n ∧ n ≤ 18446744073709551615) (hw : 0 ≤ w ∧ w ≤ 1000) (h : Hp) (J : Nat → Int → Hp → Prop) (h0 : J 0 n h) (hwb : h[wb]? = some (.cells 3 1 [.i .i64 w]))
    (hbox : ∀ i nn h', J i nn h' → h'[nb]? = some (.cells 22 1 [.i .u64 nn]))
    (step : ∀ i nn h', i < w.toNat → 0 ≤ nn ∧ nn ≤ 18446744073709551615 → J i nn h' → dcallV Try.prog y [.i .u8 (nn % 256), .i .u64 (nn / 256)] (h'.set nb (.cells 22 1 [.i .u64 (nn / 256)])) fun av h2 => av = .b true ∧ J (i + 1) (nn / 256) h2) :
    dcall Try.prog 115 [y, .ptr wb 3 0, .ptr nb 22 0] h fun av h' => ∃ nn, J w.toNat nn h' := by
  refine call_z Try.func115 rfl Try.call115 Try.ntmps115 (by simp) ?_
  simp [hwb]
  refine loop_z (fun m fr h' => ∃ (i : Nat) (nn : Int), m = w.toNat - i ∧ i ≤ w.toNat ∧ fr 6 = .i .i64 i ∧ fr 5 = .i .i64 w ∧ fr 0 = y ∧ fr 2 = .ptr nb 22 0 ∧ (0 ≤ nn ∧ nn ≤ 18446744073709551615) ∧ J i nn h') w.toNat ?_ ?_
  · refine ⟨0, n, by simp, by simp, ?_, ?_, ?_, ?_, hn, h0⟩
    · simp
    · simp
    · simp
    · simp
  rintro m fr h' ⟨i, nn, hm, hi, f6, f5, f0, f2, hnn, hJ⟩
  have hb := hbox _ _ _ hJ
  simp [f6, f5]
  refine brB_split (fun c => ?_) (fun c => ?_) <;> simp at c
  · simp [f6, f5, f0, f2, hb, wrap_u8', shr8 hnn.1]
    refine (step i nn h' (by omega) hnn hJ).mono ?_
    rintro av h2 ⟨rfl, hJ2⟩
    simp [f6, f5, f0, f2]
    exact ⟨w.toNat - (i + 1), by omega, i + 1, rfl, by omega, by rw [wrap_i64' (by omega)]; rfl, nn / 256, by omega, hJ2⟩
  · have : i = w.toNat := by omega
    subst this
    simp
    exact retQ_to [] (.inl rfl) (by simp [resL, resE, Try.results115]) ⟨nn, hJ⟩
end Go.M
