/- The reference's Split. -/
import Derived.Test.YtjnpfhihefchoaaDoorXd
namespace Go.M
open Go Go.Proofs
set_option maxRecDepth 20000
set_option linter.unusedVariables false
set_option linter.unusedSimpArgs false
set_option linter.unnecessarySimpa false
attribute [local congr] ifV_congr ifC_congr ifE_congr ifG_congr ifB_congr ifH_congr brB_congr dz_congr wz_congr qz_congr dwp_congr dcallV_congr dcall_congr retQ_congr thenQ_congr inBlockQ_congr noGotoQ_congr
attribute [local simp] hold_eq hp_get_set zero_imax one_imax cv_str mk_arr empty_str str_append extract_str ifV_some ifV_none ifC_some ifC_none ifE_some ifE_none ifG_some ifB_b ifH_some brB_true brB_false pt_at fz_at putL_z putL_n guardZ dz_nil dz_plain dz_plain0 dz_guard wz_skip wz_label wz_exit wz_goto wz_ret wz_region wz_draw wz_seq wz_cond wz_block wz_scope wz_loop wz_range qz_nil qz_plan qz_quiet qz_quiet_g qz_turn qz_turn0 hsAt thenQ inBlockQ noGotoQ callV opE opW evO wh wa pickE st sts gds condsOf opV allocE boxE buildE fillE splice newE loadE ptrCells storeE AV.cells AV.ones AV.one nilCheckE eqE eqE.go binE intE strE unE convE upE uSliceE uStringE sliceE sliceParts bnd sliceFull fieldAddrE indexAddrE indexE extractE builtinE lenE minL maxL min_go2 max_go2 appendE srcCells sliceCells copyE makeSliceE makeMapE buildSliceE reps_zero' reps_one reps_two cv_bool cv_int cv_nilp cv_nils cv_nilm cv_nilf cv_nilIface min_i64 max_i64 min_u64 max_u64 min_u32 max_u32 min_u16 max_u16 min_u8 max_u8 hp_get0 hp_get hp_set0 hp_set ty0 ty1 ty2 ty3 ty4 ty5

def splitR (s : List UInt8) : AV := match splitO s with
  | some l => .tup [encStrs l, .i .i64 0]
  | none => .tup [encStrs [], .i .i64 120]
theorem splitR_none {s : List UInt8} (h : splitO s = none) : splitR s = .tup [encStrs [], .i .i64 120] := by rw [splitR, h]
theorem splitR_some {s : List UInt8} {l : List (List UInt8)} (h : splitO s = some l) : splitR s = .tup [encStrs l, .i .i64 0] := by rw [splitR, h]

theorem lens_le (l : List (List UInt8)) : l.length ≤ lensP l := by
  induction l with
  | nil => simp
  | cons p r ih => simp [lensP] at ih ⊢; omega
theorem spA_count (s : List UInt8) : (spA [] s).length ≤ s.length + 1 := by
  have h1 := lens_le (spA [] s)
  rw [spA_len] at h1
  simpa using h1

/-- A list of texts that lies at or behind n, in a row of its own. -/
def OwnL (n : Nat) (H : Hp) (out : List (List UInt8)) (x : AV) : Prop :=
  (out = [] ∧ x = .nils) ∨ ∃ id v full cs, n ≤ id ∧ x = .sl id v 0 out.length full ∧ H[id]? = some (.cells v 1 cs) ∧ cs.take out.length = rows encS out ∧ out.length ≤ cs.length ∧ v % 4294967296 = 9

theorem nil_le (e : AV) : AVle (.tup [.nils, e]) (.tup [encStrs [], e]) := .tup (.cons (.nils _) (.cons (.refl _) .nil))

/-- A row that is handed back, and said less of. -/
theorem retQ_frzLe (rs : List AV) (av : AV) {P : Program} {fn : Func} {h0 h : Hp} {R : AV → Hp → Prop} {e : Exit} {fr : Fr} (id ver esz : Nat) (cs : List AV) (he : e = .normal ∨ e = .ret) (hr : resL P h fr fn.results.toList = some rs) (hid : h[id]? = some (.cells ver esz cs)) (hge : h0.length ≤ id)
    (hle : AVle ((results1 rs).frz id ver esz cs) av) (hp : av.pure = true) (hk : Keep h0 h) (hR : R av h0) : retQ P fn h0 R e fr h := by
  have hk' : Keep h0 (h.set id .dead) := hk.set hge _
  have e1 : h.set id .dead = h0 ++ (h.set id .dead).drop h0.length := by
    apply List.ext_getElem?
    intro i
    rcases Nat.lt_or_ge i h0.length with h1 | h1
    · rw [List.getElem?_append_left h1]
      have := List.getElem?_eq_getElem h1
      rw [hk' i _ this, this]
    · rw [List.getElem?_append_right h1, List.getElem?_drop, show h0.length + (i - h0.length) = i by omega]
  refine ⟨he, rs, av, h0, hr, (Sink.freeze id ver esz cs hid).trans ((Sink.le hle).trans ?_), hR⟩
  rw [e1]
  exact Sink.drop _ hp

theorem split_end {n : Nat} {H : Hp} {out : List (List UInt8)} {x : AV} (o : OwnL n H out x) (h : Hp) (hn : h.length ≤ n) (hk : Keep h H) {P : Program} {fn : Func} {R : AV → Hp → Prop} {fr : Fr} (hr : resL P H fr fn.results.toList = some [x, .i .i64 0])
    (hR : R (.tup [encStrs out, .i .i64 0]) h) : retQ P fn h R .ret fr H := by
  rcases o with ⟨rfl, rfl⟩ | ⟨id, v, full, cs, hge, rfl, hid, htk, hle, hv⟩
  · exact retQ_dropLe [.nils, .i .i64 0] (.tup [encStrs [], .i .i64 0]) (.inr rfl) hr (nil_le _) (by simp [AV.pure, AV.pures, strs_pure]) hk hR
  · have e : AV.frz id v 1 cs (results1 [AV.sl id v 0 out.length full, .i .i64 0]) = .tup [.lst out.length full (rows encS out), .i .i64 0] := by simp [results1, AV.frz, AV.frzs, hle, htk]
    exact retQ_frzLe [.sl id v 0 out.length full, .i .i64 0] (.tup [encStrs out, .i .i64 0]) id v 1 cs (.inr rfl) hr hid (by omega) (by rw [e]; exact .tup (.cons (.lst _ _ _) (.cons (.refl _) .nil))) (by simp [AV.pure, AV.pures, strs_pure]) hk hR

theorem refSplit_spec (s : List UInt8) (h : Hp) : dcall Tryd.prog 9 [.s (str s)] h fun av h' => av = splitR s ∧ h' = h := by
  refine call_z Tryd.func9 rfl Tryd.call9 Tryd.ntmps9 (by simp) ?_
  rcases s with _ | ⟨c0, s0⟩
  · have hn : splitO [] = none := by decide
    simp
    exact retQ_dropLe [.nils, .i .i64 120] _ (.inr rfl) (by simp [resL, resE, Tryd.results9]) (nil_le _) (by simp [AV.pure, AV.pures, strs_pure]) (Keep.refl _) ⟨(splitR_none hn).symm, rfl⟩
  generalize hs : c0 :: s0 = s
  have hpos : 0 < s.length := by rw [← hs]; simp
  have hz : ¬ ((s.length : Int) = 0) := by omega
  have hb : bt (str s) 0 = (c0.toNat : Int) := by rw [← hs]; rfl
  have hh : s.head? = some c0 := by rw [← hs]; rfl
  have hne : ¬ s = [] := by rw [← hs]; simp
  have hrm : ∀ k : Nat, k ≤ 3000 → k * 16 ≤ room := fun k hk => by unfold room; omega
  simp [hpos, hz, hb, hne]
  refine brB_split (fun c => ?_) (fun c => ?_) <;> simp at c
  · have hn : splitO s = none := by
      refine if_pos ?_
      rcases c with c | c
      · exact .inl (by omega)
      · refine .inr (fun e => ?_)
        rw [hh] at e
        cases e
        exact c rfl
    simp
    exact retQ_dropLe [.nils, .i .i64 120] _ (.inr rfl) (by simp [resL, resE, Tryd.results9]) (nil_le _) (by simp [AV.pure, AV.pures, strs_pure]) (Keep.refl _) ⟨(splitR_none hn).symm, rfl⟩
  have hlen : s.length ≤ 1000 := by omega
  have h47 : c0 = 47 := (u8_slash c0).1 c.2
  have hsp : splitO s = fitO (fld [] (spA [] s)) := by
    refine if_neg ?_
    rw [hh, h47]
    simp
    omega
  have hcnt := spA_count s
  simp
  refine dcallV_fn (dcall.pure (refPieces_spec s (by omega) _) ?_)
  simp
  generalize hL : spA [] s = L at *
  refine loop_z (fun m fr h' => ∃ (i : Nat) (out : List (List UInt8)) (x : AV), m = L.length - i ∧ i ≤ L.length ∧ fr 6 = .i .i64 i ∧ fr 5 = encStrs L ∧ fr 4 = x ∧ out.length ≤ i ∧ fld [] L = fld out (L.drop i) ∧ OwnL h.length h' out x ∧ Keep h h') L.length
    ⟨0, [], .nils, by simp, by simp, by simp, by simp, by simp, by simp, by simp, .inl ⟨rfl, rfl⟩, Keep.refl _⟩ ?_
  rintro m fr h' ⟨i, out, x, hm, hi, f6, f5, f4, ho, hfld, hown, hk⟩
  simp [f6, f5, encStrs]
  refine brB_split (fun c => ?_) (fun c => ?_) <;> simp at c
  · have e1 := strs_get L i c
    rw [List.drop_eq_getElem_cons c] at hfld
    simp [f6, f5, encStrs, c, e1, strs_len]
    refine brB_split (fun c1 => ?_) (fun c1 => ?_)
    · simp only [Bool.or_eq_true, decide_eq_true_eq] at c1
      rw [fld, if_pos c1] at hfld
      simp [f6, f5, encStrs]
      exact ⟨L.length - (i + 1), by omega, i + 1, rfl, by omega, by rw [wrap_i64' (by omega)]; rfl, out, by omega, hfld, by rw [f4]; exact hown, hk⟩
    · simp only [Bool.or_eq_false_iff, decide_eq_false_iff_not] at c1
      rw [fld, if_neg (by simp [c1])] at hfld
      simp [f6, f5, encStrs, c, e1, strs_len]
      refine brB_split (fun c2 => ?_) (fun c2 => ?_)
      · simp only [decide_eq_true_eq] at c2
        rw [if_pos c2] at hfld
        rcases hown with ⟨rfl, rfl⟩ | ⟨id, v, full, cs, hge, rfl, hid, htk, hle, hv⟩
        · have w1 : IntKind.i64.wrap (-1) = -1 := by decide
          have mx : max (0 : Int) (-1) = 0 := by decide
          simp [f6, f5, f4, encStrs, w1, mx]
          exact ⟨L.length - (i + 1), by omega, i + 1, rfl, by omega, by rw [wrap_i64' (by omega)]; rfl, [], by simp, hfld, .inl ⟨rfl, rfl⟩, hk⟩
        · have w1 : IntKind.i64.wrap ((out.length : Int) - 1) = (out.length : Int) - 1 := wrap_i64' (by omega)
          have mx : max (0 : Int) ((out.length : Int) - 1) = ((out.length - 1 : Nat) : Int) := by omega
          simp [f6, f5, f4, encStrs, w1, mx, hid]
          have hdl : out.dropLast.length = out.length - 1 := List.length_dropLast
          refine ⟨L.length - (i + 1), by omega, i + 1, rfl, by omega, by rw [wrap_i64' (by omega)]; rfl, out.dropLast, by omega, hfld, .inr ⟨id, v, _, cs, hge, by rw [hdl], hid, ?_, by omega, hv⟩, hk⟩
          rw [hdl, List.dropLast_eq_take]
          have := rows_take encS 1 encS_len out (out.length - 1)
          rw [Nat.mul_one] at this
          rw [← this, ← htk, List.take_take, Nat.min_eq_left (by omega)]
      · simp only [decide_eq_false_iff_not] at c2
        rw [if_neg c2] at hfld
        simp [f6, f5, encStrs, c, e1, strs_len]
        refine dcallV_fn (dcall.pure (refIsName_spec _ _) ?_)
        simp
        cases hn : isName L[i]
        · rw [if_neg (by simp [hn])] at hfld
          have hr : splitO s = none := by rw [hsp, hfld]; rfl
          simp
          exact retQ_dropLe [.nils, .i .i64 120] _ (.inr rfl) (by simp [resL, resE, Tryd.results9]) (nil_le _) (by simp [AV.pure, AV.pures, strs_pure]) hk ⟨(splitR_none hr).symm, rfl⟩
        · rw [if_pos hn] at hfld
          simp
          refine draw_z [some 0, some 0, some 0, none, some 0, none, some 0, some 0, some 1000, some 1000, some 1000, none, some 0] (by kernel_rfl) (by kernel_rfl) ?_
          rcases hown with ⟨rfl, rfl⟩ | ⟨id, v, full, cs, hge, rfl, hid, htk, hle, hv⟩
          · have w1 : IntKind.i64.wrap 1 = 1 := by decide
            have r1 : 16 ≤ room := hrm 1 (by omega)
            simp [f6, f5, f4, encStrs, w1, c, e1, strs_len, r1]
            refine ⟨L.length - (i + 1), by omega, i + 1, rfl, by omega, by rw [wrap_i64' (by omega)]; rfl, [L[i]], by simp, hfld, .inr ⟨h'.length, 8589934601, false, [.s (str L[i])], hk.len, rfl, by simp, rfl, by simp, by decide⟩, hk.of_app _⟩
          · have w1 : IntKind.i64.wrap ((out.length : Int) + 1) = (out.length : Int) + 1 := wrap_i64' (by omega)
            have w2 : (0 : Int) ≤ (out.length : Int) + 1 := by omega
            have w3 : 16 * ((out.length : Int) + 1) ≤ 281474976710656 := by omega
            have hidl := lt_of_get hid
            have hid1 := get_app hid
            have r1 : out.length * 16 ≤ room := hrm _ (by omega)
            have r2 : (out.length + 1) * 16 ≤ room := hrm _ (by omega)
            have i1 : (out.length : Int) ≤ imax := by unfold imax; omega
            have i2 : (out.length : Int) + 1 ≤ imax := by unfold imax; omega
            simp [f6, f5, f4, encStrs, hid, w1, w2, w3, c, e1, strs_len, hid1, hle, r1, r2, i1, i2, htk]
            have tk : List.take out.length (rows encS out) = rows encS out := by rw [List.take_of_length_le (by rw [strs_len]; omega)]
            refine ⟨L.length - (i + 1), by omega, i + 1, rfl, by omega, by rw [wrap_i64' (by omega)]; rfl, out ++ [L[i]], by simp; omega, hfld, .inr ⟨h'.length, 8589934601, false, _, hk.len, by simp, List.getElem?_concat_length, ?_, by simp [strs_len], by decide⟩, hk.of_app _⟩
            rw [tk, show [AV.s (str L[i])] = encS L[i] from rfl, rows_snoc, List.take_of_length_le (by rw [strs_len]; omega)]
  · have ei : i = L.length := by omega
    subst ei
    rw [List.drop_length, fld] at hfld
    rw [hfld] at hsp
    rcases id hown with ⟨rfl, rfl⟩ | ⟨id, v, full, cs, hge, rfl, hid, htk, hle, hv⟩
    · have hr : splitO s = some [] := hsp
      simp [f4]
      exact split_end hown h (Nat.le_refl _) hk (by simp [resL, resE, Tryd.results9, f4]) ⟨(splitR_some hr).symm, rfl⟩
    · simp [f4]
      refine brB_split (fun c => ?_) (fun c => ?_) <;> simp at c
      · have hr : splitO s = none := by rw [hsp, fitO, if_pos (by omega)]
        simp
        exact retQ_dropLe [.nils, .i .i64 120] _ (.inr rfl) (by simp [resL, resE, Tryd.results9]) (nil_le _) (by simp [AV.pure, AV.pures, strs_pure]) hk ⟨(splitR_none hr).symm, rfl⟩
      · have hr : splitO s = some out := by rw [hsp, fitO, if_neg (by omega)]
        simp
        exact split_end hown h (Nat.le_refl _) hk (by simp [resL, resE, Tryd.results9, f4]) ⟨(splitR_some hr).symm, rfl⟩
end Go.M
