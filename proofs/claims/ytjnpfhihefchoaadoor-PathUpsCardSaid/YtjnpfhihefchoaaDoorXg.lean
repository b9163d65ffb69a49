/- The program's Split. -/
import Derived.Test.YtjnpfhihefchoaaDoorXf
namespace Go.M
open Go Go.Proofs
set_option maxRecDepth 20000
set_option linter.unusedVariables false
set_option linter.unusedSimpArgs false
set_option linter.unnecessarySimpa false
attribute [local congr] ifV_congr ifC_congr ifE_congr ifG_congr ifB_congr ifH_congr brB_congr dz_congr wz_congr qz_congr dwp_congr dcallV_congr dcall_congr retQ_congr thenQ_congr inBlockQ_congr noGotoQ_congr
attribute [local simp] hold_eq hp_get_set zero_imax one_imax cv_str mk_arr empty_str str_append extract_str ifV_some ifV_none ifC_some ifC_none ifE_some ifE_none ifG_some ifB_b ifH_some brB_true brB_false pt_at fz_at putL_z putL_n guardZ dz_nil dz_plain dz_plain0 dz_guard wz_skip wz_label wz_exit wz_goto wz_ret wz_region wz_draw wz_seq wz_cond wz_block wz_scope wz_loop wz_range qz_nil qz_plan qz_quiet qz_quiet_g qz_turn qz_turn0 hsAt thenQ inBlockQ noGotoQ callV opE opW evO wh wa pickE st sts gds condsOf opV allocE boxE buildE fillE splice newE loadE ptrCells storeE AV.cells AV.ones AV.one nilCheckE eqE eqE.go binE intE strE unE convE upE uSliceE uStringE sliceE sliceParts bnd sliceFull fieldAddrE indexAddrE indexE extractE builtinE lenE minL maxL min_go2 max_go2 appendE srcCells sliceCells copyE makeSliceE makeMapE buildSliceE reps_zero' reps_one reps_two cv_bool cv_int cv_nilp cv_nils cv_nilm cv_nilf cv_nilIface min_i64 max_i64 min_u64 max_u64 min_u32 max_u32 min_u16 max_u16 min_u8 max_u8 hp_get0 hp_get hp_set0 hp_set ty0 ty1 ty2 ty3 ty4 ty5

/-- Where a cutting stands behind k pieces. -/
def SJ (L : List (List UInt8)) (h : Hp) (LP : Option (Option Code) → HObj) (k : Nat) (H : Hp) : Prop := ∃ out x, out.length ≤ k ∧ fld [] L = fld out (L.drop k) ∧ H[h.length]? = some (.cells 22 1 [x]) ∧ H[h.length + 1]? = some (.cells 4 1 [.b true]) ∧
  H[h.length + 3]? = some (LP (some none)) ∧ OwnL (h.length + 9) H out x ∧ Keep h H
/-- Where one stands that met what is no name. -/
def SD (L : List (List UInt8)) (h : Hp) (LP : Option (Option Code) → HObj) (H : Hp) : Prop := fld [] L = none ∧ (∃ out x, H[h.length]? = some (.cells 22 1 [x]) ∧ OwnL (h.length + 9) H out x) ∧ H[h.length + 1]? = some (.cells 4 1 [.b false]) ∧ H[h.length + 3]? = some (LP (some (some (.exit 0)))) ∧ Keep h H

theorem OwnL.set {n : Nat} {H : Hp} {out : List (List UInt8)} {x : AV} (o : OwnL n H out x) {i : Nat} (hi : i < n) (z : HObj) : OwnL n (H.set i z) out x := by
  rcases o with o | ⟨id, v, full, cs, h1, h2, h3, h4⟩
  · exact .inl o
  · exact .inr ⟨id, v, full, cs, h1, h2, get_ne _ (by omega) h3, h4⟩

theorem SJ.set {L : List (List UInt8)} {h : Hp} {LP : Option (Option Code) → HObj} {k : Nat} {H : Hp} (s : SJ L h LP k H) {i : Nat} (h1 : h.length + 4 ≤ i) (h2 : i < h.length + 9) (z : HObj) : SJ L h LP k (H.set i z) := by
  obtain ⟨out, x, a1, a2, a3, a4, a5, a6, a7⟩ := s
  exact ⟨out, x, a1, a2, get_ne _ (by omega) a3, get_ne _ (by omega) a4, get_ne _ (by omega) a5, a6.set h2 z, a7.set (by omega) _⟩
theorem SD.set {L : List (List UInt8)} {h : Hp} {LP : Option (Option Code) → HObj} {H : Hp} (s : SD L h LP H) {i : Nat} (h1 : h.length + 4 ≤ i) (h2 : i < h.length + 9) (z : HObj) : SD L h LP (H.set i z) := by
  obtain ⟨a1, ⟨out, x, a2, a6⟩, a3, a4, a5⟩ := s
  exact ⟨a1, ⟨out, x, get_ne _ (by omega) a2, a6.set h2 z⟩, get_ne _ (by omega) a3, get_ne _ (by omega) a4, a5.set (by omega) _⟩

/-- What a round hands back. -/
def SPost (L : List (List UInt8)) (h : Hp) (LP : Option (Option Code) → HObj) (k : Nat) (H : Hp) (av : AV) (h2 : Hp) : Prop :=
  (∀ i, h.length + 4 ≤ i → i < h.length + 4 + 5 → h2[i]? = H[i]?) ∧ ((av = .b true ∧ SJ L h LP (k + 1) h2) ∨ (av = .b false ∧ SD L h LP h2))

theorem split_spec (s : List UInt8) (h : Hp) : dcall Tryd.prog 8 [.s (str s)] h fun av h' => av = splitR s ∧ h' = h := by
  refine call_z Tryd.func8 rfl Tryd.call8 Tryd.ntmps8 (by simp) ?_
  by_cases hlen : s.length ≤ 1000
  rotate_left
  · have hl : (1000 : Int) < s.length := by omega
    have hn : splitO s = none := if_pos (.inl (by omega))
    simp [hl]
    exact retQ_dropLe [.nils, .i .i64 120] _ (.inr rfl) (by simp [resL, resE, Tryd.results8]) (nil_le _) (by simp [AV.pure, AV.pures, strs_pure]) (Keep.refl _) ⟨(splitR_none hn).symm, rfl⟩
  have hl : ¬ (1000 : Int) < s.length := by omega
  simp [hl]
  refine dcallV_fn (dcall.pure (hasPrefix_spec _ _ _) ?_)
  cases hp : Go.Lib.hasPrefix s [47]
  · have hn : splitO s = none := by
      refine if_pos (.inr fun e => ?_)
      cases s with
      | nil => cases e
      | cons c t =>
        simp only [List.head?_cons, Option.some.injEq] at e
        subst e
        cases hp
    simp
    exact retQ_dropLe [.nils, .i .i64 120] _ (.inr rfl) (by simp [resL, resE, Tryd.results8]) (nil_le _) (by simp [AV.pure, AV.pures, strs_pure]) (Keep.refl _) ⟨(splitR_none hn).symm, rfl⟩
  have hsp : splitO s = fitO (fld [] (spA [] s)) := by
    refine if_neg ?_
    rintro (h1 | h1)
    · omega
    · cases s with
      | nil => cases hp
      | cons c t =>
        refine h1 ?_
        have : ((47 : UInt8) == c) = true := by simpa [Go.Lib.hasPrefix, List.isPrefixOf] using hp
        rw [List.head?_cons, ← beq_iff_eq.1 this]
  simp
  refine dcallV_fn (dcall.pure' (pieces0_spec _ _) ?_)
  simp
  refine range_z (h.length + 3) [.yld (h.length + 3), .ptr (h.length + 2) 9 0] (by simp; exact ⟨rfl, rfl⟩) Tryd.call24 (.inl rfl) (by simp) rfl ?_
  generalize hFR : pt _ _ _ = FR
  have g4 : FR 4 = .ptr h.length 22 0 := by rw [← hFR]; simp
  have g5 : FR 5 = .ptr (h.length + 1) 4 0 := by rw [← hFR]; simp
  clear hFR
  generalize hLP : HObj.loop _ _ _ 53 FR = LP
  simp only [List.append_assoc, List.cons_append, List.nil_append]
  have hcnt := spA_count s
  refine (pieces1_spec (h.length + 3) (h.length + 2) s hlen _ (h.length + 4) (by simp) (SJ (spA [] s) h LP) (SD (spA [] s) h LP) ?_ ?_ ?_ ?_ ?_ ?_).mono ?_
  · simp
  · intro l
    refine ⟨[], .nils, by simp, by simp, ?_, ?_, ?_, .inl ⟨rfl, rfl⟩, ?_⟩
    · simp
    · simp
    · simp
    · exact (Keep.app h _).of_app l
  · intro k H i x hj h1 h2
    exact hj.set h1 h2 x
  · intro H i x hd h1 h2
    exact hd.set h1 h2 x
  · rintro k H p hk hp0 ⟨out, x, a1, a2, a3, a4, a5, a6, a7⟩
    refine ⟨out, x, by omega, ?_, a3, a4, a5, a6, a7⟩
    have hlt : k < (spA [] s).length := by
      rcases Nat.lt_or_ge k (spA [] s).length with h1 | h1
      · exact h1
      · rw [List.getElem?_eq_none h1] at hk; cases hk
    rw [List.getElem?_eq_getElem hlt] at hk
    rw [List.drop_eq_getElem_cons hlt, Option.some.inj hk, fld, if_pos hp0] at a2
    exact a2
  · rintro k H p hk hp0 hge ⟨out, x, a1, a2, a3, a4, a5, a6, a7⟩
    have hlt : k < (spA [] s).length := by
      rcases Nat.lt_or_ge k (spA [] s).length with h1 | h1
      · exact h1
      · rw [List.getElem?_eq_none h1] at hk; cases hk
    rw [List.getElem?_eq_getElem hlt] at hk
    rw [List.drop_eq_getElem_cons hlt, Option.some.inj hk, fld, if_neg hp0] at a2
    refine dcallV.mono (R := SPost (spA [] s) h LP k H) ?_ (fun av h2 hq => hq)
    refine yld_L hLP a5 (by decide) rfl ?_
    have b3 := get_ne (i := h.length + 3) (LP none) (by omega) a3
    have b4 := get_ne (i := h.length + 3) (LP none) (by omega) a4
    have c5 := get_at (LP none) a5
    have hlt3 := lt_of_get a5
    have hcat := spA_count s
    have rm1 : 16 ≤ room := by unfold room; omega
    rcases id a6 with ⟨rfl, rfl⟩ | ⟨id, v, full, cs, o1, rfl, o2, o3, o4, o5⟩
    · by_cases hpp : p = [46, 46]
      · rw [if_pos hpp] at a2
        simp [g4, g5, b3, b4, hpp]
        exact ⟨a5, none, rfl, ⟨_, a5⟩, fun i h1 h2 => List.getElem?_set_ne (by omega), .inl ⟨rfl, [], .nils, by simp, a2, get_ne _ (by omega) a3, get_ne _ (by omega) a4, get_at _ a5, .inl ⟨rfl, rfl⟩, a7.set (by omega) _⟩⟩
      · rw [if_neg hpp] at a2
        simp [g4, g5, b3, b4, hpp]
        refine ⟨a5, ?_⟩
        refine dcallV_fn (dcall.pure (isName_spec _ _) ?_)
        simp
        cases hn : isName p
        · rw [if_neg (by simp [hn])] at a2
          simp [g4, g5, b3, b4]
          refine ⟨some (.exit 0), rfl, ⟨_, a5⟩, fun i h1 h2 => ?_, .inr ⟨rfl, a2, ⟨_, _, get_ne _ (by omega) (get_ne _ (by omega) (get_ne _ (by omega) a3)), ((a6.set (by omega) _).set (by omega) _).set (by omega) _⟩, get_ne _ (by omega) (get_at _ (get_ne _ (by omega) a4)), get_at _ (get_ne _ (by omega) (get_at _ a5)), ((a7.set (by omega) _).set (by omega) _).set (by omega) _⟩⟩
          rw [List.getElem?_set_ne (by omega), List.getElem?_set_ne (by omega), List.getElem?_set_ne (by omega)]
        · rw [if_pos hn] at a2
          have b3' := get_app b3
          simp [g4, g5, b3, b4, rm1, b3']
          refine ⟨none, rfl, get_ext _ c5, fun i h1 h2 => ?_, .inl ⟨rfl, [p], .sl H.length 9 0 1 false, by simp, a2, ?_, ?_, ?_, .inr ⟨H.length, 9, false, [.s (str p)], by omega, rfl, ?_, rfl, by simp, by decide⟩, ?_⟩⟩
          · rw [List.getElem?_set_ne (by omega), List.getElem?_set_ne (by omega), List.getElem?_append_left (by simp; omega), List.getElem?_set_ne (by omega)]
          · exact get_ne _ (by omega) (get_at _ (b3' _))
          · exact get_ne _ (by omega) (get_ne _ (by omega) (get_ext _ b4))
          · exact get_at _ (get_ne _ (by omega) (get_ext _ c5))
          · refine get_ne _ (by omega) (get_ne _ (by omega) ?_)
            have := List.getElem?_concat_length (l := List.set H (h.length + 3) (LP none)) (a := HObj.cells 9 1 [.s (str p)])
            rwa [List.length_set] at this
          · exact (((a7.set (by omega) _).of_app _).set (by omega) _).set (by omega) _
    · have b5 := get_ne (i := h.length + 3) (LP none) (by omega) o2
      by_cases hpp : p = [46, 46]
      · rw [if_pos hpp] at a2
        by_cases hz : out.length = 0
        · have hz0 : out = [] := List.eq_nil_of_length_eq_zero hz
          subst hz0
          simp [g4, g5, b3, b4, hpp]
          exact ⟨a5, none, rfl, ⟨_, a5⟩, fun i h1 h2 => List.getElem?_set_ne (by omega), .inl ⟨rfl, [], _, by simp, a2, get_ne _ (by omega) a3, get_ne _ (by omega) a4, get_at _ a5, a6.set (by omega) _, a7.set (by omega) _⟩⟩
        · have hz1 : 0 < out.length := by omega
          have w1 : IntKind.i64.wrap ((out.length : Int) - 1) = (out.length : Int) - 1 := wrap_i64' (by omega)
          have z1 : (1 : Int) ≤ (out.length : Int) := by omega
          simp [g4, g5, b3, b4, hpp, hz1, w1, b5, z1]
          have hdl : out.dropLast.length = out.length - 1 := List.length_dropLast
          refine ⟨a5, none, rfl, ⟨_, a5⟩, fun i h1 h2 => ?_, .inl ⟨rfl, out.dropLast, _, by omega, a2, get_ne _ (by omega) (get_at _ b3), get_ne _ (by omega) (get_ne _ (by omega) b4), get_at _ (get_ne _ (by omega) c5), .inr ⟨id, v, true, cs, o1, by rw [hdl], get_ne _ (by omega) (get_ne _ (by omega) b5), ?_, by omega, o5⟩, ((a7.set (by omega) _).set (by omega) _).set (by omega) _⟩⟩
          · rw [List.getElem?_set_ne (by omega), List.getElem?_set_ne (by omega), List.getElem?_set_ne (by omega)]
          · rw [hdl, List.dropLast_eq_take]
            have := rows_take encS 1 encS_len out (out.length - 1)
            rw [Nat.mul_one] at this
            rw [← this, ← o3, List.take_take, Nat.min_eq_left (by omega)]
      · rw [if_neg hpp] at a2
        simp [g4, g5, b3, b4, hpp]
        refine ⟨a5, ?_⟩
        refine dcallV_fn (dcall.pure (isName_spec _ _) ?_)
        simp
        cases hn : isName p
        · rw [if_neg (by simp [hn])] at a2
          simp [g4, g5, b3, b4]
          refine ⟨some (.exit 0), rfl, ⟨_, a5⟩, fun i h1 h2 => ?_, .inr ⟨rfl, a2, ⟨_, _, get_ne _ (by omega) (get_ne _ (by omega) (get_ne _ (by omega) a3)), ((a6.set (by omega) _).set (by omega) _).set (by omega) _⟩, get_ne _ (by omega) (get_at _ (get_ne _ (by omega) a4)), get_at _ (get_ne _ (by omega) (get_at _ a5)), ((a7.set (by omega) _).set (by omega) _).set (by omega) _⟩⟩
          rw [List.getElem?_set_ne (by omega), List.getElem?_set_ne (by omega), List.getElem?_set_ne (by omega)]
        · rw [if_pos hn] at a2
          have r2 : (out.length + 1) * 16 ≤ room := by unfold room; omega
          have i2 : (out.length : Int) + 1 ≤ imax := by unfold imax; omega
          have n1 : ¬ id = h.length := by omega
          have n2 : ¬ id = h.length + 3 := by omega
          simp [g4, g5, b3, b4, b5, r2, i2, o4, o5, n1, n2]
          refine ⟨none, rfl, ⟨_, a5⟩, fun i h1 h2 => ?_, .inl ⟨rfl, out ++ [p], .sl id (v + 4294967296) 0 (out.length + 1) false, by simp; omega, a2, get_ne _ (by omega) (get_at _ (get_ne _ (by omega) b3)), get_ne _ (by omega) (get_ne _ (by omega) (get_ne _ (by omega) b4)), get_at _ (get_ne _ (by omega) (get_ne _ (by omega) c5)),
            .inr ⟨id, v + 4294967296, false, _, o1, by simp, get_ne _ (by omega) (get_ne _ (by omega) (get_at _ b5)), ?_, ?_, by omega⟩, (((a7.set (by omega) _).set (by omega) _).set (by omega) _).set (by omega) _⟩⟩
          · rw [List.getElem?_set_ne (by omega), List.getElem?_set_ne (by omega), List.getElem?_set_ne (by omega), List.getElem?_set_ne (by omega)]
          · rw [o3, show [AV.s (str p)] = encS p from rfl, rows_snoc, List.take_of_length_le (by rw [strs_len]; omega)]
          · rw [o3]; simp [strs_len]
  · have tail : ∀ (h2 : Hp), SJ (spA [] s) h LP (spA [] s).length h2 ∨ SD (spA [] s) h LP h2 → inBlockQ 0 (thenQ (wz Tryd.prog none 53 ?c1 (noGotoQ ?c2)) (noGotoQ ?c2)) .normal FR (h2.set (h.length + 3) .dead) := ?tail
    rintro av h2 (hj | hd)
    · refine ⟨none, hj.choose_spec.choose_spec.2.2.2.2.1, ?_⟩
      exact tail _ (.inl hj)
    · refine ⟨some (.exit 0), hd.2.2.2.1, ?_⟩
      refine dwp_exit ?_
      exact tail _ (.inr hd)
    rintro h2 (⟨out, x, a1, a2, a3, a4, a5, a6, a7⟩ | ⟨a1, ⟨out, x, a2, a6⟩, a3, a4, a5⟩)
    · have b3 := get_ne (i := h.length + 3) .dead (by omega) a3
      have b4 := get_ne (i := h.length + 3) .dead (by omega) a4
      have b6 := a6.set (i := h.length + 3) (by omega) .dead
      have b7 := a7.set (i := h.length + 3) (by omega) .dead
      rw [List.drop_length, fld] at a2
      rw [a2] at hsp
      rcases id b6 with ⟨rfl, rfl⟩ | ⟨id, v, full, cs, o1, rfl, o2, o3, o4, o5⟩
      · have hr : splitO s = some [] := hsp
        simp [g4, g5, b3, b4]
        exact split_end b6 h (by omega) b7 (by simp [resL, resE, Tryd.results8]) ⟨(splitR_some hr).symm, rfl⟩
      · simp [g4, g5, b3, b4]
        refine brB_split (fun c => ?_) (fun c => ?_) <;> simp at c
        · have hr : splitO s = none := by rw [hsp, fitO, if_pos (by omega)]
          simp
          exact retQ_dropLe [.nils, .i .i64 120] _ (.inr rfl) (by simp [resL, resE, Tryd.results8]) (nil_le _) (by simp [AV.pure, AV.pures, strs_pure]) b7 ⟨(splitR_none hr).symm, rfl⟩
        · have hr : splitO s = some out := by rw [hsp, fitO, if_neg (by omega)]
          simp [g4, b3]
          exact split_end b6 h (by omega) b7 (by simp [resL, resE, Tryd.results8]) ⟨(splitR_some hr).symm, rfl⟩
    · have b2 := get_ne (i := h.length + 3) .dead (by omega) a2
      have b3 := get_ne (i := h.length + 3) .dead (by omega) a3
      have b7 := a5.set (i := h.length + 3) (by omega) .dead
      have hr : splitO s = none := by rw [hsp, a1]; rfl
      rcases a6 with ⟨rfl, rfl⟩ | ⟨id, v, full, cs, o1, rfl, o2, o3, o4, o5⟩
      · simp [g4, g5, b2, b3]
        exact retQ_dropLe [.nils, .i .i64 120] _ (.inr rfl) (by simp [resL, resE, Tryd.results8]) (nil_le _) (by simp [AV.pure, AV.pures, strs_pure]) b7 ⟨(splitR_none hr).symm, rfl⟩
      · simp [g4, g5, b2, b3]
        exact retQ_dropLe [.nils, .i .i64 120] _ (.inr rfl) (by simp [resL, resE, Tryd.results8]) (nil_le _) (by simp [AV.pure, AV.pures, strs_pure]) b7 ⟨(splitR_none hr).symm, rfl⟩
end Go.M
