/- num.Put, num.Take, and the reference's Take. -/
import Derived.Test.YtjplebfagohphaaWb
namespace Go.M
open Go Go.Proofs
set_option maxRecDepth 20000
set_option linter.unusedVariables false
set_option linter.unusedSimpArgs false
set_option linter.unnecessarySimpa false
attribute [local congr] ifV_congr ifC_congr ifE_congr ifG_congr ifB_congr ifH_congr brB_congr dz_congr wz_congr qz_congr dwp_congr dcallV_congr dcall_congr retQ_congr thenQ_congr inBlockQ_congr noGotoQ_congr
attribute [local simp] hold_eq hp_get_set zero_imax one_imax cv_str mk_arr empty_str str_append extract_str ifV_some ifV_none ifC_some ifC_none ifE_some ifE_none ifG_some ifB_b ifH_some brB_true brB_false pt_at fz_at putL_z putL_n guardZ dz_nil dz_plain dz_plain0 dz_guard wz_skip wz_label wz_exit wz_goto wz_ret wz_region wz_draw wz_seq wz_cond wz_block wz_scope wz_loop wz_range qz_nil qz_plan qz_quiet qz_quiet_g qz_turn qz_turn0 thenQ inBlockQ noGotoQ callV opE opW evO wh wa pickE st sts gds condsOf opV allocE boxE buildE fillE splice newE loadE ptrCells storeE AV.cells AV.ones AV.one nilCheckE eqE eqE.go binE intE strE unE convE upE uSliceE uStringE sliceE sliceParts bnd sliceFull fieldAddrE indexAddrE indexE extractE builtinE lenE minL maxL min_go2 max_go2 appendE srcCells sliceCells copyE makeSliceE makeMapE buildSliceE reps_zero' reps_one reps_two cv_bool cv_int cv_nilp cv_nils cv_nilm cv_nilf cv_nilIface min_i64 max_i64 min_u64 max_u64 min_u32 max_u32 min_u16 max_u16 min_u8 max_u8 hp_get0 hp_get hp_set0 hp_set ty0 ty1 ty2 ty3 ty4 ty5 ty6 ty7 ty8 ty9 ty10 ty11

theorem Bld.set {n : Nat} {h : Hp} {id : Nat} {bs : List UInt8} (hb : Bld n h id bs) {i : Nat} {o : HObj} (x : HObj) (hi : h[i]? = some o) (ho : notRow o) (hne : i ≠ id) : Bld n (h.set i x) id bs := by
  obtain ⟨h0, p, buf, hid, hp, hbuf⟩ := hb
  refine ⟨h0, p, buf, by rw [List.getElem?_set_ne hne]; exact hid, hp, ?_⟩
  rcases hbuf with h1 | ⟨r, v, full, hr0, hr1, hbs, hbf, hr, hv⟩
  · exact .inl h1
  · refine .inr ⟨r, v, full, hr0, hr1, hbs, hbf, ?_, hv⟩
    rw [List.getElem?_set_ne]
    · exact hr
    · rintro rfl
      rw [hr] at hi
      simp only [Option.some.injEq] at hi
      subst hi
      exact ho hv

/-- What num.Put answers. -/
def putR (n w : Int) : AV := if 1 ≤ w ∧ w ≤ 8 ∧ n < 256 ^ w.toNat then .tup [.s (str (le w.toNat n)), .i .i64 0] else .tup [.s (str []), .i .i64 2]

theorem put_spec (n w : Int) (hn : 0 ≤ n ∧ n ≤ 18446744073709551615) (h : Hp) :
    dcall Try.prog 57 [.i .u64 n, .i .i64 w] h fun av h' => av = putR n w ∧ h' = h := by
  refine call_z Try.func57 rfl Try.call57 Try.ntmps57 (by simp) ?_
  simp
  refine dcallV_fn (dcall.pure (isWidth_spec _ _) ?_)
  simp
  refine brB_split (fun c => ?_) (fun c => ?_) <;> simp at c
  · have : ¬ (1 ≤ w ∧ w ≤ 8 ∧ n < 256 ^ w.toNat) := by omega
    simp
    exact retQ_to [.s (str []), .i .i64 2] (.inr rfl) (by simp [resL, resE, Try.results57]) ⟨by rw [putR, if_neg this]; rfl, rfl⟩
  · obtain ⟨hw1, hw2⟩ := c
    simp
    refine dcallV_fn (dcall.pure' (parts_spec _ _ _) ?_)
    simp
    refine dwp_rangeFunc (f := 115) (fs := []) (cs := [.ptr (h.length + 3) 3 0, .ptr (h.length + 2) 22 0]) (by simp) Try.call115 (.inl rfl) ?_
    have ha : ∀ (X : List HObj), ([] ++ [AV.yld (h ++ X).length] ++ [AV.ptr (h.length + 3) 3 0, AV.ptr (h.length + 2) 22 0]) = [AV.yld (h ++ X).length, AV.ptr (h.length + 3) 3 0, AV.ptr (h.length + 2) 22 0] := fun X => rfl
    rw [ha]
    generalize hFR : pt _ _ _ = FR
    have g6 : FR 6 = .ptr h.length 98 0 := by rw [← hFR]; simp
    have g7 : FR 7 = .ptr (h.length + 1) 22 0 := by rw [← hFR]; simp
    clear hFR
    generalize hLP : HObj.loop #[17, 18] _ _ 25 _ (some none) = LP
    simp only [hold_eq, List.append_assoc, List.cons_append, List.nil_append, List.length_append, List.length_cons, List.length_nil]
    obtain ⟨J, hJ⟩ : ∃ J : Nat → Int → Hp → Prop, ∀ i nn h', J i nn h' ↔ ∃ left, Bld h.length h' h.length (le i n) ∧ h'[h.length + 1]? = some (.cells 22 1 [.i .u64 left]) ∧ (i = 0 ∧ left = n ∨ 0 < i ∧ left = nn) ∧
      h'[h.length + 2]? = some (.cells 22 1 [.i .u64 nn]) ∧ h'[h.length + 4]? = some LP ∧ (∀ (j : Nat) (x : HObj), h[j]? = some x → h'[j]? = some x) ∧ nn = n / 256 ^ i := ⟨_, fun _ _ _ => Iff.rfl⟩
    refine (parts1_spec (.yld (h.length + 4)) (h.length + 3) (h.length + 2) n w hn (by omega) _ J ?_ ?_ ?_ ?_).mono ?_
    · exact (hJ _ _ _).2 ⟨n, ⟨Nat.le_refl _, .nilp, .nils, by simp, .inl rfl, .inl ⟨rfl, rfl⟩⟩, by simp, .inl ⟨rfl, rfl⟩, by simp, by simp, fun j x hx => get_ext _ hx, by simp⟩
    · simp
    · intro i nn h' hj
      obtain ⟨left, _, _, _, h4, _⟩ := (hJ _ _ _).1 hj
      exact h4
    · intro i nn h' hi hnn hj
      obtain ⟨left, hB, h1, h2, h3, h4, h5, h6⟩ := (hJ _ _ _).1 hj
      subst hLP
      refine yld_z (get_ne _ (by omega) h4) (by decide) rfl ?_
      simp [g6, g7]
      refine ⟨h4, ?_⟩
      have hB2 := (hB.set (.cells 22 1 [.i .u64 (nn / 256)]) h3 (by simp [notRow]) (by omega))
      refine dcallV_fn ((writeByte_spec h.length h.length _ (nn % 256) (by omega) _ (hB2.set _ (get_ne _ (by omega) h4) trivial (by omega)) (by have := lt_of_get h4; simp; omega) (by rw [le_length]; omega)).mono ?_)
      rintro av h2 ⟨rfl, hB3, hK⟩
      have k1 := hK (h.length + 1) (.cells 22 1 [.i .u64 left]) (by simp [h1]) (by omega) (.inr (by simp [notRow]))
      have k2 := hK (h.length + 2) (.cells 22 1 [.i .u64 (nn / 256)]) (by simp [h3]) (by omega) (.inr (by simp [notRow]))
      have k4 := hK (h.length + 4) _ (get_at _ (get_ne _ (by omega) h4)) (by omega) (.inr trivial)
      have k5 : ∀ (j : Nat) (x : HObj), h[j]? = some x → h2[j]? = some x := fun j x hx => by
        have hj := lt_of_get hx
        have e1 : ¬ h.length + 2 = j := by omega
        have e2 : ¬ h.length + 4 = j := by omega
        exact hK j x (by simp [e1, e2, h5 j x hx]) (by omega) (.inl hj)
      simp [k1, g7]
      refine ⟨none, rfl, k4, rfl, ?_⟩
      refine (hJ _ _ _).2 ⟨nn / 256, ?_, by simp [k1], .inr ⟨by omega, rfl⟩, by simp [k2], get_at _ (get_ne _ (by omega) k4), fun j x hx => ?_, ?_⟩
      · rw [le_snoc, ← h6]
        exact (hB3.set _ k1 (by simp [notRow]) (by omega)).set _ (get_ne _ (by omega) k4) trivial (by omega)
      · have hj := lt_of_get hx
        have e1 : ¬ h.length + 1 = j := by omega
        have e2 : ¬ h.length + 4 = j := by omega
        simp [e1, e2, k5 j x hx]
      · rw [h6, Int.ediv_ediv_of_nonneg (Int.pow_nonneg (by decide)), Int.pow_succ]
    · rintro av h2 ⟨nn, hj⟩
      obtain ⟨left, hB, h1, h3, h4, h5, h6, h7⟩ := (hJ _ _ _).1 hj
      subst hLP
      have hlen : (h ++ [HObj.cells 98 1 [AV.nilp, AV.nils], HObj.cells 22 1 [AV.i IntKind.u64 n], HObj.cells 22 1 [AV.i IntKind.u64 n], HObj.cells 3 1 [AV.i IntKind.i64 w]]).length = h.length + 4 := by simp
      rw [hlen]
      refine ⟨none, h5, ?_⟩
      have hl : left = n / 256 ^ w.toNat := by
        rcases h3 with ⟨e1, e2⟩ | ⟨e1, e2⟩
        · omega
        · rw [e2, h7]
      have hp : (0 : Int) < 256 ^ w.toNat := Int.pow_pos (by decide)
      have k5 : ∀ (j : Nat) (x : HObj), h[j]? = some x → (h2.set (h.length + 4) .dead)[j]? = some x := fun j x hx => by
        have hj := lt_of_get hx
        have e2 : ¬ h.length + 4 = j := by omega
        simp [e2, h6 j x hx]
      have hB2 := hB.set .dead h5 trivial (by omega)
      have hg : (h2.set (h.length + 4) .dead)[h.length + 1]? = some (.cells 22 1 [.i .u64 left]) := by simp [h1]
      generalize h2.set (h.length + 4) .dead = h3' at *
      simp [hg, g6, g7]
      refine brB_split (fun c => ?_) (fun c => ?_) <;> simp at c
      · have hz := c
        have hlt : ¬ (1 ≤ w ∧ w ≤ 8 ∧ n < 256 ^ w.toNat) := by
          rintro ⟨_, _, hlt⟩
          exact hz (by rw [hl]; exact Int.ediv_eq_zero_of_lt hn.1 hlt)
        simp
        exact retQ_drop [.s (str []), .i .i64 2] (.inr rfl) (by simp [resL, resE, Try.results57]) rfl k5 ⟨by rw [putR, if_neg hlt]; rfl, rfl⟩
      · have hz := c
        simp [g6]
        have hlt : 1 ≤ w ∧ w ≤ 8 ∧ n < 256 ^ w.toNat := ⟨hw1, hw2, by
          have h8 := Int.lt_mul_ediv_self_add hp (x := n)
          rw [← hl, hz] at h8; simpa using h8⟩
        refine dcallV_fn ((string_spec h.length h.length _ _ hB2 (by rw [le_length]; omega)).mono ?_)
        rintro av h4' ⟨rfl, hk⟩
        simp [g6, g7]
        exact retQ_drop [.s (str (le w.toNat n)), .i .i64 0] (.inr rfl) (by simp [resL, resE, Try.results57]) rfl (fun j x hx => hk j x (k5 j x hx) (.inl (lt_of_get hx))) ⟨by rw [putR, if_pos hlt]; rfl, rfl⟩
end Go.M
