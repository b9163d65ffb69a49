/- Lists of texts: within, same; the reference's pieces and Join. -/
import Derived.Test.YtjnpfhihefchoaaDoorXb
namespace Go.M
open Go Go.Proofs
set_option maxRecDepth 20000
set_option linter.unusedVariables false
set_option linter.unusedSimpArgs false
set_option linter.unnecessarySimpa false
attribute [local congr] ifV_congr ifC_congr ifE_congr ifG_congr ifB_congr ifH_congr brB_congr dz_congr wz_congr qz_congr dwp_congr dcallV_congr dcall_congr retQ_congr thenQ_congr inBlockQ_congr noGotoQ_congr
attribute [local simp] hold_eq hp_get_set zero_imax one_imax cv_str mk_arr empty_str str_append extract_str ifV_some ifV_none ifC_some ifC_none ifE_some ifE_none ifG_some ifB_b ifH_some brB_true brB_false pt_at fz_at putL_z putL_n guardZ dz_nil dz_plain dz_plain0 dz_guard wz_skip wz_label wz_exit wz_goto wz_ret wz_region wz_draw wz_seq wz_cond wz_block wz_scope wz_loop wz_range qz_nil qz_plan qz_quiet qz_quiet_g qz_turn qz_turn0 hsAt thenQ inBlockQ noGotoQ callV opE opW evO wh wa pickE st sts gds condsOf opV allocE boxE buildE fillE splice newE loadE ptrCells storeE AV.cells AV.ones AV.one nilCheckE eqE eqE.go binE intE strE unE convE upE uSliceE uStringE sliceE sliceParts bnd sliceFull fieldAddrE indexAddrE indexE extractE builtinE lenE minL maxL min_go2 max_go2 appendE srcCells sliceCells copyE makeSliceE makeMapE buildSliceE reps_zero' reps_one reps_two cv_bool cv_int cv_nilp cv_nils cv_nilm cv_nilf cv_nilIface min_i64 max_i64 min_u64 max_u64 min_u32 max_u32 min_u16 max_u16 min_u8 max_u8 hp_get0 hp_get hp_set0 hp_set ty0 ty1 ty2 ty3 ty4 ty5

theorem wthn_eq {a b : List (List UInt8)} (h : a.length ≤ b.length) : wthn a b = decide (b.take a.length = a) := by simp [wthn, h]
theorem strs_get (l : List (List UInt8)) (i : Nat) (hi : i < l.length) : (List.drop i (rows encS l)).head? = some (.s (str l[i])) := rows_get1 (fun s => .s (str s)) l i hi
theorem strs_len (l : List (List UInt8)) : (rows encS l).length = l.length := by rw [rows_len encS 1 encS_len, Nat.mul_one]

theorem strs_pure (l : List (List UInt8)) : (encStrs l).pure = true := by simp [encStrs, AV.pure, rows_pures encS (fun _ => rfl)]
theorem spA_ne : ∀ (s acc : List UInt8), spA acc s ≠ []
  | [], acc => by simp [spA]
  | c :: t, acc => by rw [spA]; split; simp; exact spA_ne t _

theorem take_get {α : Type} {b a : List α} (he : b.take a.length = a) (i : Nat) (c : i < a.length) (cb : i < b.length) : b[i] = a[i] := by
  have h1 : (b.take a.length)[i]? = a[i]? := by rw [he]
  rw [List.getElem?_take_of_lt c, List.getElem?_eq_getElem cb, List.getElem?_eq_getElem c] at h1
  exact Option.some.inj h1

theorem within_spec (a b : List (List UInt8)) (ha : (a.length : Int) ≤ 9223372036854775807) (hb : (b.length : Int) ≤ 9223372036854775807) (h : Hp) : dcall Tryd.prog 13 [encStrs a, encStrs b] h fun av h' => av = .b (wthn a b) ∧ h' = h := by
  refine call_z Tryd.func13 rfl Tryd.call13 Tryd.ntmps13 (by simp) ?_
  simp [encStrs]
  refine brB_split (fun c => ?_) (fun c => ?_) <;> simp at c
  · have hn : wthn a b = false := by simp [wthn]; intro h1; omega
    simp
    exact retQ_to [.b false] (.inr rfl) (by simp [resL, resE, Tryd.results13]) ⟨by simp [results1, hn], rfl⟩
  · have hle : a.length ≤ b.length := by omega
    simp
    refine loop_z (fun m fr h' => ∃ (i : Nat), m = a.length - i ∧ i ≤ a.length ∧ fr 14 = .i .i64 i ∧ fr 13 = .i .i64 a.length ∧ fr 12 = encStrs a ∧ fr 1 = encStrs b ∧ b.take i = a.take i ∧ h' = h) a.length
      ⟨0, by simp, by simp, by simp, by simp, by simp [encStrs], by simp [encStrs], by simp, rfl⟩ ?_
    rintro m fr h' ⟨i, hm, hi, f14, f13, f12, f1, htk, rfl⟩
    simp [f14, f13, f12, f1, encStrs]
    refine brB_split (fun c => ?_) (fun c => ?_) <;> simp at c
    · have cb : i < b.length := by omega
      have e1 := strs_get a i c
      have e2 := strs_get b i cb
      simp [f14, f13, f12, f1, encStrs, c, cb, e1, e2, strs_len]
      refine brB_split (fun c1 => ?_) (fun c1 => ?_)
      · have hn : wthn a b = false := by
          rw [wthn_eq hle]
          refine decide_eq_false fun he => ?_
          simp [take_get he i c cb] at c1
        simp
        exact retQ_to [.b false] (.inr rfl) (by simp [resL, resE, Tryd.results13]) ⟨by simp [results1, hn], rfl⟩
      · simp [f14, f13, f12, f1]
        refine ⟨a.length - (i + 1), by omega, i + 1, rfl, by omega, by rw [wrap_i64' (by omega)]; rfl, ?_⟩
        simp at c1
        rw [List.take_succ_eq_append_getElem c, List.take_succ_eq_append_getElem cb, htk, c1]
    · have : i = a.length := by omega
      subst this
      simp
      rw [List.take_length] at htk
      exact retQ_to [.b true] (.inr rfl) (by simp [resL, resE, Tryd.results13]) ⟨by simp [results1, wthn_eq hle, htk], rfl⟩

theorem refWithin_spec (a b : List (List UInt8)) (ha : (a.length : Int) ≤ 9223372036854775807) (hb : (b.length : Int) ≤ 9223372036854775807) (h : Hp) : dcall Tryd.prog 16 [encStrs a, encStrs b] h fun av h' => av = .b (wthn a b) ∧ h' = h := by
  refine call_z Tryd.func16 rfl Tryd.call16 Tryd.ntmps16 (by simp) ?_
  simp [encStrs]
  refine brB_split (fun c => ?_) (fun c => ?_) <;> simp at c
  · have hn : wthn a b = false := by simp [wthn]; intro h1; omega
    simp
    exact retQ_to [.b false] (.inr rfl) (by simp [resL, resE, Tryd.results16]) ⟨by simp [results1, hn], rfl⟩
  · have hle : a.length ≤ b.length := by omega
    simp
    refine loop_z (fun m fr h' => ∃ (i : Nat), m = a.length - i ∧ i ≤ a.length ∧ fr 5 = .i .i64 i ∧ fr 0 = encStrs a ∧ fr 1 = encStrs b ∧ b.take i = a.take i ∧ h' = h) a.length
      ⟨0, by simp, by simp, by simp, by simp [encStrs], by simp [encStrs], by simp, rfl⟩ ?_
    rintro m fr h' ⟨i, hm, hi, f5, f0, f1, htk, rfl⟩
    simp [f5, f0, f1, encStrs]
    refine brB_split (fun c => ?_) (fun c => ?_) <;> simp at c
    · have cb : i < b.length := by omega
      have e1 := strs_get a i c
      have e2 := strs_get b i cb
      simp [f5, f0, f1, encStrs]
      refine draw_z [] (by kernel_rfl) (by kernel_rfl) ?_
      simp [f5, f0, f1, encStrs, c, cb, e1, e2, strs_len]
      refine brB_split (fun c1 => ?_) (fun c1 => ?_)
      · have hn : wthn a b = false := by
          rw [wthn_eq hle]
          refine decide_eq_false fun he => ?_
          simp [take_get he i c cb] at c1
        simp
        exact retQ_to [.b false] (.inr rfl) (by simp [resL, resE, Tryd.results16]) ⟨by simp [results1, hn], rfl⟩
      · simp [f5, f0, f1]
        refine ⟨a.length - (i + 1), by omega, i + 1, rfl, by omega, by rw [wrap_i64' (by omega)]; rfl, ?_⟩
        simp at c1
        rw [List.take_succ_eq_append_getElem c, List.take_succ_eq_append_getElem cb, htk, c1]
    · have : i = a.length := by omega
      subst this
      simp
      rw [List.take_length] at htk
      exact retQ_to [.b true] (.inr rfl) (by simp [resL, resE, Tryd.results16]) ⟨by simp [results1, wthn_eq hle, htk], rfl⟩

theorem same_eq (a b : List (List UInt8)) : (wthn a b && decide (a.length = b.length)) = decide (a = b) := by
  rw [Bool.eq_iff_iff]
  simp only [Bool.and_eq_true, decide_eq_true_eq, wthn]
  constructor
  · rintro ⟨⟨h1, h2⟩, h3⟩
    rw [h3, List.take_length] at h2
    exact h2.symm
  · rintro rfl
    simp

theorem same_spec (a b : List (List UInt8)) (ha : (a.length : Int) ≤ 9223372036854775807) (hb : (b.length : Int) ≤ 9223372036854775807) (h : Hp) : dcall Tryd.prog 12 [encStrs a, encStrs b] h fun av h' => av = .b (decide (a = b)) ∧ h' = h := by
  refine call_z Tryd.func12 rfl Tryd.call12 Tryd.ntmps12 (by simp) ?_
  simp
  refine dcallV_fn (dcall.pure (refWithin_spec a b ha hb _) ?_)
  simp [encStrs]
  have e := same_eq a b
  refine retQ_to [.b (decide (a = b))] (.inr rfl) ?_ ⟨rfl, rfl⟩
  simp [resL, resE, Tryd.results12, ← e]
  have e2 : ((a.length : Int) = b.length) ↔ (a.length = b.length) := by omega
  simp [e2]

/-- The reference's loop: what is gathered, and what is left. -/
def PSt (s : List UInt8) (i f : Nat) (out : List (List UInt8)) : Prop := i ≤ s.length + 1 ∧ f ≤ i ∧ out.length ≤ i ∧ out ++ (if i ≤ s.length then spA ((s.drop f).take (i - f)) (s.drop i) else []) = spA [] s

theorem PSt.push {s : List UInt8} {i f : Nat} {out : List (List UInt8)} (p : PSt s i f out) (hi : i ≤ s.length) (hc : i = s.length ∨ s[i]? = some 47) : PSt s (i + 1) (i + 1) (out ++ [(s.drop f).take (i - f)]) := by
  obtain ⟨h1, h2, h3, h4⟩ := p
  refine ⟨by omega, by omega, by simp; omega, ?_⟩
  rw [if_pos hi] at h4
  rw [← h4, List.append_assoc]
  congr 1
  rcases hc with rfl | hc
  · rw [if_neg (by omega), List.drop_length]
    rfl
  · have hlt : i < s.length := by
      rcases Nat.lt_or_ge i s.length with h5 | h5
      · exact h5
      · rw [List.getElem?_eq_none h5] at hc; cases hc
    rw [if_pos (by omega), List.drop_eq_getElem_cons hlt]
    rw [List.getElem?_eq_getElem hlt] at hc
    rw [Option.some.inj hc, spA_sep]
    simp
theorem PSt.skip {s : List UInt8} {i f : Nat} {out : List (List UInt8)} (p : PSt s i f out) (hi : i < s.length) (hc : s[i] ≠ 47) : PSt s (i + 1) f out := by
  obtain ⟨h1, h2, h3, h4⟩ := p
  refine ⟨by omega, by omega, by omega, ?_⟩
  rw [if_pos (by omega)] at h4
  rw [if_pos (by omega), ← h4, List.drop_eq_getElem_cons hi, spA, if_neg hc]
  congr 2
  rw [Nat.succ_sub h2, List.take_succ_eq_append_getElem (by simp; omega)]
  simp
  congr 1
  omega

theorem refPieces_spec (s : List UInt8) (hs : s.length ≤ 2000) (h : Hp) : dcall Tryd.prog 20 [.s (str s)] h fun av h' => av = encStrs (spA [] s) ∧ h' = h := by
  refine call_z Tryd.func20 rfl Tryd.call20 Tryd.ntmps20 (by simp) ?_
  simp
  refine loop_z (fun m fr h' => ∃ (i f : Nat) (out : List (List UInt8)), m = s.length + 1 - i ∧ fr 5 = .i .i64 i ∧ fr 4 = .i .i64 f ∧ fr 0 = .s (str s) ∧ PSt s i f out ∧
    ((out = [] ∧ fr 3 = .nils ∧ h' = h) ∨ (0 < out.length ∧ ∃ v, fr 3 = .sl h.length v 0 out.length false ∧ h' = h ++ [.cells v 1 (rows encS out)] ∧ v % 4294967296 = 9))) (s.length + 1)
    ⟨0, 0, [], by simp, by simp, by simp, by simp, ⟨by omega, by omega, by simp, by simp⟩, .inl ⟨rfl, by simp, rfl⟩⟩ ?_
  rintro m fr h' ⟨i, f, out, hm, f5, f4, f0, ⟨hi, hf, ho, hout⟩, hbuf⟩
  simp [f5, f4, f0]
  have hr : ∀ k : Nat, k ≤ 3000 → k * 16 ≤ room := fun k hk => by unfold room; omega
  have rm : 16 ≤ room := hr 1 (by omega)
  refine brB_split (fun c => ?_) (fun c => ?_) <;> simp at c
  · rcases Nat.lt_or_ge i s.length with hlt | hge
    · have ne : ¬ ((i : Int) = s.length) := by omega
      simp [f5, f4, f0, bt_nat, hlt, ne]
      refine brB_split (fun c1 => ?_) (fun c1 => ?_)
      · simp only [u8_slash, decide_eq_true_eq] at c1
        have q := PSt.push ⟨hi, hf, ho, hout⟩ (by omega) (.inr (by rw [List.getElem?_eq_getElem hlt, c1]))
        rcases hbuf with ⟨rfl, f3, rfl⟩ | ⟨hpos, v, f3, rfl, hv⟩
        · simp [f5, f4, f0, f3, hf, hi, c, rm]
          refine ⟨s.length + 1 - (i + 1), by omega, i + 1, rfl, by rw [wrap_i64' (by omega)]; rfl, i + 1, by rw [wrap_i64' (by omega)]; rfl, [List.take (i - f) (List.drop f s)], q, by simp, 9, ⟨rfl, rfl⟩, ⟨rfl, rfl⟩, by decide⟩
        · have rm2 : (out.length + 1) * 16 ≤ room := hr _ (by omega)
          have im : (out.length : Int) + 1 ≤ imax := by unfold imax; omega
          have tk : List.take out.length (rows encS out) = rows encS out := by rw [List.take_of_length_le (by rw [strs_len]; omega)]
          simp [f5, f4, f0, f3, hf, hi, c, rm2, im, hv, strs_len, tk]
          refine ⟨s.length + 1 - (i + 1), by omega, i + 1, rfl, by rw [wrap_i64' (by omega)]; rfl, i + 1, by rw [wrap_i64' (by omega)]; rfl, out ++ [List.take (i - f) (List.drop f s)], q, by simp, v + 4294967296, ⟨rfl, by simp⟩, ⟨rfl, by simp [rows, encS]⟩, by omega⟩
      · simp only [u8_slash, decide_eq_false_iff_not] at c1
        have q := PSt.skip ⟨hi, hf, ho, hout⟩ hlt c1
        simp [f5, f4, f0]
        exact ⟨s.length + 1 - (i + 1), by omega, i + 1, rfl, by rw [wrap_i64' (by omega)]; rfl, f, rfl, out, q, hbuf⟩
    · have ei : i = s.length := by omega
      subst ei
      simp [f5, f4, f0, bt_nat]
      have q := PSt.push ⟨hi, hf, ho, hout⟩ (by omega) (.inl rfl)
      rcases hbuf with ⟨rfl, f3, rfl⟩ | ⟨hpos, v, f3, rfl, hv⟩
      · simp [f5, f4, f0, f3, hf, hi, c, rm]
        refine ⟨s.length + 1 - (s.length + 1), by omega, s.length + 1, rfl, by rw [wrap_i64' (by omega)]; rfl, s.length + 1, by rw [wrap_i64' (by omega)]; rfl, [List.take (s.length - f) (List.drop f s)], q, by simp, 9, ⟨rfl, rfl⟩, ⟨rfl, rfl⟩, by decide⟩
      · have rm2 : (out.length + 1) * 16 ≤ room := hr _ (by omega)
        have im : (out.length : Int) + 1 ≤ imax := by unfold imax; omega
        have tk : List.take out.length (rows encS out) = rows encS out := by rw [List.take_of_length_le (by rw [strs_len]; omega)]
        simp [f5, f4, f0, f3, hf, hi, c, rm2, im, hv, strs_len, tk]
        refine ⟨s.length + 1 - (s.length + 1), by omega, s.length + 1, rfl, by rw [wrap_i64' (by omega)]; rfl, s.length + 1, by rw [wrap_i64' (by omega)]; rfl, out ++ [List.take (s.length - f) (List.drop f s)], q, by simp, v + 4294967296, ⟨rfl, by simp⟩, ⟨rfl, by simp [rows, encS]⟩, by omega⟩
  · have ei : i = s.length + 1 := by omega
    subst ei
    rw [if_neg (by omega), List.append_nil] at hout
    rcases hbuf with ⟨rfl, f3, rfl⟩ | ⟨hpos, v, f3, rfl, hv⟩
    · exact absurd hout.symm (spA_ne _ _)
    · simp [f3]
      have tk : List.take out.length (rows encS out) = rows encS out := by rw [List.take_of_length_le (by rw [strs_len]; omega)]
      have e : AV.frz h.length v 1 (rows encS out) (results1 [AV.sl h.length v 0 out.length false]) = encStrs (spA [] s) := by simp [results1, AV.frz, strs_len, tk, encStrs, ← hout]
      exact retQ_frz [.sl h.length v 0 out.length false] h.length v 1 (rows encS out) (.inr rfl) (by simp [resL, resE, Tryd.results20]) (by simp) (by omega) (by rw [e]; exact strs_pure _) (Keep.app _ _) ⟨e, rfl⟩
end Go.M
