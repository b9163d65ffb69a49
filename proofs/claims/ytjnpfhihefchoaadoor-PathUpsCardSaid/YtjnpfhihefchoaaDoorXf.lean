/- The pieces of a path, one behind the other. -/
import Derived.Test.YtjnpfhihefchoaaDoorXe
namespace Go.M
open Go Go.Proofs
set_option maxRecDepth 20000
set_option linter.unusedVariables false
set_option linter.unusedSimpArgs false
set_option linter.unnecessarySimpa false
attribute [local congr] ifV_congr ifC_congr ifE_congr ifG_congr ifB_congr ifH_congr brB_congr dz_congr wz_congr qz_congr dwp_congr dcallV_congr dcall_congr retQ_congr thenQ_congr inBlockQ_congr noGotoQ_congr
attribute [local simp] hold_eq hp_get_set zero_imax one_imax cv_str mk_arr empty_str str_append extract_str ifV_some ifV_none ifC_some ifC_none ifE_some ifE_none ifG_some ifB_b ifH_some brB_true brB_false pt_at fz_at putL_z putL_n guardZ dz_nil dz_plain dz_plain0 dz_guard wz_skip wz_label wz_exit wz_goto wz_ret wz_region wz_draw wz_seq wz_cond wz_block wz_scope wz_loop wz_range qz_nil qz_plan qz_quiet qz_quiet_g qz_turn qz_turn0 hsAt thenQ inBlockQ noGotoQ callV opE opW evO wh wa pickE st sts gds condsOf opV allocE boxE buildE fillE splice newE loadE ptrCells storeE AV.cells AV.ones AV.one nilCheckE eqE eqE.go binE intE strE unE convE upE uSliceE uStringE sliceE sliceParts bnd sliceFull fieldAddrE indexAddrE indexE extractE builtinE lenE minL maxL min_go2 max_go2 appendE srcCells sliceCells copyE makeSliceE makeMapE buildSliceE reps_zero' reps_one reps_two cv_bool cv_int cv_nilp cv_nils cv_nilm cv_nilf cv_nilIface min_i64 max_i64 min_u64 max_u64 min_u32 max_u32 min_u16 max_u16 min_u8 max_u8 hp_get0 hp_get hp_set0 hp_set ty0 ty1 ty2 ty3 ty4 ty5

theorem splitSeq0_spec (s p : List UInt8) (h : Hp) : dcall Tryd.prog 30 [.s (str s), .s (str p), .i .i64 0] h fun av h' => av = .fn 34 [] [.ptr (h.length + 1) 9 0, .ptr h.length 9 0, .ptr (h.length + 2) 3 0] ∧
    h' = h ++ [.cells 9 1 [.s (str s)], .cells 9 1 [.s (str p)], .cells 3 1 [.i .i64 0]] := by
  refine call_z Tryd.func30 rfl Tryd.call30 Tryd.ntmps30 (by simp) ?_
  simp
  exact retQ_to [.fn 34 [] [.ptr (h.length + 1) 9 0, .ptr h.length 9 0, .ptr (h.length + 2) 3 0]] (.inr rfl) (by simp [resL, resE, Tryd.results30]) ⟨rfl, rfl⟩

theorem splitSeq_spec (s p : List UInt8) (h : Hp) : dcall Tryd.prog 25 [.s (str s), .s (str p)] h fun av h' => av = .fn 34 [] [.ptr (h.length + 1) 9 0, .ptr h.length 9 0, .ptr (h.length + 2) 3 0] ∧
    h' = h ++ [.cells 9 1 [.s (str s)], .cells 9 1 [.s (str p)], .cells 3 1 [.i .i64 0]] := by
  refine call_z Tryd.func25 rfl Tryd.call25 Tryd.ntmps25 (by simp) ?_
  simp
  refine dcallV_fn (dcall.pure' (splitSeq0_spec _ _ _) ?_)
  simp
  exact retQ_to [.fn 34 [] [.ptr (h.length + 1) 9 0, .ptr h.length 9 0, .ptr (h.length + 2) 3 0]] (.inr rfl) (by simp [resL, resE, Tryd.results25]) ⟨rfl, rfl⟩

theorem no_slash {r : List UInt8} (h : ∀ k : Nat, r[k]? ≠ some 47) : ∀ b ∈ r, b ≠ 47 := fun b hb e => by
  obtain ⟨k, hk⟩ := List.mem_iff_getElem?.1 hb
  exact h k (by rw [hk, e])
theorem spA_whole {r : List UInt8} (h : ∀ k : Nat, r[k]? ≠ some 47) : spA [] r = [r] := by
  have := spA_app r [] [] (no_slash h)
  simpa [spA] using this
theorem spA_cut {r : List UInt8} {o : Nat} (h1 : r[o]? = some 47) (h2 : ∀ k : Nat, k < o → r[k]? ≠ some 47) : spA [] r = r.take o :: spA [] (r.drop (o + 1)) := by
  have hlt : o < r.length := by
    rcases Nat.lt_or_ge o r.length with h | h
    · exact h
    · rw [List.getElem?_eq_none h] at h1; cases h1
  have hns : ∀ b ∈ r.take o, b ≠ 47 := no_slash fun k hk => by
    rw [List.getElem?_take] at hk
    split at hk
    · rename_i hko; exact h2 k hko hk
    · cases hk
  have e : r = r.take o ++ 47 :: r.drop (o + 1) := by
    rw [List.getElem?_eq_getElem hlt] at h1
    have h3 := List.drop_eq_getElem_cons hlt
    rw [Option.some.inj h1] at h3
    rw [← h3, List.take_append_drop]
  conv => lhs; rw [e]
  rw [spA_app _ [] _ hns, spA_sep, List.nil_append]

theorem splitSeq1_spec (y : AV) (pb sb kb : Nat) (s : List UInt8) (hs : s.length ≤ 1000) (h : Hp) (J : Nat → AV → Hp → Prop) (D : Hp → Prop) (h0 : J 0 (.s (str s)) h)
    (hbox : ∀ k x H, J k x H → H[sb]? = some (.cells 9 1 [x]) ∧ H[pb]? = some (.cells 9 1 [.s (str [47])]) ∧ H[kb]? = some (.cells 3 1 [.i .i64 0]))
    (hset : ∀ k x H z, J k x H → J k z (H.set sb (.cells 9 1 [z])))
    (step : ∀ k x H p, (spA [] s)[k]? = some p → J k x H → dcallV Tryd.prog y [.s (str p)] H fun av h2 => (av = .b true ∧ J (k + 1) x h2) ∨ (av = .b false ∧ D h2)) :
    dcall Tryd.prog 34 [y, .ptr pb 9 0, .ptr sb 9 0, .ptr kb 3 0] h fun av h' => (∃ x, J (spA [] s).length x h') ∨ D h' := by
  obtain ⟨b1, b2, b3⟩ := hbox _ _ _ h0
  refine call_z Tryd.func34 rfl Tryd.call34 Tryd.ntmps34 (by simp) ?_
  simp [b2]
  refine loop_z (fun m fr h' => ∃ (k : Nat) (r : List UInt8), m = r.length ∧ fr 0 = y ∧ fr 1 = .ptr pb 9 0 ∧ fr 2 = .ptr sb 9 0 ∧ fr 3 = .ptr kb 3 0 ∧ (spA [] s).drop k = spA [] r ∧ r.length ≤ s.length ∧ J k (.s (str r)) h') s.length
    ⟨0, s, rfl, by simp, by simp, by simp, by simp, by simp, by simp, h0⟩ ?_
  rintro m fr h' ⟨k, r, hm, f0, f1, f2, f3, hdr, hr, hJ⟩
  obtain ⟨b1, b2, b3⟩ := hbox _ _ _ hJ
  simp [f0, f1, f2, f3, b1, b2]
  refine dcallV_fn (dcall.pure (index_spec r (by unfold imax; omega) _) ?_)
  simp
  by_cases hc : Go.Lib.indexByte r 47 < 0
  · have hw := spA_whole (r := r) (fun k => Go.Lib.indexByte_none (by have := Go.Lib.indexByte_ge r 47; omega) k)
    rw [hw] at hdr
    have hk : (spA [] s)[k]? = some r := by rw [← List.head?_drop, hdr]; rfl
    have hk1 : k + 1 = (spA [] s).length := by
      have := congrArg List.length hdr
      simp at this
      omega
    simp [hc, f0, f1, f2, f3, b1, b2]
    refine (step k _ h' r hk hJ).mono ?_
    rintro av h2 (⟨rfl, hJ2⟩ | ⟨rfl, hD⟩)
    · rw [hk1] at hJ2
      simp
      exact retQ_to [] (.inl rfl) (by simp [resL, resE, Tryd.results34]) (.inl ⟨_, hJ2⟩)
    · simp
      exact retQ_to [] (.inl rfl) (by simp [resL, resE, Tryd.results34]) (.inr hD)
  · obtain ⟨o, ho⟩ := Int.eq_ofNat_of_zero_le (by omega : 0 ≤ Go.Lib.indexByte r 47)
    obtain ⟨o1, o2⟩ := Go.Lib.indexByte_some ho
    have hlt : o < r.length := by
      rcases Nat.lt_or_ge o r.length with h1 | h1
      · exact h1
      · rw [List.getElem?_eq_none h1] at o1; cases o1
    have hw := spA_cut o1 o2
    rw [hw] at hdr
    have w1 : IntKind.i64.wrap ((o : Int) + 0) = (o : Int) := by rw [Int.add_zero]; exact wrap_i64' (by omega)
    have w2 : IntKind.i64.wrap (o : Int) = (o : Int) := wrap_i64' (by omega)
    have w3 : IntKind.i64.wrap ((o : Int) + 1) = ((o + 1 : Nat) : Int) := by rw [wrap_i64' (by omega)]; rfl
    have hle : o ≤ r.length := by omega
    have hle1 : o + 1 ≤ r.length := by omega
    rw [ho]
    have w0 : ¬ ((o : Int) < 0) := by omega
    have hk : (spA [] s)[k]? = some (r.take o) := by rw [← List.head?_drop, hdr]; rfl
    simp [f0, f1, f2, f3, b1, b2, b3, w0, w2, w3, hle, hle1]
    refine (step k _ h' _ hk hJ).mono ?_
    rintro av h2 (⟨rfl, hJ2⟩ | ⟨rfl, hD⟩)
    · obtain ⟨b1, b2, b3⟩ := hbox _ _ _ hJ2
      have p0 : (0 : Int) ≤ (o : Int) + 1 := by omega
      have hls := lt_of_get b1
      simp [p0, f0, f1, f2, f3, b1, b2, b3, w0, w2, w3, hle, hle1]
      refine ⟨r.length - (o + 1), by omega, k + 1, r.drop (o + 1), by simp, ?_, by simp; omega, ?_⟩
      · have := congrArg List.tail hdr
        rwa [List.tail_drop, List.tail_cons] at this
      · rw [List.take_of_length_le (by simp)]
        exact hset _ _ _ _ hJ2
    · simp
      exact retQ_to [] (.inr rfl) (by simp [resL, resE, Tryd.results34]) (.inr hD)

theorem pieces0_spec (s : List UInt8) (h : Hp) : dcall Tryd.prog 18 [.s (str s)] h fun av h' => av = .fn 24 [] [.ptr h.length 9 0] ∧ h' = h ++ [.cells 9 1 [.s (str s)]] := by
  refine call_z Tryd.func18 rfl Tryd.call18 Tryd.ntmps18 (by simp) ?_
  simp
  exact retQ_to [.fn 24 [] [.ptr h.length 9 0]] (.inr rfl) (by simp [resL, resE, Tryd.results18]) ⟨rfl, rfl⟩

/-- One behind the other: y is called at each piece that says something. J: what stands behind k pieces; it does not look at places n to n + 4, which are the iterator's own. -/
theorem pieces1_spec (q : Nat) (bp : Nat) (s : List UInt8) (hs : s.length ≤ 1000) (h : Hp) (n : Nat) (hn : h.length = n) (J : Nat → Hp → Prop) (D : Hp → Prop) (hb : h[bp]? = some (.cells 9 1 [.s (str s)])) (h0 : ∀ l, J 0 (h ++ l))
    (hJ : ∀ k H i x, J k H → n ≤ i → i < n + 5 → J k (H.set i x)) (hD : ∀ H i x, D H → n ≤ i → i < n + 5 → D (H.set i x))
    (skip : ∀ k H p, (spA [] s)[k]? = some p → p = [] ∨ p = [46] → J k H → J (k + 1) H)
    (step : ∀ k H p, (spA [] s)[k]? = some p → ¬ (p = [] ∨ p = [46]) → n + 5 ≤ H.length → J k H → dcallV Tryd.prog (.yld q) [.s (str p)] H fun av h2 => (∀ i, n ≤ i → i < n + 5 → h2[i]? = H[i]?) ∧ ((av = .b true ∧ J (k + 1) h2) ∨ (av = .b false ∧ D h2))) :
    dcall Tryd.prog 24 [.yld q, .ptr bp 9 0] h fun av h' => J (spA [] s).length h' ∨ D h' := by
  refine call_z Tryd.func24 rfl Tryd.call24 Tryd.ntmps24 (by simp) ?_
  have hb1 := get_app hb
  simp [hb, hb1]
  refine dcallV_fn (dcall.pure' (splitSeq_spec _ _ _) ?_)
  simp
  refine range_z (n + 4) [.yld (n + 4), .ptr (n + 2) 9 0, .ptr (n + 1) 9 0, .ptr (n + 3) 3 0] (by simp [hn]; exact ⟨rfl, rfl⟩) Tryd.call34 (.inl rfl) (by simp [hn]) rfl ?_
  generalize hFR : pt _ _ _ = FR
  have g2 : FR 2 = .ptr n 39 0 := by rw [← hFR]; simp [hn]
  clear hFR
  generalize hLP : HObj.loop _ _ _ 19 FR = LP
  simp only [List.append_assoc, List.cons_append, List.nil_append]
  refine (splitSeq1_spec (.yld (n + 4)) (n + 2) (n + 1) (n + 3) s hs _
    (fun k x H => J k H ∧ H[n]? = some (.cells 39 1 [.yld q]) ∧ H[n + 1]? = some (.cells 9 1 [x]) ∧ H[n + 2]? = some (.cells 9 1 [.s (str [47])]) ∧ H[n + 3]? = some (.cells 3 1 [.i .i64 0]) ∧ H[n + 4]? = some (LP (some none)))
    (fun H => D H ∧ H[n + 4]? = some (LP (some (some .ret)))) ?_ ?_ ?_ ?_).mono ?_
  · refine ⟨h0 _, ?_, ?_, ?_, ?_, ?_⟩ <;> simp [← hn]
  · rintro k x H ⟨_, _, j1, j2, j3, _⟩
    exact ⟨j1, j2, j3⟩
  · rintro k x H z ⟨j0, j1, j2, j3, j4, j5⟩
    exact ⟨hJ _ _ _ _ j0 (by omega) (by omega), get_ne _ (by omega) j1, get_at _ j2, get_ne _ (by omega) j3, get_ne _ (by omega) j4, get_ne _ (by omega) j5⟩
  · rintro k x H p hp ⟨j0, j1, j2, j3, j4, j5⟩
    refine yld_L hLP j5 (by decide) rfl ?_
    have hl := lt_of_get j5
    have k0 := hJ k H (n + 4) (LP none) j0 (by omega) (by omega)
    have k1 := get_ne (i := n + 4) (LP none) (by omega) j1
    by_cases hp0 : p = [] ∨ p = [46]
    · have k2 := hJ _ _ (n + 4) (LP (some none)) (skip k _ p hp hp0 k0) (by omega) (by omega)
      have hz : (!decide (p = []) && !decide (p = [46])) = false := by rcases hp0 with rfl | rfl <;> simp
      rcases hp0 with rfl | rfl
      · simp [g2, k1]
        rw [List.set_set] at k2
        exact ⟨j5, none, rfl, ⟨_, j5⟩, .inl ⟨rfl, k2, j2, j3, j4, ⟨_, j5⟩, rfl⟩⟩
      · simp [g2, k1]
        rw [List.set_set] at k2
        exact ⟨j5, none, rfl, ⟨_, j5⟩, .inl ⟨rfl, k2, j2, j3, j4, ⟨_, j5⟩, rfl⟩⟩
    · have hp1 : ¬ p = [] := fun e => hp0 (.inl e)
      have hp2 : ¬ p = [46] := fun e => hp0 (.inr e)
      simp [g2, k1, hp1, hp2]
      refine ⟨j5, ?_⟩
      refine (step k _ p hp hp0 (by simp; omega) k0).mono ?_
      rintro av h2 ⟨hkeep, hcase⟩
      have e4 : h2[n + 4]? = some (LP none) := by rw [hkeep _ (by omega) (by omega)]; exact get_at _ j5
      rcases hcase with ⟨rfl, k2⟩ | ⟨rfl, d2⟩
      · simp
        refine ⟨none, rfl, e4, .inl ⟨rfl, hJ _ _ _ _ k2 (by omega) (by omega), ?_, ?_, ?_, ?_, ⟨_, e4⟩, rfl⟩⟩
        · rw [hkeep _ (by omega) (by omega)]; exact get_ne _ (by omega) j1
        · rw [hkeep _ (by omega) (by omega)]; exact get_ne _ (by omega) j2
        · rw [hkeep _ (by omega) (by omega)]; exact get_ne _ (by omega) j3
        · rw [hkeep _ (by omega) (by omega)]; exact get_ne _ (by omega) j4
      · simp
        exact ⟨some .ret, rfl, e4, .inr ⟨rfl, hD _ _ _ d2 (by omega) (by omega), ⟨_, e4⟩, rfl⟩⟩
  · rintro av h2 (⟨x, j0, j1, j2, j3, j4, j5⟩ | ⟨d0, d1⟩)
    · refine ⟨none, j5, ?_⟩
      simp
      exact retQ_to [] (.inl rfl) (by simp [resL, resE, Tryd.results24]) (.inl (hJ _ _ _ _ j0 (by omega) (by omega)))
    · refine ⟨some .ret, d1, ?_⟩
      refine wz_sound ?_
      simp
      exact retQ_to [] (.inr rfl) (by simp [resL, resE, Tryd.results24]) (.inr (hD _ _ _ d0 (by omega) (by omega)))
end Go.M
