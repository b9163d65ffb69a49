/- The laws of layer 12, the third part. -/
import Derived.Test.YtjnpfhihefchoaaDoorXj
namespace Go.M
open Go Go.Proofs
set_option maxRecDepth 20000
set_option linter.unusedVariables false
set_option linter.unusedSimpArgs false
set_option linter.unnecessarySimpa false
attribute [local congr] ifV_congr ifC_congr ifE_congr ifG_congr ifB_congr ifH_congr brB_congr dz_congr wz_congr qz_congr dwp_congr dcallV_congr dcall_congr retQ_congr thenQ_congr inBlockQ_congr noGotoQ_congr
attribute [local simp] hold_eq hp_get_set zero_imax one_imax cv_str mk_arr empty_str str_append extract_str ifV_some ifV_none ifC_some ifC_none ifE_some ifE_none ifG_some ifB_b ifH_some brB_true brB_false pt_at fz_at putL_z putL_n guardZ dz_nil dz_plain dz_plain0 dz_guard wz_skip wz_label wz_exit wz_goto wz_ret wz_region wz_draw wz_seq wz_cond wz_block wz_scope wz_loop wz_range qz_nil qz_plan qz_quiet qz_quiet_g qz_turn qz_turn0 hsAt thenQ inBlockQ noGotoQ callV opE opW evO wh wa pickE st sts gds condsOf opV allocE boxE buildE fillE splice newE loadE ptrCells storeE AV.cells AV.ones AV.one nilCheckE eqE eqE.go binE intE strE unE convE upE uSliceE uStringE sliceE sliceParts bnd sliceFull fieldAddrE indexAddrE indexE extractE builtinE lenE minL maxL min_go2 max_go2 appendE srcCells sliceCells copyE makeSliceE makeMapE buildSliceE reps_zero' reps_one reps_two cv_bool cv_int cv_nilp cv_nils cv_nilm cv_nilf cv_nilIface min_i64 max_i64 min_u64 max_u64 min_u32 max_u32 min_u16 max_u16 min_u8 max_u8 hp_get0 hp_get hp_set0 hp_set ty0 ty1 ty2 ty3 ty4 ty5

theorem call_s {P : Program} {f : FuncId} {fn : Func} {c : Code} {args : List AV} {h : Hp} {R : AV → Hp → Prop} (hf : P.funcs[f]? = some fn) (hb : fn.body = some c) (hc : ∀ rs w, (callFunc f rs).run P w = .ok (.enter f rs) w)
    {N : Nat} (hN : fn.ntmps = N) (hl : args.length ≤ N) (hd : dwp P none N c (retQ P fn h R) (fz args) h) : dcall P f args h R := by
  subst hN
  rw [fz_eq] at hd
  exact dcall_of hf hb hc hl hd

/-- Between two pieces of code: a row is nobody's to turn any more. -/
theorem dwp_frz {P : Program} {rd : Option Nat} {N : Nat} {c : Code} {Q : Post} {fr : Fr} {h : Hp} (id ver esz : Nat) (cs : List AV) (hid : h[id]? = some (.cells ver esz cs)) (hd : dwp P rd N c Q (fun t => (fr t).frz id ver esz cs) (h.set id .dead)) : dwp P rd N c Q fr h := by
  intro S g a w ro hS hw hf hro
  obtain ⟨g', hw', F⟩ := freeze_obj (h' := h.set id .dead) hw hid (by simp [lt_of_get hid]) (fun id' hne => by rw [List.getElem?_set_ne (fun e => hne e.symm)])
  exact wpIn_mono (hd S g' a w ro hS hw' ⟨hf.size, fun t => F.rel (hf.val t), hf.marks.mono F.ext⟩ (hro.mono F.ext)) fun _ _ _ hd => hd.ext F.ext

theorem frz_strs (id ver esz : Nat) (cs : List AV) (l : List (List UInt8)) : (encStrs l).frz id ver esz cs = encStrs l := by
  have : ∀ l : List (List UInt8), AV.frzs id ver esz cs (rows encS l) = rows encS l := by
    intro l
    induction l with
    | nil => rfl
    | cons s r ih =>
      have e : rows encS (s :: r) = .s (str s) :: rows encS r := rfl
      rw [e, AV.frzs, ih]
      rfl
  rw [encStrs, AV.frz, this]

theorem retQ_any (rs : List AV) {P : Program} {fn : Func} {h0 h : Hp} {R : AV → Prop} {e : Exit} {fr : Fr} (he : e = .normal ∨ e = .ret) (hr : resL P h fr fn.results.toList = some rs) (hR : R (results1 rs)) : retQ P fn h0 (fun av _ => R av) e fr h :=
  retQ_to rs he hr hR

theorem joinR_more (l : List (List UInt8)) : ∃ (p : List UInt8) (g : Int), joinR l = .tup [.s (str p), .i .i64 g] ∧ p.length ≤ 1000 ∧ (g = 0 → joinO l = some p) := by
  cases h : joinO l with
  | none => exact ⟨[], 120, joinR_none h, by simp, by simp⟩
  | some s => exact ⟨s, 0, joinR_some h, (joinO_some h).2.2.2, fun _ => rfl⟩

theorem both_join {A B : List (List UInt8)} {p q : List UInt8} (hA : joinO A = some p) (hB : joinO B = some q) (ha : A ≠ []) (hb : B ≠ []) (h40 : A.length + B.length ≤ 40) (hl : p.length + q.length ≤ 1000) : joinO (A ++ B) = some (p ++ q) := by
  obtain ⟨a1, a2, a3, _⟩ := joinO_some hA
  obtain ⟨b1, b2, b3, _⟩ := joinO_some hB
  have e1 : p = joinT A := by rw [a1, joinS, if_neg ha]
  have e2 : q = joinT B := by rw [b1, joinS, if_neg hb]
  have e3 : joinS (A ++ B) = p ++ q := by rw [joinS, if_neg (by simp [ha]), joinT_app, ← e1, ← e2]
  rw [← e3]
  exact joinO_of (by simp [a3, b3]) (by simp; omega) (by rw [e3, List.length_append]; omega)

theorem pathUps_spec (name s : List UInt8) (a b : List (List UInt8)) (hz : name.length ≤ 140737488355328) (ha : (a.length : Int) ≤ 9223372036854775807) (hb : (b.length : Int) ≤ 9223372036854775807) (h : Hp) :
    dcall Tryd.prog 5 [.s (str name), .s (str s), encStrs a, encStrs b] h fun av _ => av = .b true := by
  refine call_s Tryd.func5 rfl Tryd.call5 Tryd.ntmps5 (by simp) ?_
  have m1 : min (s.length : Int) 500 = ((min s.length 500 : Nat) : Int) := by omega
  have m2 : min (a.length : Int) 20 = ((min a.length 20 : Nat) : Int) := by omega
  have m3 : min (b.length : Int) 20 = ((min b.length 20 : Nat) : Int) := by omega
  have k1 : min s.length 500 ≤ s.length := by omega
  have k2 : min a.length 20 ≤ a.length := by omega
  have k3 : min b.length 20 ≤ b.length := by omega
  have sta := strs_take a 20
  have stb := strs_take b 20
  have hS : (s.take 500).length ≤ 500 := by rw [List.length_take]; omega
  have hA : (a.take 20).length ≤ 20 := by rw [List.length_take]; omega
  have hB : (b.take 20).length ≤ 20 := by rw [List.length_take]; omega
  refine dwp_seq (wz_sound ?_)
  simp
  refine dwp_seq (wz_sound ?_)
  simp
  refine dcallV_fn (dcall.pure (shown_spec _) ?_)
  simp only [encStrs]
  simp
  refine dwp_seq (wz_sound ?_)
  simp [m1, k1, str_take]
  refine dwp_seq (wz_sound ?_)
  simp [m2, k2, sta]
  refine dwp_seq (wz_sound ?_)
  simp [m3, k3, stb]
  generalize s.take 500 = S at *
  generalize a.take 20 = A at *
  generalize b.take 20 = B at *
  clear sta stb m1 m2 m3 k1 k2 k3
  have r1 : 1 + (S.length : Int) ≤ imax := by unfold imax; omega
  have r2 : 1 + (name.length : Int) ≤ imax := by unfold imax; omega
  have r3 : (name.length : Int) + 1 + 4 ≤ imax := by unfold imax; omega
  have r4 : (name.length : Int) + 4 + 1 + (S.length : Int) ≤ imax := by unfold imax; omega
  obtain ⟨x, e, hx, hxl⟩ := splitR_form (47 :: S)
  obtain ⟨y, f, hy, hyl⟩ := splitR_form (47 :: (name ++ 47 :: 46 :: 46 :: 47 :: S))
  refine (fun (tail : ∀ fr : Fr, fr 2 = encStrs A → fr 3 = encStrs B → fr 9 = .b true → dwp Tryd.prog none 156 ?rest ?Q fr h) => ?main) ?tail
  case main =>
    refine dwp_seq (wz_sound ?_)
    simp [r1]
    refine dcallV_fn (dcall.pure (split_spec _ _) ?_)
    simp [hx]
    refine dwp_seq (wz_sound ?_)
    simp [r2, r3, r4]
    refine dcallV_fn (dcall.pure (split_spec _ _) ?_)
    cases hj : joinO [name] with
    | none =>
      simp [hy]
      refine dwp_seq (wz_sound ?_)
      simp [reps]
      refine dcallV_fn ?_
      simp only [List.nil_append, List.append_nil]
      refine dcall_le (bs := [encStrs [name]]) (.cons (.lst _ _ _) .nil) (dcall.pure (join_spec' _ (by simp) _) ?_)
      rw [joinR_none hj]
      simp
      refine dwp_seq (wz_sound ?_)
      by_cases hef : e = f
      · simp [hef]
        refine tail _ ?_ ?_ ?_ <;> simp
      · simp [hef]
        refine tail _ ?_ ?_ ?_ <;> simp
    | some n =>
      have hn : isName name = true := by
        have := (joinO_some hj).2.2.1
        simpa using this
      have hup := splitO_up hn hS
      have e1 : splitR (47 :: (name ++ 47 :: 46 :: 46 :: 47 :: S)) = .tup [encStrs x, .i .i64 e] := by
        have e2 : 47 :: (name ++ [47, 46, 46, 47] ++ S) = 47 :: (name ++ 47 :: 46 :: 46 :: 47 :: S) := by simp
        rw [e2] at hup
        rw [← hx]
        unfold splitR
        rw [hup]
      simp [e1]
      refine dwp_seq (wz_sound ?_)
      simp [reps]
      refine dcallV_fn ?_
      simp only [List.nil_append, List.append_nil]
      refine dcall_le (bs := [encStrs [name]]) (.cons (.lst _ _ _) .nil) (dcall.pure (join_spec' _ (by simp) _) ?_)
      rw [joinR_some hj]
      simp
      refine dwp_seq (wz_sound ?_)
      have hnl := (isName_parts hn).2.2.2.1
      have hnl2 : (name.length : Int) < 60 := by omega
      simp [hnl2]
      refine dcallV_fn (dcall.pure (same_spec x x hxl hxl _) ?_)
      simp
      refine tail _ ?_ ?_ ?_ <;> simp
  case tail =>
    intro fr f2 f3 f9
    have hA2 : (A.length : Int) ≤ 9223372036854775807 := by omega
    have hB2 : (B.length : Int) ≤ 9223372036854775807 := by omega
    obtain ⟨p, g, hp, hpl, hpo⟩ := joinR_more A
    obtain ⟨q, k, hq, hql, hqo⟩ := joinR_more B
    obtain ⟨r, i, hri⟩ := joinR_form (A ++ B)
    refine dwp_seq (wz_sound ?_)
    simp [f2]
    refine dcallV_fn (dcall.pure (join_spec' A hA2 _) ?_)
    simp [hp]
    refine dwp_seq (wz_sound ?_)
    simp [f3]
    refine dcallV_fn (dcall.pure (join_spec' B hB2 _) ?_)
    simp [hq]
    refine dwp_seq (wz_sound ?_)
    have w1 : IntKind.i64.wrap ((A.length : Int) + (B.length : Int)) = (A.length : Int) + (B.length : Int) := wrap_i64' (by omega)
    have w2 : (0 : Int) ≤ (A.length : Int) + (B.length : Int) := by omega
    have w3 : 16 * ((A.length : Int) + (B.length : Int)) ≤ 281474976710656 := by omega
    have q1 : A.length * 16 ≤ room := by unfold room; omega
    have q2 : (A.length : Int) ≤ imax := by unfold imax; omega
    have q3 : (A.length + B.length) * 16 ≤ room := by unfold room; omega
    have q4 : (A.length : Int) + (B.length : Int) ≤ imax := by unfold imax; omega
    have tkA : List.take A.length (rows encS A) = rows encS A := by rw [List.take_of_length_le (by rw [strs_len]; omega)]
    simp only [encStrs] at f2 f3
    simp [f2, f3, encStrs, w1, w2, w3, q1, q2, q3, q4, strs_len, tkA]
    refine dwp_frz h.length 8589934601 1 (rows encS A ++ rows encS B) (by simp) ?_
    have hrl : (rows encS A ++ rows encS B) = rows encS (A ++ B) := by simp [rows]
    have eS : AV.frz h.length 8589934601 1 (rows encS A ++ rows encS B) (AV.sl h.length 8589934601 0 (A.length + B.length) false) = encStrs (A ++ B) := by
      rw [hrl]
      have : List.take (A.length + B.length) (rows encS (A ++ B)) = rows encS (A ++ B) := by rw [List.take_of_length_le (by rw [strs_len, List.length_append]; omega)]
      simp [AV.frz, strs_len, this, encStrs]
    have eA := frz_strs h.length 8589934601 1 (rows encS A ++ rows encS B) A
    have eB := frz_strs h.length 8589934601 1 (rows encS A ++ rows encS B) B
    simp only [encStrs] at eA eB
    generalize hFR : (fun t => AV.frz h.length 8589934601 1 (rows encS A ++ rows encS B) (pt _ _ _ t)) = FR
    have g2 : FR 2 = encStrs A := by rw [← hFR]; simp [f2, eA, encStrs]
    have g3 : FR 3 = encStrs B := by rw [← hFR]; simp [f3, eB, encStrs]
    have g9 : FR 9 = .b true := by rw [← hFR]; simp [f9, AV.frz]
    have g16 : FR 16 = .s (str p) := by rw [← hFR]; simp [AV.frz]
    have g17 : FR 17 = .i .i64 g := by rw [← hFR]; simp [AV.frz]
    have g18 : FR 18 = .s (str q) := by rw [← hFR]; simp [AV.frz]
    have g19 : FR 19 = .i .i64 k := by rw [← hFR]; simp [AV.frz]
    have g20 : FR 20 = encStrs (A ++ B) := by rw [← hFR]; simp [eS]
    clear hFR
    have hAB2 : ((A ++ B).length : Int) ≤ 9223372036854775807 := by rw [List.length_append]; omega
    refine dwp_seq (wz_sound ?_)
    simp [g20]
    refine dcallV_fn (dcall.pure (join_spec' (A ++ B) hAB2 _) ?_)
    simp [hri]
    have w5 : IntKind.i64.wrap ((p.length : Int) + (q.length : Int)) = (p.length : Int) + (q.length : Int) := wrap_i64' (by omega)
    refine wz_sound ?_
    simp only [encStrs] at g2 g3
    simp [g2, g3, g9, g16, g17, g18, g19, w5]
    refine brB_split (fun c => ?_) (fun c => ?_) <;> simp at c
    · simp [g9]
      exact retQ_any [.b true] (.inr rfl) (by simp [resL, resE, Tryd.results5]) rfl
    · obtain ⟨⟨⟨⟨c1, c2⟩, c3⟩, c4⟩, c5⟩ := c
      have hj := both_join (hpo c1) (hqo c2) c3 c4 (by omega) (by omega)
      rw [joinR_some hj] at hri
      simp at hri
      obtain ⟨hr1, hi1⟩ := hri
      subst hr1; subst hi1
      have wab : wthn A (A ++ B) = true := by simp [wthn]
      have wba : wthn (A ++ B) A = false := by
        have : 0 < B.length := List.length_pos_iff.2 c4
        simp [wthn]
        omega
      have i6 : (p.length : Int) + (q.length : Int) ≤ imax := by unfold imax; omega
      have c4' : ¬ ((B.length : Int) = 0) := by
        have : 0 < B.length := List.length_pos_iff.2 c4
        omega
      simp [g2, g3, g9, g16, g18, g20, i6]
      refine dcallV_fn (dcall.pure (within_spec A (A ++ B) hA2 hAB2 _) ?_)
      simp [wab, g2, g3, g20, c4, c4']
      refine dcallV_fn (dcall.pure (within_spec (A ++ B) A hAB2 hA2 _) ?_)
      simp [wba]
      exact retQ_any [.b true] (.inr rfl) (by simp [resL, resE, Tryd.results5]) rfl
end Go.M
