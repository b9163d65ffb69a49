/- record.Encode. -/
import Derived.Test.YtjplebfagohphaaWf
namespace Go.M
open Go Go.Proofs
set_option maxRecDepth 20000
set_option linter.unusedVariables false
set_option linter.unusedSimpArgs false
set_option linter.unnecessarySimpa false
attribute [local congr] ifV_congr ifC_congr ifE_congr ifG_congr ifB_congr ifH_congr brB_congr dz_congr wz_congr qz_congr dwp_congr dcallV_congr dcall_congr retQ_congr thenQ_congr inBlockQ_congr noGotoQ_congr
attribute [local simp] hold_eq hp_get_set zero_imax one_imax cv_str mk_arr empty_str str_append extract_str ifV_some ifV_none ifC_some ifC_none ifE_some ifE_none ifG_some ifB_b ifH_some brB_true brB_false pt_at fz_at putL_z putL_n guardZ dz_nil dz_plain dz_plain0 dz_guard wz_skip wz_label wz_exit wz_goto wz_ret wz_region wz_draw wz_seq wz_cond wz_block wz_scope wz_loop wz_range qz_nil qz_plan qz_quiet qz_quiet_g qz_turn qz_turn0 thenQ inBlockQ noGotoQ callV opE opW evO wh wa pickE st sts gds condsOf opV allocE boxE buildE fillE splice newE loadE ptrCells storeE AV.cells AV.ones AV.one nilCheckE eqE eqE.go binE intE strE unE convE upE uSliceE uStringE sliceE sliceParts bnd sliceFull fieldAddrE indexAddrE indexE extractE builtinE lenE minL maxL min_go2 max_go2 appendE srcCells sliceCells copyE makeSliceE makeMapE buildSliceE reps_zero' reps_one reps_two cv_bool cv_int cv_nilp cv_nils cv_nilm cv_nilf cv_nilIface min_i64 max_i64 min_u64 max_u64 min_u32 max_u32 min_u16 max_u16 min_u8 max_u8 hp_get0 hp_get hp_set0 hp_set ty0 ty1 ty2 ty3 ty4 ty5 ty6 ty7 ty8 ty9 ty10 ty11

/-- What a put writes behind a builder. -/
theorem encode1_spec (N id : Nat) (bs : List UInt8) (n w : Int) (k : Nat) (hn : 0 ≤ n ∧ n ≤ 18446744073709551615) (hw : 1 ≤ w ∧ w ≤ 8) (hwk : w.toNat = k) (hlt : n < 256 ^ k) (h : Hp) (hb : Bld N h id bs) (hN : N ≤ h.length) (hroom : bs.length ≤ 100000) :
    dcall Try.prog 56 [.i .u64 n, .i .i64 w, .ptr id 98 0] h fun av h' => av = .tup [] ∧ Bld N h' id (bs ++ le k n) ∧ BKeep N id h h' := by
  subst hwk
  refine call_z Try.func56 rfl Try.call56 Try.ntmps56 (by simp) ?_
  simp
  refine dcallV_fn (dcall.pure (put_spec _ _ hn _) ?_)
  have hp : putR n w = .tup [.s (str (le w.toNat n)), .i .i64 0] := by rw [putR, if_pos ⟨hw.1, hw.2, hlt⟩]
  simp [hp]
  refine dcallV_fn ((writeString_spec N id bs (le w.toNat n) h hb hN (by rw [le_length]; omega)).mono ?_)
  rintro av h' ⟨rfl, h1, h2⟩
  simp
  exact retQ_to [] (.inl rfl) (by simp [resL, resE, Try.results56]) ⟨rfl, h1, h2⟩

/-- Where a record's writing stands: its box, what was there, the builder. -/
structure Enc (r : Rec) (h h' : Hp) (bs : List UInt8) : Prop where
  box : h'[h.length]? = some (.cells 25 1 (encRecL r))
  keep : Keep h h'
  bld : Bld (h.length + 1) h' (h.length + 1) bs

theorem Enc.step {r : Rec} {h h' h2 : Hp} {bs bs2 : List UInt8} (e : Enc r h h' bs) (hb : Bld (h.length + 1) h2 (h.length + 1) bs2) (hk : BKeep (h.length + 1) (h.length + 1) h' h2) : Enc r h h2 bs2 where
  box := hk _ _ e.box (by omega) (.inl (by omega))
  keep := fun i x hx => hk i x (e.keep i x hx) (by have := lt_of_get hx; omega) (.inl (by have := lt_of_get hx; omega))
  bld := hb
theorem Enc.len {r : Rec} {h h' : Hp} {bs : List UInt8} (e : Enc r h h' bs) : h.length + 1 ≤ h'.length := by have := lt_of_get e.box; omega

theorem Enc.len2 {r : Rec} {h h' : Hp} {bs : List UInt8} (e : Enc r h h' bs) : h.length + 2 ≤ h'.length := by
  obtain ⟨_, p, buf, hid, _⟩ := e.bld
  have := lt_of_get hid; omega
theorem Bld.app {n : Nat} {h : Hp} {id : Nat} {bs : List UInt8} (hb : Bld n h id bs) (l : Hp) : Bld n (h ++ l) id bs := by
  obtain ⟨h0, p, buf, hid, hp, hbuf⟩ := hb
  refine ⟨h0, p, buf, get_ext l hid, hp, ?_⟩
  rcases hbuf with h1 | ⟨r, v, full, hr0, hr1, hbs, hbf, hr, hv⟩
  · exact .inl h1
  · exact .inr ⟨r, v, full, hr0, hr1, hbs, hbf, get_ext l hr, hv⟩
theorem Enc.app {r : Rec} {h h' : Hp} {bs : List UInt8} (e : Enc r h h' bs) (l : Hp) : Enc r h (h' ++ l) bs := ⟨get_ext l e.box, e.keep.of_app l, e.bld.app l⟩

theorem encode_spec (r : Rec) (hr : r.Ok) (h : Hp) : dcall Try.prog 14 [encRec r] h fun av h' => av = encodeR r ∧ h' = h := by
  refine call_z Try.func14 rfl Try.call14 Try.ntmps14 (by simp) ?_
  simp [encRec, encRecL, encEnts]
  refine dcallV_fn (dcall.pure (right_spec r hr _) ?_)
  cases hR : r.right
  · simp
    exact retQ_drop [.s (str []), .i .i64 70] (.inr rfl) (by simp [resL, resE, Try.results14]) rfl (Keep.app _ _) ⟨by rw [encodeR, hR]; rfl, rfl⟩
  have R := Rec.right_of hR
  obtain ⟨hr1, hr2, hr3, hr4, hr5⟩ := hr
  unfold u64ok at hr1 hr2
  simp
  refine dcallV_fn ((writeString_spec (h.length + 1) (h.length + 1) [] [82] _ ⟨Nat.le_refl _, .nilp, .nils, by simp, .inl rfl, .inl ⟨rfl, rfl⟩⟩ (by simp) (by simp)).mono ?_)
  rintro av h1 ⟨rfl, hb1, hk1⟩
  have E1 : Enc r h h1 [82] := ⟨hk1 _ _ (by simp [encRecL, encEnts]) (by omega) (.inl (by omega)), fun i x hx => hk1 i x (get_ext _ hx) (by have := lt_of_get hx; omega) (.inl (by have := lt_of_get hx; omega)), hb1⟩
  have x1 := E1.box
  simp only [encRecL, encEnts] at x1
  simp [x1]
  have p1 : (256 : Int) ^ 1 = 256 := by decide
  have p2 : (256 : Int) ^ 2 = 65536 := by decide
  have p4 : (256 : Int) ^ 4 = 4294967296 := by decide
  have p6 : (256 : Int) ^ 6 = 281474976710656 := by decide
  have l1 := E1.len
  refine dcallV_fn ((encode1_spec (h.length + 1) (h.length + 1) _ r.seq 6 6 hr1 (by omega) rfl (by have := R.seq; omega) _ E1.bld l1 (by simp)).mono ?_)
  rintro av h2 ⟨rfl, hb2, hk2⟩
  have E2 := E1.step hb2 hk2
  have x2 := E2.box
  simp only [encRecL, encEnts] at x2
  simp [x2]
  have l2 := E2.len
  refine dcallV_fn ((encode1_spec (h.length + 1) (h.length + 1) _ r.cp 6 6 hr2 (by omega) rfl (by have := R.cp; omega) _ E2.bld l2 (by simp)).mono ?_)
  rintro av h3 ⟨rfl, hb3, hk3⟩
  have E3 := E2.step hb3 hk3
  have x3 := E3.box
  simp only [encRecL, encEnts] at x3
  simp [x3]
  refine dcallV_fn (dcall.pure (flag_spec r _) ?_)
  have hfl : 0 ≤ r.flagN ∧ r.flagN ≤ 2 := by unfold Rec.flagN; split; omega; split <;> omega
  simp
  have l3 := E3.len
  refine dcallV_fn ((encode1_spec (h.length + 1) (h.length + 1) _ r.flagN 1 1 (by omega) (by omega) rfl (by omega) _ E3.bld l3 (by simp)).mono ?_)
  rintro av h4 ⟨rfl, hb4, hk4⟩
  have E4 := E3.step hb4 hk4
  have x4 := E4.box
  simp only [encRecL, encEnts] at x4
  have hnx := R.next
  have c1 : IntKind.u64.wrap r.next = r.next := wrap_u64 (by omega)
  have hln := R.len
  have c2 : IntKind.u64.wrap (r.l.length : Int) = (r.l.length : Int) := wrap_u64 (by omega)
  simp [x4, c1]
  have l4 := E4.len
  refine dcallV_fn ((encode1_spec (h.length + 1) (h.length + 1) _ r.next 2 2 (by omega) (by omega) rfl (by omega) _ E4.bld l4 (by simp)).mono ?_)
  rintro av h5 ⟨rfl, hb5, hk5⟩
  have E5 := E4.step hb5 hk5
  have x5 := E5.box
  simp only [encRecL, encEnts] at x5
  simp [x5, c2]
  have l5 := E5.len
  refine dcallV_fn ((encode1_spec (h.length + 1) (h.length + 1) _ (r.l.length : Int) 1 1 (by omega) (by omega) rfl (by omega) _ E5.bld l5 (by simp)).mono ?_)
  rintro av h6 ⟨rfl, hb6, hk6⟩
  have E6 := E5.step hb6 hk6
  have x6 := E6.box
  simp only [encRecL, encEnts] at x6
  simp [x6]
  have hhead : ((((([] ++ [82] : List UInt8) ++ le 6 r.seq) ++ le 6 r.cp) ++ le 1 r.flagN) ++ le 2 r.next) ++ le 1 (r.l.length : Int) = r.headBytes := by simp [Rec.headBytes]
  refine loop_z (fun m fr h' => ∃ (i : Nat), m = r.l.length - i ∧ i ≤ r.l.length ∧ fr 39 = .i .i64 i ∧ fr 38 = .i .i64 r.l.length ∧ fr 37 = .lst r.l.length false (rows encEnt r.l) ∧ fr 5 = .fn 56 [] [.ptr (h.length + 1) 98 0] ∧ fr 4 = .ptr (h.length + 1) 98 0 ∧
    Enc r h h' (r.headBytes ++ (r.l.take i).flatMap Ent.bytes)) r.l.length ⟨0, by simp, by simp, by simp, by simp, by simp, by simp, by simp, by rw [← hhead]; simpa using E6⟩ ?_
  rintro m fr h' ⟨i, hm, hi, f39, f38, f37, f5, f4, E⟩
  have lE := E.len2
  simp [f39, f38]
  refine brB_split (fun c => ?_) (fun c => ?_) <;> simp at c
  · have hel := ents_get r.l i c
    have hx := hr4 r.l[i] (List.getElem_mem _)
    have hxk := Ent.ok_kind (R.ents r.l[i] (List.getElem_mem _))
    have hfit := rows_fit (ents_len r.l) c
    rw [ents_len] at hfit
    obtain ⟨q1, q2, q3, q4⟩ := hx
    unfold u32ok at q2 q3 q4
    have w1 : IntKind.u64.wrap r.l[i].kind = r.l[i].kind := wrap_u64 (by omega)
    have w2 : IntKind.u64.wrap r.l[i].file = r.l[i].file := wrap_u64 (by omega)
    have w3 : IntKind.u64.wrap r.l[i].index = r.l[i].index := wrap_u64 (by omega)
    have w4 : IntKind.u64.wrap r.l[i].vbn = r.l[i].vbn := wrap_u64 (by omega)
    have hlb : (r.headBytes ++ (r.l.take i).flatMap Ent.bytes).length ≤ 1000 := by
      rw [List.length_append, flatB_len, Rec.head_len, List.length_take]; omega
    simp [f39, f38, f37, f5, hel, c, ents_len, hfit, encEnt, w1]
    have A0 := E.app [.cells 108 1 (encEnt r.l[i])]
    generalize hbs : r.headBytes ++ (r.l.take i).flatMap Ent.bytes = bs at A0 hlb
    have y0 : (h' ++ [.cells 108 1 (encEnt r.l[i])])[h'.length]? = some (.cells 108 1 (encEnt r.l[i])) := by simp
    refine dcallV_fn ((encode1_spec (h.length + 1) (h.length + 1) bs r.l[i].kind 1 1 (by omega) (by omega) rfl (by omega) _ A0.bld (by simp; omega) (by omega)).mono ?_)
    rintro av g1 ⟨rfl, b1, k1⟩
    have A1 := A0.step b1 k1
    have y1 := k1 _ _ y0 (by omega) (.inr (by simp [notRow]))
    simp only [encEnt] at y1
    simp [f5, y1, w2]
    have m1 := A1.len
    refine dcallV_fn ((encode1_spec (h.length + 1) (h.length + 1) _ r.l[i].file 4 4 (by omega) (by omega) rfl (by omega) _ A1.bld m1 (by simp; omega)).mono ?_)
    rintro av g2 ⟨rfl, b2, k2⟩
    have A2 := A1.step b2 k2
    have y2 := k2 _ _ y1 (by omega) (.inr (by simp [notRow]))
    simp [f5, y2, w3]
    have m2 := A2.len
    refine dcallV_fn ((encode1_spec (h.length + 1) (h.length + 1) _ r.l[i].index 4 4 (by omega) (by omega) rfl (by omega) _ A2.bld m2 (by simp; omega)).mono ?_)
    rintro av g3 ⟨rfl, b3, k3⟩
    have A3 := A2.step b3 k3
    have y3 := k3 _ _ y2 (by omega) (.inr (by simp [notRow]))
    simp [f5, y3, w4]
    have m3 := A3.len
    refine dcallV_fn ((encode1_spec (h.length + 1) (h.length + 1) _ r.l[i].vbn 4 4 (by omega) (by omega) rfl (by omega) _ A3.bld m3 (by simp; omega)).mono ?_)
    rintro av g4 ⟨rfl, b4, k4⟩
    have A4 := A3.step b4 k4
    have hnew : bs ++ le 1 r.l[i].kind ++ le 4 r.l[i].file ++ le 4 r.l[i].index ++ le 4 r.l[i].vbn = r.headBytes ++ (r.l.take (i + 1)).flatMap Ent.bytes := by
      rw [List.take_succ_eq_append_getElem c, List.flatMap_append, ← List.append_assoc, ← hbs]
      simp [Ent.bytes]
    rw [hnew] at A4
    simp [f39, f38, f37, f5, f4]
    exact ⟨r.l.length - (i + 1), by omega, i + 1, rfl, by omega, by rw [wrap_i64' (by omega)]; rfl, A4⟩
  · have : i = r.l.length := by omega
    subst this
    rw [List.take_length] at E
    have hlen := r.bytes_len
    have hB : (r.headBytes ++ r.l.flatMap Ent.bytes) = r.bytes := rfl
    rw [hB] at E
    simp [f4]
    refine dcallV_fn ((string_spec (h.length + 1) (h.length + 1) _ _ E.bld (by omega)).mono ?_)
    rintro av g ⟨rfl, hk⟩
    simp
    refine dcallV_fn (dcall.pure (fit_spec _ _ _) ?_)
    have hf : fitR r.bytes 512 = .tup [.s (str r.block), .i .i64 0] := by rw [fitR, if_pos (by omega)]; rfl
    simp [hf]
    exact retQ_drop [.s (str r.block), .i .i64 0] (.inr rfl) (by simp [resL, resE, Try.results14]) rfl (fun j x hx => hk j x (E.keep j x hx) (.inl (by have := lt_of_get hx; omega))) ⟨by rw [encodeR, hR]; rfl, rfl⟩
end Go.M
