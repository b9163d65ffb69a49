/- record.Decode. -/
import Derived.Test.YtjplebfagohphaaWh
namespace Go.M
open Go Go.Proofs
set_option maxRecDepth 20000
set_option linter.unusedVariables false
set_option linter.unusedSimpArgs false
set_option linter.unnecessarySimpa false
attribute [local congr] ifV_congr ifC_congr ifE_congr ifG_congr ifB_congr ifH_congr brB_congr dz_congr wz_congr qz_congr dwp_congr dcallV_congr dcall_congr retQ_congr thenQ_congr inBlockQ_congr noGotoQ_congr
attribute [local simp] hold_eq hp_get_set zero_imax one_imax cv_str mk_arr empty_str str_append extract_str ifV_some ifV_none ifC_some ifC_none ifE_some ifE_none ifG_some ifB_b ifH_some brB_true brB_false pt_at fz_at putL_z putL_n guardZ dz_nil dz_plain dz_plain0 dz_guard wz_skip wz_label wz_exit wz_goto wz_ret wz_region wz_draw wz_seq wz_cond wz_block wz_scope wz_loop wz_range qz_nil qz_plan qz_quiet qz_quiet_g qz_turn qz_turn0 thenQ inBlockQ noGotoQ callV opE opW evO wh wa pickE st sts gds condsOf opV allocE boxE buildE fillE splice newE loadE ptrCells storeE AV.cells AV.ones AV.one nilCheckE eqE eqE.go binE intE strE unE convE upE uSliceE uStringE sliceE sliceParts bnd sliceFull fieldAddrE indexAddrE indexE extractE builtinE lenE minL maxL min_go2 max_go2 appendE srcCells sliceCells copyE makeSliceE makeMapE buildSliceE reps_zero' reps_one reps_two cv_bool cv_int cv_nilp cv_nils cv_nilm cv_nilf cv_nilIface min_i64 max_i64 min_u64 max_u64 min_u32 max_u32 min_u16 max_u16 min_u8 max_u8 hp_get0 hp_get hp_set0 hp_set ty0 ty1 ty2 ty3 ty4 ty5 ty6 ty7 ty8 ty9 ty10 ty11

theorem entries_spec (b : List UInt8) (h : Hp) : dcall Try.prog 64 [.s (str b)] h fun av h' => av = .fn 102 [] [.ptr h.length 9 0] ∧ h' = h ++ [.cells 9 1 [.s (str b)]] := by
  refine call_z Try.func64 rfl Try.call64 Try.ntmps64 (by simp) ?_
  simp
  exact retQ_to [.fn 102 [] [.ptr h.length 9 0]] (.inr rfl) (by simp [resL, resE, Try.results64]) ⟨rfl, rfl⟩

theorem entries1_spec (y : AV) (bp : Nat) (b : List UInt8) (h : Hp) (J : Nat → Hp → Prop) (D : Hp → Prop) (h0 : J 0 h)
    (hbox : ∀ i h', J i h' → h'[bp]? = some (.cells 9 1 [.s (str b)]))
    (step : ∀ i h', i < cntOf b → J i h' → dcallV Try.prog y [.agg (encEnt (entAt b i))] (h' ++ [.cells 108 1 (encEnt (entAt b i))]) fun av h2 => (av = .b true ∧ J (i + 1) h2) ∨ (av = .b false ∧ D h2)) :
    dcall Try.prog 102 [y, .ptr bp 9 0] h fun av h' => J (cntOf b) h' ∨ D h' := by
  have p1 : (256 : Int) ^ 1 = 256 := by decide
  have p4 : (256 : Int) ^ 4 = 4294967296 := by decide
  have n1 := takeN_nonneg b 16 1
  have n2 := takeN_lt b 16 1 1 (by decide)
  have hc : ((cntOf b : Nat) : Int) = takeN b 16 1 := by unfold cntOf; omega
  have hc255 : cntOf b ≤ 255 := by omega
  have hb0 := hbox 0 h h0
  refine call_z Try.func102 rfl Try.call102 Try.ntmps102 (by simp) ?_
  simp [hb0]
  refine dcallV_fn (dcall.pure (recTake_spec _ _ _ _) ?_)
  have w1 : IntKind.i64.wrap (takeN b 16 1) = takeN b 16 1 := wrap_i64' (by omega)
  simp [w1]
  refine loop_z (fun m fr h' => ∃ (i : Nat), m = cntOf b - i ∧ i ≤ cntOf b ∧ fr 11 = .i .i64 i ∧ fr 10 = .i .i64 (cntOf b) ∧ fr 0 = y ∧ fr 1 = .ptr bp 9 0 ∧ J i h') (cntOf b) ⟨0, by simp, by simp, by simp, by simp [hc], by simp, by simp, h0⟩ ?_
  rintro m fr h' ⟨i, hm, hi, f11, f10, f0, f1, hJ⟩
  have hb := hbox _ _ hJ
  have hb' := get_app hb
  simp [f11, f10]
  refine brB_split (fun c => ?_) (fun c => ?_) <;> simp at c
  · have a1 : IntKind.i64.wrap (13 * (i : Int)) = 13 * (i : Int) := wrap_i64' (by omega)
    have a2 : IntKind.i64.wrap (17 + 13 * (i : Int)) = 17 + 13 * (i : Int) := wrap_i64' (by omega)
    have a3 : IntKind.i64.wrap (17 + 13 * (i : Int) + 1) = 17 + 13 * (i : Int) + 1 := wrap_i64' (by omega)
    have a4 : IntKind.i64.wrap (17 + 13 * (i : Int) + 5) = 17 + 13 * (i : Int) + 5 := wrap_i64' (by omega)
    have a5 : IntKind.i64.wrap (17 + 13 * (i : Int) + 9) = 17 + 13 * (i : Int) + 9 := wrap_i64' (by omega)
    have hx := entAt_ok b i
    obtain ⟨q1, q2, q3, q4⟩ := hx
    simp only [entAt, i64ok, u32ok] at q1 q2 q3 q4
    have b1 : IntKind.i64.wrap (takeN b (17 + 13 * (i : Int)) 1) = takeN b (17 + 13 * (i : Int)) 1 := wrap_i64' q1
    have b2 : IntKind.u32.wrap (takeN b (17 + 13 * (i : Int) + 1) 4) = takeN b (17 + 13 * (i : Int) + 1) 4 := wrap_u32 (by omega)
    have b3 : IntKind.u32.wrap (takeN b (17 + 13 * (i : Int) + 5) 4) = takeN b (17 + 13 * (i : Int) + 5) 4 := wrap_u32 (by omega)
    have b4 : IntKind.u32.wrap (takeN b (17 + 13 * (i : Int) + 9) 4) = takeN b (17 + 13 * (i : Int) + 9) 4 := wrap_u32 (by omega)
    simp [f11, f10, f0, f1, a1, a2, hb]
    refine draw_z [some 0, some 0, some 0, some 0, some 0, some 0, some 0, some 0, some 0, some 0, some 0, some 0, some 0, some 0, some 0, some 0, some 0, some 0, some 0, some 0, none, none] (by kernel_rfl) (by kernel_rfl) ?_
    simp [f11, f10, f0, f1, hb]
    refine drawC (v := .i .u64 (takeN b (17 + 13 * (i : Int)) 1)) (fun h => recTake_spec b _ 1 h) (fun l => by first | rfl | simp) ?_
    simp [f11, f10, f0, f1, hb, a3, b1]
    refine drawC (v := .i .u64 (takeN b (17 + 13 * (i : Int) + 1) 4)) (fun h => recTake_spec b _ 4 h) (fun l => by first | rfl | simp) ?_
    simp [f11, f10, f0, f1, hb, a4, b2]
    refine drawC (v := .i .u64 (takeN b (17 + 13 * (i : Int) + 5) 4)) (fun h => recTake_spec b _ 4 h) (fun l => by first | rfl | simp) ?_
    simp [f11, f10, f0, f1, hb, a5, b3]
    refine drawC (v := .i .u64 (takeN b (17 + 13 * (i : Int) + 9) 4)) (fun h => recTake_spec b _ 4 h) (fun l => by first | rfl | simp) ?_
    simp [f11, f10, f0, f1, hb, b4]
    refine (step i h' c hJ).mono ?_
    rintro av h2 (⟨rfl, hJ2⟩ | ⟨rfl, hD⟩)
    · simp [f11, f10, f0, f1]
      exact ⟨cntOf b - (i + 1), by omega, i + 1, rfl, by omega, by rw [wrap_i64' (by omega)]; rfl, hJ2⟩
    · simp
      exact retQ_to [] (.inr rfl) (by simp [resL, resE, Try.results102]) (.inr hD)
  · have : i = cntOf b := by omega
    subst this
    simp
    exact retQ_to [] (.inl rfl) (by simp [resL, resE, Try.results102]) (.inl hJ)

/-- Where a decoding stands: i entries are there. LP: the loop's record. -/
def DSt (b : List UInt8) (h : Hp) (LP : HObj) (i : Nat) (h' : Hp) : Prop :=
  h'[h.length]? = some (.cells 25 1 [.i .u64 0, .i .u64 0, .b false, .b false, .i .i64 0, .nils]) ∧
  (∃ x, h'[h.length + 1]? = some (.cells 25 1 [.i .u64 (decRec b).seq, .i .u64 (decRec b).cp, .b (decRec b).ends, .b (decRec b).sync, .i .i64 (decRec b).next, x]) ∧
    ((i = 0 ∧ x = .nils) ∨ (0 < i ∧ ∃ id v full, h.length + 4 ≤ id ∧ x = .sl id v 0 i full ∧ h'[id]? = some (.cells v 4 (rows encEnt (entsTo b i))) ∧ v % 4294967296 = 108))) ∧
  h'[h.length + 2]? = some (.cells 9 1 [.s (str b)]) ∧ h'[h.length + 3]? = some LP ∧ Keep h h'

theorem DSt.app {b : List UInt8} {h : Hp} {LP : HObj} {i : Nat} {h' : Hp} (s : DSt b h LP i h') (l : Hp) : DSt b h LP i (h' ++ l) := by
  obtain ⟨h1, ⟨x, h2, h3⟩, h4, h5, h6⟩ := s
  refine ⟨get_ext l h1, ⟨x, get_ext l h2, ?_⟩, get_ext l h4, get_ext l h5, h6.of_app l⟩
  rcases h3 with h3 | ⟨h7, id, v, full, h8, h9, h10, h11⟩
  · exact .inl h3
  · exact .inr ⟨h7, id, v, full, h8, h9, get_ext l h10, h11⟩

theorem DSt.loop {b : List UInt8} {h : Hp} {LP : HObj} {i : Nat} {h' : Hp} (s : DSt b h LP i h') (X : HObj) : DSt b h X i (h'.set (h.length + 3) X) := by
  obtain ⟨h1, ⟨x, h2, h3⟩, h4, h5, h6⟩ := s
  refine ⟨get_ne _ (by omega) h1, ⟨x, get_ne _ (by omega) h2, ?_⟩, get_ne _ (by omega) h4, get_at _ h5, h6.set (by omega) _⟩
  rcases h3 with h3 | ⟨h7, id, v, full, h8, h9, h10, h11⟩
  · exact .inl h3
  · exact .inr ⟨h7, id, v, full, h8, h9, get_ne _ (by omega) h10, h11⟩

/-- The decoded record's box. -/
def DBox (b : List UInt8) (x : AV) : HObj := .cells 25 1 [.i .u64 (decRec b).seq, .i .u64 (decRec b).cp, .b (decRec b).ends, .b (decRec b).sync, .i .i64 (decRec b).next, x]

theorem DSt.lt {b : List UInt8} {h : Hp} {LP : HObj} {i : Nat} {h' : Hp} (s : DSt b h LP i h') : h.length + 4 ≤ h'.length := by have := lt_of_get s.2.2.2.1; omega

theorem DSt.push0 {b : List UInt8} {h : Hp} {X : HObj} {H : Hp} (s : DSt b h X 0 H) : DSt b h X 1 ((H ++ [HObj.cells 108 4 (encEnt (entAt b 0))]).set (h.length + 1) (DBox b (.sl H.length 108 0 1 false))) := by
  have hlt := s.lt
  obtain ⟨h1, ⟨x, h2, h3⟩, h4, h5, h6⟩ := s.app [HObj.cells 108 4 (encEnt (entAt b 0))]
  refine ⟨get_ne _ (by omega) h1, ⟨_, get_at _ h2, .inr ⟨by omega, H.length, 108, false, hlt, rfl, get_ne _ (by omega) (show (H ++ [HObj.cells 108 4 (encEnt (entAt b 0))])[H.length]? = some (HObj.cells 108 4 (encEnt (entAt b 0))) by simp), by decide⟩⟩, get_ne _ (by omega) h4, get_ne _ (by omega) h5, h6.set (by omega) _⟩

theorem DSt.push {b : List UInt8} {h : Hp} {X : HObj} {i : Nat} {H : Hp} (s : DSt b h X i H) {id v : Nat} (hid : H[id]? = some (.cells v 4 (rows encEnt (entsTo b i)))) (hge : h.length + 4 ≤ id) (hv : v % 4294967296 = 108) :
    DSt b h X (i + 1) ((H.set id (.cells (v + 4294967296) 4 (rows encEnt (entsTo b i) ++ encEnt (entAt b i)))).set (h.length + 1) (DBox b (.sl id (v + 4294967296) 0 (i + 1) false))) := by
  obtain ⟨h1, ⟨x, h2, h3⟩, h4, h5, h6⟩ := s
  refine ⟨get_ne _ (by omega) (get_ne _ (by omega) h1), ⟨_, get_at _ (get_ne _ (by omega) h2), .inr ⟨by omega, id, v + 4294967296, false, hge, rfl, get_ne _ (by omega) ?_, by omega⟩⟩, get_ne _ (by omega) (get_ne _ (by omega) h4), get_ne _ (by omega) (get_ne _ (by omega) h5), (h6.set (by omega) _).set (by omega) _⟩
  rw [entsTo_succ, ← rows_snoc]
  exact get_at _ hid

theorem decode_spec (b : List UInt8) (h : Hp) : dcall Try.prog 16 [.s (str b)] h fun av h' => av = decodeR b ∧ h' = h := by
  refine call_z Try.func16 rfl Try.call16 Try.ntmps16 (by simp) ?_
  have hzle : AVle (.tup [.agg [.i .u64 0, .i .u64 0, .b false, .b false, .i .i64 0, .nils], .i .i64 70]) (.tup [encRec zeroRec, .i .i64 70]) :=
    .tup (.cons (.agg (.cons (.refl _) (.cons (.refl _) (.cons (.refl _) (.cons (.refl _) (.cons (.refl _) (.cons (.nils _) .nil))))))) (.cons (.refl _) .nil))
  have hzp : (AV.tup [encRec zeroRec, .i .i64 70]).pure = true := rfl
  simp
  refine brB_split (fun c => ?_) (fun c => ?_) <;> simp at c
  · have hn : decOk b = false := by simp [decOk]; omega
    simp
    exact retQ_dropLe [.agg [.i .u64 0, .i .u64 0, .b false, .b false, .i .i64 0, .nils], .i .i64 70] _ (.inr rfl) (by simp [resL, resE, Try.results16]) hzle hzp (Keep.app _ _) ⟨by rw [decodeR, hn]; rfl, rfl⟩
  have hlen : b.length = 512 := by omega
  have hr := decRec_ok b
  simp
  refine dcallV_fn (dcall.pure (recTake_spec _ _ _ _) ?_)
  simp
  refine dcallV_fn (dcall.pure (recTake_spec _ _ _ _) ?_)
  simp
  refine dcallV_fn (dcall.pure (recTake_spec _ _ _ _) ?_)
  simp
  refine dcallV_fn (dcall.pure (recTake_spec _ _ _ _) ?_)
  have w1 : IntKind.i64.wrap (takeN b 14 2) = takeN b 14 2 := wrap_i64' hr.next
  simp [w1]
  refine dcallV_fn (dcall.pure' (entries_spec _ _) ?_)
  simp
  refine range_z (h.length + 3) [.yld (h.length + 3), .ptr (h.length + 2) 9 0] (by simp; exact ⟨rfl, rfl⟩) Try.call102 (.inl rfl) (by simp) rfl ?_
  generalize hFR : pt _ _ _ = FR
  have g0 : FR 0 = .s (str b) := by rw [← hFR]; simp
  have g2 : FR 2 = .ptr h.length 25 0 := by rw [← hFR]; simp
  have g5 : FR 5 = .ptr (h.length + 1) 25 0 := by rw [← hFR]; simp
  clear hFR
  generalize hLP : HObj.loop _ _ _ 56 FR = LP
  simp only [List.append_assoc, List.cons_append, List.nil_append]
  refine (entries1_spec (.yld (h.length + 3)) (h.length + 2) b _ (fun i h' => i ≤ 16 ∧ DSt b h (LP (some none)) i h') (fun h' => 16 < cntOf b ∧ DSt b h (LP (some (some (.exit 0)))) 16 h') ?_ ?_ ?_).mono ?_
  · exact ⟨by omega, by simp, ⟨.nils, by simp [decRec], .inl ⟨rfl, rfl⟩⟩, by simp, by simp, Keep.app _ _⟩
  · rintro i h' ⟨_, hs⟩; exact hs.2.2.1
  · rintro i h' hi ⟨hi16, hs⟩
    have hs1 := hs.app [.cells 108 1 (encEnt (entAt b i))]
    generalize h' ++ [.cells 108 1 (encEnt (entAt b i))] = h1 at hs1 ⊢
    clear hs
    have hlp := hs1.2.2.2.1
    refine yld_L hLP hlp (by decide) rfl ?_
    have hs2 := (hs1.app [.cells 108 1 (encEnt (entAt b i))])
    have hlp2 := hs2.2.2.2.1
    have hs3 := hs2.loop (LP none)
    obtain ⟨_, ⟨x, hx, hcase⟩, _, _, _⟩ := id hs2
    simp [encEnt] at hs3 hlp2 hx
    have hl1 := hs1.lt
    have n1 : ¬ h.length + 3 = h1.length := by omega
    have n2 : ¬ h.length + 1 = h1.length := by omega
    have n3 : ¬ h.length + 1 = h1.length + 1 := by omega
    rcases hcase with ⟨rfl, rfl⟩ | ⟨hpos, id, v, full, hge, rfl, hid, hv⟩
    · have hx2 := get_app (get_ne (i := h.length + 3) (LP none) (by omega) hx)
      simp [g5, encEnt, hx, hx2, n1, n2, n3, room]
      refine ⟨hlp2, none, rfl, get_ext _ (get_at _ hlp2), .inl ⟨rfl, ?_⟩⟩
      have q := (hs3.push0).loop (LP (some none))
      simp only [List.length_set, List.length_append, List.length_cons, List.length_nil, Nat.zero_add] at q
      exact q
    · simp [encEnt] at hid
      have m1 : ¬ h.length + 3 = id := by omega
      have m2 : ¬ h.length + 1 = id := by omega
      have m3 : ¬ id = h.length + 1 := by omega
      have hta : List.take (i * 4) (rows encEnt (entsTo b i)) = rows encEnt (entsTo b i) := by
        have := rows_all encEnt 4 encEnt_len (entsTo b i); rwa [entsTo_len] at this
      have hlr : (rows encEnt (entsTo b i)).length = i * 4 := by rw [ents_len, entsTo_len]
      have r1 : (i + 1) * 24 ≤ room := by unfold room; omega
      have r2 : (i : Int) + 1 ≤ imax := by unfold imax; omega
      simp [g5, encEnt, hx, n1, n2, n3, m1, m2, m3, hid, hv, hta, hlr, r1, r2]
      refine ⟨hlp2, ?_⟩
      refine brB_split (fun c => ?_) (fun c => ?_) <;> simp at c
      · have hi6 : i = 16 := by omega
        subst hi6
        simp
        exact ⟨some (.exit 0), rfl, ⟨_, hlp2⟩, rfl, by omega, hs2.loop _⟩
      · have hx3 := get_ne (i := id) (HObj.cells (v + 4294967296) 4 (rows encEnt (entsTo b i) ++ encEnt (entAt b i))) (by omega) (get_ne (i := h.length + 3) (LP none) (by omega) hx)
        simp only [encEnt] at hx3
        simp [g5, encEnt, hx, n1, n2, n3, m1, m2, m3, hid, hv, hta, hlr, r1, r2, hx3]
        have m4 : ¬ id = h.length + 3 := by omega
        simp [m4, hlp2]
        refine ⟨none, rfl, .inl ⟨rfl, by omega, ?_⟩⟩
        exact (hs3.push (get_ne _ (by omega) hid) hge hv).loop (LP (some none))
  · have tail : ∀ (h2 : Hp), DSt b h .dead (min (cntOf b) 16) h2 → inBlockQ 0 ?Q .normal FR h2 := ?tail
    rintro av h2 (⟨hc16, hs⟩ | ⟨hc16, hs⟩)
    · refine ⟨none, ?_, ?_⟩
      · rw [← hLP] at hs ⊢; exact hs.2.2.2.1
      · simp only
        exact tail _ (by rw [show min (cntOf b) 16 = cntOf b by omega]; exact hs.loop .dead)
    · refine ⟨some (.exit 0), ?_, ?_⟩
      · rw [← hLP] at hs ⊢; exact hs.2.2.2.1
      · simp only
        refine dwp_exit ?_
        exact tail _ (by rw [show min (cntOf b) 16 = 16 by omega]; exact hs.loop .dead)
    intro h2 hs
    simp only [inBlockQ, thenQ]
    refine (fun (key : ∀ (fr : Fr) (H : Hp) (x : AV), fr 0 = .s (str b) → fr 2 = .ptr h.length 25 0 → fr 5 = .ptr (h.length + 1) 25 0 → AVle x (encEnts (decRec b).l) → (x = .nils ∨ ∃ n f cs, x = .lst n f cs) → Keep h H →
      H[h.length]? = some (.cells 25 1 [.i .u64 0, .i .u64 0, .b false, .b false, .i .i64 0, .nils]) → H[h.length + 1]? = some (DBox b x) → dz Try.prog 56 ?all ?Q2 ?rest (pt fr 42 (encodeR (decRec b))) H) => ?main) ?key
    case main =>
      obtain ⟨y1, ⟨x, y2, hcase⟩, y3, y4, y5⟩ := hs
      rcases hcase with ⟨hn, rfl⟩ | ⟨hpos, id, v, full, hge, rfl, hid, hv⟩
      · have hl : encEnts (decRec b).l = .lst 0 false [] := by
          have : (decRec b).l = [] := by simp [decRec, hn, entsTo]
          rw [this]; rfl
        have hle : AVle .nils (encEnts (decRec b).l) := by rw [hl]; exact .nils _
        simp [g5, y2]
        refine dcallV_fn (dcall_le (bs := [encRec (decRec b)]) (.cons (.agg (.cons (.refl _) (.cons (.refl _) (.cons (.refl _) (.cons (.refl _) (.cons (.refl _) (.cons hle .nil))))))) .nil) (dcall.pure (encode_spec _ hr _) ?_))
        refine key _ _ .nils ?_ ?_ ?_ hle (.inl rfl) y5 y1 y2 <;> simp [g0, g2, g5]
      · have hle : AVle (.lst (min (cntOf b) 16) full (List.take (min (cntOf b) 16 * 4) (List.drop 0 (rows encEnt (entsTo b (min (cntOf b) 16)))))) (encEnts (decRec b).l) := by
          have := rows_all encEnt 4 encEnt_len (entsTo b (min (cntOf b) 16))
          rw [entsTo_len] at this
          rw [List.drop_zero, this]
          have e : encEnts (decRec b).l = .lst (min (cntOf b) 16) false (rows encEnt (entsTo b (min (cntOf b) 16))) := by simp [encEnts, decRec]
          rw [e]; exact .lst _ _ _
        have hlr : (rows encEnt (entsTo b (min (cntOf b) 16))).length = min (cntOf b) 16 * 4 := by rw [ents_len, entsTo_len]
        generalize hn : min (cntOf b) 16 = n at *
        simp [g5, y2]
        refine dcallV_frz id v 4 _ hid (h.length + 1) 25 1 _ y2 (by omega) ?_
        have hcn : (0 + n * 4 ≤ (rows encEnt (entsTo b n)).length) = True := eq_true (by omega)
        simp only [AV.frzs, AV.frz, eq_self, true_and, hcn, if_true]
        refine dcallV_fn (dcall_le (bs := [encRec (decRec b)]) (.cons (.agg (.cons (.refl _) (.cons (.refl _) (.cons (.refl _) (.cons (.refl _) (.cons (.refl _) (.cons hle .nil))))))) .nil) (dcall.pure (encode_spec _ hr _) ?_))
        refine key _ _ _ ?_ ?_ ?_ hle (.inr ⟨_, _, _, rfl⟩) ((y5.set (by omega) _).set (by omega) _) (get_ne _ (by omega) (get_ne _ (by omega) y1)) (get_at _ (get_ne _ (by omega) y2)) <;> simp [g0, g2, g5]
    case key =>
      intro fr H x f0 f2 f5 hle hx hk z1 z2
      simp only [DBox] at z2
      cases hR : (decRec b).right
      · have hn : decOk b = false := by simp [decOk, hR]
        have hE : encodeR (decRec b) = .tup [.s (str []), .i .i64 70] := by rw [encodeR, hR]; rfl
        simp [hE, f0, f2, f5]
        refine draw_z [] (by kernel_rfl) (by kernel_rfl) ?_
        simp [f0, f2, f5, hlen, z1, z2]
        exact retQ_dropLe [.agg [.i .u64 0, .i .u64 0, .b false, .b false, .i .i64 0, .nils], .i .i64 70] _ (.inr rfl) (by simp [resL, resE, Try.results16, f2, z1, get_at _ z1]) hzle hzp (hk.set (by omega) _) ⟨by rw [decodeR, hn]; rfl, rfl⟩
      · have R := Rec.right_of hR
        have hE : encodeR (decRec b) = .tup [.s (str (decRec b).block), .i .i64 0] := by rw [encodeR, hR]; rfl
        have hT := decOk_block (b := b) _ R
        have hbl : (decRec b).block.length = 512 := by
          have := (decRec b).bytes_len; have := R.len
          simp [Rec.block]; omega
        simp [hE, f0, f2, f5]
        refine draw_z [] (by kernel_rfl) (by kernel_rfl) ?_
        simp [f0, f2, f5, hlen, hbl, hT]
        refine brB_split (fun c => ?_) (fun c => ?_) <;> simp at c
        · have hn : decOk b = false := by simp [decOk, c]
          simp [f0, f2, f5, hlen, z1, z2]
          exact retQ_dropLe [.agg [.i .u64 0, .i .u64 0, .b false, .b false, .i .i64 0, .nils], .i .i64 70] _ (.inr rfl) (by simp [resL, resE, Try.results16, f2, z1]) hzle hzp (hk.set (by omega) _) ⟨by rw [decodeR, hn]; rfl, rfl⟩
        · have hy : decOk b = true := by simp [decOk, c, hlen, hR]
          have hzy : (AV.tup [encRec (decRec b), .i .i64 0]).pure = true := by
            simp [AV.pure, AV.pures, encRec_pure]
          have hzl : ∀ y, AVle y (encEnts (decRec b).l) → AVle (.tup [.agg [.i .u64 (decRec b).seq, .i .u64 (decRec b).cp, .b (decRec b).ends, .b (decRec b).sync, .i .i64 (decRec b).next, y], .i .i64 0]) (.tup [encRec (decRec b), .i .i64 0]) := fun y hy =>
            .tup (.cons (.agg (.cons (.refl _) (.cons (.refl _) (.cons (.refl _) (.cons (.refl _) (.cons (.refl _) (.cons hy .nil))))))) (.cons (.refl _) .nil))
          rcases hx with rfl | ⟨n, full, cs, rfl⟩
          · simp [f0, f2, f5, hlen, z1, z2]
            exact retQ_dropLe [.agg [.i .u64 (decRec b).seq, .i .u64 (decRec b).cp, .b (decRec b).ends, .b (decRec b).sync, .i .i64 (decRec b).next, .nils], .i .i64 0] _ (.inr rfl) (by simp [resL, resE, Try.results16, f2, z1]) (hzl _ hle) hzy (hk.set (by omega) _) ⟨by rw [decodeR, hy]; rfl, rfl⟩
          · simp [f0, f2, f5, hlen, z1, z2]
            exact retQ_dropLe [.agg [.i .u64 (decRec b).seq, .i .u64 (decRec b).cp, .b (decRec b).ends, .b (decRec b).sync, .i .i64 (decRec b).next, .lst n full cs], .i .i64 0] _ (.inr rfl) (by simp [resL, resE, Try.results16, f2, z1]) (hzl _ hle) hzy (hk.set (by omega) _) ⟨by rw [decodeR, hy]; rfl, rfl⟩
end Go.M
