/- The reference's Decode. -/
import Derived.Test.YtjplebfagohphaaWi
namespace Go.M
open Go Go.Proofs
set_option maxRecDepth 20000
set_option linter.unusedVariables false
set_option linter.unusedSimpArgs false
set_option linter.unnecessarySimpa false
attribute [local congr] ifV_congr ifC_congr ifE_congr ifG_congr ifB_congr ifH_congr brB_congr dz_congr wz_congr qz_congr dwp_congr dcallV_congr dcall_congr retQ_congr thenQ_congr inBlockQ_congr noGotoQ_congr
attribute [local simp] hold_eq hp_get_set zero_imax one_imax cv_str mk_arr empty_str str_append extract_str ifV_some ifV_none ifC_some ifC_none ifE_some ifE_none ifG_some ifB_b ifH_some brB_true brB_false pt_at fz_at putL_z putL_n guardZ dz_nil dz_plain dz_plain0 dz_guard wz_skip wz_label wz_exit wz_goto wz_ret wz_region wz_draw wz_seq wz_cond wz_block wz_scope wz_loop wz_range qz_nil qz_plan qz_quiet qz_quiet_g qz_turn qz_turn0 thenQ inBlockQ noGotoQ callV opE opW evO wh wa pickE st sts gds condsOf opV allocE boxE buildE fillE splice newE loadE ptrCells storeE AV.cells AV.ones AV.one nilCheckE eqE eqE.go binE intE strE unE convE upE uSliceE uStringE sliceE sliceParts bnd sliceFull fieldAddrE indexAddrE indexE extractE builtinE lenE minL maxL min_go2 max_go2 appendE srcCells sliceCells copyE makeSliceE makeMapE buildSliceE reps_zero' reps_one reps_two cv_bool cv_int cv_nilp cv_nils cv_nilm cv_nilf cv_nilIface min_i64 max_i64 min_u64 max_u64 min_u32 max_u32 min_u16 max_u16 min_u8 max_u8 hp_get0 hp_get hp_set0 hp_set ty0 ty1 ty2 ty3 ty4 ty5 ty6 ty7 ty8 ty9 ty10 ty11

/-- Where the reference's decoding stands: i entries are there. -/
def RSt (b : List UInt8) (h : Hp) (i : Nat) (h' : Hp) : Prop :=
  h'[h.length]? = some (.cells 25 1 [.i .u64 0, .i .u64 0, .b false, .b false, .i .i64 0, .nils]) ∧
  (∃ x, h'[h.length + 1]? = some (DBox b x) ∧
    ((i = 0 ∧ x = .nils) ∨ (0 < i ∧ ∃ id v full, h.length + 2 ≤ id ∧ x = .sl id v 0 i full ∧ h'[id]? = some (.cells v 4 (rows encEnt (entsTo b i))) ∧ v % 4294967296 = 108))) ∧ Keep h h'

theorem RSt.lt {b : List UInt8} {h : Hp} {i : Nat} {h' : Hp} (s : RSt b h i h') : h.length + 2 ≤ h'.length := by obtain ⟨_, ⟨x, h2, _⟩, _⟩ := s; have := lt_of_get h2; omega

theorem RSt.push0 {b : List UInt8} {h : Hp} {H : Hp} (s : RSt b h 0 H) : RSt b h 1 ((H ++ [HObj.cells 108 4 (encEnt (entAt b 0))]).set (h.length + 1) (DBox b (.sl H.length 108 0 1 false))) := by
  have hlt := s.lt
  obtain ⟨h1, ⟨x, h2, h3⟩, h6⟩ := s
  have h1 := get_ext [HObj.cells 108 4 (encEnt (entAt b 0))] h1
  have h2 := get_ext [HObj.cells 108 4 (encEnt (entAt b 0))] h2
  exact ⟨get_ne _ (by omega) h1, ⟨_, get_at _ h2, .inr ⟨by omega, H.length, 108, false, hlt, rfl, get_ne _ (by omega) (show (H ++ [HObj.cells 108 4 (encEnt (entAt b 0))])[H.length]? = some (HObj.cells 108 4 (encEnt (entAt b 0))) by simp), by decide⟩⟩, (h6.of_app _).set (by omega) _⟩

theorem RSt.push {b : List UInt8} {h : Hp} {i : Nat} {H : Hp} (s : RSt b h i H) {id v : Nat} (hid : H[id]? = some (.cells v 4 (rows encEnt (entsTo b i)))) (hge : h.length + 2 ≤ id) (hv : v % 4294967296 = 108) :
    RSt b h (i + 1) ((H.set id (.cells (v + 4294967296) 4 (rows encEnt (entsTo b i) ++ encEnt (entAt b i)))).set (h.length + 1) (DBox b (.sl id (v + 4294967296) 0 (i + 1) false))) := by
  obtain ⟨h1, ⟨x, h2, h3⟩, h6⟩ := s
  refine ⟨get_ne _ (by omega) (get_ne _ (by omega) h1), ⟨_, get_at _ (get_ne _ (by omega) h2), .inr ⟨by omega, id, v + 4294967296, false, hge, rfl, get_ne _ (by omega) ?_, by omega⟩⟩, (h6.set (by omega) _).set (by omega) _⟩
  rw [entsTo_succ, ← rows_snoc]
  exact get_at _ hid

theorem refDecode_spec (b : List UInt8) (h : Hp) : dcall Try.prog 17 [.s (str b)] h fun av h' => av = decodeR b ∧ h' = h := by
  refine call_z Try.func17 rfl Try.call17 Try.ntmps17 (by simp) ?_
  have hzle : AVle (.tup [.agg [.i .u64 0, .i .u64 0, .b false, .b false, .i .i64 0, .nils], .i .i64 70]) (.tup [encRec zeroRec, .i .i64 70]) :=
    .tup (.cons (.agg (.cons (.refl _) (.cons (.refl _) (.cons (.refl _) (.cons (.refl _) (.cons (.refl _) (.cons (.nils _) .nil))))))) (.cons (.refl _) .nil))
  have hzp : (AV.tup [encRec zeroRec, .i .i64 70]).pure = true := rfl
  have hzy : (AV.tup [encRec (decRec b), .i .i64 0]).pure = true := by
    simp [AV.pure, AV.pures, encRec_pure]
  have hzl : ∀ y, AVle y (encEnts (decRec b).l) → AVle (.tup [.agg [.i .u64 (decRec b).seq, .i .u64 (decRec b).cp, .b (decRec b).ends, .b (decRec b).sync, .i .i64 (decRec b).next, y], .i .i64 0]) (.tup [encRec (decRec b), .i .i64 0]) := fun y hy =>
    .tup (.cons (.agg (.cons (.refl _) (.cons (.refl _) (.cons (.refl _) (.cons (.refl _) (.cons (.refl _) (.cons hy .nil))))))) (.cons (.refl _) .nil))
  simp
  refine brB_split (fun c => ?_) (fun c => ?_) <;> simp at c
  · have hn : decOk b = false := by simp [decOk]; omega
    simp
    exact retQ_dropLe [.agg [.i .u64 0, .i .u64 0, .b false, .b false, .i .i64 0, .nils], .i .i64 70] _ (.inr rfl) (by simp [resL, resE, Try.results17]) hzle hzp (Keep.app _ _) ⟨by rw [decodeR, hn]; rfl, rfl⟩
  have hlen : b.length = 512 := by omega
  have hr := decRec_ok b
  have p1 : (256 : Int) ^ 1 = 256 := by decide
  have n1 := takeN_nonneg b 16 1
  have n2 := takeN_lt b 16 1 1 (by decide)
  have hcn : ((cntOf b : Nat) : Int) = takeN b 16 1 := by unfold cntOf; omega
  simp
  refine dcallV_fn (dcall.pure (refTakeN_spec _ _ _ _) ?_)
  simp
  refine dcallV_fn (dcall.pure (refTakeN_spec _ _ _ _) ?_)
  simp
  refine dcallV_fn (dcall.pure (refTakeN_spec _ _ _ _) ?_)
  simp
  refine dcallV_fn (dcall.pure (refTakeN_spec _ _ _ _) ?_)
  have w1 : IntKind.i64.wrap (takeN b 14 2) = takeN b 14 2 := wrap_i64' hr.next
  simp [w1]
  refine dcallV_fn (dcall.pure (refTakeN_spec _ _ _ _) ?_)
  have w2 : IntKind.i64.wrap (takeN b 16 1) = takeN b 16 1 := wrap_i64' (by omega)
  simp [w2]
  refine loop_z (fun m fr h' => ∃ (i : Nat), m = 16 - i ∧ i ≤ min (cntOf b) 16 ∧ fr 7 = .i .i64 i ∧ fr 6 = .i .i64 (cntOf b) ∧ fr 0 = .s (str b) ∧ fr 2 = .ptr h.length 25 0 ∧ fr 5 = .ptr (h.length + 1) 25 0 ∧ RSt b h i h') 16 ⟨0, by simp, by simp, by simp, by simp [hcn], by simp, by simp, by simp, by simp, ⟨.nils, by simp [DBox, decRec], .inl ⟨rfl, rfl⟩⟩, Keep.app _ _⟩ ?_
  rintro m fr h' ⟨i, hm, hi, f7, f6, f0, f2, f5, hs⟩
  simp [f7, f6]
  refine brB_split (fun c => ?_) (fun c => ?_) <;> simp at c
  · obtain ⟨c1, c2⟩ := c
    have a1 : IntKind.i64.wrap (13 * (i : Int)) = 13 * (i : Int) := wrap_i64' (by omega)
    have a2 : IntKind.i64.wrap (17 + 13 * (i : Int)) = 17 + 13 * (i : Int) := wrap_i64' (by omega)
    have a3 : IntKind.i64.wrap (17 + 13 * (i : Int) + 1) = 17 + 13 * (i : Int) + 1 := wrap_i64' (by omega)
    have a4 : IntKind.i64.wrap (17 + 13 * (i : Int) + 5) = 17 + 13 * (i : Int) + 5 := wrap_i64' (by omega)
    have a5 : IntKind.i64.wrap (17 + 13 * (i : Int) + 9) = 17 + 13 * (i : Int) + 9 := wrap_i64' (by omega)
    have hx := entAt_ok b i
    obtain ⟨q1, q2, q3, q4⟩ := hx
    simp only [entAt, i64ok, u32ok] at q1 q2 q3 q4
    have b1 : IntKind.i64.wrap (takeN b (17 + 13 * (i : Int)) 1) = takeN b (17 + 13 * (i : Int)) 1 := wrap_i64' q1
    have b2 : IntKind.u32.wrap (takeN b (17 + 13 * (i : Int) + 1) 4) = takeN b (17 + 13 * (i : Int) + 1) 4 := wrap_u32 (by omega)
    have b3 : IntKind.u32.wrap (takeN b (17 + 13 * (i : Int) + 5) 4) = takeN b (17 + 13 * (i : Int) + 5) 4 := wrap_u32 (by omega)
    have b4 : IntKind.u32.wrap (takeN b (17 + 13 * (i : Int) + 9) 4) = takeN b (17 + 13 * (i : Int) + 9) 4 := wrap_u32 (by omega)
    have hlt := hs.lt
    obtain ⟨z1, ⟨x, z2, hcase⟩, hk⟩ := id hs
    simp only [DBox] at z2
    have done : ∀ (fr' : Fr) (h2 : Hp), fr' 7 = .i .i64 i → fr' 6 = .i .i64 (cntOf b) → fr' 0 = .s (str b) → fr' 2 = .ptr h.length 25 0 → fr' 5 = .ptr (h.length + 1) 25 0 → RSt b h (i + 1) h2 →
        True := fun _ _ _ _ _ _ _ _ => trivial
    simp [f7, f6, f0, f2, f5, a1, a2]
    refine draw_z [some 0, some 0, some 0, some 0, some 0, some 0, some 0, some 0, some 0, some 0, some 0, some 0, some 0, some 0, some 0, some 0, some 0, some 0, some 0, some 0, some 0, some 0, some 0, none, some 0, none] (by kernel_rfl) (by kernel_rfl) ?_
    rcases hcase with ⟨hi0, rfl⟩ | ⟨hpos, id, v, full, hge, rfl, hid, hv⟩
    · simp [f7, f6, f0, f5, z2]
      refine drawC (v := .i .u64 (takeN b (17 + 13 * (i : Int)) 1)) (fun h => refTakeN_spec b _ 1 h) (fun l => by first | rfl | simp) ?_
      simp [f7, f6, f0, f5, z2, a3, b1]
      refine drawC (v := .i .u64 (takeN b (17 + 13 * (i : Int) + 1) 4)) (fun h => refTakeN_spec b _ 4 h) (fun l => by first | rfl | simp) ?_
      simp [f7, f6, f0, f5, z2, a4, b2]
      refine drawC (v := .i .u64 (takeN b (17 + 13 * (i : Int) + 5) 4)) (fun h => refTakeN_spec b _ 4 h) (fun l => by first | rfl | simp) ?_
      simp [f7, f6, f0, f5, z2, a5, b3]
      refine drawC (v := .i .u64 (takeN b (17 + 13 * (i : Int) + 9) 4)) (fun h => refTakeN_spec b _ 4 h) (fun l => by first | rfl | simp) ?_
      have z2' := get_app z2
      have r3 : 24 ≤ room := by unfold room; omega
      simp [f7, f6, f0, f2, f5, z2, z2', b4, r3]
      refine ⟨16 - (i + 1), by omega, i + 1, rfl, by omega, by rw [wrap_i64' (by omega)]; rfl, ?_⟩
      subst hi0
      exact hs.push0
    · simp [f7, f6, f0, f5, z2]
      refine drawC (v := .i .u64 (takeN b (17 + 13 * (i : Int)) 1)) (fun h => refTakeN_spec b _ 1 h) (fun l => by first | rfl | simp) ?_
      simp [f7, f6, f0, f5, z2, a3, b1]
      refine drawC (v := .i .u64 (takeN b (17 + 13 * (i : Int) + 1) 4)) (fun h => refTakeN_spec b _ 4 h) (fun l => by first | rfl | simp) ?_
      simp [f7, f6, f0, f5, z2, a4, b2]
      refine drawC (v := .i .u64 (takeN b (17 + 13 * (i : Int) + 5) 4)) (fun h => refTakeN_spec b _ 4 h) (fun l => by first | rfl | simp) ?_
      simp [f7, f6, f0, f5, z2, a5, b3]
      refine drawC (v := .i .u64 (takeN b (17 + 13 * (i : Int) + 9) 4)) (fun h => refTakeN_spec b _ 4 h) (fun l => by first | rfl | simp) ?_
      have m3 : ¬ id = h.length + 1 := by omega
      have hta : List.take (i * 4) (rows encEnt (entsTo b i)) = rows encEnt (entsTo b i) := by
        have := rows_all encEnt 4 encEnt_len (entsTo b i); rwa [entsTo_len] at this
      have hlr : (rows encEnt (entsTo b i)).length = i * 4 := by rw [ents_len, entsTo_len]
      have r1 : (i + 1) * 24 ≤ room := by unfold room; omega
      have r2 : (i : Int) + 1 ≤ imax := by unfold imax; omega
      simp [f7, f6, f0, f2, f5, z2, b4, hid, hv, hta, hlr, r1, r2, m3]
      exact ⟨16 - (i + 1), by omega, i + 1, rfl, by omega, by rw [wrap_i64' (by omega)]; rfl, hs.push hid hge hv⟩
  · have hin : i = min (cntOf b) 16 := by omega
    subst hin
    simp
    refine (fun (key : ∀ (fr' : Fr) (H : Hp) (x : AV), fr' 0 = .s (str b) → fr' 2 = .ptr h.length 25 0 → fr' 5 = .ptr (h.length + 1) 25 0 → AVle x (encEnts (decRec b).l) → (x = .nils ∨ ∃ n f cs, x = .lst n f cs) → Keep h H →
      H[h.length]? = some (.cells 25 1 [.i .u64 0, .i .u64 0, .b false, .b false, .i .i64 0, .nils]) → H[h.length + 1]? = some (DBox b x) → dz Try.prog 81 ?all ?Q2 ?rest (pt fr' 69 (.b (decRec b).right)) H) => ?main) ?key
    case main =>
      obtain ⟨y1, ⟨x, y2, hcase⟩, y5⟩ := hs
      rcases hcase with ⟨hn, rfl⟩ | ⟨hpos, id, v, full, hge, rfl, hid, hv⟩
      · have hl : encEnts (decRec b).l = .lst 0 false [] := by
          have : (decRec b).l = [] := by simp [decRec, hn, entsTo]
          rw [this]; rfl
        have hle : AVle .nils (encEnts (decRec b).l) := by rw [hl]; exact .nils _
        simp only [DBox] at y2
        simp [f5, y2]
        refine dcallV_fn (dcall_le (bs := [encRec (decRec b)]) (.cons (.agg (.cons (.refl _) (.cons (.refl _) (.cons (.refl _) (.cons (.refl _) (.cons (.refl _) (.cons hle .nil))))))) .nil) (dcall.pure (refRight_spec _ hr _) ?_))
        refine key _ _ .nils ?_ ?_ ?_ hle (.inl rfl) y5 y1 y2 <;> simp [f0, f2, f5]
      · have hle : AVle (.lst (min (cntOf b) 16) full (List.take (min (cntOf b) 16 * 4) (List.drop 0 (rows encEnt (entsTo b (min (cntOf b) 16)))))) (encEnts (decRec b).l) := by
          have := rows_all encEnt 4 encEnt_len (entsTo b (min (cntOf b) 16))
          rw [entsTo_len] at this
          rw [List.drop_zero, this]
          have e : encEnts (decRec b).l = .lst (min (cntOf b) 16) false (rows encEnt (entsTo b (min (cntOf b) 16))) := by simp [encEnts, decRec]
          rw [e]; exact .lst _ _ _
        have hlr : (rows encEnt (entsTo b (min (cntOf b) 16))).length = min (cntOf b) 16 * 4 := by rw [ents_len, entsTo_len]
        generalize hn : min (cntOf b) 16 = n at *
        simp only [DBox] at y2
        simp [f5, y2]
        refine dcallV_frz id v 4 _ hid (h.length + 1) 25 1 _ y2 (by omega) ?_
        have hcn : (0 + n * 4 ≤ (rows encEnt (entsTo b n)).length) = True := eq_true (by omega)
        simp only [AV.frzs, AV.frz, eq_self, true_and, hcn, if_true]
        refine dcallV_fn (dcall_le (bs := [encRec (decRec b)]) (.cons (.agg (.cons (.refl _) (.cons (.refl _) (.cons (.refl _) (.cons (.refl _) (.cons (.refl _) (.cons hle .nil))))))) .nil) (dcall.pure (refRight_spec _ hr _) ?_))
        refine key _ _ _ ?_ ?_ ?_ hle (.inr ⟨_, _, _, rfl⟩) ((y5.set (by omega) _).set (by omega) _) (get_ne _ (by omega) (get_ne _ (by omega) y1)) (get_at _ (get_ne _ (by omega) y2)) <;> simp [f0, f2, f5]
    case key =>
      clear f0 f2 f5 f6 f7 hs
      intro fr' H x f0 f2 f5 hle hx hk z1 z2
      simp only [DBox] at z2
      cases hR : (decRec b).right
      · have hn : decOk b = false := by simp [decOk, hR]
        simp [f0, f2, f5]
        refine draw_z [] (by kernel_rfl) (by kernel_rfl) ?_
        rcases hx with rfl | ⟨n, full, cs, rfl⟩
        · simp [f0, f2, f5, hlen, z1, z2]
          refine ⟨.s (str []), ?_⟩
          simp [f0, f2, f5, hlen, z1, z2]
          exact retQ_dropLe [.agg [.i .u64 0, .i .u64 0, .b false, .b false, .i .i64 0, .nils], .i .i64 70] _ (.inr rfl) (by simp [resL, resE, Try.results17, f2, z1]) hzle hzp (hk.set (by omega) _) ⟨by rw [decodeR, hn]; rfl, rfl⟩
        · simp [f0, f2, f5, hlen, z1, z2]
          refine ⟨.s (str []), ?_⟩
          simp [f0, f2, f5, hlen, z1, z2]
          exact retQ_dropLe [.agg [.i .u64 0, .i .u64 0, .b false, .b false, .i .i64 0, .nils], .i .i64 70] _ (.inr rfl) (by simp [resL, resE, Try.results17, f2, z1]) hzle hzp (hk.set (by omega) _) ⟨by rw [decodeR, hn]; rfl, rfl⟩
      · have R := Rec.right_of hR
        simp [f0, f2, f5]
        refine draw_z [] (by kernel_rfl) (by kernel_rfl) ?_
        rcases hx with rfl | ⟨n, full, cs, rfl⟩
        · simp [f0, f2, f5, hlen, z1, z2]
          refine drawC (v := .s (str (decRec b).sector)) (fun h => dcall_le (bs := [encRec (decRec b)]) (.cons (.agg (.cons (.refl _) (.cons (.refl _) (.cons (.refl _) (.cons (.refl _) (.cons (.refl _) (.cons hle .nil))))))) .nil) (sector_spec _ hr R h)) (fun l => by first | rfl | simp) ?_
          simp [f0, f2, f5, hlen, z1, z2]
          refine brB_split (fun c => ?_) (fun c => ?_) <;> simp at c
          · have hn : decOk b = false := by simp [decOk, c]
            simp [f0, f2, f5, hlen, z1, z2]
            exact retQ_dropLe [.agg [.i .u64 0, .i .u64 0, .b false, .b false, .i .i64 0, .nils], .i .i64 70] _ (.inr rfl) (by simp [resL, resE, Try.results17, f2, z1]) hzle hzp (hk.set (by omega) _) ⟨by rw [decodeR, hn]; rfl, rfl⟩
          · have hy : decOk b = true := by simp [decOk, c, hlen, hR]
            simp [f0, f2, f5, hlen, z1, z2]
            exact retQ_dropLe [.agg [.i .u64 (decRec b).seq, .i .u64 (decRec b).cp, .b (decRec b).ends, .b (decRec b).sync, .i .i64 (decRec b).next, .nils], .i .i64 0] _ (.inr rfl) (by simp [resL, resE, Try.results17, f2, z1]) (hzl _ hle) hzy (hk.set (by omega) _) ⟨by rw [decodeR, hy]; rfl, rfl⟩
        · simp [f0, f2, f5, hlen, z1, z2]
          refine drawC (v := .s (str (decRec b).sector)) (fun h => dcall_le (bs := [encRec (decRec b)]) (.cons (.agg (.cons (.refl _) (.cons (.refl _) (.cons (.refl _) (.cons (.refl _) (.cons (.refl _) (.cons hle .nil))))))) .nil) (sector_spec _ hr R h)) (fun l => by first | rfl | simp) ?_
          simp [f0, f2, f5, hlen, z1, z2]
          refine brB_split (fun c => ?_) (fun c => ?_) <;> simp at c
          · have hn : decOk b = false := by simp [decOk, c]
            simp [f0, f2, f5, hlen, z1, z2]
            exact retQ_dropLe [.agg [.i .u64 0, .i .u64 0, .b false, .b false, .i .i64 0, .nils], .i .i64 70] _ (.inr rfl) (by simp [resL, resE, Try.results17, f2, z1]) hzle hzp (hk.set (by omega) _) ⟨by rw [decodeR, hn]; rfl, rfl⟩
          · have hy : decOk b = true := by simp [decOk, c, hlen, hR]
            simp [f0, f2, f5, hlen, z1, z2]
            exact retQ_dropLe [.agg [.i .u64 (decRec b).seq, .i .u64 (decRec b).cp, .b (decRec b).ends, .b (decRec b).sync, .i .i64 (decRec b).next, .lst n full cs], .i .i64 0] _ (.inr rfl) (by simp [resL, resE, Try.results17, f2, z1]) (hzl _ hle) hzy (hk.set (by omega) _) ⟨by rw [decodeR, hy]; rfl, rfl⟩
end Go.M
