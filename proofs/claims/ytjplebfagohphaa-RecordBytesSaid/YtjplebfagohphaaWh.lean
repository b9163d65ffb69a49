/- The reference's sector and Encode; taking of numbers. -/
import Derived.Test.YtjplebfagohphaaWg
namespace Go.M
open Go Go.Proofs
set_option maxRecDepth 20000
set_option linter.unusedVariables false
set_option linter.unusedSimpArgs false
set_option linter.unnecessarySimpa false
attribute [local congr] ifV_congr ifC_congr ifE_congr ifG_congr ifB_congr ifH_congr brB_congr dz_congr wz_congr qz_congr dwp_congr dcallV_congr dcall_congr retQ_congr thenQ_congr inBlockQ_congr noGotoQ_congr
attribute [local simp] hold_eq hp_get_set zero_imax one_imax cv_str mk_arr empty_str str_append extract_str ifV_some ifV_none ifC_some ifC_none ifE_some ifE_none ifG_some ifB_b ifH_some brB_true brB_false pt_at fz_at putL_z putL_n guardZ dz_nil dz_plain dz_plain0 dz_guard wz_skip wz_label wz_exit wz_goto wz_ret wz_region wz_draw wz_seq wz_cond wz_block wz_scope wz_loop wz_range qz_nil qz_plan qz_quiet qz_quiet_g qz_turn qz_turn0 thenQ inBlockQ noGotoQ callV opE opW evO wh wa pickE st sts gds condsOf opV allocE boxE buildE fillE splice newE loadE ptrCells storeE AV.cells AV.ones AV.one nilCheckE eqE eqE.go binE intE strE unE convE upE uSliceE uStringE sliceE sliceParts bnd sliceFull fieldAddrE indexAddrE indexE extractE builtinE lenE minL maxL min_go2 max_go2 appendE srcCells sliceCells copyE makeSliceE makeMapE buildSliceE reps_zero' reps_one reps_two cv_bool cv_int cv_nilp cv_nils cv_nilm cv_nilf cv_nilIface min_i64 max_i64 min_u64 max_u64 min_u32 max_u32 min_u16 max_u16 min_u8 max_u8 hp_get0 hp_get hp_set0 hp_set ty0 ty1 ty2 ty3 ty4 ty5 ty6 ty7 ty8 ty9 ty10 ty11

theorem sector_spec (r : Rec) (hr : r.Ok) (R : r.Right) (h : Hp) : dcall Try.prog 62 [encRec r] h fun av h' => av = .s (str r.sector) ∧ h' = h := by
  obtain ⟨hr1, hr2, hr3, hr4, hr5⟩ := hr
  unfold u64ok at hr1 hr2
  have hnx := R.next
  have hln := R.len
  have c1 : IntKind.u64.wrap r.next = r.next := wrap_u64 (by omega)
  have c2 : IntKind.u64.wrap (r.l.length : Int) = (r.l.length : Int) := wrap_u64 (by omega)
  have hfl : 0 ≤ r.flagN ∧ r.flagN ≤ 2 := by unfold Rec.flagN; split; omega; split <;> omega
  have i7 : (7 : Int) ≤ imax := by decide
  have i13 : (13 : Int) ≤ imax := by decide
  have i14 : (14 : Int) ≤ imax := by decide
  have i16 : (16 : Int) ≤ imax := by decide
  have i17 : (17 : Int) ≤ imax := by decide
  refine call_z Try.func62 rfl Try.call62 Try.ntmps62 (by simp) ?_
  simp [encRec, encRecL, encEnts]
  refine (fun (key : ∀ fr : Fr, fr 1 = .ptr h.length 25 0 → fr 3 = .i .u64 r.flagN → dwp Try.prog none 73 ?c ?Q fr ?hh) => ?main) ?key
  case main =>
    refine brB_split (fun he => ?_) (fun he => ?_)
    · have hs : r.sync = false := by cases hs : r.sync; rfl; exact absurd ⟨he, hs⟩ R.flags
      simp
      refine brB_f hs ?_
      simp
      refine key _ ?_ ?_ <;> simp [Rec.flagN, he]
    · simp
      refine brB_split (fun hs => ?_) (fun hs => ?_)
      · simp
        refine key _ ?_ ?_ <;> simp [Rec.flagN, he, hs]
      · simp
        refine key _ ?_ ?_ <;> simp [Rec.flagN, he, hs]
  case key =>
    intro fr f1 f3
    refine draw_z [] (by kernel_rfl) (by kernel_rfl) ?_
    have T6 : (6 : Int).toNat = 6 := rfl
    have T4 : (4 : Int).toNat = 4 := rfl
    have T2 : (2 : Int).toNat = 2 := rfl
    have T1 : (1 : Int).toNat = 1 := rfl
    simp [f1, f3, c1, c2]
    refine drawC (fun h => refBytes_spec r.seq 6 hr1 (by decide) h) (fun l => by first | rfl | simp) ?_
    simp [f1, f3, c1, c2, i7]
    refine drawC (fun h => refBytes_spec r.cp 6 hr2 (by decide) h) (fun l => by first | rfl | simp) ?_
    simp [f1, f3, c1, c2, i13]
    refine drawC (fun h => refBytes_spec r.flagN 1 (by omega) (by decide) h) (fun l => by first | rfl | simp) ?_
    simp [f1, f3, c1, c2, i14]
    refine drawC (fun h => refBytes_spec r.next 2 (by omega) (by decide) h) (fun l => by first | rfl | simp) ?_
    simp [f1, f3, c1, c2, i16]
    refine drawC (fun h => refBytes_spec (r.l.length : Int) 1 (by omega) (by decide) h) (fun l => by first | rfl | simp) ?_
    simp [f1, f3, c1, c2, i17]
    refine loop_z (fun m fr h' => ∃ (i : Nat), m = r.l.length - i ∧ i ≤ r.l.length ∧ fr 5 = .i .i64 i ∧ fr 1 = .ptr h.length 25 0 ∧ fr 4 = .s (str (r.headBytes ++ (r.l.take i).flatMap Ent.bytes)) ∧
      h'[h.length]? = some (.cells 25 1 (encRecL r)) ∧ Keep h h') r.l.length ⟨0, by simp, by simp, by simp, by simp [f1], by simp [Rec.headBytes], by simp [encRecL, encEnts], Keep.app _ _⟩ ?_
    clear f1 f3
    rintro m fr h' ⟨i, hm, hi, f5, f1, f4, hbox, hk⟩
    simp [encRecL, encEnts] at hbox
    have hbox' := get_app hbox
    simp [f5, f1, hbox]
    refine brB_split (fun c => ?_) (fun c => ?_) <;> simp at c
    · have hel := ents_get r.l i c
      have hx := hr4 r.l[i] (List.getElem_mem _)
      have hxk := Ent.ok_kind (R.ents r.l[i] (List.getElem_mem _))
      have hfit := rows_fit (ents_len r.l) c
      rw [ents_len] at hfit
      obtain ⟨q1, q2, q3, q4⟩ := hx
      unfold u32ok at q2 q3 q4
      have w1 : IntKind.u64.wrap r.l[i].kind = r.l[i].kind := wrap_u64 (by omega)
      have w2 : IntKind.u64.wrap r.l[i].file = r.l[i].file := wrap_u64 (by omega)
      have w3 : IntKind.u64.wrap r.l[i].index = r.l[i].index := wrap_u64 (by omega)
      have w4 : IntKind.u64.wrap r.l[i].vbn = r.l[i].vbn := wrap_u64 (by omega)
      have hlb : (r.headBytes ++ (r.l.take i).flatMap Ent.bytes).length ≤ 1000 := by
        rw [List.length_append, flatB_len, Rec.head_len, List.length_take]; omega
      have hnew : (r.headBytes ++ (r.l.take i).flatMap Ent.bytes) ++ (le 1 r.l[i].kind ++ (le 4 r.l[i].file ++ (le 4 r.l[i].index ++ le 4 r.l[i].vbn))) = r.headBytes ++ (r.l.take (i + 1)).flatMap Ent.bytes := by
        rw [List.take_succ_eq_append_getElem c, List.flatMap_append, ← List.append_assoc]
        simp [Ent.bytes]
      generalize hbs : r.headBytes ++ (r.l.take i).flatMap Ent.bytes = bs at f4 hlb hnew
      have j1 : (bs.length : Int) + 1 ≤ imax := by unfold imax; omega
      have j2 : (bs.length : Int) + 5 ≤ imax := by unfold imax; omega
      have j3 : (bs.length : Int) + 9 ≤ imax := by unfold imax; omega
      have j4 : (bs.length : Int) + 13 ≤ imax := by unfold imax; omega
      have k2 : (bs.length : Int) + 1 + 4 ≤ imax := by unfold imax; omega
      have k3 : (bs.length : Int) + 5 + 4 ≤ imax := by unfold imax; omega
      have k4 : (bs.length : Int) + 9 + 4 ≤ imax := by unfold imax; omega
      simp [f5, f1, hbox, hel, c, ents_len, hfit, encEnt]
      refine draw_z [] (by kernel_rfl) (by kernel_rfl) ?_
      simp [f4, w1]
      refine drawC (v := .s (str (le 1 r.l[i].kind))) (fun h => refBytes_spec r.l[i].kind 1 (by omega) (by decide) h) (fun l => by first | rfl | simp) ?_
      simp [w2, j1, j2, j3, j4, k2, k3, k4]
      refine drawC (v := .s (str (le 4 r.l[i].file))) (fun h => refBytes_spec r.l[i].file 4 (by omega) (by decide) h) (fun l => by first | rfl | simp) ?_
      simp [w3, j1, j2, j3, j4, k2, k3, k4]
      refine drawC (v := .s (str (le 4 r.l[i].index))) (fun h => refBytes_spec r.l[i].index 4 (by omega) (by decide) h) (fun l => by first | rfl | simp) ?_
      simp [w4, j1, j2, j3, j4, k2, k3, k4]
      refine drawC (v := .s (str (le 4 r.l[i].vbn))) (fun h => refBytes_spec r.l[i].vbn 4 (by omega) (by decide) h) (fun l => by first | rfl | simp) ?_
      simp [j1, j2, j3, j4, k2, k3, k4, f5, f1]
      exact ⟨r.l.length - (i + 1), by omega, i + 1, rfl, by omega, by rw [wrap_i64' (by omega)]; rfl, hnew, by rw [hbox']; simp [encRecL, encEnts], hk.of_app _⟩
    · have : i = r.l.length := by omega
      subst this
      rw [List.take_length] at f4
      have hB : (r.headBytes ++ r.l.flatMap Ent.bytes) = r.bytes := rfl
      rw [hB] at f4
      have hlen := r.bytes_len
      have e1 : IntKind.i64.wrap (256 - (r.bytes.length : Int)) = 256 - (r.bytes.length : Int) := wrap_i64' (by omega)
      have e2 : (r.bytes.length : Int) ≤ 256 := by omega
      have e3 : ((256 : Int) - (r.bytes.length : Int)).toNat = 256 - r.bytes.length := by omega
      have e4 : (256 : Int) - (r.bytes.length : Int) ≤ 281474976710656 := by omega
      have hby : bytesOf (reps (256 - r.bytes.length) [AV.i .u8 0]) = some (List.replicate (256 - r.bytes.length) 0) := by rw [rep_zero, bytesOf_enc]
      have hla : (reps (256 - r.bytes.length) [AV.i .u8 0]).length = 256 - r.bytes.length := by rw [rep_zero]; simp
      have e8 : (r.bytes.length : Int) + ((256 - r.bytes.length : Nat) : Int) ≤ imax := by unfold imax; omega
      simp [f4, e1, e2, e3, e4, hby, hla, e8, List.take_of_length_le]
      exact retQ_drop [.s (str r.sector)] (.inr rfl) (by simp [resL, resE, Try.results62, Rec.sector]) rfl (hk.of_app _) ⟨rfl, rfl⟩

theorem refEncode_spec (r : Rec) (hr : r.Ok) (h : Hp) : dcall Try.prog 15 [encRec r] h fun av h' => av = encodeR r ∧ h' = h := by
  refine call_z Try.func15 rfl Try.call15 Try.ntmps15 (by simp) ?_
  simp [encRec, encRecL, encEnts]
  refine dcallV_fn (dcall.pure (refRight_spec r hr _) ?_)
  cases hR : r.right
  · simp
    exact retQ_drop [.s (str []), .i .i64 70] (.inr rfl) (by simp [resL, resE, Try.results15]) rfl (Keep.app _ _) ⟨by rw [encodeR, hR]; rfl, rfl⟩
  have R := Rec.right_of hR
  simp
  have hby : bytesOf (reps 256 [AV.i .u8 0]) = some (List.replicate 256 0) := by rw [rep_zero, bytesOf_enc]
  have hla : (reps 256 [AV.i .u8 0]).length = 256 := by rw [rep_zero]; simp
  have hlen := r.bytes_len
  have hln := R.len
  have hs : r.sector.length = 256 := by simp [Rec.sector]; omega
  have hs2 : (r.sector.length : Int) + 256 ≤ imax := by rw [hs]; decide
  have hs3 : r.sector ++ List.replicate 256 0 = r.block := by
    simp only [Rec.sector, Rec.block, List.append_assoc, List.replicate_append_replicate]
    congr 2
    omega
  refine draw_z [some 0, some 0, none, some 1, some 1, some 1, some 1] (by kernel_rfl) (by kernel_rfl) ?_
  simp [hla, hby, List.take_of_length_le, -List.reduceReplicate]
  refine drawC (v := .s (str r.sector)) (fun h => sector_spec r hr R h) (fun l => by first | rfl | simp) ?_
  have i512 : (512 : Int) ≤ imax := by decide
  simp [hs2, hs3, hs, i512, -List.reduceReplicate]
  exact retQ_drop [.s (str r.block), .i .i64 0] (.inr rfl) (by simp [resL, resE, Try.results15]) rfl (Keep.app _ _) ⟨by rw [encodeR, hR]; rfl, rfl⟩

theorem recTake_spec (l : List UInt8) (a w : Int) (h : Hp) : dcall Try.prog 63 [.s (str l), .i .i64 a, .i .i64 w] h fun av h' => av = .i .u64 (takeN l a w) ∧ h' = h := by
  refine call_z Try.func63 rfl Try.call63 Try.ntmps63 (by simp) ?_
  simp
  refine dcallV_fn (dcall.pure (take_spec _ _ _ _) ?_)
  simp [takeR]
  exact retQ_to [.i .u64 (takeN l a w)] (.inr rfl) (by simp [resL, resE, Try.results63]) ⟨rfl, rfl⟩

theorem refTakeN_spec (l : List UInt8) (a w : Int) (h : Hp) : dcall Try.prog 65 [.s (str l), .i .i64 a, .i .i64 w] h fun av h' => av = .i .u64 (takeN l a w) ∧ h' = h := by
  refine call_z Try.func65 rfl Try.call65 Try.ntmps65 (by simp) ?_
  simp
  refine dcallV_fn (dcall.pure (refTake_spec _ _ _ _) ?_)
  simp [takeR]
  exact retQ_to [.i .u64 (takeN l a w)] (.inr rfl) (by simp [resL, resE, Try.results65]) ⟨rfl, rfl⟩
end Go.M
