/- num.Take and the reference's; num.Fit; strings.Repeat by the shelf. -/
import Derived.Test.YtjplebfagohphaaWc
import Derived.Test.YtjplebfagohphaaMv
import Derived.Test.YtjplebfagohphaaPs
import Derived.Test.YtjplebfagohphaaSh
namespace Go.M
open Go Go.Proofs
set_option maxRecDepth 20000
set_option linter.unusedVariables false
set_option linter.unusedSimpArgs false
set_option linter.unnecessarySimpa false
attribute [local congr] ifV_congr ifC_congr ifE_congr ifG_congr ifB_congr ifH_congr brB_congr dz_congr wz_congr qz_congr dwp_congr dcallV_congr dcall_congr retQ_congr thenQ_congr inBlockQ_congr noGotoQ_congr
attribute [local simp] hold_eq hp_get_set zero_imax one_imax cv_str mk_arr empty_str str_append extract_str ifV_some ifV_none ifC_some ifC_none ifE_some ifE_none ifG_some ifB_b ifH_some brB_true brB_false pt_at fz_at putL_z putL_n guardZ dz_nil dz_plain dz_plain0 dz_guard wz_skip wz_label wz_exit wz_goto wz_ret wz_region wz_draw wz_seq wz_cond wz_block wz_scope wz_loop wz_range qz_nil qz_plan qz_quiet qz_quiet_g qz_turn qz_turn0 thenQ inBlockQ noGotoQ callV opE opW evO wh wa pickE st sts gds condsOf opV allocE boxE buildE fillE splice newE loadE ptrCells storeE AV.cells AV.ones AV.one nilCheckE eqE eqE.go binE intE strE unE convE upE uSliceE uStringE sliceE sliceParts bnd sliceFull fieldAddrE indexAddrE indexE extractE builtinE lenE minL maxL min_go2 max_go2 appendE srcCells sliceCells copyE makeSliceE makeMapE buildSliceE reps_zero' reps_one reps_two cv_bool cv_int cv_nilp cv_nils cv_nilm cv_nilf cv_nilIface min_i64 max_i64 min_u64 max_u64 min_u32 max_u32 min_u16 max_u16 min_u8 max_u8 hp_get0 hp_get hp_set0 hp_set ty0 ty1 ty2 ty3 ty4 ty5 ty6 ty7 ty8 ty9 ty10 ty11

theorem repeatL_zero (k : Nat) : Lib.repeatL [0] k = List.replicate k 0 := by
  induction k with
  | zero => rfl
  | succ k ih => rw [Lib.repeatL, ih]; rfl

theorem repeat0_spec (c : Int) (h0 : 0 ≤ c) (h1 : c ≤ 100000) (h : Hp) : dcall Try.prog 75 [.s (str [0]), .i .i64 c] h fun av h' => av = .s (str (List.replicate c.toNat 0)) ∧ h' = h := by
  obtain ⟨k, rfl⟩ := Int.eq_ofNat_of_zero_le h0
  refine dcall_of_calls (us := #[.string (str [0]), .int .i64 k]) (v := .string (str (List.replicate k 0))) Try.call75 ?_ ?_ ?_
  · intro g w vs hr
    simp only [RelL, RelV] at hr
    obtain ⟨v, vs', rfl, ⟨rfl, _⟩, u, vs2, rfl, ⟨rfl, _⟩, rfl⟩ := hr
    rfl
  · intro g w
    exact ⟨rfl, by simp [imax]; omega⟩
  · intro w
    refine (Try.strings_Repeat (str [0]) k w (by omega) (by simp; omega)).mono ?_
    rintro e w' ⟨rfl, hb⟩
    refine ⟨?_, hb⟩
    rw [str_data, repeatL_zero]; rfl

/-- What a taking answers. -/
def takeR (l : List UInt8) (a w : Int) : AV := .tup [.i .u64 (takeN l a w), .i .i64 (if takeOk l a w then 0 else 2)]
theorem takeR_no {l : List UInt8} {a w : Int} (h : ¬ takeOk l a w) : takeR l a w = .tup [.i .u64 0, .i .i64 2] := by unfold takeR takeN; rw [if_neg h, if_neg h]
theorem takeR_yes {l : List UInt8} {a w : Int} (h : takeOk l a w) : takeR l a w = .tup [.i .u64 (ofle ((l.drop a.toNat).take w.toNat)), .i .i64 0] := by unfold takeR takeN; rw [if_pos h, if_pos h]

theorem take_spec (l : List UInt8) (a w : Int) (h : Hp) :
    dcall Try.prog 101 [.s (str l), .i .i64 a, .i .i64 w] h fun av h' => av = takeR l a w ∧ h' = h := by
  refine dcall_int 1 rfl fun ha => dcall_int 2 rfl fun hw => dcall_str 0 rfl fun hl => ?_
  simp at ha hw hl
  refine call_z Try.func101 rfl Try.call101 Try.ntmps101 (by simp) ?_
  simp
  refine dcallV_fn (dcall.pure (isWidth_spec _ _) ?_)
  simp
  refine brB_split (fun c => ?_) (fun c => ?_) <;> simp at c
  · have hn : ¬ takeOk l a w := by
      rintro ⟨h1, h2, h3, h4⟩
      rcases c with (((c | c) | c) | c) | c
      · omega
      · omega
      · omega
      · omega
      · rw [wrap_i64' (by omega)] at c; omega
    simp
    exact retQ_to [.i .u64 0, .i .i64 2] (.inr rfl) (by simp [resL, resE, Try.results101]) ⟨by rw [takeR_no hn]; rfl, rfl⟩
  · obtain ⟨⟨⟨⟨c1, c2⟩, c3⟩, c4⟩, c5⟩ := c
    rw [wrap_i64' (by omega)] at c5
    have hy : takeOk l a w := ⟨c1, c2, c3, by omega⟩
    obtain ⟨w', rfl⟩ := Int.eq_ofNat_of_zero_le (show 0 ≤ w by omega)
    obtain ⟨a', rfl⟩ := Int.eq_ofNat_of_zero_le c3
    simp
    refine loop_z (fun m fr h' => ∃ (i : Nat), m = w' - i ∧ i ≤ w' ∧ fr 32 = .i .i64 i ∧ fr 31 = .i .i64 w' ∧ fr 0 = .s (str l) ∧ fr 1 = .i .i64 a' ∧ fr 8 = .i .u64 (ofle ((l.drop a').take i)) ∧ h' = h) w' ⟨0, by simp, by simp, by simp, by simp, by simp, by simp, by simp [ofle], rfl⟩ ?_
    rintro m fr h' ⟨i, hm, hi, f32, f31, f0, f1, f8, rfl⟩
    simp [f31, f32]
    refine brB_split (fun c => ?_) (fun c => ?_) <;> simp at c
    · have hlt : a' + i < l.length := by omega
      have e1 : IntKind.i64.wrap ((a' : Int) + i) = (a' : Int) + i := wrap_i64' (by omega)
      have e2 : IntKind.i64.wrap (8 * (i : Int)) = 8 * (i : Int) := wrap_i64' (by omega)
      have hb : (0 : Int) ≤ 8 * (i : Int) := by omega
      have hc1 : (0 : Int) ≤ (a' : Int) + i := by omega
      have hc2 : (a' : Int) + i < (l.length : Int) := by omega
      have ho := take_or (l := l.drop a') (i := i) (by omega) (by simp; omega)
      rw [List.getElem_drop] at ho
      have hgd : bt (str l) ((a' : Int) + i) = (l[a' + i].toNat : Int) := by
        rw [show (a' : Int) + i = ((a' + i : Nat) : Int) by omega, bt_nat, List.getD_eq_getElem?_getD, List.getElem?_eq_getElem hlt]; rfl
      have hu : IntKind.u64.wrap (l[a' + i].toNat : Int) = (l[a' + i].toNat : Int) := wrap_u64 (by have := u8_lt l[a' + i]; omega)
      simp [f31, f32, f0, f1, f8, e1, e2, hc1, hc2, hgd, hu, ho, hb]
      exact ⟨w' - (i + 1), by omega, i + 1, rfl, by omega, by rw [wrap_i64' (by omega)]; rfl, rfl⟩
    · have : i = w' := by omega
      subst this
      simp [f8]
      exact retQ_to [.i .u64 (ofle ((l.drop a').take i)), .i .i64 0] (.inr rfl) (by simp [resL, resE, Try.results101]) ⟨by rw [takeR_yes hy]; rfl, rfl⟩

theorem refTake_spec (l : List UInt8) (a w : Int) (h : Hp) :
    dcall Try.prog 103 [.s (str l), .i .i64 a, .i .i64 w] h fun av h' => av = takeR l a w ∧ h' = h := by
  refine dcall_int 1 rfl fun ha => dcall_int 2 rfl fun hw => dcall_str 0 rfl fun hl => ?_
  simp at ha hw hl
  refine call_z Try.func103 rfl Try.call103 Try.ntmps103 (by simp) ?_
  simp
  refine brB_split (fun c => ?_) (fun c => ?_) <;> simp at c
  · have hn : ¬ takeOk l a w := by
      rintro ⟨h1, h2, h3, h4⟩
      rcases c with (((c | c) | c) | c) | c
      · omega
      · omega
      · omega
      · omega
      · rw [wrap_i64' (by omega)] at c; omega
    simp
    exact retQ_to [.i .u64 0, .i .i64 2] (.inr rfl) (by simp [resL, resE, Try.results103]) ⟨by rw [takeR_no hn]; rfl, rfl⟩
  · obtain ⟨⟨⟨⟨c1, c2⟩, c3⟩, c4⟩, c5⟩ := c
    rw [wrap_i64' (by omega)] at c5
    have hy : takeOk l a w := ⟨c1, c2, c3, by omega⟩
    obtain ⟨w', rfl⟩ := Int.eq_ofNat_of_zero_le (show 0 ≤ w by omega)
    obtain ⟨a', rfl⟩ := Int.eq_ofNat_of_zero_le c3
    have hw1 : IntKind.i64.wrap ((w' : Int) - 1) = (w' : Int) - 1 := wrap_i64' (by omega)
    simp [hw1]
    refine loop_z (fun m fr h' => ∃ (i : Nat), m = i ∧ i ≤ w' ∧ fr 9 = .i .i64 ((i : Int) - 1) ∧ fr 0 = .s (str l) ∧ fr 1 = .i .i64 a' ∧ fr 8 = .i .u64 (ofle ((l.drop (a' + i)).take (w' - i))) ∧ h' = h) w' ⟨w', by simp, by simp, by simp, by simp, by simp, by simp [ofle], rfl⟩ ?_
    rintro m fr h' ⟨i, hm, hi, f9, f0, f1, f8, rfl⟩
    simp [f9]
    refine brB_split (fun c => ?_) (fun c => ?_) <;> simp at c
    · obtain ⟨k, rfl⟩ : ∃ k, i = k + 1 := ⟨i - 1, by omega⟩
      have hlt : a' + k < l.length := by omega
      have e0 : (((k + 1 : Nat) : Int) - 1) = (k : Int) := by omega
      have e1 : IntKind.i64.wrap ((a' : Int) + k) = (a' : Int) + k := wrap_i64' (by omega)
      have e2 : IntKind.i64.wrap ((k : Int) - 1) = (k : Int) - 1 := wrap_i64' (by omega)
      have hc1 : (0 : Int) ≤ (a' : Int) + k := by omega
      have hc2 : (a' : Int) + k < (l.length : Int) := by omega
      have hgd : bt (str l) ((a' : Int) + k) = (l[a' + k].toNat : Int) := by
        rw [show (a' : Int) + k = ((a' + k : Nat) : Int) by omega, bt_nat, List.getD_eq_getElem?_getD, List.getElem?_eq_getElem hlt]; rfl
      have hu : IntKind.u64.wrap (l[a' + k].toNat : Int) = (l[a' + k].toNat : Int) := wrap_u64 (by have := u8_lt l[a' + k]; omega)
      have hn0 := ofle_nonneg ((l.drop (a' + (k + 1))).take (w' - (k + 1)))
      have hn1 := ofle_lt' (l := (l.drop (a' + (k + 1))).take (w' - (k + 1))) (w := 7) (by simp; omega)
      have ho := take_or_down (b := l[a' + k]) hn0 hn1
      have hst : ((l[a' + k].toNat : Int) + 256 * ofle ((l.drop (a' + (k + 1))).take (w' - (k + 1)))) = ofle ((l.drop (a' + k)).take (w' - k)) := by
        rw [List.drop_eq_getElem_cons hlt, show w' - k = (w' - (k + 1)) + 1 by omega, List.take_succ_cons]; rfl
      rw [hst] at ho
      rw [e0] at f9
      simp [f9, f0, f1, f8, e1, e2, hc1, hc2, hgd, hu, ho]
      exact ⟨k, by omega, by omega, rfl, rfl⟩
    · have : i = 0 := by omega
      subst this
      simp [f8]
      exact retQ_to [.i .u64 (ofle ((l.drop a').take w')), .i .i64 0] (.inr rfl) (by simp [resL, resE, Try.results103]) ⟨by rw [takeR_yes hy]; rfl, rfl⟩

/-- What a fitting answers. -/
def fitR (l : List UInt8) (n : Int) : AV := if l.length ≤ n ∧ n ≤ 65536 then .tup [.s (str (l ++ List.replicate (n.toNat - l.length) 0)), .i .i64 0] else .tup [.s (str []), .i .i64 2]

theorem fit_spec (l : List UInt8) (n : Int) (h : Hp) :
    dcall Try.prog 60 [.s (str l), .i .i64 n] h fun av h' => av = fitR l n ∧ h' = h := by
  refine dcall_int 1 rfl fun hn => dcall_str 0 rfl fun hl => ?_
  simp at hn hl
  refine call_z Try.func60 rfl Try.call60 Try.ntmps60 (by simp) ?_
  simp
  refine brB_split (fun c => ?_) (fun c => ?_) <;> simp at c
  · have hf : ¬ ((l.length : Int) ≤ n ∧ n ≤ 65536) := by omega
    simp
    exact retQ_to [.s (str []), .i .i64 2] (.inr rfl) (by simp [resL, resE, Try.results60]) ⟨by rw [fitR, if_neg hf]; rfl, rfl⟩
  · have hf : ((l.length : Int) ≤ n ∧ n ≤ 65536) := by omega
    have e1 : IntKind.i64.wrap (n - (l.length : Int)) = n - (l.length : Int) := wrap_i64' (by omega)
    simp [e1]
    refine dcallV_fn (dcall.pure (repeat0_spec _ (by omega) (by omega) _) ?_)
    have e2 : (l.length : Int) + ((n - (l.length : Int)).toNat : Int) ≤ imax := by unfold imax; omega
    have e3 : (n - (l.length : Int)).toNat = n.toNat - l.length := by omega
    have e4 : (l.length : Int) + ((n.toNat - l.length : Nat) : Int) ≤ imax := by unfold imax; omega
    simp [e2, e3, e4]
    exact retQ_to [.s (str (l ++ List.replicate (n.toNat - l.length) 0)), .i .i64 0] (.inr rfl) (by simp [resL, resE, Try.results60]) ⟨by rw [fitR, if_pos hf]; rfl, rfl⟩
end Go.M
