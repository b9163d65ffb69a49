/- strings.Builder: what its methods do to an abstract builder. -/
import Derived.Test.YtjplebfagohphaaMt
import Derived.Test.YtjplebfagohphaaMx
import Derived.Test.YtjplebfagohphaaPa
import Derived.Laws.Externs
namespace Go.M
open Go Go.Proofs
set_option maxRecDepth 20000
set_option linter.unusedVariables false
set_option linter.unusedSimpArgs false
set_option linter.unnecessarySimpa false
attribute [local congr] ifV_congr ifC_congr ifE_congr ifG_congr ifB_congr ifH_congr brB_congr dz_congr wz_congr qz_congr dwp_congr dcallV_congr dcall_congr retQ_congr thenQ_congr inBlockQ_congr noGotoQ_congr
attribute [local simp] hold_eq hp_get_set zero_imax one_imax cv_str mk_arr empty_str str_append extract_str ifV_some ifV_none ifC_some ifC_none ifE_some ifE_none ifG_some ifB_b ifH_some brB_true brB_false pt_at fz_at putL_z putL_n guardZ dz_nil dz_plain dz_plain0 dz_guard wz_skip wz_label wz_exit wz_goto wz_ret wz_region wz_draw wz_seq wz_cond wz_block wz_scope wz_loop wz_range qz_nil qz_plan qz_quiet qz_quiet_g qz_turn qz_turn0 thenQ inBlockQ noGotoQ callV opE opW evO wh wa pickE st sts gds condsOf opV allocE boxE buildE fillE splice newE loadE ptrCells storeE AV.cells AV.ones AV.one nilCheckE eqE eqE.go binE intE strE unE convE upE uSliceE uStringE sliceE sliceParts bnd sliceFull fieldAddrE indexAddrE indexE extractE builtinE lenE minL maxL min_go2 max_go2 appendE srcCells sliceCells copyE makeSliceE makeMapE buildSliceE reps_zero' reps_one reps_two cv_bool cv_int cv_nilp cv_nils cv_nilm cv_nilf cv_nilIface min_i64 max_i64 min_u64 max_u64 min_u32 max_u32 min_u16 max_u16 min_u8 max_u8 hp_get0 hp_get hp_set0 hp_set ty0 ty1 ty2 ty3 ty4 ty5 ty6 ty7 ty8 ty9 ty10 ty11

theorem noEscape_spec (x : AV) (h : Hp) : dcall Try.prog 116 [x] h fun av h' => av = x ∧ h' = h := by
  intro g w vs hw hr
  simp only [RelL] at hr
  obtain ⟨v, _, rfl, hv, rfl⟩ := hr
  rw [run_callFunc_extern Try.func116 (by kernel_rfl) (by kernel_rfl) (by kernel_rfl) (e := Extern.AbiNoEscape.same) (by kernel_rfl)]
  exact ⟨v, g, x, h, rfl, Ext.refl _ _, hw, hv, rfl, rfl⟩

theorem copyCheck_spec (id : Nat) (p buf : AV) (h : Hp) (hid : h[id]? = some (.cells 98 1 [p, buf])) (hp : p = .nilp ∨ p = .ptr id 98 0) :
    dcall Try.prog 99 [.ptr id 98 0] h fun av h' => av = .tup [] ∧ h' = h.set id (.cells 98 1 [.ptr id 98 0, buf]) := by
  refine call_z Try.func99 rfl Try.call99 Try.ntmps99 (by simp) ?_
  rcases hp with rfl | rfl
  · simp [hid]
    refine dcallV_fn (dcall.pure (noEscape_spec _ _) ?_)
    simp [hid]
    exact retQ_to [] (.inl rfl) (by simp [resL, resE, Try.results99]) ⟨rfl, rfl⟩
  · simp [hid]
    exact retQ_to [] (.inl rfl) (by simp [resL, resE, Try.results99]) ⟨rfl, (set_self hid).symm⟩

/-- A builder: object id, of these bytes; it and its row lie from n on. -/
def Bld (n : Nat) (h : Hp) (id : Nat) (bs : List UInt8) : Prop :=
  n ≤ id ∧ ∃ p buf, h[id]? = some (.cells 98 1 [p, buf]) ∧ (p = .nilp ∨ p = .ptr id 98 0) ∧
    ((buf = .nils ∧ bs = []) ∨ ∃ r v full, n ≤ r ∧ r ≠ id ∧ bs ≠ [] ∧ buf = .sl r v 0 bs.length full ∧ h[r]? = some (.cells v 1 (bs.map encB)) ∧ v % 4294967296 = 5)

def notRow : HObj → Prop
  | .cells v _ _ => v % 4294967296 ≠ 5
  | _ => True

/-- What a builder's writing leaves as it was. -/
def BKeep (n id : Nat) (h h' : Hp) : Prop := ∀ (i : Nat) (x : HObj), h[i]? = some x → i ≠ id → i < n ∨ notRow x → h'[i]? = some x

theorem writeString_spec (n id : Nat) (bs s : List UInt8) (h : Hp) (hb : Bld n h id bs) (hn : n ≤ h.length) (hroom : bs.length + s.length ≤ 140737488355328) :
    dcall Try.prog 58 [.ptr id 98 0, .s (str s)] h fun av h' => av = .tup [.i .i64 s.length, .any] ∧ Bld n h' id (bs ++ s) ∧ BKeep n id h h' := by
  obtain ⟨hid0, p, buf, hid, hp, hbuf⟩ := hb
  have hlt := lt_of_get hid
  refine call_z Try.func58 rfl Try.call58 Try.ntmps58 (by simp) ?_
  simp
  refine dcallV_fn (dcall.pure' (copyCheck_spec id p buf h hid hp) ?_)
  have hid1 : (h.set id (.cells 98 1 [.ptr id 98 0, buf]))[id]? = some (.cells 98 1 [.ptr id 98 0, buf]) := by simp [hlt]
  rcases hbuf with ⟨rfl, rfl⟩ | ⟨r, v, full, hr0, hr1, hbs, rfl, hr, hv⟩
  · simp [hid1]
    by_cases hs : s = []
    · subst hs
      simp [hid1]
      refine retQ_to [.i .i64 (0 : Int), .any] (.inr rfl) (by simp [resL, resE, Try.results58]) ⟨by simp [results1], ⟨hid0, .ptr id 98 0, .nils, by simp [hlt], .inr rfl, .inl ⟨rfl, by simp⟩⟩, fun i x hx hne _ => ?_⟩
      simp [List.getElem?_set, Ne.symm hne, hx]
    · have hsz : s.length ≤ room := by simp at hroom; unfold room; omega
      have hid2 : ∀ l, (h.set id (.cells 98 1 [.ptr id 98 0, .nils]) ++ l)[id]? = some (.cells 98 1 [.ptr id 98 0, .nils]) := fun l => get_ext l hid1
      simp [hs, hsz, hid2]
      refine retQ_to [.i .i64 (s.length : Int), .any] (.inr rfl) (by simp [resL, resE, Try.results58]) ⟨by simp [results1], ⟨hid0, .ptr id 98 0, .sl h.length 5 0 s.length false, ?_, .inr rfl, .inr ⟨h.length, 5, false, hn, by omega, by simpa using hs, ?_, ?_, by decide⟩⟩, fun i x hx hne _ => ?_⟩
      · simp [List.getElem?_set, List.getElem?_append, hlt]
      · simp
      · have : h.length ≠ id := by omega
        simp [List.getElem?_set, List.getElem?_append, this.symm]
      · have := lt_of_get hx
        rw [List.getElem?_set_ne (Ne.symm hne), List.getElem?_append_left (by simpa using this), List.getElem?_set_ne (Ne.symm hne)]; exact hx
  · have hr2 : (h.set id (.cells 98 1 [.ptr id 98 0, .sl r v 0 bs.length full]))[r]? = some (.cells v 1 (bs.map encB)) := by rw [List.getElem?_set_ne (fun e => hr1 e.symm)]; exact hr
    have hrm : bs.length + s.length ≤ room := by unfold room; omega
    have him : ((bs.length : Int) + s.length) ≤ imax := by unfold imax; omega
    have hrl := lt_of_get hr
    have hid3 : ∀ X, ((h.set id (.cells 98 1 [.ptr id 98 0, .sl r v 0 bs.length full])).set r X)[id]? = some (.cells 98 1 [.ptr id 98 0, .sl r v 0 bs.length full]) := fun X => by rw [List.getElem?_set_ne hr1]; exact hid1
    simp [hid1, hr2, hv, hrm, him, hid3]
    refine retQ_to [.i .i64 (s.length : Int), .any] (.inr rfl) (by simp [resL, resE, Try.results58]) ⟨by simp [results1], ⟨hid0, .ptr id 98 0, .sl r (v + 4294967296) 0 (bs.length + s.length) false, ?_, .inr rfl, .inr ⟨r, v + 4294967296, false, hr0, hr1, by simp [hbs], ?_, ?_, by omega⟩⟩, fun i x hx hne hrow => ?_⟩
    · simp [List.getElem?_set, hlt, hrl]
    · simp
    · simp [List.getElem?_set, hr1, hr1.symm, hrl, List.take_of_length_le]
    · have hir : i ≠ r := by
        rintro rfl
        rw [hr] at hx
        simp only [Option.some.injEq] at hx
        subst hx
        rcases hrow with h1 | h1
        · omega
        · exact h1 hv
      simp [List.getElem?_set, Ne.symm hne, Ne.symm hir, hx]

theorem encB_of (n : Int) (h0 : 0 ≤ n) (h1 : n ≤ 255) : encB (UInt8.ofNat n.toNat) = .i .u8 n := by
  simp only [encB]
  congr 1
  rw [UInt8.toNat_ofNat']; omega

theorem writeByte_spec (n id : Nat) (bs : List UInt8) (c : Int) (hc : 0 ≤ c ∧ c ≤ 255) (h : Hp) (hb : Bld n h id bs) (hn : n ≤ h.length) (hroom : bs.length + 1 ≤ 140737488355328) :
    dcall Try.prog 98 [.ptr id 98 0, .i .u8 c] h fun av h' => av = .any ∧ Bld n h' id (bs ++ [UInt8.ofNat c.toNat]) ∧ BKeep n id h h' := by
  obtain ⟨hid0, p, buf, hid, hp, hbuf⟩ := hb
  have hlt := lt_of_get hid
  have hcc : encB (UInt8.ofNat c.toNat) = .i .u8 c := encB_of c hc.1 hc.2
  refine call_z Try.func98 rfl Try.call98 Try.ntmps98 (by simp) ?_
  simp
  refine dcallV_fn (dcall.pure' (copyCheck_spec id p buf h hid hp) ?_)
  have hid1 : (h.set id (.cells 98 1 [.ptr id 98 0, buf]))[id]? = some (.cells 98 1 [.ptr id 98 0, buf]) := by simp [hlt]
  rcases hbuf with ⟨rfl, rfl⟩ | ⟨r, v, full, hr0, hr1, hbs, rfl, hr, hv⟩
  · have hsz : 1 ≤ room := by unfold room; omega
    have hid2 : ∀ l, (h.set id (.cells 98 1 [.ptr id 98 0, .nils]) ++ l)[id]? = some (.cells 98 1 [.ptr id 98 0, .nils]) := fun l => get_ext l hid1
    simp [hid1, hsz, hid2, buildSliceE, imax, reps]
    refine retQ_to [.any] (.inr rfl) (by simp [resL, resE, Try.results98]) ⟨by simp [results1], ⟨hid0, .ptr id 98 0, .sl h.length 5 0 1 false, ?_, .inr rfl, .inr ⟨h.length, 5, false, hn, by omega, by simp, by simp, ?_, by decide⟩⟩, fun i x hx hne _ => ?_⟩
    · simp [List.getElem?_set, List.getElem?_append, hlt]
    · have : h.length ≠ id := by omega
      simp [List.getElem?_set, List.getElem?_append, this.symm, hcc]
    · have := lt_of_get hx
      rw [List.getElem?_set_ne (Ne.symm hne), List.getElem?_append_left (by simpa using this), List.getElem?_set_ne (Ne.symm hne)]; exact hx
  · have hr2 : (h.set id (.cells 98 1 [.ptr id 98 0, .sl r v 0 bs.length full]))[r]? = some (.cells v 1 (bs.map encB)) := by rw [List.getElem?_set_ne (fun e => hr1 e.symm)]; exact hr
    have hrm : bs.length + 1 ≤ room := by unfold room; omega
    have him : ((bs.length : Int) + 1) ≤ imax := by unfold imax; omega
    have hrl := lt_of_get hr
    have hid3 : ∀ X, ((h.set id (.cells 98 1 [.ptr id 98 0, .sl r v 0 bs.length full])).set r X)[id]? = some (.cells 98 1 [.ptr id 98 0, .sl r v 0 bs.length full]) := fun X => by rw [List.getElem?_set_ne hr1]; exact hid1
    simp [hid1, hr2, hv, hrm, him, hid3, buildSliceE, reps]
    refine retQ_to [.any] (.inr rfl) (by simp [resL, resE, Try.results98]) ⟨by simp [results1], ⟨hid0, .ptr id 98 0, .sl r (v + 4294967296) 0 (bs.length + 1) false, ?_, .inr rfl, .inr ⟨r, v + 4294967296, false, hr0, hr1, by simp [hbs], ?_, ?_, by omega⟩⟩, fun i x hx hne hrow => ?_⟩
    · simp [List.getElem?_set, hlt, hrl]
    · simp
    · simp [List.getElem?_set, hr1, hr1.symm, hrl, List.take_of_length_le, hcc]
    · have hir : i ≠ r := by
        rintro rfl
        rw [hr] at hx
        simp only [Option.some.injEq] at hx
        subst hx
        rcases hrow with h1 | h1
        · omega
        · exact h1 hv
      simp [List.getElem?_set, Ne.symm hne, Ne.symm hir, hx]

theorem string_spec (n id : Nat) (bs : List UInt8) (h : Hp) (hb : Bld n h id bs) (hlen : bs.length ≤ 140737488355328) :
    dcall Try.prog 61 [.ptr id 98 0] h fun av h' => av = .s (str bs) ∧ ∀ (i : Nat) (x : HObj), h[i]? = some x → i < n ∨ notRow x → h'[i]? = some x := by
  obtain ⟨hid0, p, buf, hid, hp, hbuf⟩ := hb
  have hlt := lt_of_get hid
  refine call_z Try.func61 rfl Try.call61 Try.ntmps61 (by simp) ?_
  simp
  refine draw_z [some 0, some 0, some 0, some 0, some 0, some 0, some 0, some 0, some 0, some 0, none] (by kernel_rfl) (by kernel_rfl) ?_
  rcases hbuf with ⟨rfl, rfl⟩ | ⟨r, v, full, hr0, hr1, hbs, rfl, hr, hv⟩
  · simp [hid]
    exact retQ_to [.s (str [])] (.inr rfl) (by simp [resL, resE, Try.results61]) ⟨by simp [results1], fun i x hx _ => hx⟩
  · have hpos : 0 < bs.length := List.length_pos_iff.2 hbs
    have hby : bytesOf (bs.map encB) = some bs := bytesOf_enc bs
    simp [hid, hr, hpos, hv, List.take_of_length_le, hby]
    refine retQ_to [.s (str bs)] (.inr rfl) (by simp [resL, resE, Try.results61]) ⟨by simp [results1], fun i x hx hrow => ?_⟩
    have hir : i ≠ r := by
      rintro rfl
      rw [hr] at hx
      simp only [Option.some.injEq] at hx
      subst hx
      rcases hrow with h1 | h1
      · omega
      · exact h1 hv
    simp [List.getElem?_set, Ne.symm hir, hx]
end Go.M
