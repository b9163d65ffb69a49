/- Records as bytes, and bytes as records: the program answers as the reference does, at any record and bytes. No condition. -/
import Derived.Test.YtjplebfagohphaaRows
import Derived.Test.YtjplebfagohphaaMt
import Derived.Test.YtjplebfagohphaaLb
import Derived.WalkKit
import Derived.ProofKit
import Derived.OpenShut
import Derived.ShutString
namespace Go.Proofs.Ytjplebfagohphaa
open Go.ChangeShapes Go.WideShapes Go.ChangeAt Go.RowKit
set_option linter.unusedVariables false
set_option maxRecDepth 20000

theorem RecordBytes_walk (a0 : Go.M.AV) (s0 : Go.M.shRec.hasV a0) (a1 : Go.M.AV) (s1 : (Go.M.Sh.s).hasV a1) : Go.M.dcall Try.prog 3 [a0, a1] [] fun av _ => av = .b true := by
  obtain ⟨r, hr, hle⟩ := Go.M.rec_of s0
  obtain ⟨l, rfl⟩ := Go.M.arg_str s1
  exact Go.M.dcall_le (.cons hle .same) (Go.M.recordBytes_spec r hr l [])
set_option maxRecDepth 100000 in
theorem RecordBytes_lifted (os : Os) (started : os.Started) (H : Type) (enc : TypeId × Value → H) :
    ReturnsInHanded {} Try.checked os 3 .any (Rows.recordBytesSpec.pre6 enc Try.prog Try.f3 Rows.recordBytesRow.domain false) (Rows.recordBytesSpec.post enc Try.prog Try.f3 false true false false) := by
  refine returnsInHanded_of_change (C := Try.checked) (by kernel_rfl) started (by kernel_rfl) Try.func3
    (ChangeSpec.witness6 (enc := enc) (C := Try.checked) false ⟨#[], #[.agg #[.int .u64 0, .int .u64 0, .bool false, .bool false, .int .i64 0, .slice none 0 0], .string ByteArray.empty], []⟩ 8 (by kernel_rfl) (by kernel_rfl) (by kernel_rfl) (by kernel_rfl)) ?_
  intro W base args ds gs before hval0 hW hcnd _
  have hval : ∀ (j : Nat) t v, Try.f3.params[j]? = some t → args[j]? = some v → Value.okWide Try.prog W .any base t v := hval0
  have hW' := hW
  obtain ⟨p, q, hA0, hV, rfl, hfz, hnd⟩ := hW
  have hA : DataW.TrodAll enc Try.prog W 0 (fun _ => true) true Try.f3.params.toList args.toList ds p := hA0
  rw [Try.params3] at hA hval
  obtain ⟨v0, vs0, d0, ds0, p0, q0, hargs, rfl, rfl, h0, r0⟩ := trodAll_cons hA
  obtain ⟨v1, vs1, d1, ds1, p1, q1, rfl, rfl, rfl, h1, r1⟩ := trodAll_cons r0
  obtain ⟨rfl, rfl, rfl⟩ := trodAll_nil r1
  obtain rfl : args = #[v0, v1] := by cases args; simp_all
  obtain ⟨rfl, rfl⟩ := trodVars_none hV
  have lt0 : ∀ x ∈ p0, x.block < W.heap.size := by obtain ⟨m, hm⟩ := h0; exact DataW.trod_lt m _ _ _ hm
  obtain ⟨a0, o0, s0⟩ := Go.M.Sh.opened (Go.M.shRec) (t := 25) (by kernel_rfl) (hval 0 25 v0 rfl rfl) h0
  have lt1 : ∀ x ∈ p1, x.block < W.heap.size := by obtain ⟨m, hm⟩ := h1; exact DataW.trod_lt m _ _ _ hm
  obtain ⟨a1, o1, s1⟩ := Go.M.Sh.opened (.s) (t := 9) (by kernel_rfl) (hval 1 9 v1 rfl rfl) h1
  clear hA0 hval0
  refine (Go.M.calls_of_dcall Try.call3 (RecordBytes_walk a0 s0 a1 s1) (vs := [v0, v1]) ⟨v0, _, rfl, o0, ⟨v1, _, rfl, o1, rfl⟩⟩ (Q := fun e w' => e = .returned (.bool true) ∧ Go.RowKit.Below W.heap.size W w') ?_).mono fun e W' ⟨he, bel⟩ => ?_
  · rintro v w' g' av h' hb hr rfl
    simp only [Go.M.RelV] at hr
    exact ⟨by rw [hr], hb⟩
  subst he
  exact ⟨_, rfl, _, _, _, [], _, [], hW', trodAll_mk1 (shut_bool Try.underlying4 _), (trodAll_cons_mk (Below.trod (by kernel_rfl) (by kernel_rfl) (of_decide_eq_true (by kernel_rfl)) h0 bel lt0) (trodAll_cons_mk (Below.trod (by kernel_rfl) (by kernel_rfl) (of_decide_eq_true (by kernel_rfl)) h1 bel lt1) trodAll_mk0)), rfl, bel.frame _, fun h => by cases h⟩

theorem RecordBytes_holds : Rows.RecordBytesSaid :=
  OpenClaim.holds_of_wide 3 Try.f3 rfl rfl rfl rfl rfl rfl rfl ⟨rfl, rfl, rfl, rfl, rfl⟩ rfl rfl rfl rfl rfl (by kernel_rfl) Try.func3 (by kernel_rfl)
    (of_decide_eq_true (by kernel_rfl)) (by unfold Func.isWrapper; rw [if_neg (of_decide_eq_false (by kernel_rfl))]; exact ⟨rfl, rfl⟩)
    (fun os started H enc _ => RecordBytes_lifted os started H enc)
end Go.Proofs.Ytjplebfagohphaa
