/- Room behind a record goes down by one with each block, and begins anew with each segment: at any place the law returns true. No condition. -/
import Derived.Test.YtjplebfagohphaaRows
import Derived.Test.YtjplebfagohphaaMt
import Derived.Test.YtjplebfagohphaaLb
import Derived.WalkKit
import Derived.ProofKit
import Derived.OpenShut
import Derived.ShutString
namespace Go.Proofs.Ytjplebfagohphaa
open Go.ChangeShapes Go.WideShapes Go.ChangeAt Go.RowKit
set_option linter.unusedVariables false
set_option maxRecDepth 20000

theorem RecordRooms_walk (a0 : Go.M.AV) (s0 : (Go.M.Sh.i .i64).hasV a0) : Go.M.dcall Try.prog 6 [a0] [] fun av _ => av = .b true := by
  obtain ⟨n, rfl, h1, h2⟩ := Go.M.arg_i64 s0
  exact Go.M.recordRooms_spec n ⟨h1, h2⟩ []
set_option maxRecDepth 100000 in
theorem RecordRooms_lifted (os : Os) (started : os.Started) (H : Type) (enc : TypeId × Value → H) :
    ReturnsInHanded {} Try.checked os 6 .any (Rows.recordRoomsSpec.pre6 enc Try.prog Try.f6 Rows.recordRoomsRow.domain false) (Rows.recordRoomsSpec.post enc Try.prog Try.f6 false true false false) := by
  refine returnsInHanded_of_change (C := Try.checked) (by kernel_rfl) started (by kernel_rfl) Try.func6
    (ChangeSpec.witness6 (enc := enc) (C := Try.checked) false ⟨#[], #[.int .i64 0], []⟩ 8 (by kernel_rfl) (by kernel_rfl) (by kernel_rfl) (by kernel_rfl)) ?_
  intro W base args ds gs before hval0 hW hcnd _
  have hval : ∀ (j : Nat) t v, Try.f6.params[j]? = some t → args[j]? = some v → Value.okWide Try.prog W .any base t v := hval0
  have hW' := hW
  obtain ⟨p, q, hA0, hV, rfl, hfz, hnd⟩ := hW
  have hA : DataW.TrodAll enc Try.prog W 0 (fun _ => true) true Try.f6.params.toList args.toList ds p := hA0
  rw [Try.params6] at hA hval
  obtain ⟨v0, vs0, d0, ds0, p0, q0, hargs, rfl, rfl, h0, r0⟩ := trodAll_cons hA
  obtain ⟨rfl, rfl, rfl⟩ := trodAll_nil r0
  obtain rfl : args = #[v0] := by cases args; simp_all
  obtain ⟨rfl, rfl⟩ := trodVars_none hV
  have lt0 : ∀ x ∈ p0, x.block < W.heap.size := by obtain ⟨m, hm⟩ := h0; exact DataW.trod_lt m _ _ _ hm
  obtain ⟨a0, o0, s0⟩ := Go.M.Sh.opened (.i .i64) (t := 3) (by kernel_rfl) (hval 0 3 v0 rfl rfl) h0
  clear hA0 hval0
  refine (Go.M.calls_of_dcall Try.call6 (RecordRooms_walk a0 s0) (vs := [v0]) ⟨v0, _, rfl, o0, rfl⟩ (Q := fun e w' => e = .returned (.bool true) ∧ Go.RowKit.Below W.heap.size W w') ?_).mono fun e W' ⟨he, bel⟩ => ?_
  · rintro v w' g' av h' hb hr rfl
    simp only [Go.M.RelV] at hr
    exact ⟨by rw [hr], hb⟩
  subst he
  exact ⟨_, rfl, _, _, _, [], _, [], hW', trodAll_mk1 (shut_bool Try.underlying4 _), (trodAll_cons_mk (Below.trod (by kernel_rfl) (by kernel_rfl) (of_decide_eq_true (by kernel_rfl)) h0 bel lt0) trodAll_mk0), rfl, bel.frame _, fun h => by cases h⟩

theorem RecordRooms_holds : Rows.RecordRoomsSaid :=
  OpenClaim.holds_of_wide 6 Try.f6 rfl rfl rfl rfl rfl rfl rfl ⟨rfl, rfl, rfl, rfl, rfl⟩ rfl rfl rfl rfl rfl (by kernel_rfl) Try.func6 (by kernel_rfl)
    (of_decide_eq_true (by kernel_rfl)) (by unfold Func.isWrapper; rw [if_neg (of_decide_eq_false (by kernel_rfl))]; exact ⟨rfl, rfl⟩)
    (fun os started H enc _ => RecordRooms_lifted os started H enc)
end Go.Proofs.Ytjplebfagohphaa
