/- A part and the one up take each other back, and parts behind each other are one path: at any name, text and parts the law returns true. No condition. -/
import Derived.Test.YtjnpfhihefchoaaDoorYa
import Derived.Test.YtjnpfhihefchoaaDoorXk
import Derived.SizedLaws
import Derived.ChangeMaps5
namespace Go.Proofs.YtjnpfhihefchoaaDoor
open Go.ChangeShapes Go.WideShapes Go.ChangeAt Go.RowKit
set_option linter.unusedVariables false
set_option maxRecDepth 20000

theorem PathUps_walk (a0 : Go.M.AV) (s0 : (Go.M.Sh.s).hasV a0) (a1 : Go.M.AV) (s1 : (Go.M.Sh.s).hasV a1) (a2 : Go.M.AV) (s2 : (Go.M.Sh.sl .s).hasV a2) (a3 : Go.M.AV) (s3 : (Go.M.Sh.sl .s).hasV a3) (z : ∀ x, a0 = .s x → x.size ≤ 140737488355328) :
    Go.M.dcall Tryd.prog 5 [a0, a1, a2, a3] [] fun av _ => av = .b true := by
  obtain ⟨n, rfl, _⟩ := Go.M.arg_str s0
  obtain ⟨s, rfl, _⟩ := Go.M.arg_str s1
  obtain ⟨a, hle, hl⟩ := Go.M.arg_strs s2
  obtain ⟨b, hle2, hl2⟩ := Go.M.arg_strs s3
  have hz := z _ rfl
  rw [Go.M.str_size] at hz
  exact Go.M.dcall_le (.cons (.refl _) (.cons (.refl _) (.cons hle (.cons hle2 .nil)))) (Go.M.pathUps_spec n s a b hz hl hl2 [])
theorem PathUps_contract (H : Type) (enc : TypeId × Value → H) (W : World) (base : Nat) (args : Array Value) (ds gs : List (DataW H)) (before : List MemPlace)
    (hval0 : ∀ (j : Nat) t v, Tryd.f5.params[j]? = some t → args[j]? = some v → Value.okWide Tryd.prog W .any base t v)
    (hW : DataW.Whole enc Tryd.prog Tryd.f5.params.toList Rows.pathUpsSpec.vars false W args.toList ds gs before)
    (hsz0 : (DataW.weightsEach Tryd.prog (Tryd.f5.params.toList ++ (OpenSpec.ofChange Rows.pathUpsSpec).bare.plain.varTypes Tryd.prog) (ds ++ gs)).all (· ≤ reachBytes) = true) :
    Calls Tryd.prog 5 args W fun e W' => ∃ v, e = .returned v ∧ Rows.pathUpsSpec.post enc Tryd.prog Tryd.f5 false true false false W args v W' := by
  have hval : ∀ (j : Nat) t v, Tryd.f5.params[j]? = some t → args[j]? = some v → Value.okWide Tryd.prog W .any base t v := hval0
  have hW' := hW
  obtain ⟨p, q, hA0, hV, rfl, hfz, hnd⟩ := hW
  have hA : DataW.TrodAll enc Tryd.prog W 0 (fun _ => true) true Tryd.f5.params.toList args.toList ds p := hA0
  rw [Tryd.params5] at hA hval
  rw [Tryd.params5] at hsz0
  obtain ⟨v0, vs0, d0, ds0, p0, q0, hargs, rfl, rfl, h0, r0⟩ := trodAll_cons hA
  obtain ⟨v1, vs1, d1, ds1, p1, q1, rfl, rfl, rfl, h1, r1⟩ := trodAll_cons r0
  obtain ⟨v2, vs2, d2, ds2, p2, q2, rfl, rfl, rfl, h2, r2⟩ := trodAll_cons r1
  obtain ⟨v3, vs3, d3, ds3, p3, q3, rfl, rfl, rfl, h3, r3⟩ := trodAll_cons r2
  obtain ⟨rfl, rfl, rfl⟩ := trodAll_nil r3
  obtain rfl : args = #[v0, v1, v2, v3] := by cases args; simp_all
  obtain ⟨rfl, rfl⟩ := trodVars_none hV
  have lt0 : ∀ x ∈ p0, x.block < W.heap.size := by obtain ⟨m, hm⟩ := h0; exact DataW.trod_lt m _ _ _ hm
  obtain ⟨a0, o0, s0⟩ := Go.M.Sh.opened (.s) (t := 9) (by kernel_rfl) (hval 0 9 v0 rfl rfl) h0
  have lt1 : ∀ x ∈ p1, x.block < W.heap.size := by obtain ⟨m, hm⟩ := h1; exact DataW.trod_lt m _ _ _ hm
  obtain ⟨a1, o1, s1⟩ := Go.M.Sh.opened (.s) (t := 9) (by kernel_rfl) (hval 1 9 v1 rfl rfl) h1
  have lt2 : ∀ x ∈ p2, x.block < W.heap.size := by obtain ⟨m, hm⟩ := h2; exact DataW.trod_lt m _ _ _ hm
  obtain ⟨a2, o2, s2⟩ := Go.M.Sh.opened (.sl .s) (t := 22) (by kernel_rfl) (hval 2 22 v2 rfl rfl) h2
  have lt3 : ∀ x ∈ p3, x.block < W.heap.size := by obtain ⟨m, hm⟩ := h3; exact DataW.trod_lt m _ _ _ hm
  obtain ⟨a3, o3, s3⟩ := Go.M.Sh.opened (.sl .s) (t := 22) (by kernel_rfl) (hval 3 22 v3 rfl rfl) h3
  obtain ⟨z0, hz0, hd0, _, _⟩ := Go.ChangeMaps.open_string (show Tryd.prog.underlying 9 = some .string from Tryd.underlying9) (hval 0 9 v0 rfl rfl) h0
  have z : ∀ x, a0 = .s x → x.size ≤ 140737488355328 := by
    intro x hx
    subst hx
    simp only [Go.M.RelV] at o0
    have hxz : x = z0 := by have := o0.1.symm.trans hz0; simpa using this
    have hb := sized_string hsz0 (j := 0) (t := 9) (bytes := z0.data.toList) rfl (by rw [hd0]; rfl)
    rw [Go.M.toL_size] at hb
    rw [hxz]
    exact Nat.le_trans hb (by decide)
  clear hA0 hval0
  refine (Go.M.calls_of_dcall Tryd.call5 (PathUps_walk a0 s0 a1 s1 a2 s2 a3 s3 z) (vs := [v0, v1, v2, v3]) ⟨v0, _, rfl, o0, ⟨v1, _, rfl, o1, ⟨v2, _, rfl, o2, ⟨v3, _, rfl, o3, rfl⟩⟩⟩⟩ (Q := fun e w' => e = .returned (.bool true) ∧ Go.RowKit.Below W.heap.size W w') ?_).mono fun e W' ⟨he, bel⟩ => ?_
  · rintro v w' g' av h' hb hr rfl
    simp only [Go.M.RelV] at hr
    exact ⟨by rw [hr], hb⟩
  subst he
  exact ⟨_, rfl, _, _, _, [], _, [], hW', trodAll_mk1 (shut_bool Tryd.underlying4 _), (trodAll_cons_mk (Below.trod (by kernel_rfl) (by kernel_rfl) (of_decide_eq_true (by kernel_rfl)) h0 bel lt0) (trodAll_cons_mk (Below.trod (by kernel_rfl) (by kernel_rfl) (of_decide_eq_true (by kernel_rfl)) h1 bel lt1) (trodAll_cons_mk (Below.trod (by kernel_rfl) (by kernel_rfl) (of_decide_eq_true (by kernel_rfl)) h2 bel lt2) (trodAll_cons_mk (Below.trod (by kernel_rfl) (by kernel_rfl) (of_decide_eq_true (by kernel_rfl)) h3 bel lt3) trodAll_mk0)))), rfl, bel.frame _, fun h => by cases h⟩

theorem PathUps_laid (os : Os) : laidMet Tryd.prog Rows.pathUpsRow.laid ((laidWorld os).forCall (fun _ _ => 0) ⟨#[], #[.string ⟨#[]⟩, .string ⟨#[]⟩, .slice none 0 0, .slice none 0 0], []⟩).memory :=
  laidMet_of_run' 8 (by kernel_rfl) (by kernel_rfl)
theorem PathUps_reads (os : Os) {H : Type} (enc : TypeId × Value → H) : (DataW.whole enc Tryd.prog ((laidWorld os).forCall (fun _ _ => 0) ⟨#[], #[.string ⟨#[]⟩, .string ⟨#[]⟩, .slice none 0 0, .slice none 0 0], []⟩).memory Tryd.f5.params.toList Rows.pathUpsSpec.vars false #[.string ⟨#[]⟩, .string ⟨#[]⟩, .slice none 0 0, .slice none 0 0].toList 8).isSome = true := by kernel_rfl
set_option maxRecDepth 100000 in
theorem PathUps_lifted (os : Os) (started : os.Started) (H : Type) (enc : TypeId × Value → H) (F : Stop.Interp) :
    ReturnsInHanded {} Tryd.checked os 5 .any ((OpenSpec.ofChange Rows.pathUpsSpec).preRow enc Tryd.prog Tryd.f5 Rows.pathUpsRow.domain false Rows.pathUpsRow.laid) (((OpenSpec.ofChange Rows.pathUpsSpec).at F).post enc Tryd.prog Tryd.f5 false true false false) := by
  obtain ⟨x, hx⟩ := Option.isSome_iff_exists.1 (PathUps_reads os enc)
  refine returnsInHanded_of_row (C := Tryd.checked) (s := OpenSpec.ofChange Rows.pathUpsSpec) own started (by kernel_rfl) Tryd.func5
    (witness_row_at (enc := enc) (C := Tryd.checked) false (laidWorld os) #[.string ⟨#[]⟩, .string ⟨#[]⟩, .slice none 0 0, .slice none 0 0] rfl (by kernel_rfl) (by kernel_rfl) (by kernel_rfl)
      (OpenSpec.preRow_of_cond 8 hx rfl (fun k hk => by cases hk) (by kernel_rfl) (PathUps_laid os))) ?_
  intro W base args ds gs before hval hW _ _ hsz _ _ _
  exact PathUps_contract H enc W base args ds gs before hval hW hsz

theorem PathUps_said : Rows.PathUpsSaid :=
  OpenClaim.holds_of_cond 5 Tryd.f5 rfl rfl rfl rfl rfl rfl rfl ⟨rfl, rfl, rfl, rfl, rfl⟩ rfl rfl rfl rfl rfl (by kernel_rfl) Tryd.func5 (by kernel_rfl)
    (of_decide_eq_true (by kernel_rfl)) (by unfold Func.isWrapper; rw [if_neg (of_decide_eq_false (by kernel_rfl))]; exact ⟨rfl, rfl⟩)
    (fun os started H enc _ F => by rw [OpenClaim.pre_eq_preRow]; exact PathUps_lifted os started H enc F)

theorem PathUps_plain (f : FuncId) (fn : Func) (hf : Tryd.pinned.checked.prog.funcNamed "nautilus/nautiluslaw12.PathUps" = some f) (hfn : Tryd.pinned.checked.prog.funcs[f]? = some fn) :
    false = Tryd.pinned.checked.prog.looks [] ∧ ∀ (j : Nat) t, fn.params[j]? = some t → Tryd.pinned.checked.prog.wantsStandIn t = false := by
  obtain rfl : f = 5 := Option.some.inj ((show Tryd.prog.funcNamed "nautilus/nautiluslaw12.PathUps" = some 5 by kernel_rfl).symm.trans hf) |>.symm
  obtain rfl : fn = Tryd.f5 := (Option.some.inj (Tryd.func5.symm.trans hfn)).symm
  refine ⟨by kernel_rfl, fun j t ht => ?_⟩
  rw [Tryd.params5] at ht
  have hm := Array.mem_of_getElem? ht
  have hall : ∀ t ∈ (#[9, 9, 22, 22] : Array TypeId), Tryd.pinned.checked.prog.wantsStandIn t = false := by
    have w22 : Tryd.pinned.checked.prog.wantsStandIn 22 = false := by kernel_rfl
    have w9 : Tryd.pinned.checked.prog.wantsStandIn 9 = false := by kernel_rfl
    intro t hm
    simp only [List.mem_toArray, List.mem_cons, List.not_mem_nil, or_false] at hm
    rcases hm with rfl | rfl | rfl | rfl <;> assumption
  exact hall t hm

theorem PathUps_holds : Rows.PathUpsCardSaid :=
  Claim7.holds_tied_plain_at .later [] _ _ _ _ PathUps_said (fun _ h => by cases h) (by kernel_rfl) (fun _ h => by cases h) pathUps_row_tie rfl ⟨rfl, rfl⟩ (by kernel_rfl) rfl PathUps_plain (by kernel_rfl)
end Go.Proofs.YtjnpfhihefchoaaDoor
