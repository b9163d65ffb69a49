/- What operations do to abstract states: indexes, slicing, making, appending, copying. -/
import Derived.Test.YtjnpfhihefchoaaDoorMe
namespace Go.M
open Go Go.RowKit
set_option linter.unusedVariables false
set_option linter.unusedSimpArgs false

def indexAddrE (P : Program) (h : Hp) (T : TypeId) (x ix : AV) : Option AV :=
  match P.underlying T, ix with
  | some (.slice E), .i _ j => match ti P E, x with
    | some t, .lst n _ cs => if 0 ≤ j ∧ j < n then some (.pim (cs.drop (j.toNat * t.size))) else none
    | some t, .sl id ver off n _ => if 0 ≤ j ∧ j < n then some (.ptr id ver (off + j.toNat * t.size)) else none
    | _, _ => none
  | _, _ => none

theorem indexAddrE_run {P : Program} {g : Gh} {h : Hp} {w : World} (hw : WRel g h w) {T : TypeId} {x ix av : AV} {vx vi : Value} (hx : RelV g w x vx) (hi : RelV g w ix vi) (he : indexAddrE P h T x ix = some av) :
    Yv P (Instr.indexAt T vx vi) g w av := by
  unfold indexAddrE at he
  split at he
  · rename_i E k j hu
    rw [rel_i hi]
    have key : ∀ (t : TI) (b o n c : Nat), ti P E = some t → 0 ≤ j ∧ j < n → (Instr.indexAt T (.slice (some ⟨b, o, none⟩) n c) (.int k j)).run P w = .ok (.pointer (some ⟨b, o + j.toNat * t.size, none⟩)) w := fun t b o n c ht hj => by
      obtain ⟨i, d, z, kk⟩ := ti_ok ht
      simp [Instr.indexAt, asIntOf, run_underlying hu, hj, kk.sizeOf, add0]
    split at he
    · rename_i t n full cs ht
      split at he
      · rename_i hj
        simp only [Option.some.injEq] at he; subst he
        simp only [RelV] at hx
        obtain ⟨a, c, rfl, h1, h2, h3, h4⟩ := hx
        rcases h4 with ⟨h4, _⟩ | ⟨b, o, vs, rfl, hr, him⟩
        · omega
        · exact ⟨_, key t b o n c ht hj, ⟨b, _, _, rfl, hr.drop _, him.drop _⟩⟩
      · simp at he
    · rename_i t id ver off n full ht
      split at he
      · rename_i hj
        simp only [Option.some.injEq] at he; subst he
        simp only [RelV] at hx
        obtain ⟨L, c, hl, rfl, h1, h2, h3, h4⟩ := hx
        exact ⟨_, key t _ _ n c ht hj, ⟨L, hl, by rw [Nat.add_assoc]⟩⟩
      · simp at he
    · simp at he
  · simp at he

def bt (s : ByteArray) (j : Int) : Int := (s.data.toList.getD j.toNat 0).toNat

theorem bt_fits (s : ByteArray) (j : Int) : IntKind.u8.min ≤ bt s j ∧ bt s j ≤ IntKind.u8.max := by
  have := (s.data.toList.getD j.toNat 0).toNat_lt
  have h1 : IntKind.u8.min = 0 := by decide
  have h2 : IntKind.u8.max = 255 := by decide
  unfold bt
  rw [h1, h2]; omega

def indexE (P : Program) (T : TypeId) (x ix : AV) : Option AV :=
  match P.underlying T, x, ix with
  | some .string, .s str, .i _ j => if 0 ≤ j ∧ j < str.size then some (.i .u8 (bt str j)) else none
  | _, _, _ => none

theorem indexE_run {P : Program} {g : Gh} {w : World} {T : TypeId} {x ix av : AV} {vx vi : Value} (hx : RelV g w x vx) (hi : RelV g w ix vi) (he : indexE P T x ix = some av) : Yv P (Instr.index T vx vi) g w av := by
  unfold indexE at he
  split at he
  · rename_i str k j hu
    rw [rel_i hi, rel_s hx]
    split at he
    · rename_i hj
      simp only [Option.some.injEq] at he; subst he
      have hlt : j.toNat < str.size := by omega
      refine ⟨.int .u8 (bt str j), ?_, ⟨rfl, bt_fits _ _⟩⟩
      have hg : str[j.toNat]? = some (str[j.toNat]'hlt) := by simp [hlt]
      have hb : (str[j.toNat]'hlt).toNat = (str.data.toList.getD j.toNat 0).toNat := by
        have hl : j.toNat < str.data.toList.length := by simpa using hlt
        simp only [List.getD, List.getElem?_eq_getElem hl, Option.getD_some]
        rfl
      simp only [Instr.index, asIntOf, Sem.run_bind, Sem.run_pure, Result.andThen_ok, run_underlying hu, hj.1, if_true, hg, bt, hb]
    · simp at he
  · simp at he

/-! ### Slicing -/
def bnd : Option AV → Nat → Option Nat
  | none, d => some d
  | some (.i _ n), _ => if 0 ≤ n then some n.toNat else none
  | _, _ => none

theorem bound_run {P : Program} {w : World} {k : IntKind} {n : Int} {y : Nat} (code : BoundsCode) (h0 : 0 ≤ n) (h1 : n.toNat ≤ y) : (Instr.sliceBound (.int k n) y code).run P w = .ok n.toNat w := by
  simp only [Instr.sliceBound, asIntOf, Sem.run_bind, Sem.run_pure, Result.andThen_ok]
  rw [if_pos ⟨h0, by omega⟩]; rfl

/-- What an operand that may lack is in the model. -/
def RelO (g : Gh) (w : World) : Option AV → Option Value → Prop
  | none, none => True
  | some a, some v => RelV g w a v
  | _, _ => False

theorem bounds_run {P : Program} {g : Gh} {w : World} {lo hi mx : Option AV} {vlo vhi vmx : Option Value} (hlo : RelO g w lo vlo) (hhi : RelO g w hi vhi) (hmx : RelO g w mx vmx)
    {isSlice : Bool} {len cap l hh : Nat} {m : Option Nat} (h1 : bnd lo 0 = some l) (h2 : bnd hi len = some hh) (h3 : (mx = none ∧ m = none) ∨ (∃ m', m = some m' ∧ bnd mx 0 = some m' ∧ mx ≠ none ∧ hi ≠ none ∧ m' ≤ cap ∧ hh ≤ m'))
    (h4 : l ≤ hh) (h5 : hh ≤ cap) : (Instr.sliceBounds isSlice len cap vlo vhi vmx).run P w = .ok (l, hh, m.getD cap) w := by
  have hL : ∀ code, (match vlo with | some v => Instr.sliceBound v hh code | none => pure 0 : Sem Nat).run P w = .ok l w := fun code => by
    cases lo with
    | none =>
      cases vlo with
      | none => simp [bnd] at h1; subst h1; rfl
      | some v => exact hlo.elim
    | some a =>
      cases vlo with
      | none => exact hlo.elim
      | some v =>
        cases a <;> simp only [bnd] at h1 <;> (try (simp at h1; done))
        split at h1
        · rename_i hn
          simp only [Option.some.injEq] at h1; subst h1
          rw [rel_i (g := g) (w := w) hlo]; exact bound_run _ hn h4
        · simp at h1
  have hH : ∀ code y, hh ≤ y → (hi ≠ none ∨ hh = len) → (match vhi with | some v => Instr.sliceBound v y code | none => pure len : Sem Nat).run P w = .ok hh w := fun code y hy hor => by
    cases hi with
    | none =>
      cases vhi with
      | none => simp [bnd] at h2; subst h2; rfl
      | some v => exact hhi.elim
    | some a =>
      cases vhi with
      | none => exact hhi.elim
      | some v =>
        cases a <;> simp only [bnd] at h2 <;> (try (simp at h2; done))
        split at h2
        · rename_i hn
          simp only [Option.some.injEq] at h2; subst h2
          rw [rel_i (g := g) (w := w) hhi]; exact bound_run _ hn hy
        · simp at h2
  rcases h3 with ⟨rfl, rfl⟩ | ⟨m', rfl, h6, h7, h8, h9, h10⟩
  · cases vmx with
    | some v => exact hmx.elim
    | none =>
      have h2' : hi ≠ none ∨ hh = len := by cases hi with
        | none => simp [bnd] at h2; exact .inr h2.symm
        | some a => exact .inl (by simp)
      have hH' := hH (if isSlice = true then .sliceAcap else .sliceAlen) cap h5 h2'
      have hL' := hL .sliceB
      cases vhi <;> cases vlo <;> simp_all [Instr.sliceBounds]
  · cases mx with
    | none => exact absurd rfl h7
    | some a =>
      cases vmx with
      | none => exact hmx.elim
      | some v =>
        cases a <;> simp only [bnd] at h6 <;> (try (simp at h6; done))
        split at h6
        · rename_i k n hn
          simp only [Option.some.injEq] at h6; subst h6
          rw [rel_i (g := g) (w := w) hmx]
          cases hi with
          | none => exact absurd rfl h8
          | some b =>
            cases vhi with
            | none => exact hhi.elim
            | some vh =>
              have hM := fun code => bound_run (P := P) (w := w) (k := k) code hn h9
              have hH' := hH .slice3B n.toNat h10 (.inl h8)
              have hL' := hL .slice3C
              cases vlo <;> simp_all [Instr.sliceBounds]
        · simp at h6

/-- The parts of a slice expression: from, to, and up to which place (if it is said). -/
def sliceParts (n : Nat) (lo hi mx : Option AV) : Option (Nat × Nat × Option Nat) :=
  match bnd lo 0, bnd hi n with
  | some l, some hh =>
    if l ≤ hh ∧ hh ≤ n then
      match mx with
      | none => some (l, hh, none)
      | some _ => match bnd mx 0, hi with
        | some m, some _ => if hh ≤ m ∧ m ≤ n then some (l, hh, some m) else none
        | _, _ => none
    else none
  | _, _ => none

def sliceFull (full : Bool) (n hh : Nat) : Option Nat → Bool
  | none => full && decide (hh = n)
  | some m => decide (m = hh)

def sliceE (P : Program) (h : Hp) (T : TypeId) (x : AV) (lo hi mx : Option AV) : Option AV :=
  match P.underlying T, x with
  | some .string, .s str => match sliceParts str.size lo hi mx with
    | some (l, hh, none) => some (.s (str.extract l hh))
    | _ => none
  | some (.slice E), .nils => match ti P E, sliceParts 0 lo hi mx with
    | some _, some _ => some .nils
    | _, _ => none
  | some (.slice E), .lst n full cs => match ti P E, sliceParts n lo hi mx with
    | some t, some (l, hh, m) => some (.lst (hh - l) (sliceFull full n hh m) ((cs.drop (l * t.size)).take ((hh - l) * t.size)))
    | _, _ => none
  | some (.slice E), .sl id ver off n full => match ti P E, sliceParts n lo hi mx, h[id]? with
    | some t, some (l, hh, m), some (.cells v e _) =>
      if v = ver ∧ e = t.size then (if l = 0 ∨ l < hh then some (.sl id ver (off + l * t.size) (hh - l) (sliceFull full n hh m)) else some (.lst 0 false [])) else none
    | _, _, _ => none
  | _, _ => none

theorem parts_run {P : Program} {g : Gh} {w : World} {lo hi mx : Option AV} {vlo vhi vmx : Option Value} (hlo : RelO g w lo vlo) (hhi : RelO g w hi vhi) (hmx : RelO g w mx vmx)
    {isSlice : Bool} {n cap l hh : Nat} {m : Option Nat} (h : sliceParts n lo hi mx = some (l, hh, m)) (hc : n ≤ cap) :
    (Instr.sliceBounds isSlice n cap vlo vhi vmx).run P w = .ok (l, hh, m.getD cap) w ∧ l ≤ hh ∧ hh ≤ n ∧ (∀ m', m = some m' → hh ≤ m' ∧ m' ≤ n) := by
  unfold sliceParts at h
  split at h
  · rename_i l' hh' h1 h2
    split at h
    · rename_i hle
      split at h
      · simp only [Option.some.injEq, Prod.mk.injEq] at h
        obtain ⟨rfl, rfl, rfl⟩ := h
        exact ⟨bounds_run hlo hhi hmx h1 h2 (.inl ⟨rfl, rfl⟩) hle.1 (by omega), hle.1, hle.2, fun _ he => by simp at he⟩
      · split at h
        · rename_i m0 _ hm
          split at h
          · rename_i hmm
            simp only [Option.some.injEq, Prod.mk.injEq] at h
            obtain ⟨rfl, rfl, rfl⟩ := h
            exact ⟨bounds_run hlo hhi hmx h1 h2 (.inr ⟨m0, rfl, hm, by simp, by simp, by omega, hmm.1⟩) hle.1 (by omega), hle.1, hle.2, fun _ he => by simp at he; omega⟩
          · simp at h
        · simp at h
    · simp at h
  · simp at h

theorem sliceE_run {P : Program} {g : Gh} {h : Hp} {w : World} (hw : WRel g h w) {T : TypeId} {x av : AV} {vx : Value} {lo hi mx : Option AV} {vlo vhi vmx : Option Value} (hx : RelV g w x vx)
    (hlo : RelO g w lo vlo) (hhi : RelO g w hi vhi) (hmx : RelO g w mx vmx) (he : sliceE P h T x lo hi mx = some av) : Yv P (Instr.sliceAt T vx vlo vhi vmx) g w av := by
  unfold sliceE at he
  have hcapn : ∀ (m : Option Nat) (c l hh n : Nat), (∀ m', m = some m' → hh ≤ m' ∧ m' ≤ n) → l ≤ hh → hh ≤ n → n ≤ c → hh - l ≤ m.getD c - l := fun m c l hh n h1 h2 h3 h4 => by
    cases m with
    | none => simp; omega
    | some m' => have := h1 m' rfl; simp; omega
  split at he
  · rename_i str hu
    have hs := hx.2
    rw [rel_s hx]
    split at he
    · rename_i l hh hp
      simp only [Option.some.injEq] at he; subst he
      obtain ⟨hb, h1, h2, _⟩ := parts_run (P := P) (isSlice := false) (cap := str.size) hlo hhi hmx hp (Nat.le_refl _)
      have hmn : vmx = none := by
        cases mx with
        | none => cases vmx with
          | none => rfl
          | some v => exact hmx.elim
        | some a =>
          simp only [sliceParts] at hp
          repeat' split at hp
          all_goals simp at hp
      subst hmn
      refine ⟨.string (str.extract l hh), ?_, ⟨rfl, ?_⟩⟩
      · simp [Instr.sliceAt, Instr.slice, run_underlying hu, hb]
      · have : (str.extract l hh).size ≤ str.size := by rw [ByteArray.size_extract]; omega
        omega
    · simp at he
  · rename_i E hu
    split at he
    · rename_i t p ht hp
      obtain ⟨l, hh, m⟩ := p
      simp only [Option.some.injEq] at he; subst he
      simp only [RelV] at hx; subst hx
      obtain ⟨i, d, z, k⟩ := ti_ok ht
      obtain ⟨hb, h1, h2, h3⟩ := parts_run (P := P) (isSlice := true) (cap := 0) hlo hhi hmx hp (Nat.le_refl _)
      have hl : l = 0 := by omega
      have hhh : hh = 0 := by omega
      have hm : m.getD 0 = 0 := by cases m with
        | none => rfl
        | some m' => have := h3 m' rfl; simp; omega
      subst hl; subst hhh
      rw [hm] at hb
      exact ⟨.slice none 0 0, by simp [Instr.sliceAt, Instr.slice, run_underlying hu, hb, k.sizeOf], rfl⟩
    · simp at he
  · rename_i E n full cs hu
    split at he
    · rename_i t l hh m ht hp
      simp only [Option.some.injEq] at he; subst he
      simp only [RelV] at hx
      obtain ⟨a, c, rfl, h1, h2, h3, h4⟩ := hx
      obtain ⟨i, d, z, k⟩ := ti_ok ht
      obtain ⟨hb, h5, h6, h7⟩ := parts_run (P := P) (isSlice := true) (cap := c) hlo hhi hmx hp h2
      have hcm := hcapn m c l hh n h7 h5 h6 h2
      refine ⟨.slice (if m.getD c = l then a else a.map (·.add (l * t.size))) (hh - l) (m.getD c - l), ?_, ?_⟩
      · simp [Instr.sliceAt, Instr.slice, run_underlying hu, hb, k.sizeOf]
      · refine ⟨_, _, rfl, ?_, hcm, by omega, ?_⟩
        · intro hf
          cases m with
          | none =>
            simp only [sliceFull, Bool.and_eq_true, decide_eq_true_eq] at hf
            have := h1 hf.1
            simp; omega
          | some m' => simp only [sliceFull, decide_eq_true_eq] at hf; simp [hf]
        · by_cases hz : hh - l = 0
          · left; exact ⟨hz, by simp [hz]⟩
          · right
            rcases h4 with ⟨h8, _⟩ | ⟨b, o, vs, rfl, hr, him⟩
            · omega
            · rw [if_neg (by omega)]
              exact ⟨b, o + l * t.size, _, by simp [add0], (hr.drop _).take _, (him.drop _).take _⟩
    · simp at he
  · rename_i E id ver off n full hu
    split at he
    · rename_i t l hh m v e cs ht hp hid
      split at he
      · rename_i hve
        obtain ⟨rfl, rfl⟩ := hve
        simp only [RelV] at hx
        obtain ⟨L, c, hl, rfl, h1, h2, h3, h4⟩ := hx
        obtain ⟨L', vs, hL⟩ := hw.cells hid
        have hLL : L' = L := by have := hL.loc; rw [hl] at this; simpa using this.symm
        subst hLL
        have hesz := hL.esz
        obtain ⟨i, d, z, k⟩ := ti_ok ht
        obtain ⟨hb, h5, h6, h7⟩ := parts_run (P := P) (isSlice := true) (cap := c) hlo hhi hmx hp h2
        have hcm := hcapn m c l hh n h7 h5 h6 h2
        have hmc : m.getD c ≤ c := by cases m with
          | none => simp
          | some m' => have := h7 m' rfl; simp; omega
        have hrun : (Instr.sliceAt T (.slice (some ⟨L'.block, L'.off + off, none⟩) n c) vlo vhi vmx).run P w = .ok (.slice (if m.getD c = l then some ⟨L'.block, L'.off + off, none⟩ else some ⟨L'.block, L'.off + off + l * t.size, none⟩) (hh - l) (m.getD c - l)) w := by
          simp [Instr.sliceAt, Instr.slice, run_underlying hu, hb, k.sizeOf, add0]
        split at he
        · rename_i hor
          simp only [Option.some.injEq] at he; subst he
          refine ⟨_, hrun, L', m.getD c - l, hl, ?_, ?_, hcm, by omega, ?_⟩
          · have : (if m.getD c = l then some (⟨L'.block, L'.off + off, none⟩ : Addr) else some ⟨L'.block, L'.off + off + l * t.size, none⟩) = some ⟨L'.block, L'.off + (off + l * t.size), none⟩ := by
              rcases hor with rfl | h8
              · simp
              · rw [if_neg (by omega), Nat.add_assoc]
            rw [this]
          · intro hf
            cases m with
            | none =>
              simp only [sliceFull, Bool.and_eq_true, decide_eq_true_eq] at hf
              have := h1 hf.1
              simp; omega
            | some m' => simp only [sliceFull, decide_eq_true_eq] at hf; simp [hf]
          · have h9 : l ≤ m.getD c := by omega
            rw [hesz] at h4 ⊢
            have : l * t.size + (m.getD c - l) * t.size = m.getD c * t.size := by rw [← Nat.add_mul]; congr 1; omega
            have h10 : m.getD c * t.size ≤ c * t.size := Nat.mul_le_mul_right _ hmc
            omega
        · rename_i hor
          simp only [Option.some.injEq] at he; subst he
          have hz : hh - l = 0 := by omega
          rw [hz] at hrun
          exact ⟨_, hrun, _, _, rfl, by simp, by omega, by decide, .inl ⟨rfl, rfl⟩⟩
      · simp at he
    · simp at he
  · simp at he
end Go.M
