/- Steps of the state at data level; types; the operations that turn no memory. -/
import Derived.Test.YtdmpifnbdifhbaaDrL2
namespace Go.Lift
variable {P : Program}

def upd (μ : Nat → Slot) (i : Nat) (x : Slot) : Nat → Slot := fun j => if j = i then x else μ j
theorem upd_same (μ : Nat → Slot) (i : Nat) (x : Slot) : upd μ i x i = x := by simp [upd]
theorem upd_ne (μ : Nat → Slot) {i j : Nat} (x : Slot) (h : j ≠ i) : upd μ i x j = μ j := by simp [upd, h]

theorem upf_nil (f : Nat → Option Ob) : upf f [] = f := rfl
theorem upf_one (f : Nat → Option Ob) (i : Nat) (x : Option Ob) : upf f [(i, x)] = fun j => if j = i then x else f j := by
  funext j
  by_cases h : j = i
  · subst h; simp [upf, List.lookup]
  · have : (j == i) = false := by simpa using h
    simp [upf, List.lookup, this, h]

/-- The same heap: only the tape has moved. -/
theorem ext_same {s : St} {w' : World} (h : w'.heap = s.w.heap) (ht : w'.tape = s.w.tape) (ho : w'.os = s.w.os) (hp : w'.output = s.w.output) : Ext s ⟨s.μ, s.vis, w'⟩ :=
  ⟨fun _ _ h => .inl h, fun _ h => h, fun b _ hb => ⟨hb, by show w'.heap[b]? = _; rw [h]⟩, rfl, by show _ ≤ w'.heap.size; rw [h]; exact Nat.le_refl _, ht, ho, hp⟩

theorem hr_same {s s' : St} {f : Nat → Option Ob} (h : HR s f) (he : Ext s s') (hμ : s'.μ = s.μ) (hh : s'.w.heap = s.w.heap) : HR s' f where
  obj i o ho := by
    obtain ⟨l, h1, h2⟩ := h.obj i o ho
    exact ⟨l, by rw [hμ]; exact h1, h2.mono he fun b x _ => by rw [hh]⟩
  non i l hl := h.non i l (by rw [hμ] at hl; exact hl)
  lt i l b o hl hb := by rw [hh]; exact h.lt i l b o (by rw [hμ] at hl; exact hl) hb
  own i l b o hl hb := by rw [he.vis]; exact h.own i l b o (by rw [hμ] at hl; exact hl) hb
  fut b hb := by rw [he.vis]; exact h.fut b (by rw [hh] at hb; exact hb)
  sep i j li lj b oi oj h1 h2 h3 h4 := by rw [hμ] at h1 h2; exact h.sep i j li lj b oi oj h1 h2 h3 h4

/-- A new block. -/
theorem ext_new {s : St} {i : Nat} {w' : World} {o : Obj} {l : Loc} (hf : s.μ i = .free) (h : w'.heap = s.w.heap.push o) (ht : w'.tape = s.w.tape) (ho : w'.os = s.w.os) (hp : w'.output = s.w.output)
    (hl : ∀ b x, l.base = some (b, x) → b = s.w.heap.size) : Ext s ⟨upd s.μ i (.live l), s.vis, w'⟩ where
  live j lj hj := .inl (by
    have : j ≠ i := fun e => by subst e; rw [hf] at hj; cases hj
    show upd s.μ i _ j = _
    rw [upd_ne _ _ this]; exact hj)
  dead j hj := by
    have : j ≠ i := fun e => by subst e; rw [hf] at hj; cases hj
    show upd s.μ i _ j = _
    rw [upd_ne _ _ this]; exact hj
  keep b hb hn := by
    refine ⟨?_, by show w'.heap[b]? = _; rw [h, Array.getElem?_push, if_neg (Nat.ne_of_lt hb)]⟩
    rintro ⟨j, lj, oj, h1, h2⟩
    replace h1 : upd s.μ i (.live l) j = .live lj := h1
    by_cases hji : j = i
    · subst hji
      simp only [upd_same, Slot.live.injEq] at h1
      subst h1
      have := hl b oj h2
      omega
    · rw [upd_ne _ _ hji] at h1
      exact hn ⟨j, lj, oj, h1, h2⟩
  vis := rfl
  size := by show _ ≤ w'.heap.size; rw [h, Array.size_push]; omega
  tape := ht
  os := ho
  output := hp

theorem hr_new {s : St} {f : Nat → Option Ob} {i : Nat} {w' : World} {o : Obj} {l : Loc} {ob : Ob} (hr : HR s f) (hf : s.μ i = .free) (h : w'.heap = s.w.heap.push o)
    (he : Ext s ⟨upd s.μ i (.live l), s.vis, w'⟩) (hl : ∀ b x, l.base = some (b, x) → b = s.w.heap.size) (hor : OR ⟨upd s.μ i (.live l), s.vis, w'⟩ ob l) :
    HR ⟨upd s.μ i (.live l), s.vis, w'⟩ (upf f [(i, some ob)]) := by
  have hb : ∀ (b : Nat), b < s.w.heap.size → w'.heap[b]? = s.w.heap[b]? := fun b hb => by rw [h, Array.getElem?_push, if_neg (Nat.ne_of_lt hb)]
  rw [upf_one]
  refine ⟨fun j oj hj => ?_, fun j lj hj => ?_, fun j lj b x hj hx => ?_, fun j lj b x hj hx => ?_, fun b hb => hr.fut b (by have : w'.heap.size ≤ b := hb; rw [h, Array.size_push] at this; omega), fun j j' lj lj' b x x' h1 h2 h3 h4 => ?_⟩
  · by_cases hji : j = i
    · subst hji
      simp only [if_true, Option.some.injEq] at hj
      subst hj
      exact ⟨l, upd_same _ _ _, hor⟩
    · rw [if_neg hji] at hj
      obtain ⟨lj, h1, h2⟩ := hr.obj j oj hj
      exact ⟨lj, by show upd _ _ _ j = _; rw [upd_ne _ _ hji]; exact h1, h2.mono he fun b x hx => hb b (hr.lt j lj b x h1 hx)⟩
  · by_cases hji : j = i
    · subst hji; exact ⟨ob, by simp⟩
    · have hj' : s.μ j = .live lj := by rw [← upd_ne s.μ (.live l) hji]; exact hj
      obtain ⟨o', ho'⟩ := hr.non j lj hj'
      exact ⟨o', by simp [hji, ho']⟩
  · show b < w'.heap.size
    rw [h, Array.size_push]
    by_cases hji : j = i
    · subst hji
      have : lj = l := by
        have : upd s.μ j (.live l) j = .live lj := hj
        rw [upd_same] at this
        cases this; rfl
      subst this
      have := hl b x hx
      omega
    · have hj' : s.μ j = .live lj := by rw [← upd_ne s.μ (.live l) hji]; exact hj
      have := hr.lt j lj b x hj' hx
      omega
  · show s.vis b
    by_cases hji : j = i
    · subst hji
      have : lj = l := by
        have : upd s.μ j (.live l) j = .live lj := hj
        rw [upd_same] at this
        cases this; rfl
      subst this
      exact hr.fut b (Nat.le_of_eq (hl b x hx).symm)
    · have hj' : s.μ j = .live lj := by rw [← upd_ne s.μ (.live l) hji]; exact hj
      exact hr.own j lj b x hj' hx
  · have key : ∀ j lj x, (upd s.μ i (.live l)) j = .live lj → lj.base = some (b, x) → (j = i ∧ b = s.w.heap.size) ∨ (j ≠ i ∧ s.μ j = .live lj ∧ b < s.w.heap.size) := fun j lj x hj hx => by
      by_cases hji : j = i
      · subst hji
        rw [upd_same] at hj
        cases hj
        exact .inl ⟨rfl, hl b x hx⟩
      · rw [upd_ne _ _ hji] at hj
        exact .inr ⟨hji, hj, hr.lt j lj b x hj hx⟩
    rcases key j lj x h1 h3 with ⟨e1, e2⟩ | ⟨e1, e2, e3⟩ <;> rcases key j' lj' x' h2 h4 with ⟨g1, g2⟩ | ⟨g1, g2, g3⟩
    · rw [e1, g1]
    · omega
    · omega
    · exact hr.sep j j' lj lj' b x x' e2 g2 h3 h4

theorem free_new {s : St} {i : Nat} {l : Loc} {w' : World} : ∀ j, s.μ j = .free → j ∉ [i] → (⟨upd s.μ i (.live l), s.vis, w'⟩ : St).μ j = .free := fun j hj hn => by
  show upd s.μ i _ j = _
  rw [upd_ne _ _ (by simpa using hn)]; exact hj

/-- A block of an object of its own is turned. -/
theorem ext_turn {s : St} {i : Nat} {l : Loc} {b x : Nat} {w' : World} (hi : s.μ i = .live l) (hb : l.base = some (b, x)) (hh : ∀ c, c ≠ b → w'.heap[c]? = s.w.heap[c]?) (hs : w'.heap.size = s.w.heap.size)
    (ht : w'.tape = s.w.tape) (ho : w'.os = s.w.os) (hp : w'.output = s.w.output) : Ext s ⟨s.μ, s.vis, w'⟩ where
  live j lj hj := .inl hj
  dead j hj := hj
  keep c _ hc := by
    refine ⟨hc, hh c fun e => ?_⟩
    subst e
    exact hc ⟨i, l, x, hi, hb⟩
  vis := rfl
  size := by show _ ≤ w'.heap.size; rw [hs]; exact Nat.le_refl _
  tape := ht
  os := ho
  output := hp

theorem hr_turn {s : St} {f : Nat → Option Ob} {i : Nat} {l : Loc} {b x : Nat} {w' : World} {ob : Ob} (hr : HR s f) (hi : s.μ i = .live l) (hb : l.base = some (b, x)) (hh : ∀ c, c ≠ b → w'.heap[c]? = s.w.heap[c]?)
    (hs : w'.heap.size = s.w.heap.size) (he : Ext s ⟨s.μ, s.vis, w'⟩) (hor : OR ⟨s.μ, s.vis, w'⟩ ob l) : HR ⟨s.μ, s.vis, w'⟩ (upf f [(i, some ob)]) := by
  rw [upf_one]
  refine ⟨fun j oj hj => ?_, fun j lj hj => ?_, fun j lj c y hj hx => ?_, hr.own, fun c hc => hr.fut c (by have : w'.heap.size ≤ c := hc; omega), hr.sep⟩
  · by_cases hji : j = i
    · subst hji
      simp only [if_true, Option.some.injEq] at hj
      subst hj
      exact ⟨l, hi, hor⟩
    · rw [if_neg hji] at hj
      obtain ⟨lj, h1, h2⟩ := hr.obj j oj hj
      refine ⟨lj, h1, h2.mono he fun c y hy => hh c fun e => ?_⟩
      subst e
      exact hji (hr.sep j i lj l c y x h1 hi hy hb)
  · by_cases hji : j = i
    · subst hji; exact ⟨ob, by simp⟩
    · obtain ⟨o', ho'⟩ := hr.non j lj hj
      exact ⟨o', by simp [hji, ho']⟩
  · show c < w'.heap.size
    rw [hs]; exact hr.lt j lj c y hj hx

/-! ### Types -/
structure TI where
  d : TypeDesc
  size : Nat
  bytes : Nat
  zero : Value
  eq : Bool

def aggD : TypeDesc → Bool
  | .struct _ | .array _ _ => true
  | _ => false

structure TIok (P : Program) (t : TypeId) (ti : TI) : Prop where
  und : P.underlying t = some ti.d
  inf : ∃ i, P.info? t = some i ∧ i.size = ti.size ∧ i.bytes = ti.bytes ∧ i.zero = some ti.zero
  cmp : ti.eq = true → P.stoodInHeld t = false ∧ P.eqGuardType P.depth t = false

abbrev TT := Nat → Option TI
def TTok (P : Program) (T : TT) : Prop := ∀ t ti, T t = some ti → TIok P t ti

section
variable {t : TypeId} {ti : TI} {w : World}
theorem TIok.underlying (h : TIok P t ti) : (underlying t).run P w = .ok ti.d w := by simp [Go.underlying, h.und]
theorem TIok.sizeOf (h : TIok P t ti) : (sizeOf t).run P w = .ok ti.size w := by
  obtain ⟨i, h1, h2, _, _⟩ := h.inf
  simp [Go.sizeOf, typeInfo, h1, h2]
theorem TIok.zeroValue (h : TIok P t ti) : (zeroValue t).run P w = .ok ti.zero w := by
  obtain ⟨i, h1, _, _, h4⟩ := h.inf
  simp [Go.zeroValue, typeInfo, h1, h4]
theorem TIok.typeInfo (h : TIok P t ti) : ∃ i, (typeInfo t).run P w = .ok i w ∧ i.size = ti.size ∧ i.bytes = ti.bytes ∧ i.zero = some ti.zero := by
  obtain ⟨i, h1, h2⟩ := h.inf
  exact ⟨i, by simp [Go.typeInfo, h1], h2⟩
theorem TIok.isAgg (h : TIok P t ti) : (isAgg t).run P w = .ok (aggD ti.d) w := by
  simp only [Go.isAgg, Sem.run_bind, h.underlying, Result.andThen_ok]
  cases ti.d <;> rfl
end

/-! ### Quiet operations -/
theorem Does.of_run {b : Frame} {o : Oper} {ρ : Operand → Option V} {H : Nat → Option Ob} {r : Res} (hnd : ∀ c, o.op ≠ .defer c)
    (h : ∀ (s : St) (f : Nat → Option Ob) (a : Act), HR s f → (∀ i ∈ r.rds, f i = H i) → (∀ i ∈ r.new, s.μ i = .free) →
      (∀ x ∈ o.op.operands.toList, ∀ v, ρ x = some v → VR s v (a.eval x)) →
      ∃ v s', (execOp a.eval o).run P s.w = .ok (.value v) s'.w ∧ Ext s s' ∧ HR s' (upf f r.eff) ∧ VR s' r.val v ∧ (∀ i, s.μ i = .free → i ∉ r.new → s'.μ i = .free)) :
    Does P b o ρ H r := by
  intro s f a h1 h2 h3 h4 ops i rest k cs ho hw
  obtain ⟨v, s', h5, h6⟩ := h s f a h1 h2 h3 h4
  exact ⟨v, s', goes_value (by rw [Oper.semAt_eq _ _ _ hnd]; exact h5) ops i rest k cs ho hw, h6⟩

theorem Does.of_skip {b : Frame} {o : Oper} {ρ : Operand → Option V} {H : Nat → Option Ob} {r : Res} (hnd : ∀ c, o.op ≠ .defer c) (hv : r.val = .c (.v undef))
    (h : ∀ (s : St) (f : Nat → Option Ob) (a : Act), HR s f → (∀ i ∈ r.rds, f i = H i) → (∀ i ∈ r.new, s.μ i = .free) →
      (∀ x ∈ o.op.operands.toList, ∀ v, ρ x = some v → VR s v (a.eval x)) →
      ∃ s', (execOp a.eval o).run P s.w = .ok .skip s'.w ∧ Ext s s' ∧ HR s' (upf f r.eff) ∧ (∀ i, s.μ i = .free → i ∉ r.new → s'.μ i = .free)) :
    Does P b o ρ H r := by
  intro s f a h1 h2 h3 h4 ops i rest k cs ho hw
  obtain ⟨s', h5, h6, h7, h8⟩ := h s f a h1 h2 h3 h4
  exact ⟨undef, s', goes_skip (by rw [Oper.semAt_eq _ _ _ hnd]; exact h5) ops i rest k cs ho hw, h6, h7, by rw [hv]; exact .c _ _ (.v _), h8⟩

theorem Does.quiet {b : Frame} {o : Oper} {ρ : Operand → Option V} {H : Nat → Option Ob} {v : V} {rds : List Nat} (hnd : ∀ c, o.op ≠ .defer c)
    (h : ∀ (s : St) (f : Nat → Option Ob) (a : Act), HR s f → (∀ i ∈ rds, f i = H i) →
      (∀ x ∈ o.op.operands.toList, ∀ u, ρ x = some u → VR s u (a.eval x)) →
      ∃ u, (execOp a.eval o).run P s.w = .ok (.value u) s.w ∧ VR s v u) :
    Does P b o ρ H ⟨v, [], rds, []⟩ := by
  refine Does.of_run hnd fun s f a h1 h2 h3 h4 => ?_
  obtain ⟨u, h5, h6⟩ := h s f a h1 h2 h4
  exact ⟨u, s, h5, Ext.refl s, h1, h6, fun i hi _ => hi⟩

end Go.Lift
