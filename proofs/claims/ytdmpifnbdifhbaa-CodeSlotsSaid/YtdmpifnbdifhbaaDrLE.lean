/- The call of a function at data level: with objects handed on, or with none. -/
import Derived.Test.YtdmpifnbdifhbaaDrLD
namespace Go.Lift
variable {P : Program}

theorem call_steps {b : Frame} {o : Oper} {a : Act} {w w' : World} {f : Operand} {args : Array Operand} {tys : Array TypeId} (ho : o.op = .call { callee := .value f, args := args, argTypes := tys }) {fr : Frame} {r : Value}
    (hr : Runs P (a.eval f) (args.map a.eval) w fr) (ops : Array Oper) (i : Nat) (rest : List Nat) (k : List Item) (cs : List Frame) (hi : ops[i]? = some o) (hw : Region.wanted o (yielded ops a.tmps) = true)
    (hs : Steps P (lone fr (b.atR a (.inRegion ops (i :: rest) :: k) :: cs) w) (lone ((b.atR a (.inRegion ops (i :: rest) :: k)).finish r) cs w')) :
    Steps P (lone (b.atR a (.inRegion ops (i :: rest) :: k)) cs w) (lone (b.atR (a.put o.dst r) (.inRegion ops rest :: k)) cs w') := by
  rw [Frame.finish_atR, hi] at hs
  refine .head (step_lone_go ?_) hs
  rw [stepGR_op hi hw, Oper.semAt_eq _ _ _ (fun c h => by rw [ho] at h; cases h)]
  have hx : execOp a.eval o = (do let d ← Deferred.ofValue (a.eval f) (args.map a.eval); invoke d.target d.args) := by
    unfold execOp
    rw [ho]
    rfl
  rw [hx]
  rcases hr with ⟨g, as, h1, rfl⟩ | ⟨l, g, t, x, y, h1, rfl⟩
  · simp only [stepG.apply, Sem.runT_eq, if_true, h1, GStep.bare_after]
    simp [Frame.atR]
  · simp only [stepG.apply, Sem.runT_eq, if_true, h1, GStep.bare_after]
    simp

/-! ### with objects handed on -/
def zipE : List Nat → Heap → (Nat → Option Nat) → Option (List (Nat × Option Ob))
  | [], [], _ => some []
  | i :: l, none :: h, σ => match zipE l h σ with
    | some r => some ((i, none) :: r)
    | none => none
  | i :: l, some ob :: h, σ => match renO σ ob with
    | some ob' => match zipE l h σ with
      | some r => some ((i, some ob') :: r)
      | none => none
    | none => none
  | _, _, _ => none

theorem zipE_eq {σ : Nat → Option Nat} : ∀ {l : List Nat} {h : Heap} {r : List (Nat × Option Ob)}, zipE l h σ = some r → l.length = h.length ∧ r.map (·.1) = l ∧
    ∀ (p i : Nat), l[p]? = some i → ∃ x, r[p]? = some (i, x) ∧ ((h[p]? = some none ∧ x = none) ∨ ∃ ob ob', h[p]? = some (some ob) ∧ renO σ ob = some ob' ∧ x = some ob') := by
  intro l
  induction l with
  | nil =>
    intro h r hz
    cases h with
    | nil => simp [zipE] at hz; subst hz; exact ⟨rfl, rfl, fun p i h => by simp at h⟩
    | cons => simp [zipE] at hz
  | cons i l ih =>
    intro h r hz
    cases h with
    | nil => simp [zipE] at hz
    | cons x h =>
      cases x with
      | none =>
        simp only [zipE] at hz
        split at hz
        case h_2 => cases hz
        rename_i r' hr
        cases hz
        obtain ⟨h1, h2, h3⟩ := ih hr
        refine ⟨by simp [h1], by simp [h2], fun p j hp => ?_⟩
        cases p with
        | zero => simp at hp; subst hp; exact ⟨none, by simp, .inl ⟨by simp, rfl⟩⟩
        | succ p => simpa using h3 p j (by simpa using hp)
      | some ob =>
        simp only [zipE] at hz
        split at hz
        case h_2 => cases hz
        rename_i ob' hob
        split at hz
        case h_2 => cases hz
        rename_i r' hr
        cases hz
        obtain ⟨h1, h2, h3⟩ := ih hr
        refine ⟨by simp [h1], by simp [h2], fun p j hp => ?_⟩
        cases p with
        | zero => simp at hp; subst hp; exact ⟨some ob', by simp, .inr ⟨ob, ob', by simp, hob, rfl⟩⟩
        | succ p => simpa using h3 p j (by simpa using hp)

theorem lookup_zip {L : List Nat} {r : List (Nat × Option Ob)} (h1 : r.map (·.1) = L) (hnd : ∀ {p q i : Nat}, L[p]? = some i → L[q]? = some i → p = q) {p i : Nat} {x : Option Ob} (hp : r[p]? = some (i, x)) : r.lookup i = some x := by
  induction r generalizing L p with
  | nil => simp at hp
  | cons y r ih =>
    obtain ⟨j, z⟩ := y
    cases p with
    | zero => simp at hp; obtain ⟨rfl, rfl⟩ := hp; simp [List.lookup]
    | succ p =>
      have hne : i ≠ j := fun e => by
        subst e
        have e1 : L[0]? = some i := by rw [← h1]; rfl
        have e2 : L[p + 1]? = some i := by rw [← h1]; simp at hp ⊢; exact ⟨x, hp⟩
        have := hnd e1 e2
        omega
      have hb : (i == j) = false := by simpa using hne
      simp only [List.lookup, hb]
      have h1' : r.map (·.1) = L.tail := by rw [← h1]; rfl
      refine ih h1' (fun {p q i} g1 g2 => ?_) (by simpa using hp)
      have := @hnd (p + 1) (q + 1) i (by rw [List.getElem?_tail] at g1; exact g1) (by rw [List.getElem?_tail] at g2; exact g2)
      omega

theorem lookup_none {L : List Nat} {r : List (Nat × Option Ob)} (h1 : r.map (·.1) = L) {i : Nat} (hi : i ∉ L) : r.lookup i = none := by
  subst h1
  induction r with
  | nil => rfl
  | cons y r ih =>
    obtain ⟨j, z⟩ := y
    simp only [List.map_cons, List.mem_cons, not_or] at hi
    have hb : (i == j) = false := by simpa using hi.1
    simp only [List.lookup, hb]
    exact ih hi.2

theorem lookup_app {i : Nat} {a b : List (Nat × Option Ob)} : (a ++ b).lookup i = match a.lookup i with
    | some x => some x
    | none => b.lookup i := by
  induction a with
  | nil => rfl
  | cons y a ih =>
    obtain ⟨j, z⟩ := y
    simp only [List.cons_append, List.lookup]
    cases (i == j) with
    | true => rfl
    | false => exact ih

def killE : List Nat → List (Nat × Option Ob)
  | [] => []
  | i :: l => (i, none) :: killE l
theorem killE_in {i : Nat} {l : List Nat} (h : i ∈ l) : (killE l).lookup i = some none := by
  induction l with
  | nil => cases h
  | cons x l ih =>
    simp only [killE, List.lookup]
    cases he : (i == x) with
    | true => rfl
    | false =>
      cases h with
      | head => simp at he
      | tail _ h => exact ih h
theorem killE_out {i : Nat} {l : List Nat} (h : i ∉ l) : (killE l).lookup i = none := by
  induction l with
  | nil => rfl
  | cons x l ih =>
    simp only [List.mem_cons, not_or] at h
    have hb : (i == x) = false := by simpa using h.1
    simp only [killE, List.lookup, hb]
    exact ih h.2

/-- Behind a call with objects handed on, of which those 'mv' are given away. -/
theorem frame_after {s s2 : St} {f : Nat → Option Ob} {fx mv nw : List Nat} {hs' : Heap} {eff : List (Nat × Option Ob)} {v2 v : V} {r : Value} {vis : Nat → Prop} (hvis : vis = fun b => s.vis b ∧ ∀ i l o, i ∉ fx ++ mv → s.μ i = .live l → l.base = some (b, o) → False)
    (hr : HR s f) (hlen : ((fx ++ nw) ++ mv).length < 500) (hnd : nodupF ((fx ++ nw) ++ mv) = true) (hsel : ∀ i ∈ fx ++ mv, ∃ l, s.μ i = .live l) (hfree : ∀ i ∈ nw, s.μ i = .free)
    (he : Ext ((s.sel (fx ++ mv) vis).park fx.length) s2) (hh : HL s2 hs') (hv : VR s2 v2 r) (hz : zipE (fx ++ nw) hs' (nth (fx ++ nw)) = some eff) (hren : renF (nth (fx ++ nw)) v2 = some v) :
    ∃ s', s'.w = s2.w ∧ Ext s s' ∧ HR s' (upf f (eff ++ killE mv)) ∧ VR s' v r ∧ ∀ i, s.μ i = .free → i ∉ nw → s'.μ i = .free := by
  obtain ⟨z1, z2, z3⟩ := zipE_eq hz
  have hLL : ∀ {p q i : Nat}, ((fx ++ nw) ++ mv)[p]? = some i → ((fx ++ nw) ++ mv)[q]? = some i → p = q := fun h1 h2 => nodupF_get hnd hlen h1 h2
  have hpre : ∀ {p i : Nat}, (fx ++ nw)[p]? = some i → ((fx ++ nw) ++ mv)[p]? = some i := fun {p i} h => by
    rw [List.getElem?_append_left (List.getElem?_eq_some_iff.1 h).1]; exact h
  have hL : ∀ {p q i : Nat}, (fx ++ nw)[p]? = some i → (fx ++ nw)[q]? = some i → p = q := fun h1 h2 => hLL (hpre h1) (hpre h2)
  have hlen2 : (fx ++ nw).length < 500 := by rw [List.length_append] at hlen; omega
  have hdis : ∀ i, i ∈ fx ++ nw → i ∉ mv := fun i h1 h2 => by
    obtain ⟨p, hp⟩ := List.mem_iff_getElem?.1 h1
    obtain ⟨q, hq⟩ := List.mem_iff_getElem?.1 h2
    have e1 : ((fx ++ nw) ++ mv)[(fx ++ nw).length + q]? = some i := by
      rw [List.getElem?_append_right (by omega)]
      have : (fx ++ nw).length + q - (fx ++ nw).length = q := by omega
      rw [this]; exact hq
    have := hLL (hpre hp) e1
    have := (List.getElem?_eq_some_iff.1 hp).1
    omega
  have hssown : ∀ b, ((s.sel (fx ++ mv) vis).park fx.length).own b → (s.sel (fx ++ mv) vis).own b := fun b h => (park_own (fun i hi => by
    have : (fx ++ mv)[i]? = none := List.getElem?_eq_none (by rw [List.length_append, List.length_append] at hlen; rw [List.length_append]; omega)
    simp only [St.sel, this]
    rw [if_neg (by omega)])).1 h
  let μ' : Nat → Slot := fun i => match posOf (fx ++ nw) i with
    | some p => s2.μ p
    | none => match posOf mv i with
      | some _ => .dead
      | none => s.μ i
  have hμp : ∀ p i, (fx ++ nw)[p]? = some i → μ' i = s2.μ p := fun p i hp => by
    obtain ⟨q, hq, _⟩ := posOf_mem (List.mem_of_getElem? hp) hlen2
    have := hL hp (posOf_eq hq)
    subst this
    simp only [μ', hq]
  have hμn0 : ∀ i, i ∉ fx ++ nw → posOf (fx ++ nw) i = none := fun i hi => by
    cases hq : posOf (fx ++ nw) i with
    | none => rfl
    | some q => exact absurd (List.mem_of_getElem? (posOf_eq hq)) hi
  have hμm : ∀ i, i ∈ mv → μ' i = .dead := fun i hi => by
    have h1 := hμn0 i (fun h => hdis i h hi)
    obtain ⟨q, hq, _⟩ := posOf_mem hi (by rw [List.length_append] at hlen; omega)
    simp only [μ', h1, hq]
  have hμn : ∀ i, i ∉ fx ++ nw → i ∉ mv → μ' i = s.μ i := fun i hi hm => by
    have h1 := hμn0 i hi
    cases hq : posOf mv i with
    | none => simp only [μ', h1, hq]
    | some q => exact absurd (List.mem_of_getElem? (posOf_eq hq)) hm
  -- which slot an object has
  have hcase : ∀ i, (∃ p, (fx ++ nw)[p]? = some i) ∨ i ∈ mv ∨ (i ∉ fx ++ nw ∧ i ∉ mv) := fun i => by
    by_cases hi : i ∈ fx ++ nw
    · exact .inl (List.mem_iff_getElem?.1 hi)
    · by_cases hm : i ∈ mv
      · exact .inr (.inl hm)
      · exact .inr (.inr ⟨hi, hm⟩)
  have hselp : ∀ {p i : Nat}, (fx ++ nw)[p]? = some i → s.μ i ≠ .free → p < fx.length ∧ (fx ++ mv)[p]? = some i := fun {p i} hp hn => by
    by_cases hlt : p < fx.length
    · refine ⟨hlt, ?_⟩
      rw [List.getElem?_append_left hlt] at hp ⊢; exact hp
    · rw [List.getElem?_append_right (by omega)] at hp
      exact absurd (hfree i (List.mem_of_getElem? hp)) hn
  let s' : St := ⟨μ', s.vis, s2.w⟩
  have hsz : s.w.heap.size ≤ s2.w.heap.size := he.size
  have hnown : ∀ b, b < s.w.heap.size → ¬ (s.sel (fx ++ mv) vis).own b → ¬ s2.own b ∧ s2.w.heap[b]? = s.w.heap[b]? := fun b h1 h2 => he.keep b h1 fun h3 => h2 (hssown b h3)
  -- a block of an object that was not handed on
  have hframed : ∀ i l b o, i ∉ fx ++ mv → s.μ i = .live l → l.base = some (b, o) → ¬ (s.sel (fx ++ mv) vis).own b := fun i l b o hi h1 h2 h3 => by
    obtain ⟨j, lj, oj, g1, g2, g3⟩ := St.sel_own h3
    have := hr.sep i j l lj b o oj h1 g2 h2 g3
    subst this
    exact hi g1
  have hns : ∀ i, i ∉ fx ++ nw → i ∉ mv → i ∉ fx ++ mv := fun i h1 h2 h3 => by
    rw [List.mem_append] at h3
    rcases h3 with h3 | h3
    · exact h1 (List.mem_append_left _ h3)
    · exact h2 h3
  have hown' : ∀ b, s'.own b → s2.own b ∨ ∃ i l o, (i ∉ fx ++ nw ∧ i ∉ mv) ∧ s.μ i = .live l ∧ l.base = some (b, o) := fun b ⟨i, l, o, h1, h2⟩ => by
    replace h1 : μ' i = .live l := h1
    rcases hcase i with ⟨p, hp⟩ | hi | ⟨hi, hm⟩
    · rw [hμp p i hp] at h1
      exact .inl ⟨p, l, o, h1, h2⟩
    · rw [hμm i hi] at h1; cases h1
    · rw [hμn i hi hm] at h1
      exact .inr ⟨i, l, o, ⟨hi, hm⟩, h1, h2⟩
  have hext : Ext s s' := by
    refine ⟨fun i l hl => ?_, fun i hd => ?_, fun b hb hn => ?_, rfl, hsz, he.tape, he.os, he.output⟩
    · show μ' i = _ ∨ μ' i = _
      rcases hcase i with ⟨p, hp⟩ | hi | ⟨hi, hm⟩
      · rw [hμp p i hp]
        obtain ⟨hlt, hp'⟩ := hselp hp (by rw [hl]; simp)
        exact he.live p l (by simp only [St.park]; rw [if_pos hlt, sel_at hp']; exact hl)
      · exact .inr (hμm i hi)
      · rw [hμn i hi hm]; exact .inl hl
    · show μ' i = _
      rcases hcase i with ⟨p, hp⟩ | hi | ⟨hi, hm⟩
      · rw [hμp p i hp]
        obtain ⟨hlt, hp'⟩ := hselp hp (by rw [hd]; simp)
        exact he.dead p (by simp only [St.park]; rw [if_pos hlt, sel_at hp']; exact hd)
      · exact hμm i hi
      · rw [hμn i hi hm]; exact hd
    · have h2 : ¬ (s.sel (fx ++ mv) vis).own b := fun h3 => by
        obtain ⟨j, lj, oj, _, g2, g3⟩ := St.sel_own h3
        exact hn ⟨j, lj, oj, g2, g3⟩
      obtain ⟨g1, g2⟩ := hnown b hb h2
      refine ⟨fun h3 => ?_, g2⟩
      rcases hown' b h3 with h4 | ⟨i, l, o, _, h4, h5⟩
      · exact g1 h4
      · exact hn ⟨i, l, o, h4, h5⟩
  have hvis2 : s2.vis = vis := he.vis
  have himm : ∀ b, s2.imm b → s'.imm b := fun b hb => by
    have h1 : vis b := by rw [← hvis2]; exact hb.2.1
    rw [hvis] at h1
    refine ⟨hb.1, h1.1, fun h3 => ?_⟩
    rcases hown' b h3 with h4 | ⟨i, l, o, hi, h4, h5⟩
    · exact hb.2.2 h4
    · exact h1.2 i l o (hns i hi.1 hi.2) h4 h5
  have hσ : ∀ p k, nth (fx ++ nw) p = some k → s2.μ p ≠ .free → s'.μ k = s2.μ p := fun p k hp _ => hμp p k (by rw [← nth_eq]; exact hp)
  have hup1 : ∀ {p i x}, r = r → (fx ++ nw)[p]? = some i → (eff : List (Nat × Option Ob))[p]? = some (i, x) → upf f (eff ++ killE mv) i = x := fun {p i x} _ hp g1 => by
    unfold upf
    rw [lookup_app, lookup_zip z2 hL g1]; rfl
  have hup2 : ∀ {i}, i ∈ mv → upf f (eff ++ killE mv) i = none := fun {i} hi => by
    unfold upf
    rw [lookup_app, lookup_none z2 (fun h => hdis i h hi)]
    simp only [killE_in hi]; rfl
  have hup3 : ∀ {i}, i ∉ fx ++ nw → i ∉ mv → upf f (eff ++ killE mv) i = f i := fun {i} hi hm => by
    unfold upf
    rw [lookup_app, lookup_none z2 hi]
    simp only [killE_out hm]; rfl
  refine ⟨s', rfl, hext, ?_, VR.ren hσ himm rfl hv hren, fun i hi hn => ?_⟩
  · refine ⟨fun i o hio => ?_, fun i l hl => ?_, fun i l b o hl hb => ?_, fun i l b o hl hb => ?_, fun b hb => ?_, fun i j li lj b oi oj h1 h2 h3 h4 => ?_⟩
    · rcases hcase i with ⟨p, hp⟩ | hi | ⟨hi, hm⟩
      · obtain ⟨x, g1, g2⟩ := z3 p i hp
        rw [hup1 rfl hp g1] at hio
        rcases g2 with ⟨_, rfl⟩ | ⟨ob, ob', k1, k2, rfl⟩
        · cases hio
        · cases hio
          obtain ⟨l, e1, e2⟩ := hh.hr.obj p ob (by rw [look_eq, k1]; rfl)
          exact ⟨l, (hμp p i hp).trans e1, e2.ren hσ himm rfl k2⟩
      · rw [hup2 hi] at hio; cases hio
      · rw [hup3 hi hm] at hio
        obtain ⟨l, e1, e2⟩ := hr.obj i o hio
        exact ⟨l, (hμn i hi hm).trans e1, e2.mono hext fun b x hb => (hnown b (hr.lt i l b x e1 hb) (hframed i l b x (hns i hi hm) e1 hb)).2⟩
    · replace hl : μ' i = .live l := hl
      rcases hcase i with ⟨p, hp⟩ | hi | ⟨hi, hm⟩
      · rw [hμp p i hp] at hl
        obtain ⟨o, ho⟩ := hh.hr.non p l hl
        obtain ⟨x, g1, g2⟩ := z3 p i hp
        rw [hup1 rfl hp g1]
        rcases g2 with ⟨k1, _⟩ | ⟨ob, ob', k1, k2, rfl⟩
        · rw [look_eq, k1] at ho; cases ho
        · exact ⟨ob', rfl⟩
      · rw [hμm i hi] at hl; cases hl
      · rw [hμn i hi hm] at hl
        rw [hup3 hi hm]
        exact hr.non i l hl
    · replace hl : μ' i = .live l := hl
      rcases hcase i with ⟨p, hp⟩ | hi | ⟨hi, hm⟩
      · rw [hμp p i hp] at hl
        exact hh.hr.lt p l b o hl hb
      · rw [hμm i hi] at hl; cases hl
      · rw [hμn i hi hm] at hl
        exact Nat.lt_of_lt_of_le (hr.lt i l b o hl hb) hsz
    · replace hl : μ' i = .live l := hl
      rcases hcase i with ⟨p, hp⟩ | hi | ⟨hi, hm⟩
      · rw [hμp p i hp] at hl
        have := hh.hr.own p l b o hl hb
        rw [hvis2, hvis] at this
        exact this.1
      · rw [hμm i hi] at hl; cases hl
      · rw [hμn i hi hm] at hl
        exact hr.own i l b o hl hb
    · have := hh.hr.fut b hb
      rw [hvis2, hvis] at this
      exact this.1
    · replace h1 : μ' i = .live li := h1
      replace h2 : μ' j = .live lj := h2
      rcases hcase i with ⟨p, hp⟩ | hi | ⟨hi, hmi⟩ <;> rcases hcase j with ⟨q, hq⟩ | hj | ⟨hj, hmj⟩
      · rw [hμp p i hp] at h1
        rw [hμp q j hq] at h2
        have := hh.hr.sep p q li lj b oi oj h1 h2 h3 h4
        subst this
        exact Option.some.inj (hp.symm.trans hq)
      · rw [hμm j hj] at h2; cases h2
      · rw [hμp p i hp] at h1
        rw [hμn j hj hmj] at h2
        exact absurd ⟨p, li, oi, h1, h3⟩ (hnown b (hr.lt j lj b oj h2 h4) (hframed j lj b oj (hns j hj hmj) h2 h4)).1
      · rw [hμm i hi] at h1; cases h1
      · rw [hμm i hi] at h1; cases h1
      · rw [hμm i hi] at h1; cases h1
      · rw [hμn i hi hmi] at h1
        rw [hμp q j hq] at h2
        exact absurd ⟨q, lj, oj, h2, h4⟩ (hnown b (hr.lt i li b oi h1 h3) (hframed i li b oi (hns i hi hmi) h1 h3)).1
      · rw [hμm j hj] at h2; cases h2
      · rw [hμn i hi hmi] at h1
        rw [hμn j hj hmj] at h2
        exact hr.sep i j li lj b oi oj h1 h2 h3 h4
  · show μ' i = _
    rcases hcase i with ⟨p, hp⟩ | hi' | ⟨hi', hm⟩
    · have hm := List.mem_of_getElem? hp
      rw [List.mem_append] at hm
      rcases hm with hm | hm
      · obtain ⟨l, hl⟩ := hsel i (List.mem_append_left _ hm)
        rw [hi] at hl; cases hl
      · exact absurd hm hn
    · obtain ⟨l, hl⟩ := hsel i (List.mem_append_right _ hi')
      rw [hi] at hl; cases hl
    · rw [hμn i hi' hm]; exact hi

/-- The state that a callee is handed. -/
theorem frame_before {s : St} {f : Nat → Option Ob} {sel : List Nat} {vis : Nat → Prop} (hvis : vis = fun b => s.vis b ∧ ∀ i l o, i ∉ sel → s.μ i = .live l → l.base = some (b, o) → False)
    (hr : HR s f) : Spoken s vis ∧ (∀ i l b o, i ∈ sel → s.μ i = .live l → l.base = some (b, o) → vis b) ∧ ∀ b, s.w.heap.size ≤ b → vis b := by
  subst hvis
  refine ⟨fun b h1 h2 => ⟨h1, fun i l o _ h3 h4 => h2 ⟨i, l, o, h3, h4⟩⟩, fun i l b o hi h1 h2 => ⟨hr.own i l b o h1 h2, fun j lj oj hj g1 g2 => ?_⟩, fun b hb => ⟨hr.fut b hb, fun i l o _ h1 h2 => ?_⟩⟩
  · have := hr.sep i j l lj b o oj h1 g1 h2 g2
    subst this
    exact hj hi
  · have := hr.lt i l b o h1 h2; omega

/-! ### with none -/
def rawV : V → Bool
  | .c (.v _) => true
  | .c (.ag l) => rawCs l
  | .tp l => rawVs l
  | _ => false
where
  rawCs : List C → Bool
  | [] => true
  | .v _ :: l => rawCs l
  | _ :: _ => false
  rawVs : List V → Bool
  | [] => true
  | .c (.v _) :: l => rawVs l
  | _ :: _ => false

theorem rawV_ok {s s' : St} {v : V} {x : Value} (h : VR s v x) (hr : rawV v = true) : VR s' v x := by
  have hcs : ∀ (l : List C), rawV.rawCs l = true → ∀ j (h : j < l.length), ∃ y, l[j] = .v y := by
    intro l
    induction l with
    | nil => intro _ j h; simp at h
    | cons a l ih =>
      intro hh j h
      cases a with
      | v y =>
        cases j with
        | zero => exact ⟨y, rfl⟩
        | succ j => simpa using ih hh j (by simpa using h)
      | sl => cases hh
      | ag => cases hh
      | va => cases hh
      | fn => cases hh
  have hvs : ∀ (l : List V), rawV.rawVs l = true → ∀ j (h : j < l.length), ∃ y, l[j] = .c (.v y) := by
    intro l
    induction l with
    | nil => intro _ j h; simp at h
    | cons a l ih =>
      intro hh j h
      cases a with
      | c y =>
        cases y with
        | v y =>
          cases j with
          | zero => exact ⟨y, rfl⟩
          | succ j => simpa using ih hh j (by simpa using h)
        | sl => cases hh
        | ag => cases hh
        | va => cases hh
        | fn => cases hh
      | hp => cases hh
      | hs => cases hh
      | hw => cases hh
      | hz => cases hh
      | yl => cases hh
      | ag => cases hh
      | fn => cases hh
      | tp => cases hh
  cases h with
  | c y _ h =>
    cases h with
    | v => exact .c _ _ (.v _)
    | ag cells cs h1 h2 h3 =>
      refine .c _ _ (.ag _ _ h1 h2 fun j h h' => ?_)
      obtain ⟨y, hy⟩ := hcs cells hr j h
      have := h3 j h h'
      rw [hy] at this ⊢
      cases this
      exact .v _
    | sl0 => cases hr
    | sl => cases hr
    | va => cases hr
    | fn => cases hr
  | tp l cs h1 h2 =>
    refine .tp _ _ h1 fun j h h' => ?_
    obtain ⟨y, hy⟩ := hvs l hr j h
    have := h2 j h h'
    rw [hy] at this ⊢
    exact .c _ _ (by cases this with | c _ _ h => cases h; exact .v _)
  | hp => cases hr
  | dp => cases hr
  | hs => cases hr
  | hs0 => cases hr
  | ds => cases hr
  | hw => cases hr
  | hw0 => cases hr
  | dw => cases hr
  | hz => cases hr
  | yl => cases hr
  | dy => cases hr
  | ag => cases hr
  | fn => cases hr

theorem lend_after {s s2 : St} {f : Nat → Option Ob} (hr : HR s f) (he : Ext ((s.sel [] s.vis).park 0) s2) : Ext s ⟨s.μ, s.vis, s2.w⟩ ∧ HR ⟨s.μ, s.vis, s2.w⟩ f := by
  have hno : ∀ b, ¬ ((s.sel [] s.vis).park 0).own b := fun b h => by
    obtain ⟨i, _, _, hi, _⟩ := St.sel_own ((park_own (fun i hi => by simp [St.sel]; omega)).1 h)
    cases hi
  have hk : ∀ b, b < s.w.heap.size → s2.w.heap[b]? = s.w.heap[b]? := fun b hb => (he.keep b hb (hno b)).2
  have hext : Ext s ⟨s.μ, s.vis, s2.w⟩ := ⟨fun _ _ h => .inl h, fun _ h => h, fun b hb hn => ⟨hn, hk b hb⟩, rfl, he.size, he.tape, he.os, he.output⟩
  refine ⟨hext, ⟨fun i o hio => ?_, hr.non, fun i l b o hl hb => Nat.lt_of_lt_of_le (hr.lt i l b o hl hb) he.size, hr.own, fun b hb => hr.fut b (Nat.le_trans he.size hb), hr.sep⟩⟩
  obtain ⟨l, h1, h2⟩ := hr.obj i o hio
  exact ⟨l, h1, h2.mono hext fun b x hb => hk b (hr.lt i l b x h1 hb)⟩

end Go.Lift
