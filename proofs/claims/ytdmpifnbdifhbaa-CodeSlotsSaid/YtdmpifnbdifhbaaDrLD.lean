/- The callee's state, and the caller's behind the call. -/
import Derived.Test.YtdmpifnbdifhbaaDrLC
namespace Go.Lift
variable {P : Program}

section small
variable {s : St} {f : Nat → Option Ob} {sel : List Nat} {vis : Nat → Prop} {H : Nat → Option Ob}

theorem smO_ok (hr : HR s f) (hv : Spoken s vis) (hlen : sel.length < 500) (hconv : (∀ i, H i = none) ∨ ((∀ b, s.vis b → vis b) ∧ ∀ i ob, H i = some ob → f i = some ob))
    {n : Nat} {G : Nat → Option Ob} (hG : G = H ∨ ∀ i, G i = none) {ob ob2 : Ob} {l : Loc} (ho : OR s ob l) (h : smO n sel G ob = some ob2) : OR (s.sel sel vis) ob2 l := by
  have hconv' : (∀ i, G i = none) ∨ ((∀ b, s.vis b → vis b) ∧ ∀ i ob, G i = some ob → f i = some ob) := by
    rcases hG with rfl | hG
    · exact hconv
    · exact .inl hG
  have ih := fun {v v2 : V} {x : Value} => sm_ok (v := v) (v2 := v2) (x := x) hr hv hlen hconv' n
  cases ho with
  | bx cells b cs t fz _ h1 h2 h3 h4 h5 =>
    simp only [smO] at h
    split at h
    case h_2 => cases h
    rename_i l' hl'
    cases h
    obtain ⟨g1, g2⟩ := mapO_eq hl'
    exact .bx l' b cs t fz _ h1 h2 h3 (by omega) fun j a b => ih (h5 j (by omega) b) (g2 j (by omega) a)
  | co0 k rows h0 => simp only [smO, Option.some.injEq] at h; subst h; exact .co0 k rows h0
  | co k rows b o cs t fz cmax h1 h2 h3 h4 h5 h6 =>
    simp only [smO, Option.some.injEq] at h
    subst h
    exact .co k rows b o cs t fz cmax h1 h2 h3 h4 h5 fun i hi j hj hc => SCR.small (sel := sel) hv (h6 i hi j hj hc)
  | vo k rows b o cs t fz cmax h1 h2 h3 h4 h5 h6 =>
    simp only [smO] at h
    split at h
    case h_2 => cases h
    rename_i l' hl'
    cases h
    obtain ⟨g1, g2⟩ := mapO_eq hl'
    have := OR.vo (s := s.sel sel vis) k l' b o cs t fz cmax h1 h2 h3 (by omega) (fun i hi => by
      have := (mapO_eq (g2 i (by omega) hi)).1
      rw [this]; exact h5 i (by omega)) fun i hi j hj hc => by
      obtain ⟨g3, g4⟩ := mapO_eq (g2 i (by omega) hi)
      exact ih (h6 i (by omega) j (by omega) hc) (g4 j (by omega) hj)
    rw [g1] at this
    exact this
  | ot o b _ h1 h2 => simp only [smO, Option.some.injEq] at h; subst h; exact .ot o b _ h1 h2
  | lp st pend fn N e params asg body b _ tmps df h1 h2 h3 h4 =>
    simp only [smO] at h
    split at h
    case h_2 => cases h
    rename_i e' he'
    cases h
    exact .lp _ _ _ _ _ _ _ _ b _ tmps df h1 h2 h3 fun t v' hv => by
      obtain ⟨v, g1, g2⟩ := envM_eq he' t v' hv
      exact ih (h4 t v g1) g2

def nodupF : List Nat → Bool
  | [] => true
  | x :: l => match posOf l x with
    | none => nodupF l
    | some _ => false

theorem nodupF_get {l : List Nat} (h : nodupF l = true) (hlen : l.length < 500) : ∀ {p q i : Nat}, l[p]? = some i → l[q]? = some i → p = q := by
  induction l with
  | nil => intro p q i hp; simp at hp
  | cons x l ih =>
    simp only [nodupF] at h
    split at h
    case h_2 => cases h
    rename_i hx
    have hx' : x ∉ l := posOf_none hx (by simp at hlen; omega)
    intro p q i hp hq
    cases p with
    | zero =>
      cases q with
      | zero => rfl
      | succ q =>
        simp at hp hq
        subst hp
        exact absurd (List.mem_of_getElem? hq) hx'
    | succ p =>
      cases q with
      | zero =>
        simp at hp hq
        subst hq
        exact absurd (List.mem_of_getElem? hp) hx'
      | succ q =>
        simp at hp hq
        rw [ih h (by simp at hlen; omega) hp hq]

/-- The objects that are handed on stand in the small state. -/
theorem smH_ok (hr : HR s f) (hv : Spoken s vis) (hvo : ∀ i l b o, i ∈ sel → s.μ i = .live l → l.base = some (b, o) → vis b) (hvf : ∀ b, s.w.heap.size ≤ b → vis b)
    (hlen : sel.length < 500) (hnd : nodupF sel = true) (hconv : (∀ i, H i = none) ∨ ((∀ b, s.vis b → vis b) ∧ ∀ i ob, H i = some ob → f i = some ob))
    {n : Nat} {hs : Heap} (h : (∀ (p i : Nat), sel[p]? = some i → (f i = none ∧ hs[p]? = some none) ∨ ∃ ob ob', f i = some ob ∧ smO n sel H ob = some ob' ∧ hs[p]? = some (some ob')) ∧ hs.length = sel.length) :
    HL (s.sel sel vis) hs := by
  obtain ⟨h1, h2⟩ := h
  have hμ : ∀ p l, (s.sel sel vis).μ p = .live l → ∃ i, sel[p]? = some i ∧ s.μ i = .live l := fun p l hp => by
    simp only [St.sel] at hp
    split at hp
    · rename_i i hi; exact ⟨i, hi, hp⟩
    · split at hp <;> cases hp
  refine ⟨⟨fun p ob hp => ?_, fun p l hp => ?_, fun p l b o hp hb => ?_, fun p l b o hp hb => ?_, hvf, fun p q lp lq b op oq g1 g2 g3 g4 => ?_⟩, fun p hp hlt => ?_, fun p hp => ?_⟩
  · rw [look_eq] at hp
    cases hx : hs[p]? with
    | none => simp [hx] at hp
    | some y =>
      simp only [hx, Option.join_some] at hp
      subst hp
      have hlt : p < sel.length := by rw [← h2]; exact (List.getElem?_eq_some_iff.1 hx).1
      rcases h1 p sel[p] (List.getElem?_eq_getElem hlt) with ⟨_, g⟩ | ⟨ob1, ob2, g1, g2, g3⟩
      · rw [hx] at g; cases g
      · rw [hx] at g3
        cases g3
        obtain ⟨l, e1, e2⟩ := hr.obj _ _ g1
        exact ⟨l, by rw [sel_at (List.getElem?_eq_getElem hlt)]; exact e1, smO_ok hr hv hlen hconv (.inl rfl) e2 g2⟩
  · obtain ⟨i, hi, hl⟩ := hμ p l hp
    obtain ⟨o, ho⟩ := hr.non i l hl
    rcases h1 p i hi with ⟨g, _⟩ | ⟨ob1, ob2, g1, g2, g3⟩
    · rw [ho] at g; cases g
    · exact ⟨ob2, by rw [look_eq, g3]; rfl⟩
  · obtain ⟨i, hi, hl⟩ := hμ p l hp
    exact hr.lt i l b o hl hb
  · obtain ⟨i, hi, hl⟩ := hμ p l hp
    exact hvo i l b o (List.mem_of_getElem? hi) hl hb
  · obtain ⟨i, hi, hl⟩ := hμ p lp g1
    obtain ⟨j, hj, hl'⟩ := hμ q lq g2
    have := hr.sep i j lp lq b op oq hl hl' g3 g4
    subst this
    exact nodupF_get hnd hlen hi hj
  · simp only [St.sel]
    rw [List.getElem?_eq_none (by omega)]
    simp [hlt]
  · simp only [St.sel]
    rw [List.getElem?_eq_none (by omega)]
    have : ¬ p < 1000 := by omega
    simp [this]
end small

/-! ### Renaming back -/
def renF (σ : Nat → Option Nat) : V → Option V
  | .c x => some (.c x)
  | .hp i r j => match σ i with
    | some k => some (.hp k r j)
    | none => none
  | .hs i o l => match σ i with
    | some k => some (.hs k o l)
    | none => none
  | .hw i => match σ i with
    | some k => some (.hw k)
    | none => none
  | .hz => some .hz
  | .yl i => match σ i with
    | some k => some (.yl k)
    | none => none
  | .ag l => match renL σ l with
    | some l' => some (.ag l')
    | none => none
  | .fn f a b => match renL σ a with
    | some a' => match renL σ b with
      | some b' => some (.fn f a' b')
      | none => none
    | none => none
  | .tp l => match renL σ l with
    | some l' => some (.tp l')
    | none => none
where renL (σ : Nat → Option Nat) : List V → Option (List V)
  | [] => some []
  | v :: l => match renF σ v with
    | some v' => match renL σ l with
      | some l' => some (v' :: l')
      | none => none
    | none => none

theorem renL_eq {σ : Nat → Option Nat} {l r : List V} (h : renF.renL σ l = some r) : r.length = l.length ∧ ∀ j (h : j < l.length) (h' : j < r.length), renF σ l[j] = some r[j] := by
  induction l generalizing r with
  | nil => simp [renF.renL] at h; subst h; exact ⟨rfl, fun j h => by simp at h⟩
  | cons x l ih =>
    simp only [renF.renL] at h
    split at h
    case h_2 => cases h
    rename_i y hy
    split at h
    case h_2 => cases h
    rename_i r' hr
    cases h
    obtain ⟨h1, h2⟩ := ih hr
    refine ⟨by simp [h1], fun j h h' => ?_⟩
    cases j with
    | zero => exact hy
    | succ j => simpa using h2 j (by simpa using h) (by simpa using h')

theorem VR.ren {s2 s : St} {σ : Nat → Option Nat} (hμ : ∀ p k, σ p = some k → s2.μ p ≠ .free → s.μ k = s2.μ p) (hi : ∀ b, s2.imm b → s.imm b) (hw : s.w = s2.w) {v : V} {x : Value} (h : VR s2 v x) :
    ∀ {v' : V}, renF σ v = some v' → VR s v' x := by
  have hc : ∀ {x : C} {v : Value}, SCR s2 x v → SCR s x v := fun h => CR.mono (fun b hb => ⟨hi b hb, by rw [hw]⟩) h
  induction h with
  | c y _ h => intro v' h'; simp only [renF, Option.some.injEq] at h'; subst h'; exact .c _ _ (hc h)
  | hp i r j l b o h1 h2 =>
    intro v' h'
    simp only [renF] at h'
    split at h'
    case h_2 => cases h'
    rename_i k hk
    cases h'
    exact .hp k r j l b o (by rw [hμ i k hk (by rw [h1]; simp)]; exact h1) h2
  | dp i r j _ h1 h2 =>
    intro v' h'
    simp only [renF] at h'
    split at h'
    case h_2 => cases h'
    rename_i k hk
    cases h'
    exact .dp k r j _ (by rw [hμ i k hk (by rw [h1]; simp)]; exact h1) h2
  | hs i off len cap l h1 h2 h3 h4 =>
    intro v' h'
    simp only [renF] at h'
    split at h'
    case h_2 => cases h'
    rename_i k hk
    cases h'
    exact .hs k off len cap l (by rw [hμ i k hk (by rw [h1]; simp)]; exact h1) h2 h3 h4
  | hs0 i off ad l h1 =>
    intro v' h'
    simp only [renF] at h'
    split at h'
    case h_2 => cases h'
    rename_i k hk
    cases h'
    exact .hs0 k off ad l (by rw [hμ i k hk (by rw [h1]; simp)]; exact h1)
  | ds i off len _ h1 h2 =>
    intro v' h'
    simp only [renF] at h'
    split at h'
    case h_2 => cases h'
    rename_i k hk
    cases h'
    exact .ds k off len _ (by rw [hμ i k hk (by rw [h1]; simp)]; exact h1) h2
  | hw i cap l h1 h2 h3 =>
    intro v' h'
    simp only [renF] at h'
    split at h'
    case h_2 => cases h'
    rename_i k hk
    cases h'
    exact .hw k cap l (by rw [hμ i k hk (by rw [h1]; simp)]; exact h1) h2 h3
  | hw0 i ad l h1 h2 =>
    intro v' h'
    simp only [renF] at h'
    split at h'
    case h_2 => cases h'
    rename_i k hk
    cases h'
    exact .hw0 k ad l (by rw [hμ i k hk (by rw [h1]; simp)]; exact h1) h2
  | dw i _ h1 h2 =>
    intro v' h'
    simp only [renF] at h'
    split at h'
    case h_2 => cases h'
    rename_i k hk
    cases h'
    exact .dw k _ (by rw [hμ i k hk (by rw [h1]; simp)]; exact h1) h2
  | hz ad => intro v' h'; simp only [renF, Option.some.injEq] at h'; subst h'; exact .hz ad
  | yl i l b h1 h2 =>
    intro v' h'
    simp only [renF] at h'
    split at h'
    case h_2 => cases h'
    rename_i k hk
    cases h'
    exact .yl k l b (by rw [hμ i k hk (by rw [h1]; simp)]; exact h1) h2
  | dy i _ h1 h2 =>
    intro v' h'
    simp only [renF] at h'
    split at h'
    case h_2 => cases h'
    rename_i k hk
    cases h'
    exact .dy k _ (by rw [hμ i k hk (by rw [h1]; simp)]; exact h1) h2
  | ag l cs h1 h2 h3 ih =>
    intro v' h'
    simp only [renF] at h'
    split at h'
    case h_2 => cases h'
    rename_i l' hl'
    cases h'
    obtain ⟨g1, g2⟩ := renL_eq hl'
    exact .ag _ _ (by omega) h2 fun j h h' => ih j (by omega) h' (g2 j (by omega) h)
  | fn f a b fs cs h1 h2 h3 h4 i1 i2 =>
    intro v' h'
    simp only [renF] at h'
    split at h'
    case h_2 => cases h'
    rename_i a' ha
    split at h'
    case h_2 => cases h'
    rename_i b' hb
    cases h'
    obtain ⟨g1, g2⟩ := renL_eq ha
    obtain ⟨g3, g4⟩ := renL_eq hb
    exact .fn _ _ _ _ _ (by omega) (by omega) (fun j h h' => i1 j (by omega) h' (g2 j (by omega) h)) fun j h h' => i2 j (by omega) h' (g4 j (by omega) h)
  | tp l cs h1 h2 ih =>
    intro v' h'
    simp only [renF] at h'
    split at h'
    case h_2 => cases h'
    rename_i l' hl'
    cases h'
    obtain ⟨g1, g2⟩ := renL_eq hl'
    exact .tp _ _ (by omega) fun j h h' => ih j (by omega) h' (g2 j (by omega) h)

def renLL (σ : Nat → Option Nat) : List (List V) → Option (List (List V))
  | [] => some []
  | v :: l => match renF.renL σ v with
    | some v' => match renLL σ l with
      | some l' => some (v' :: l')
      | none => none
    | none => none

def renO (σ : Nat → Option Nat) : Ob → Option Ob
  | .bx cells => match renF.renL σ cells with
    | some l => some (.bx l)
    | none => none
  | .co k rows => some (.co k rows)
  | .vo k rows => match renLL σ rows with
    | some l => some (.vo k l)
    | none => none
  | .ot o => some (.ot o)
  | .lp st pend fn N e params asg body => match envM (renF σ) e with
    | some e' => some (.lp st pend fn N e' params asg body)
    | none => none

theorem renLL_eq {σ : Nat → Option Nat} {l r : List (List V)} (h : renLL σ l = some r) : r.length = l.length ∧ ∀ j (h : j < l.length) (h' : j < r.length), renF.renL σ l[j] = some r[j] := by
  induction l generalizing r with
  | nil => simp [renLL] at h; subst h; exact ⟨rfl, fun j h => by simp at h⟩
  | cons x l ih =>
    simp only [renLL] at h
    split at h
    case h_2 => cases h
    rename_i y hy
    split at h
    case h_2 => cases h
    rename_i r' hr
    cases h
    obtain ⟨h1, h2⟩ := ih hr
    refine ⟨by simp [h1], fun j h h' => ?_⟩
    cases j with
    | zero => exact hy
    | succ j => simpa using h2 j (by simpa using h) (by simpa using h')

theorem OR.ren {s2 s : St} {σ : Nat → Option Nat} (hμ : ∀ p k, σ p = some k → s2.μ p ≠ .free → s.μ k = s2.μ p) (hi : ∀ b, s2.imm b → s.imm b) (hw : s.w = s2.w) {ob ob' : Ob} {l : Loc} (h : OR s2 ob l) (h' : renO σ ob = some ob') : OR s ob' l := by
  have hc : ∀ {x : C} {v : Value}, SCR s2 x v → SCR s x v := fun h => CR.mono (fun b hb => ⟨hi b hb, by rw [hw]⟩) h
  cases h with
  | bx cells b cs t fz _ h1 h2 h3 h4 h5 =>
    simp only [renO] at h'
    split at h'
    case h_2 => cases h'
    rename_i l' hl'
    cases h'
    obtain ⟨g1, g2⟩ := renL_eq hl'
    exact .bx l' b cs t fz _ h1 (by rw [hw]; exact h2) h3 (by omega) fun j a b => (h5 j (by omega) b).ren hμ hi hw (g2 j (by omega) a)
  | co0 k rows h0 => simp only [renO, Option.some.injEq] at h'; subst h'; exact .co0 k rows h0
  | co k rows b o cs t fz cmax h1 h2 h3 h4 h5 h6 =>
    simp only [renO, Option.some.injEq] at h'
    subst h'
    exact .co k rows b o cs t fz cmax (by rw [hw]; exact h1) h2 h3 h4 h5 fun i hi' j hj hc' => hc (h6 i hi' j hj hc')
  | vo k rows b o cs t fz cmax h1 h2 h3 h4 h5 h6 =>
    simp only [renO] at h'
    split at h'
    case h_2 => cases h'
    rename_i l' hl'
    cases h'
    obtain ⟨g1, g2⟩ := renLL_eq hl'
    have := OR.vo (s := s) k l' b o cs t fz cmax (by rw [hw]; exact h1) h2 h3 (by omega) (fun i hi' => by
      have := (renL_eq (g2 i (by omega) hi')).1
      rw [this]; exact h5 i (by omega)) fun i hi' j hj hc' => by
      obtain ⟨g3, g4⟩ := renL_eq (g2 i (by omega) hi')
      exact (h6 i (by omega) j (by omega) hc').ren hμ hi hw (g4 j (by omega) hj)
    rw [g1] at this
    exact this
  | ot o b _ h1 h2 => simp only [renO, Option.some.injEq] at h'; subst h'; exact .ot o b _ h1 (by rw [hw]; exact h2)
  | lp st pend fn N e params asg body b _ tmps df h1 h2 h3 h4 =>
    simp only [renO] at h'
    split at h'
    case h_2 => cases h'
    rename_i e' he'
    cases h'
    exact .lp _ _ _ _ _ _ _ _ b _ tmps df h1 (by rw [hw]; exact h2) h3 fun t v' hv => by
      obtain ⟨v, g1, g2⟩ := envM_eq he' t v' hv
      exact (h4 t v g1).ren hμ hi hw g2

/-! ### Calls -/
def Runs (P : Program) (cf : Value) (cargs : Array Value) (w : World) (fr : Frame) : Prop :=
  (∃ f a, (do let d ← Deferred.ofValue cf cargs; invoke d.target d.args : Sem Next).run P w = .ok (.enter f a) w ∧ fr = Frame.enter P f a .normal) ∨
  (∃ l f t a b, (do let d ← Deferred.ofValue cf cargs; invoke d.target d.args : Sem Next).run P w = .ok (.round l f t a b) w ∧ fr = Frame.round l f t a b .normal)

/-- A function's value is called. -/
def DApp (P : Program) (fv : V) (args : List V) (m : Nat) (h : Heap) (Q : V → Heap → Prop) : Prop :=
  ∀ (s : St) (cf : Value) (cargs : Array Value), HL s h → VR s fv cf → VRs s args cargs → ∀ (c : Frame) (cs : List Frame),
    ∃ fr r v s' h', Runs P cf cargs s.w fr ∧ Steps P (lone fr (c :: cs) s.w) (lone (c.finish r) cs s'.w) ∧ Ext (s.park m) s' ∧ HL s' h' ∧ VR s' v r ∧ Q v h'

def Enters (P : Program) (f : FuncId) : Prop := ∀ args w, (callFunc f args).run P w = .ok (.enter f args) w

/-- A function is called. -/
def DCalls (P : Program) (f : FuncId) (args : List V) (m : Nat) (h : Heap) (Q : V → Heap → Prop) : Prop :=
  Enters P f ∧ ∀ (s : St) (cargs : Array Value), HL s h → VRs s args cargs → ∀ (c : Frame) (cs : List Frame),
    ∃ r v s' h', Steps P (lone (Frame.enter P f cargs .normal) (c :: cs) s.w) (lone (c.finish r) cs s'.w) ∧ Ext (s.park m) s' ∧ HL s' h' ∧ VR s' v r ∧ Q v h'

theorem DCalls.mono {f : FuncId} {args : List V} {m : Nat} {h : Heap} {Q Q' : V → Heap → Prop} (hd : DCalls P f args m h Q) (hq : ∀ v h, Q v h → Q' v h) : DCalls P f args m h Q' :=
  ⟨hd.1, fun s cargs h1 h2 c cs => by
    obtain ⟨r, v, s', h', g1, g2, g3, g4, g5⟩ := hd.2 s cargs h1 h2 c cs
    exact ⟨r, v, s', h', g1, g2, g3, g4, hq _ _ g5⟩⟩

theorem DApp.mono {fv : V} {args : List V} {m : Nat} {h : Heap} {Q Q' : V → Heap → Prop} (hd : DApp P fv args m h Q) (hq : ∀ v h, Q v h → Q' v h) : DApp P fv args m h Q' :=
  fun s cf cargs h1 h2 h3 c cs => by
    obtain ⟨fr, r, v, s', h', g0, g1, g2, g3, g4, g5⟩ := hd s cf cargs h1 h2 h3 c cs
    exact ⟨fr, r, v, s', h', g0, g1, g2, g3, g4, hq _ _ g5⟩

theorem DApp.func {f : FuncId} {args : List V} {m : Nat} {h : Heap} {Q : V → Heap → Prop} (hd : DCalls P f args m h Q) : DApp P (.c (.v (.func (.func f) #[] #[]))) args m h Q := by
  intro s cf cargs h1 h2 h3 c cs
  have := h2.raw
  subst this
  obtain ⟨r, v, s', h', g⟩ := hd.2 s cargs h1 h3 c cs
  refine ⟨_, r, v, s', h', .inl ⟨f, cargs, ?_, rfl⟩, g⟩
  simp only [Deferred.ofValue, invoke, Sem.run_bind, Sem.run_pure, Result.andThen_ok, Array.empty_append, Array.append_empty]
  exact hd.1 _ _

theorem VRs.append {s : St} {l1 l2 : List V} {a1 a2 : Array Value} (h1 : VRs s l1 a1) (h2 : VRs s l2 a2) : VRs s (l1 ++ l2) (a1 ++ a2) := by
  refine ⟨by simp [h1.1, h2.1], fun j h h' => ?_⟩
  rw [List.getElem_append, Array.getElem_append]
  by_cases hj : j < l1.length
  · have hj' : j < a1.size := by rw [← h1.1]; exact hj
    rw [dif_pos hj, dif_pos hj']
    exact h1.2 j hj hj'
  · have hj' : ¬ j < a1.size := by rw [← h1.1]; exact hj
    rw [dif_neg hj, dif_neg hj']
    have := h2.2 (j - l1.length) (by simp at h; omega) (by have := h1.1; simp at h'; omega)
    have e : l1.length = a1.size := h1.1
    simp only [e] at this ⊢
    exact this

theorem DApp.clo {f : FuncId} {caps args : List V} {m : Nat} {h : Heap} {Q : V → Heap → Prop} (hd : DCalls P f (args ++ caps) m h Q) : DApp P (.fn (.func f) [] caps) args m h Q := by
  intro s cf cargs h1 h2 h3 c cs
  cases h2 with
  | fn _ _ _ fs cc g1 g2 g3 g4 =>
    have hfs : fs = #[] := Array.eq_empty_of_size_eq_zero (by simpa using g1.symm)
    subst hfs
    obtain ⟨r, v, s', h', g⟩ := hd.2 s (cargs ++ cc) h1 (h3.append ⟨g2, g4⟩) c cs
    refine ⟨_, r, v, s', h', .inl ⟨f, cargs ++ cc, ?_, rfl⟩, g⟩
    simp only [Deferred.ofValue, invoke, Sem.run_bind, Sem.run_pure, Result.andThen_ok, Array.empty_append]
    exact hd.1 _ _

theorem DApp.cloG {f : FuncId} {first caps args : List V} {m : Nat} {h : Heap} {Q : V → Heap → Prop} (hd : DCalls P f (first ++ args ++ caps) m h Q) : DApp P (.fn (.func f) first caps) args m h Q := by
  intro s cf cargs h1 h2 h3 c cs
  cases h2 with
  | fn _ _ _ fs cc g1 g2 g3 g4 =>
    obtain ⟨r, v, s', h', g⟩ := hd.2 s (fs ++ cargs ++ cc) h1 ((VRs.append ⟨g1, g3⟩ h3).append ⟨g2, g4⟩) c cs
    refine ⟨_, r, v, s', h', .inl ⟨f, fs ++ cargs ++ cc, ?_, rfl⟩, g⟩
    simp only [Deferred.ofValue, invoke, Sem.run_bind, Sem.run_pure, Result.andThen_ok]
    exact hd.1 _ _

theorem DApp.cloGC {f : FuncId} {first caps : List C} {args : List V} {m : Nat} {h : Heap} {Q : V → Heap → Prop} (hd : DCalls P f (first.map .c ++ args ++ caps.map .c) m h Q) : DApp P (.c (.fn (.func f) first caps)) args m h Q := by
  intro s cf cargs h1 h2 h3 c cs
  cases h2 with
  | c _ _ h2 =>
    cases h2 with
    | fn _ _ _ fs cc g1 g2 g3 g4 =>
      have hvr : VRs s (caps.map .c) cc := ⟨by simpa using g2, fun j h h' => by simp only [List.getElem_map]; exact .c _ _ (g4 j (by simpa using h) h')⟩
      have hvf : VRs s (first.map .c) fs := ⟨by simpa using g1, fun j h h' => by simp only [List.getElem_map]; exact .c _ _ (g3 j (by simpa using h) h')⟩
      obtain ⟨r, v, s', h', g⟩ := hd.2 s (fs ++ cargs ++ cc) h1 ((hvf.append h3).append hvr) c cs
      refine ⟨_, r, v, s', h', .inl ⟨f, fs ++ cargs ++ cc, ?_, rfl⟩, g⟩
      simp only [Deferred.ofValue, invoke, Sem.run_bind, Sem.run_pure, Result.andThen_ok]
      exact hd.1 _ _

theorem DApp.cloC {f : FuncId} {caps : List C} {args : List V} {m : Nat} {h : Heap} {Q : V → Heap → Prop} (hd : DCalls P f (args ++ caps.map .c) m h Q) : DApp P (.c (.fn (.func f) [] caps)) args m h Q := by
  intro s cf cargs h1 h2 h3 c cs
  cases h2 with
  | c _ _ h2 =>
    cases h2 with
    | fn _ _ _ fs cc g1 g2 g3 g4 =>
      have hfs : fs = #[] := Array.eq_empty_of_size_eq_zero (by simpa using g1.symm)
      subst hfs
      have hvr : VRs s (caps.map .c) cc := ⟨by simpa using g2, fun j h h' => by simp only [List.getElem_map]; exact .c _ _ (g4 j (by simpa using h) h')⟩
      obtain ⟨r, v, s', h', g⟩ := hd.2 s (cargs ++ cc) h1 (h3.append hvr) c cs
      refine ⟨_, r, v, s', h', .inl ⟨f, cargs ++ cc, ?_, rfl⟩, g⟩
      simp only [Deferred.ofValue, invoke, Sem.run_bind, Sem.run_pure, Result.andThen_ok, Array.empty_append]
      exact hd.1 _ _

end Go.Lift
