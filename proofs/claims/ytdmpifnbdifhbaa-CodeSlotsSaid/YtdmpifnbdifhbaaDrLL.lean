/- Ranges over functions. -/
import Derived.Test.YtdmpifnbdifhbaaDrLK
namespace Go.Lift
variable {P : Program}

section
variable {b : Frame} {a : Act} {k : List Item} {cs : List Frame} {w : World}

theorem stepR_rangeG {g : Operand} {ps : Array Tmp} {asg body : Code} {l : Nat} {mark : List Deferred} {w₁ : World} {fr : Frame}
    (he : (Instr.enterLoop b.fn a.tmps ps asg body b.roundOf).run P w = .ok (l, mark) w₁) (hr : Runs P (a.eval g) #[.func (.yield l) #[] #[]] w₁ fr) :
    step P (lone (b.atR a (.code (.rangeFunc g ps asg body) :: k)) cs w) = .next (lone fr (b.atR { a with defers := mark ++ a.defers } (.inRangeFunc l :: k) :: cs) w₁) := by
  have hev := Frame.eval_atR b { a with defers := mark ++ a.defers } (.inRangeFunc l :: k)
  simp only [Frame.atR] at hev
  have hres : resolve ({ tmps := a.tmps, defers := mark ++ a.defers } : Act).eval { callee := .value g, args := #[.const (.func (.yield l) #[] #[])], argTypes := #[] } 0 =
      Deferred.ofValue (a.eval g) #[.func (.yield l) #[] #[]] := by cases g <;> simp [resolve, Act.eval]
  rcases hr with ⟨f, as, h1, rfl⟩ | ⟨l', f, t, x, y, h1, rfl⟩
  · refine step_lone_go ?_
    simp only [Sem.run_bind] at h1
    simp [stepG, stepG.exec, Frame.atR, Sem.runT_eq, he, GStep.bare_after, stepG.apply, hev, Sem.run_bind, hres, h1]
  · refine step_lone_go ?_
    simp only [Sem.run_bind] at h1
    simp [stepG, stepG.exec, Frame.atR, Sem.runT_eq, he, GStep.bare_after, stepG.apply, hev, Sem.run_bind, hres, h1]
end

/-! ### Rounds -/
def roundFrame (l : Nat) (f : FuncId) : Frame := { fn := f, tmps := #[], todo := [], defers := [], mode := .run, kind := .normal, roundOf := some l }

/-- The round comes to its end so. -/
def EndsR (P : Program) (s0 : St) (Q : V → Heap → Prop) (fr : Frame) (s : St) : Prop :=
  ∃ r v h s2, (∀ c cs, Steps P (lone fr (c :: cs) s.w) (lone (c.finish r) cs s2.w)) ∧ Ext s0 s2 ∧ HL s2 h ∧ VR s2 v r ∧ Q v h

def setArgs : Env → List Nat → List V → Option Env
  | e, [], [] => some e
  | e, t :: ts, v :: vs => match setE e t (some v) with
    | some e' => setArgs e' ts vs
    | none => none
  | _, _, _ => none

theorem setArgs_ok {s : St} : ∀ {ps : List Nat} {args : List V} {e e' : Env} {cargs : List Value} {tmps : Array Value}, setArgs e ps args = some e' → args.length = cargs.length → (∀ j (h : j < args.length) (h' : j < cargs.length), VR s args[j] cargs[j]) →
    (∀ t ∈ ps, t < tmps.size) → (∀ t v, lk e t = some v → VR s v (tmps.getD t undef)) →
    ps.length = cargs.length ∧ ((ps.zip cargs).foldl (fun (tm : Array Value) (p : Nat × Value) => tm.setIfInBounds p.1 p.2) tmps).size = tmps.size ∧
      ∀ t v, lk e' t = some v → VR s v (((ps.zip cargs).foldl (fun (tm : Array Value) (p : Nat × Value) => tm.setIfInBounds p.1 p.2) tmps).getD t undef) := by
  intro ps
  induction ps with
  | nil =>
    intro args e e' cargs tmps h hl _ _ he
    cases args with
    | cons => cases h
    | nil =>
      simp only [setArgs, Option.some.injEq] at h
      subst h
      cases cargs with
      | cons => simp at hl
      | nil => exact ⟨rfl, rfl, he⟩
  | cons t ts ih =>
    intro args e e' cargs tmps h hl hv hin he
    cases args with
    | nil => cases h
    | cons v vs =>
      simp only [setArgs] at h
      split at h
      case h_2 => cases h
      rename_i e1 he1
      cases cargs with
      | nil => simp at hl
      | cons c cargs =>
        obtain ⟨g1, g2, g3⟩ := ih (tmps := tmps.setIfInBounds t c) h (by simpa using hl) (fun j h1 h2 => hv (j + 1) (by simpa using h1) (by simpa using h2)) (fun x hx => by
          rw [Array.size_setIfInBounds]; exact hin x (List.mem_cons_of_mem _ hx)) (fun x u hu => by
          rw [setE_eq he1] at hu
          split at hu
          · rename_i htx
            subst htx
            cases hu
            have := hin t (List.mem_cons_self ..)
            have e9 : (tmps.setIfInBounds t c).getD t undef = c := by simp [Array.getD_eq_getD_getElem?, this]
            rw [e9]
            exact hv 0 (by simp) (by simp)
          · rename_i htx
            have e9 : (tmps.setIfInBounds t c).getD x undef = tmps.getD x undef := by simp only [Array.getD_eq_getD_getElem?, Array.getElem?_setIfInBounds_ne htx]
            rw [e9]
            exact he x u hu)
        refine ⟨by simp [g1], ?_, ?_⟩
        · simp only [List.zip_cons_cons, List.foldl_cons]
          rw [g2, Array.size_setIfInBounds]
        · simp only [List.zip_cons_cons, List.foldl_cons]
          exact g3

def allLt : List Nat → Nat → Bool
  | [], _ => true
  | t :: l, N => match Nat.blt t N with
    | true => allLt l N
    | false => false
theorem allLt_eq {l : List Nat} {N : Nat} (h : allLt l N = true) : ∀ t ∈ l, t < N := by
  induction l with
  | nil => intro t ht; cases ht
  | cons x l ih =>
    simp only [allLt] at h
    split at h
    case h_2 => cases h
    rename_i hx
    intro t ht
    cases ht with
    | head => simpa using hx
    | tail _ ht => exact ih h t ht

/-- Yield is called: a round. -/
theorem DApp.yl {i m : Nat} {h : Heap} {args : List V} {pend : Option Code} {fn : FuncId} {N : Nat} {e e' : Env} {params : List Nat} {asg body : Code} {Q : V → Heap → Prop} (hob : look h i = some (.lp .ready pend fn N e params asg body)) (him : i < m)
    (henv : setArgs e params args = some e') (hlt : allLt params N = true)
    (hw : ∀ s0 lb, (∀ i, m ≤ i → i < 1000 → s0.μ i = .free) → (∃ lc, s0.μ i = .live lc ∧ lc.base = some (lb, 0)) → Wp P (roundFrame lb fn) N s0 (EndsR P s0 Q) [.code asg, .beginRound, .code body] [] e' h) :
    DApp P (.yl i) args m h Q := by
  intro s cf cargs hl hf ha c cs
  obtain ⟨lc, g1, g2⟩ := hl.hr.obj i _ hob
  cases g2 with
  | lp _ _ _ _ _ _ _ _ lb _ tmps df k1 k2 k3 k4 =>
    cases hf with
    | yl _ l' b' j1 j2 =>
      rw [g1] at j1
      cases j1
      rw [k1] at j2
      simp at j2
      subst j2
      obtain ⟨p1, p2, p3⟩ := setArgs_ok (s := s) (cargs := cargs.toList) (tmps := tmps) henv (by simpa using ha.1) (fun j h h' => by simpa using ha.2 j h (by simpa using h')) (fun t ht => by rw [k3]; exact allLt_eq hlt t ht) k4
      have hrun := run_yield (P := P) (w := s.w) (args := cargs) k2 (by simpa using p1.symm)
      have hpos : (s.park m).μ i = .live lc := by simp only [St.park]; rw [if_pos him]; exact g1
      obtain ⟨fr, s', q1, q2, r, v, h', s2, q3, q4, q5, q6, q7⟩ := hw (s.park m) lb (fun i h1 h2 => by simp only [St.park]; rw [if_neg (by omega), if_pos h2]) ⟨lc, hpos, k1⟩
        ⟨(params.zip cargs.toList).foldl (fun (tm : Array Value) (p : Nat × Value) => tm.setIfInBounds p.1 p.2) tmps, []⟩ s ⟨p3, hl, by rw [← k3]; exact p2, trivial⟩ (ext_park hl.high) (c :: cs)
      refine ⟨_, r, v, s2, h', .inr ⟨lb, fn, (params.toArray.zip cargs).foldl (fun (tm : Array Value) (p : Nat × Value) => tm.setIfInBounds p.1 p.2) tmps, asg, body, ?_, rfl⟩, Steps.trans ?_ (q3 c cs), q4, q5, q6, q7⟩
      · simp only [Deferred.ofValue, invoke, Sem.run_bind, Sem.run_pure, Result.andThen_ok, Array.empty_append]
        exact hrun
      · have e1 : ((params.toArray.zip cargs).foldl (fun (tm : Array Value) (p : Nat × Value) => tm.setIfInBounds p.1 p.2) tmps) = (params.zip cargs.toList).foldl (fun (tm : Array Value) (p : Nat × Value) => tm.setIfInBounds p.1 p.2) tmps := by
          rw [← Array.foldl_toList]
          simp
        have e2 : Frame.round lb fn ((params.toArray.zip cargs).foldl (fun (tm : Array Value) (p : Nat × Value) => tm.setIfInBounds p.1 p.2) tmps) asg body .normal =
            (roundFrame lb fn).atR ⟨(params.zip cargs.toList).foldl (fun (tm : Array Value) (p : Nat × Value) => tm.setIfInBounds p.1 p.2) tmps, []⟩ [.code asg, .beginRound, .code body] := by
          rw [e1]; rfl
        rw [← e2] at q1
        exact q1
    | dy _ _ j1 => rw [g1] at j1; cases j1

section
variable {b : Frame} {N : Nat} {s0 : St} {R : Frame → St → Prop} {k : List Item} {ds : List DV} {e : Env} {h : Heap}

/-- The loop's object lies where the frame's round says. -/
theorem loop_at {s : St} {i lb : Nat} {st : LoopState} {pend : Option Code} {fn : FuncId} {N' : Nat} {e' : Env} {ps : List Nat} {asg body : Code} (hi : ∃ lc, s0.μ i = .live lc ∧ lc.base = some (lb, 0)) (he : Ext s0 s) (hl : HL s h)
    (hob : look h i = some (.lp st pend fn N' e' ps asg body)) : ∃ lc tmps df, s.μ i = .live lc ∧ lc.base = some (lb, 0) ∧ s.w.heap[lb]? = some (.loop ⟨st, pend, fn, tmps, ps.toArray, asg, body, df⟩) ∧ tmps.size = N' ∧
      ∀ t v, lk e' t = some v → VR s v (tmps.getD t undef) := by
  obtain ⟨lc, h1, h2⟩ := hi
  obtain ⟨lc', g1, g2⟩ := hl.hr.obj i _ hob
  cases g2 with
  | lp _ _ _ _ _ _ _ _ lb' _ tmps df k1 k2 k3 k4 =>
    rcases he.live i lc h1 with h3 | h3
    · rw [g1] at h3
      cases h3
      rw [k1] at h2
      simp at h2
      subst h2
      exact ⟨_, tmps, df, g1, k1, k2, k3, k4⟩
    · rw [g1] at h3; cases h3

theorem Wp.beginRound {i lb : Nat} {pend : Option Code} {fn : FuncId} {N' : Nat} {e' : Env} {ps : List Nat} {asg body : Code} {h' : Heap} (hb : b.roundOf = some lb) (hi : ∃ lc, s0.μ i = .live lc ∧ lc.base = some (lb, 0))
    (hob : look h i = some (.lp .ready pend fn N' e' ps asg body)) (hp : putH h i (some (.lp .busy pend fn N' e' ps asg body)) = some h') (hw : Wp P b N s0 R k ds e h') : Wp P b N s0 R (.beginRound :: k) ds e h := by
  intro a s hn he cs
  obtain ⟨lc, tmps, df, g1, g2, g3, g4, g5⟩ := loop_at hi he hn.hl hob
  obtain ⟨hx, hl2⟩ := putObj_hl (o := .loop ⟨.busy, pend, fn, tmps, ps.toArray, asg, body, df⟩) hn.hl g1 g2 hp fun s' k1 _ k3 => .lp _ _ _ _ _ _ _ _ lb _ tmps df g2 k1 g4 fun t v hv => (g5 t v hv).mono k3
  obtain ⟨fr, s', h1, h2⟩ := hw a _ ⟨fun t v hv => (hn.env t v hv).mono hx, hl2, hn.size, hn.defers.mono hx⟩ (he.trans hx) cs
  exact ⟨fr, s', .head (stepR_beginRound hb (run_beginRound g3 rfl)) h1, h2⟩

def pendOf : List Item → Option (Option Code)
  | [] => some none
  | .code .ret :: _ => some (some .ret)
  | .code (.exit id) :: k => match exitTo id k with
    | none => some (some (.exit id))
    | some _ => none
  | _ => none

def doneOf : Option Code → LoopState
  | none => .ready
  | some _ => .done
def againOf : Option Code → Bool
  | none => true
  | some _ => false

theorem Wp.roundEnd {i lb : Nat} {st : LoopState} {pend j : Option Code} {fn : FuncId} {N' : Nat} {e' : Env} {ps : List Nat} {asg body : Code} {h1 h' : Heap} {Q : V → Heap → Prop} {sel : List Nat} {n m0 : Nat} (hb : b.roundOf = some lb) (hk : b.kind = .normal)
    (hi : ∃ lc, s0.μ i = .live lc ∧ lc.base = some (lb, 0)) (hm0 : ∀ i, m0 ≤ i → i < 1000 → s0.μ i = .free) (hj : pendOf k = some j) (hob : look h i = some (.lp st pend fn N' e' ps asg body)) (hp : putH h i (some (.lp (doneOf j) j fn N' e' ps asg body)) = some h1)
    (hids : idsF m0 sel = true) (hr : selH 9 sel h1 sel = some h') (hlen : idOf sel = some n) (hl30 : ∃ x, sucT n = some x) (hnd : nodupF sel = true) (hq : Q (cb (againOf j)) h') : Wp P b N s0 (EndsR P s0 Q) k ds e h := by
  intro a s hn he cs
  obtain ⟨lc, tmps, df, g1, g2, g3, g4, g5⟩ := loop_at hi he hn.hl hob
  obtain ⟨hx, hl2⟩ := putObj_hl (o := .loop ⟨doneOf j, j, fn, tmps, ps.toArray, asg, body, df⟩) hn.hl g1 g2 hp fun s' k1 _ k3 => .lp _ _ _ _ _ _ _ _ lb _ tmps df g2 k1 g4 fun t v hv => (g5 t v hv).mono k3
  obtain ⟨d1, d2⟩ := drop_ok hl2 hr hlen hl30 hnd
  have hrun := run_endRound (P := P) j g3
  have hst : (if j.isNone = true then LoopState.ready else LoopState.done) = doneOf j := by cases j <;> rfl
  have hag : j.isNone = againOf j := by cases j <;> rfl
  rw [hst, hag] at hrun
  refine ⟨b.atR a k, s, .refl _ _, he, .bool (againOf j), cb (againOf j), h', St.sel ⟨s.μ, s.vis, s.w.putObj lb (.loop ⟨doneOf j, j, fn, tmps, ps.toArray, asg, body, df⟩)⟩ sel s.vis, fun c cs => ?_, ext_sel (he.trans hx) hm0 (len30 hlen hl30) (idsF_eq hids), d1, .c _ _ (.v _), hq⟩
  unfold pendOf at hj
  split at hj
  · cases hj; exact .one (stepR_round_end hb hk hrun)
  · cases hj; exact .one (stepR_round_ret hb hk hrun)
  · split at hj
    · rename_i hxt
      cases hj
      exact .one (stepR_round_exit hb hk hxt hrun)
    · cases hj
  · cases hj
end

/-! ### The statement -/
def keepL : List Nat → Env → Option LEnv
  | [], _ => some []
  | t :: l, e => match lk e t with
    | some v => match keepL l e with
      | some r => some ((t, some v) :: r)
      | none => none
    | none => none
theorem keepL_eq : ∀ {l : List Nat} {e : Env} {r : LEnv}, keepL l e = some r → ∀ t v, lkL r t = some v → lk e t = some v := by
  intro l
  induction l with
  | nil => intro e r h t v hv; simp [keepL] at h; subst h; cases hv
  | cons x l ih =>
    intro e r h t v hv
    simp only [keepL] at h
    split at h
    case h_2 => cases h
    rename_i u hu
    split at h
    case h_2 => cases h
    rename_i r' hr
    cases h
    simp only [lkL] at hv
    split at hv
    · rename_i hx
      have := eqN_iff.1 hx
      subst this
      cases hv
      exact hu
    · exact ih hr t v hv
/-- What a loop's object keeps of the environment: some temporaries, or all. -/
def keepF (keep : Option (List Nat)) (e : Env) : Option Env := match keep with
  | none => some e
  | some l => match keepL l e with
    | some r => some (ofL r)
    | none => none
theorem keepF_eq {l : Option (List Nat)} {e r : Env} (h : keepF l e = some r) : ∀ t v, lk r t = some v → lk e t = some v := by
  intro t v hv
  unfold keepF at h
  split at h
  · cases h; exact hv
  · split at h
    · rename_i hr; cases h; exact keepL_eq hr t v (ofL_lk hv)
    · cases h

def notBusy : LoopState → Bool
  | .busy => false
  | _ => true

def pendItems (j : Option Code) (k : List Item) : List Item := match j with
  | none => k
  | some c => .code c :: k

structure RangeOut where
  pend : Option Code
  heap : Heap
  nid : Nat
  obs : List Pr

/-- From the loop's object on. -/
def rangeTail (P : Program) (K : KT) (fv : V) (n1 : Nat) (h2 : Heap) (q : List Orc) : Option (Option Code × Heap × List Pr) :=
  match idOf h2 with
  | none => none
  | some n2 => match callE P K fv [.yl n1] (look h2) n2 q with
    | none => none
    | some ⟨⟨_, eff, _, nw⟩, ob, _⟩ => match putE h2 eff with
      | none => none
      | some h3 => match newIn h2 h3 nw with
        | false => none
        | true => match look h3 n1 with
          | some (.lp st pend fn N e ps asg body) => match notBusy st with
            | true => match putH h3 n1 (some (.lp .exhausted pend fn N e ps asg body)) with
              | some h4 => some (pend, h4, ob)
              | none => none
            | false => none
          | _ => none

section
variable {b : Frame} {N : Nat} {s0 : St} {R : Frame → St → Prop} {k : List Item} {ds : List DV} {e : Env} {h : Heap}

theorem range_core {K : KT} (hK : KOk P K) {g : Operand} {fv : V} {n1 l : Nat} {h2 h4 : Heap} {q : List Orc} {pend : Option Code} {ob : List Pr} {a : Act} {s : St} (hfv : evalF (lk e) g = some fv) (ht : rangeTail P K fv n1 h2 q = some (pend, h4, ob)) (hobs : Obs ob)
    (hn : Now e h2 N ds a s) (he : Ext s0 s) (hl : ∃ lc, s.μ n1 = .live lc ∧ lc.base = some (l, 0)) (hw : Wp P b N s0 R (pendItems pend k) ds e h4) (cs : List Frame) :
    ∃ fr0, Runs P (a.eval g) #[.func (.yield l) #[] #[]] s.w fr0 ∧ ∃ fr s', Steps P (lone fr0 (b.atR a (.inRangeFunc l :: k) :: cs) s.w) (lone fr cs s'.w) ∧ Ext s0 s' ∧ R fr s' := by
  unfold rangeTail at ht
  split at ht
  case h_1 => cases ht
  rename_i n2 hn2
  split at ht
  case h_1 => cases ht
  rename_i v eff rds nw ob' q' hc
  split at ht
  case h_1 => cases ht
  rename_i h3 hh3
  split at ht
  case h_1 => cases ht
  rename_i hnew
  split at ht
  case h_2 => cases ht
  rename_i st pend' fn N' e' ps asg body hob
  split at ht
  case h_2 => cases ht
  rename_i hnb
  split at ht
  case h_2 => cases ht
  rename_i h4' hh4
  cases ht
  obtain ⟨lc, hl1, hl2⟩ := hl
  have hnw := newIn_eq hnew
  obtain ⟨hput, hlen⟩ := putE_eq hh3
  have hfv' : VR s fv (a.eval g) := evalF_ok (fun u _ hu => hn.env u _ hu) hfv
  have hargs : VRs s [.yl n1] #[.func (.yield l) #[] #[]] := ⟨rfl, fun j h h' => by
    have : j = 0 := by simpa using h
    subst this
    exact .yl n1 lc l hl1 hl2⟩
  obtain ⟨fr0, r, s3, k1, k2, k3, k4, k5, k6⟩ := callE_ok hK hc hobs hn.hl.hr (fun _ _ => rfl) (fun i hi => hn.hl.out i (hnw i hi).1 (hnw i hi).2.2) hfv' hargs (b.atR a (.inRangeFunc l :: k)) cs
  have hl3 : HL s3 h3 := ⟨by rw [hput]; exact k4, fun i hi h1000 => k6 i (hn.hl.out i (Nat.le_trans hlen hi) h1000) fun hin => by
      have := (hnw i hin).2.1
      omega, fun i hi => k3.dead i (hn.hl.high i hi)⟩
  obtain ⟨lc', tmps, df, g1, g2, g3, g4, g5⟩ := loop_at ⟨lc, hl1, hl2⟩ k3 hl3 hob
  have hnb' : st ≠ .busy := fun h => by subst h; cases hnb
  obtain ⟨hx, hl4⟩ := putObj_hl (o := .loop ⟨.exhausted, pend, fn, tmps, ps.toArray, asg, body, df⟩) hl3 g1 g2 hh4 fun s' k1 _ k3 => .lp _ _ _ _ _ _ _ _ l _ tmps df g2 k1 g4 fun t v hv => (g5 t v hv).mono k3
  have hx3 := k3.trans hx
  obtain ⟨fr, s', m1, m2, m3⟩ := hw a _ ⟨fun t v hv => (hn.env t v hv).mono hx3, hl4, hn.size, hn.defers.mono hx3⟩ (he.trans hx3) cs
  refine ⟨fr0, k1, fr, s', ?_, m2, m3⟩
  rw [finish_atR_inRangeFunc] at k2
  refine k2.trans (.head (stepR_endRangeFunc (run_endLoop g3 hnb')) ?_)
  cases pend <;> exact m1

theorem alloc_hl {s : St} {n : Nat} {h h' : Heap} {ob : Ob} {o : Obj} (hl : HL s h) (hn : idOf h = some n) (hn30 : n < 1000) (hp : putH h n (some ob) = some h')
    (hor : ∀ s', s'.w.heap[s.w.heap.size]? = some o → Ext s s' → OR s' ob ⟨some (s.w.heap.size, 0), 0, 0, 0⟩) :
    ∃ s', s'.w = s.w.alloc o ∧ s'.μ n = .live ⟨some (s.w.heap.size, 0), 0, 0, 0⟩ ∧ Ext s s' ∧ HL s' h' := by
  have hn' := idOf_eq hn
  have hf : s.μ n = .free := hl.out n (by omega) hn30
  have he := ext_new (s := s) (i := n) (w' := s.w.alloc o) (o := o) (l := ⟨some (s.w.heap.size, 0), 0, 0, 0⟩) hf rfl rfl rfl rfl fun b x hb => by simp at hb; exact hb.1.symm
  have hlk : look h' n = some ob := by rw [putH_eq hp]; simp
  have hlt : n < h'.length := by
    rw [look_eq] at hlk
    rcases Nat.lt_or_ge n h'.length with h1 | h1
    · exact h1
    · rw [List.getElem?_eq_none h1] at hlk; cases hlk
  refine ⟨⟨upd s.μ n (.live ⟨some (s.w.heap.size, 0), 0, 0, 0⟩), s.vis, s.w.alloc o⟩, rfl, upd_same _ _ _, he, ?_, fun i hi h1000 => ?_, fun i hi => ?_⟩
  · have : look h' = upf (look h) [(n, some ob)] := by
      rw [upf_one]
      funext j
      exact putH_eq hp j
    rw [this]
    exact hr_new hl.hr hf rfl he (fun b x hb => by simp at hb; exact hb.1.symm) (hor _ (World.alloc_heap_new _ _) he)
  · show upd _ _ _ i = _
    rw [upd_ne _ _ (by omega)]
    exact hl.out i (Nat.le_trans (putH_len hp) hi) h1000
  · show upd _ _ _ i = _
    rw [upd_ne _ _ (by omega)]
    exact hl.high i hi

/-- An outermost range over a function. -/
def rangeO (P : Program) (K : KT) (fn : FuncId) (N : Nat) (g : Operand) (ps : Array Tmp) (asg body : Code) (keep : Option (List Nat)) (e : Env) (h : Heap) (q : List Orc) : Option RangeOut :=
  match evalF (lk e) g with
  | none => none
  | some fv => match keepF keep e with
    | none => none
    | some eK => match idOf h with
      | none => none
      | some n0 => match putH h n0 (some (.ot (.deferred (some [])))) with
        | none => none
        | some h1 => match idOf h1 with
          | none => none
          | some n1 => match sucT n1 with
            | none => none
            | some _ => match putH h1 n1 (some (.lp .ready none fn N eK ps.toList asg body)) with
              | none => none
              | some h2 => match rangeTail P K fv n1 h2 q with
                | none => none
                | some (pend, h4, ob) => some ⟨pend, h4, n0, ob⟩

theorem Wp.rangeO {K : KT} (hK : KOk P K) {g : Operand} {ps : Array Tmp} {asg body : Code} {keep : Option (List Nat)} {q : List Orc} {out : RangeOut} (hb : b.roundOf = none) (hr : rangeO P K b.fn N g ps asg body keep e h q = some out) (hobs : Obs out.obs)
    (hw : Wp P b N s0 R (pendItems out.pend k) (.mark out.nid :: ds) e out.heap) : Wp P b N s0 R (.code (.rangeFunc g ps asg body) :: k) ds e h := by
  intro a s hn he cs
  unfold Lift.rangeO at hr
  split at hr
  case h_1 => cases hr
  rename_i fv hfv
  split at hr
  case h_1 => cases hr
  rename_i eK heK
  split at hr
  case h_1 => cases hr
  rename_i n0 hn0
  split at hr
  case h_1 => cases hr
  rename_i h1 hh1
  split at hr
  case h_1 => cases hr
  rename_i n1 hn1
  split at hr
  case h_1 => cases hr
  rename_i n2 hn2
  split at hr
  case h_1 => cases hr
  rename_i h2 hh2
  split at hr
  case h_1 => cases hr
  rename_i pend h4 ob ht
  cases hr
  have hlt1 := sucT_lt hn2
  have hlt0 : n0 < 1000 := by
    have e1 := idOf_eq hn0
    have e2 := idOf_eq hn1
    have := putH_len hh1
    omega
  obtain ⟨s1, w1, m1, x1, l1⟩ := alloc_hl (o := .deferred (some [])) hn.hl hn0 hlt0 hh1 fun s' k1 _ => .ot _ _ _ rfl k1
  obtain ⟨s2, w2, m2, x2, l2⟩ := alloc_hl (o := .loop { state := .ready, pending := none, fn := b.fn, tmps := a.tmps, params := ps, assign := asg, body := body, defers := s.w.heap.size }) l1 hn1 (by omega) hh2
    fun s' k1 k2 => .lp _ _ _ _ _ _ _ _ s1.w.heap.size _ a.tmps s.w.heap.size rfl (by simpa using k1) hn.size fun t v hv => ((hn.env t v (keepF_eq heK t v hv)).mono x1).mono k2
  have hsz1 : s1.w.heap.size = s.w.heap.size + 1 := by rw [w1]; exact Array.size_push ..
  have hx12 := x1.trans x2
  have hrun := run_enterLoop_outer (P := P) (w := s.w) b.fn a.tmps ps asg body
  rw [← w1, ← w2] at hrun
  have hnow : Now e h2 N (.mark n0 :: ds) { a with defers := [{ target := .collected s.w.heap.size, args := #[] }] ++ a.defers } s2 :=
    ⟨fun t v hv => (hn.env t v hv).mono hx12, l2, hn.size, ⟨_, rfl, by
      rcases x2.live n0 _ m1 with h9 | h9
      · exact .inl ⟨_, h9, rfl⟩
      · exact .inr h9⟩, hn.defers.mono hx12⟩
  obtain ⟨fr0, r1, fr, s', r2, r3, r4⟩ := range_core hK (b := b) (k := k) (a := { a with defers := [{ target := .collected s.w.heap.size, args := #[] }] ++ a.defers }) hfv ht hobs hnow (he.trans hx12) ⟨_, m2, rfl⟩ hw cs
  rw [hsz1] at r1 r2
  have hev : ({ a with defers := [{ target := .collected s.w.heap.size, args := #[] }] ++ a.defers } : Act).eval g = a.eval g := by cases g <;> rfl
  rw [hev] at r1
  refine ⟨fr, s', .head (stepR_rangeG (by rw [hb]; exact hrun) r1) r2, r3, r4⟩

/-- A range over a function within a round. -/
def rangeI (P : Program) (K : KT) (fn : FuncId) (N : Nat) (g : Operand) (ps : Array Tmp) (asg body : Code) (keep : Option (List Nat)) (e : Env) (h1 : Heap) (q : List Orc) : Option RangeOut :=
  match evalF (lk e) g with
  | none => none
  | some fv => match keepF keep e with
    | none => none
    | some eK => match idOf h1 with
      | none => none
      | some n1 => match sucT n1 with
        | none => none
        | some _ => match putH h1 n1 (some (.lp .ready none fn N eK ps.toList asg body)) with
          | none => none
          | some h2 => match rangeTail P K fv n1 h2 q with
            | none => none
            | some (pend, h4, ob) => some ⟨pend, h4, n1, ob⟩

theorem Wp.rangeI {K : KT} (hK : KOk P K) {i lb : Nat} {st : LoopState} {pd : Option Code} {fn' : FuncId} {N' : Nat} {e' : Env} {ps' : List Nat} {asg' body' : Code} {g : Operand} {ps : Array Tmp} {asg body : Code} {keep : Option (List Nat)} {q : List Orc} {out : RangeOut}
    (hb : b.roundOf = some lb) (hi : ∃ lc, s0.μ i = .live lc ∧ lc.base = some (lb, 0)) (hob : look h i = some (.lp st pd fn' N' e' ps' asg' body'))
    (hr : rangeI P K b.fn N g ps asg body keep e h q = some out) (hobs : Obs out.obs)
    (hw : Wp P b N s0 R (pendItems out.pend k) ds e out.heap) : Wp P b N s0 R (.code (.rangeFunc g ps asg body) :: k) ds e h := by
  intro a s hn he cs
  unfold Lift.rangeI at hr
  split at hr
  case h_1 => cases hr
  rename_i fv hfv
  split at hr
  case h_1 => cases hr
  rename_i eK heK
  split at hr
  case h_1 => cases hr
  rename_i n1 hn1
  split at hr
  case h_1 => cases hr
  rename_i n2 hn2
  split at hr
  case h_1 => cases hr
  rename_i h2 hh2
  split at hr
  case h_1 => cases hr
  rename_i pend h4 ob ht
  cases hr
  have hlt1 := sucT_lt hn2
  obtain ⟨lc, tmps, df, g1, g2, g3, g4, g5⟩ := loop_at hi he hn.hl hob
  obtain ⟨s2, w2, m2, x2, l2⟩ := alloc_hl (o := .loop { state := .ready, pending := none, fn := b.fn, tmps := a.tmps, params := ps, assign := asg, body := body, defers := df }) hn.hl hn1 (by omega) hh2
    fun s' k1 k2 => .lp _ _ _ _ _ _ _ _ s.w.heap.size _ a.tmps df rfl (by simpa using k1) hn.size fun t v hv => (hn.env t v (keepF_eq heK t v hv)).mono k2
  have hrun : (Instr.enterLoop b.fn a.tmps ps asg body (some lb)).run P s.w = .ok (s.w.heap.size, []) s2.w := by
    rw [w2]
    unfold Instr.enterLoop
    simp only [Sem.run_bind, run_getLoop g3, run_newObj_alloc, Result.andThen_ok, Sem.run_pure]
  have hnow : Now e h2 N ds { a with defers := [] ++ a.defers } s2 := ⟨fun t v hv => (hn.env t v hv).mono x2, l2, hn.size, hn.defers.mono x2⟩
  obtain ⟨fr0, r1, fr, s', r2, r3, r4⟩ := range_core hK (b := b) (k := k) (a := { a with defers := [] ++ a.defers }) hfv ht hobs hnow (he.trans x2) ⟨_, m2, rfl⟩ hw cs
  refine ⟨fr, s', .head (stepR_rangeG (by rw [hb]; exact hrun) r1) r2, r3, r4⟩
end

end Go.Lift
