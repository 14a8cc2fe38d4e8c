/- A region at data level: whatever order the model draws, the values are those of the text's order. -/
import Derived.Test.YtdmpifnbdifhbaaDrL0
import Derived.Orders
namespace Go.Lift
variable {P : Program}

/-! ### One operation -/
def OpGoes (P : Program) (b : Frame) (o : Oper) (a : Act) (w : World) (v : Value) (w' : World) : Prop :=
  ∀ (ops : Array Oper) (i : Nat) (rest : List Nat) (k : List Item) (cs : List Frame), ops[i]? = some o → Region.wanted o (yielded ops a.tmps) = true →
    Steps P (lone (b.atR a (.inRegion ops (i :: rest) :: k)) cs w) (lone (b.atR (a.put o.dst v) (.inRegion ops rest :: k)) cs w')

theorem goes_value {b : Frame} {o : Oper} {a : Act} {w w' : World} {v : Value} (h : (o.semAt b.roundOf a.eval).run P w = .ok (.value v) w') : OpGoes P b o a w v w' := by
  intro ops i rest k cs ho hw
  refine .one (step_lone_go ?_)
  rw [stepGR_op ho hw]
  have e := Frame.finish_atR b a ops i rest k
  rw [ho] at e
  simp only [Option.bind_some] at e
  simp [stepG.apply, Sem.runT_eq, h, e]

theorem goes_skip {b : Frame} {o : Oper} {a : Act} {w w' : World} (h : (o.semAt b.roundOf a.eval).run P w = .ok .skip w') : OpGoes P b o a w undef w' := by
  intro ops i rest k cs ho hw
  refine .one (step_lone_go ?_)
  rw [stepGR_op ho hw]
  have e := Frame.finish_atR b a ops i rest k
  rw [ho] at e
  simp only [Option.bind_some] at e
  simp [stepG.apply, Sem.runT_eq, h, e]

theorem goes_call {b : Frame} {o : Oper} {a : Act} {w w1 w' : World} {v : Value} {f : FuncId} {args : Array Value}
    (h : (o.semAt b.roundOf a.eval).run P w = .ok (.enter f args) w1)
    (hc : ∀ (c : Frame) (cs : List Frame), Steps P (lone (Frame.enter P f args .normal) (c :: cs) w1) (lone (c.finish v) cs w')) : OpGoes P b o a w v w' := by
  intro ops i rest k cs ho hw
  refine Steps.trans (.one (step_lone_go (fr' := Frame.enter P f args .normal) (cs' := b.atR a (.inRegion ops (i :: rest) :: k) :: cs) (w' := w1) ?_)) ?_
  · rw [stepGR_op ho hw]
    simp [stepG.apply, Sem.runT_eq, h, Frame.atR]
  · have := hc (b.atR a (.inRegion ops (i :: rest) :: k)) cs
    rw [Frame.finish_atR, ho] at this
    exact this

theorem goes_round {b : Frame} {o : Oper} {a : Act} {w w1 w' : World} {v : Value} {l : Nat} {f : FuncId} {tmps : Array Value} {asg body : Code}
    (h : (o.semAt b.roundOf a.eval).run P w = .ok (.round l f tmps asg body) w1)
    (hc : ∀ (c : Frame) (cs : List Frame), Steps P (lone (Frame.round l f tmps asg body .normal) (c :: cs) w1) (lone (c.finish v) cs w')) : OpGoes P b o a w v w' := by
  intro ops i rest k cs ho hw
  refine Steps.trans (.one (step_lone_go (fr' := Frame.round l f tmps asg body .normal) (cs' := b.atR a (.inRegion ops (i :: rest) :: k) :: cs) (w' := w1) ?_)) ?_
  · rw [stepGR_op ho hw]
    simp [stepG.apply, Sem.runT_eq, h, Frame.atR]
  · have := hc (b.atR a (.inRegion ops (i :: rest) :: k)) cs
    rw [Frame.finish_atR, ho] at this
    exact this

/-- What an operation comes to at data level: its value; the objects that it sets; the objects that it reads; the new ones. -/
structure Res where
  val : V
  eff : List (Nat × Option Ob)
  rds : List Nat
  new : List Nat

def upf (f : Nat → Option Ob) (eff : List (Nat × Option Ob)) (i : Nat) : Option Ob := (eff.lookup i).getD (f i)

/-- The operation does so, in every heap that agrees on what it reads. -/
def Does (P : Program) (b : Frame) (o : Oper) (ρ : Operand → Option V) (H : Nat → Option Ob) (r : Res) : Prop :=
  ∀ (s : St) (f : Nat → Option Ob) (a : Act), HR s f → (∀ i ∈ r.rds, f i = H i) → (∀ i ∈ r.new, s.μ i = .free) →
    (∀ x ∈ o.op.operands.toList, ∀ v, ρ x = some v → VR s v (a.eval x)) →
    ∀ (ops : Array Oper) (i : Nat) (rest : List Nat) (k : List Item) (cs : List Frame), ops[i]? = some o → Region.wanted o (yielded ops a.tmps) = true →
    ∃ v s', Steps P (lone (b.atR a (.inRegion ops (i :: rest) :: k)) cs s.w) (lone (b.atR (a.put o.dst v) (.inRegion ops rest :: k)) cs s'.w) ∧
      Ext s s' ∧ HR s' (upf f r.eff) ∧ VR s' r.val v ∧ (∀ i, s.μ i = .free → i ∉ r.new → s'.μ i = .free)

/-! ### What was written last -/
section sig
variable {ρ κ : Type} (wr : Nat → ρ → Option κ) (σ : ρ → κ)
def sig (D : Nat → Bool) : Nat → ρ → κ
  | 0, r => σ r
  | n + 1, r => if D n then (wr n r).getD (sig D n r) else sig D n r

theorem sig_congr {D E : Nat → Bool} {r : ρ} : ∀ {n : Nat}, (∀ i, i < n → (wr i r).isSome = true → D i = E i) → sig wr σ D n r = sig wr σ E n r := by
  intro n
  induction n with
  | zero => intro _; rfl
  | succ n ih =>
    intro h
    have ih' := ih fun i hi hw => h i (by omega) hw
    simp only [sig]
    cases hw : wr n r with
    | none => simp [ih']
    | some c =>
      have := h n (by omega) (by simp [hw])
      simp [this, ih']

theorem sig_insert {D : Nat → Bool} {r : ρ} {j : Nat} : ∀ {n : Nat}, j < n → (∀ i, i < n → j < i → (wr i r).isSome = true → (wr j r).isSome = true → D i = false) →
    sig wr σ (fun i => D i || i == j) n r = (wr j r).getD (sig wr σ D n r) := by
  intro n
  induction n with
  | zero => intro h; omega
  | succ n ih =>
    intro hj h
    simp only [sig]
    by_cases hjn : j = n
    · subst hjn
      have e : sig wr σ (fun i => D i || i == j) j r = sig wr σ D j r := sig_congr wr σ fun i hi _ => by
        have : (i == j) = false := by simp; omega
        simp [this]
      simp only [BEq.rfl, Bool.or_true, if_true, e]
      cases hw : wr j r with
      | none => simp
      | some c => simp
    · have hne : (n == j) = false := by simp; omega
      have ih' := ih (by omega) fun i hi => h i (by omega)
      simp only [hne, Bool.or_false, ih']
      cases hD : D n with
      | false => simp
      | true =>
        simp only [if_true]
        cases hw : wr n r with
        | none => simp
        | some c =>
          cases hwj : wr j r with
          | none => simp
          | some c' =>
            have := h n (by omega) (by omega) (by simp [hw]) (by simp [hwj])
            rw [hD] at this; cases this

/-- In the text's order. -/
theorem sig_top {n j : Nat} {r : ρ} (hj : j ≤ n) : sig wr σ (fun i => decide (i < j)) n r = sig wr σ (fun _ => true) j r := by
  induction n with
  | zero => have : j = 0 := by omega
            subst this; rfl
  | succ n ih =>
    by_cases h : j ≤ n
    · simp only [sig]
      rw [ih h]
      have : decide (n < j) = false := by simp; omega
      simp [this]
    · have : j = n + 1 := by omega
      subst this
      exact sig_congr wr σ fun i hi _ => by simp [hi]
end sig


/-! ### A region -/
def ofVal : Value → V
  | .agg cs => match cs.toList.all Value.oneCell' with
    | true => .c (.ag (cs.toList.map .v))
    | false => .c (.v (.agg cs))
  | v => .c (.v v)

theorem VR.ofVal (s : St) (v : Value) : VR s (ofVal v) v := by
  unfold Lift.ofVal
  split
  · rename_i cs
    split
    · rename_i h
      exact .c _ _ (.ag _ _ (by simp) (fun j h' => by rw [List.all_eq_true] at h; exact h _ (by simp)) fun j h h' => by simp; exact .v _)
    · exact .c _ _ (.v _)
  · exact .c _ _ (.v _)

def evalF (g : Nat → Option V) : Operand → Option V
  | .tmp t => g t
  | .const v => some (ofVal v)
  | .global n => some (.c (.v (.pointer (some ⟨n, 0, none⟩))))
  | .func f => some (.c (.v (.func (.func f) #[] #[])))

/-- What an operation leaves in its temporary; one that is passed over leaves 'undef'. -/
def valR : Option Res → V
  | some r => r.val
  | none => .c (.v undef)

def wrT (ops : Array Oper) (tr : Nat → Option Res) (j t : Nat) : Option (Option V) :=
  match ops[j]? with
  | some o => if o.dst = some t then some (some (valR (tr j))) else none
  | none => none

def wrO (tr : Nat → Option Res) (j i : Nat) : Option (Option Ob) := (tr j).bind fun r => r.eff.lookup i

/-- 'i' writes what 'j' uses. -/
def clash (ops : Array Oper) (tr : Nat → Option Res) (i j : Nat) : Prop :=
  ∃ oi oj, ops[i]? = some oi ∧ ops[j]? = some oj ∧
    ((∃ d, oi.dst = some d ∧ (d ∈ oj.looksAt ops ∨ oj.dst = some d)) ∨
     (∃ ri rj x, tr i = some ri ∧ tr j = some rj ∧ (ri.eff.lookup x).isSome = true ∧ (x ∈ rj.rds ∨ (rj.eff.lookup x).isSome = true)))

def guardIs (ops : Array Oper) (g : Nat → Option V) (o : Oper) (ok : Bool) : Prop :=
  match o.guard with
  | none => ok = true
  | some (n, want) => ∃ og d, ops[n]? = some og ∧ og.dst = some d ∧ (g d = some (.c (.v (.bool (want == ok)))) ∨ (ok = false ∧ g d = some (.c (.v undef))))

/-- What the text's order comes to. -/
structure TextOK (P : Program) (b : Frame) (ops : Array Oper) (tr : Nat → Option Res) (e0 : Nat → Option V) (H0 : Nat → Option Ob) (N : Nat) : Prop where
  op : ∀ j o, ops[j]? = some o → (∀ d, o.dst = some d → d < N) ∧
    match tr j with
    | some r => guardIs ops (sig (wrT ops tr) e0 (fun _ => true) j) o true ∧ Does P b o (evalF (sig (wrT ops tr) e0 (fun _ => true) j)) (sig (wrO tr) H0 (fun _ => true) j) r
    | none => guardIs ops (sig (wrT ops tr) e0 (fun _ => true) j) o false
  sep : ∀ i j ri rj x, i < ops.size → j < ops.size → i ≠ j → tr i = some ri → tr j = some rj → x ∈ ri.new → x ∉ rj.new

structure RInv (ops : Array Oper) (tr : Nat → Option Res) (e0 : Nat → Option V) (H0 : Nat → Option Ob) (N : Nat) (ds : List Deferred) (s0 : St) (D : Nat → Bool) (a : Act) (s : St) : Prop where
  env : ∀ t v, sig (wrT ops tr) e0 D ops.size t = some v → VR s v (a.tmps.getD t undef)
  hr : HR s (sig (wrO tr) H0 D ops.size)
  fresh : ∀ j r, j < ops.size → D j = false → tr j = some r → ∀ x ∈ r.new, s.μ x = .free
  size : a.tmps.size = N
  defers : a.defers = ds
  ext : Ext s0 s
  free : ∀ i, s0.μ i = .free → (∀ j r, j < ops.size → tr j = some r → i ∉ r.new) → s.μ i = .free

variable {b : Frame} {ops : Array Oper} {tr : Nat → Option Res} {e0 : Nat → Option V} {H0 : Nat → Option Ob} {N : Nat} {ds : List Deferred} {s0 : St}

theorem wanted_of_guardIs {o : Oper} {ok : Bool} {g : Nat → Option V} {a : Act} {s : St} (hg : guardIs ops g o ok) (he : ∀ t v, t ∈ o.looksAt ops → g t = some v → VR s v (a.tmps.getD t undef)) :
    Region.wanted o (yielded ops a.tmps) = ok := by
  unfold guardIs at hg
  unfold Region.wanted
  split at hg
  · rename_i h; rw [h]; exact hg.symm
  · rename_i n want h
    obtain ⟨og, d, h1, h2, h3⟩ := hg
    rw [h]
    have hm : d ∈ o.looksAt ops := by
      unfold Oper.looksAt
      rw [h]
      simp [h1, h2]
    rcases h3 with h3 | ⟨rfl, h3⟩
    case inr =>
      have hv : a.tmps.getD d undef = undef := by
        have h4 := he d _ hm h3
        generalize a.tmps.getD d undef = y at h4 ⊢
        cases h4 with
        | c _ _ h => cases h; rfl
      have hy : yielded ops a.tmps n = none := by
        unfold yielded
        rw [Array.getD_eq_getD_getElem?] at hv
        simp only [h1, h2, Option.bind_some]
        cases ht : a.tmps[d]? with
        | none => rfl
        | some x => rw [ht] at hv; simp at hv; subst hv; rfl
      show (yielded ops a.tmps n == some want) = false
      rw [hy]; rfl
    have hv := he d _ hm h3
    cases hv with
    | c _ _ hc =>
      generalize hb : a.tmps.getD d undef = vv at hc
      cases hc
      have hlt : d < a.tmps.size := by
        rcases Nat.lt_or_ge d a.tmps.size with h' | h'
        · exact h'
        · rw [Array.getD_eq_getD_getElem?, Array.getElem?_eq_none h'] at hb
          simp [undef] at hb
      have hb' : a.tmps[d]? = some (.bool (want == ok)) := by
        rw [Array.getD_eq_getD_getElem?] at hb
        rw [Array.getElem?_eq_getElem hlt] at hb ⊢
        simpa using hb
      have hy : yielded ops a.tmps n = some (want == ok) := by
        unfold yielded
        simp [h1, h2, hb']
      show (yielded ops a.tmps n == some want) = ok
      rw [hy]
      cases want <;> cases ok <;> rfl

theorem getD_put {a : Act} {dst : Option Tmp} {v : Value} {t : Nat} : (a.put dst v).tmps.getD t undef = if dst = some t ∧ t < a.tmps.size then v else a.tmps.getD t undef := by
  cases dst with
  | none => simp [Act.put]
  | some d =>
    simp only [Act.put, Option.some.injEq, Array.getD_eq_getD_getElem?]
    by_cases h : d = t
    · subst h
      by_cases hs : d < a.tmps.size
      · simp [hs]
      · simp [hs]
    · simp [h, Array.getElem?_setIfInBounds_ne h]

theorem size_put {a : Act} {dst : Option Tmp} {v : Value} : (a.put dst v).tmps.size = a.tmps.size := by cases dst <;> simp [Act.put]
theorem defers_put {a : Act} {dst : Option Tmp} {v : Value} : (a.put dst v).defers = a.defers := by cases dst <;> simp [Act.put]

theorem evalF_ok {g : Nat → Option V} {s : St} {a : Act} {x : Operand} {v : V} (he : ∀ t, x = .tmp t → g t = some v → VR s v (a.tmps.getD t undef)) (h : evalF g x = some v) : VR s v (a.eval x) := by
  cases x with
  | tmp t => exact he t rfl h
  | const c => simp only [evalF, Option.some.injEq] at h; subst h; exact VR.ofVal s c
  | global n => simp only [evalF, Option.some.injEq] at h; subst h; exact .c _ _ (.v _)
  | func f => simp only [evalF, Option.some.injEq] at h; subst h; exact .c _ _ (.v _)

/-- One operation more. -/
theorem RInv.step (ht : TextOK P b ops tr e0 H0 N) {D : Nat → Bool} {a : Act} {s : St} (hi : RInv ops tr e0 H0 N ds s0 D a s) {j : Nat} (hj : j < ops.size) (hD : D j = false)
    (hC : ∀ i, i < ops.size → i ≠ j → clash ops tr i j → D i = decide (i < j)) (rest : List Nat) (k : List Item) (cs : List Frame) :
    ∃ a' s', Steps P (lone (b.atR a (.inRegion ops (j :: rest) :: k)) cs s.w) (lone (b.atR a' (.inRegion ops rest :: k)) cs s'.w) ∧
      RInv ops tr e0 H0 N ds s0 (fun i => D i || i == j) a' s' := by
  have ho : ops[j]? = some ops[j] := Array.getElem?_eq_getElem hj
  generalize ops[j] = o at ho
  obtain ⟨hdst, hop⟩ := ht.op j o ho
  have hT : ∀ t, t ∈ o.looksAt ops → sig (wrT ops tr) e0 (fun _ => true) j t = sig (wrT ops tr) e0 D ops.size t := fun t hm => by
    rw [← sig_top (wrT ops tr) e0 (n := ops.size) (by omega)]
    refine (sig_congr _ _ fun i hin hw => ?_).symm
    by_cases hij : i = j
    · subst hij; simp [hD]
    · refine hC i hin hij ?_
      unfold wrT at hw
      split at hw
      · rename_i oi hoi
        split at hw
        · rename_i hd
          exact ⟨oi, o, hoi, ho, .inl ⟨t, hd, .inl hm⟩⟩
        · cases hw
      · cases hw
  have hEnv : ∀ t v, t ∈ o.looksAt ops → sig (wrT ops tr) e0 (fun _ => true) j t = some v → VR s v (a.tmps.getD t undef) := fun t v hm hv => hi.env t v (by rw [← hT t hm]; exact hv)
  have hsigT : ∀ t, sig (wrT ops tr) e0 (fun i => D i || i == j) ops.size t = (wrT ops tr j t).getD (sig (wrT ops tr) e0 D ops.size t) := fun t =>
    sig_insert _ _ hj fun i hin hji hw hwj => by
      have hne : i ≠ j := by omega
      have : D i = decide (i < j) := by
        refine hC i hin hne ?_
        unfold wrT at hw hwj
        rw [ho] at hwj
        split at hw
        · rename_i oi hoi
          split at hw
          · rename_i hd
            simp only at hwj
            split at hwj
            · rename_i hd'
              exact ⟨oi, o, hoi, ho, .inl ⟨t, hd, .inr hd'⟩⟩
            · cases hwj
          · cases hw
        · cases hw
      rw [this]; simp; omega
  have hwT : ∀ t, wrT ops tr j t = if o.dst = some t then some (some (valR (tr j))) else none := fun t => by unfold wrT; rw [ho]
  cases hr : tr j with
  | none =>
    rw [hr] at hop
    have hw := wanted_of_guardIs hop hEnv
    refine ⟨a.put o.dst undef, s, .one ?_, ?_⟩
    · have := stepR_op_skip (P := P) (b := b) (a := a) (k := k) (cs := cs) (w := s.w) (ops := ops) (i := j) (rest := rest) (by rw [ho]; simpa using hw)
      rw [ho] at this
      exact this
    · refine ⟨fun t v hv => ?_, ?_, fun j' r hj' hD' hr' => hi.fresh j' r hj' (by simp at hD'; exact hD'.1) hr', by rw [size_put]; exact hi.size, by rw [defers_put]; exact hi.defers, hi.ext, hi.free⟩
      · rw [hsigT, hwT, hr] at hv
        rw [getD_put]
        split at hv
        · cases hv
          have e9 : (if o.dst = some t ∧ t < a.tmps.size then undef else a.tmps.getD t undef) = undef := by
            split
            · rfl
            · rename_i h1 h2
              rw [Array.getD_eq_getD_getElem?, Array.getElem?_eq_none (by
                rcases Nat.lt_or_ge t a.tmps.size with h3 | h3
                · exact absurd ⟨h1, h3⟩ h2
                · exact h3)]
              rfl
          rw [e9]
          exact .c _ _ (.v _)
        · rename_i hne
          rw [if_neg (fun h => hne h.1)]
          exact hi.env t v hv
      · have : sig (wrO tr) H0 (fun i => D i || i == j) ops.size = sig (wrO tr) H0 D ops.size := funext fun x => by
          rw [sig_insert _ _ hj fun i hin hji hw hwj => by simp [wrO, hr] at hwj]
          simp [wrO, hr]
        rw [this]; exact hi.hr
  | some r =>
    rw [hr] at hop
    obtain ⟨hg, hdo⟩ := hop
    have hw := wanted_of_guardIs hg hEnv
    obtain ⟨v, s', hgo, hext, hhr, hvr, hfr⟩ := hdo s (sig (wrO tr) H0 D ops.size) a hi.hr
      (fun x hx => by
        rw [← sig_top (wrO tr) H0 (n := ops.size) (by omega)]
        refine sig_congr _ _ fun i hin hwi => ?_
        by_cases hij : i = j
        · subst hij; simp [hD]
        · refine hC i hin hij ?_
          unfold wrO at hwi
          cases hri : tr i with
          | none => simp [hri] at hwi
          | some ri =>
            refine ⟨ops[i], o, Array.getElem?_eq_getElem hin, ho, .inr ⟨ri, r, x, hri, hr, ?_, .inl hx⟩⟩
            simpa [hri] using hwi)
      (hi.fresh j r hj hD hr)
      (fun x hx vv hv => evalF_ok (fun t hxt hgt => hEnv t vv (by
        subst hxt
        unfold Oper.looksAt
        exact List.mem_append_left _ (List.mem_filterMap.2 ⟨.tmp t, hx, rfl⟩)) hgt) hv) ops j rest k cs ho hw
    refine ⟨a.put o.dst v, s', hgo, ?_⟩
    refine ⟨fun t u hv => ?_, ?_, fun j' r' hj' hD' hr' x hx => ?_, by rw [size_put]; exact hi.size, by rw [defers_put]; exact hi.defers, hi.ext.trans hext, fun i h0 hn => hfr i (hi.free i h0 hn) (hn j r hj hr)⟩
    · rw [hsigT, hwT, hr] at hv
      rw [getD_put]
      split at hv
      · rename_i hd
        simp at hv
        subst hv
        rw [if_pos ⟨hd, by rw [hi.size]; exact hdst t hd⟩]
        exact hvr
      · rename_i hne
        rw [if_neg (fun h => hne h.1)]
        exact (hi.env t u hv).mono hext
    · have : sig (wrO tr) H0 (fun i => D i || i == j) ops.size = upf (sig (wrO tr) H0 D ops.size) r.eff := funext fun x => by
        rw [sig_insert _ _ hj fun i hin hji hwi hwj => ?_]
        · simp [wrO, hr, upf]
        · have hne : i ≠ j := by omega
          have : D i = decide (i < j) := by
            refine hC i hin hne ?_
            unfold wrO at hwi hwj
            cases hri : tr i with
            | none => simp [hri] at hwi
            | some ri => exact ⟨ops[i], o, Array.getElem?_eq_getElem hin, ho, .inr ⟨ri, r, x, hri, hr, by simpa [hri] using hwi, .inr (by simpa [hr] using hwj)⟩⟩
          rw [this]; simp; omega
      rw [this]; exact hhr
    · simp at hD'
      have hne : j' ≠ j := hD'.2
      exact hfr x (hi.fresh j' r' hj' hD'.1 hr' x hx) (ht.sep j' j r' r x hj' hj hne hr' hr hx)

end Go.Lift
