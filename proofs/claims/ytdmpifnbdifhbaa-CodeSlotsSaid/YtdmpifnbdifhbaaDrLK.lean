/- Stretches. -/
import Derived.Test.YtdmpifnbdifhbaaDrLJ
namespace Go.Lift
variable {P : Program}

/-- What a stretch comes to, by its decisions. -/
inductive Tr where
  | leaf (k : List Item) (e : Env) (h : Heap)
  | need (obs : List Pr) (chk : Bool) (t : Tr)
  | node (b : Bool) (t e : Tr)

def TreeOK (leafP : List Item → Env → Heap → Prop) : Tr → Prop
  | .leaf k e h => leafP k e h
  | .need obs _ t => Obs obs ∧ TreeOK leafP t
  | .node b t e => (b = true → TreeOK leafP t) ∧ (b = false → TreeOK leafP e)

def chkT : Tr → Bool
  | .leaf .. => true
  | .need _ c t => match c with
    | true => chkT t
    | false => false
  | .node _ t e => match chkT t with
    | true => chkT e
    | false => false

/-- A region's tree goes on. -/
def contT (ops : List Oper) (draw : Bool) (cont : Env → Heap → List Orc → List Nat → Option Tr) : FT → Option Tr
  | .fin ⟨e1, h1, tr, ob, q1, lits1⟩ => match cont e1 h1 q1 lits1 with
    | none => none
    | some t => match draw with
      | true => match safeB ops tr with
        | true => match ob with
          | [] => some t
          | o :: l => some (.need (o :: l) true t)
        | false => some (.need ob false t)
      | false => match ob with
        | [] => some t
        | o :: l => some (.need (o :: l) true t)
  | .node b t e => match contT ops draw cont t with
    | none => none
    | some t' => match contT ops draw cont e with
      | none => none
      | some e' => some (.node b t' e')

/-- A region, with its guards decided as they come. -/
def regD (P : Program) (T : TT) (K : KT) (ops : List Oper) (N : Nat) (draw : Bool) (cont : Env → Heap → List Orc → List Nat → Option Tr) (e : Env) (h : Heap) (q : List Orc) (lits : List Nat) : Option Tr :=
  match runTree ⟨P, T, K, ops, N, guardsF ops⟩ ops 0 e h q lits with
  | none => none
  | some t => contT ops draw cont t

/-- What was decided is known from here on. -/
def litE (c : Operand) (b : Bool) (e : Env) (lits : List Nat) : Option (Env × List Nat) := match c with
  | .tmp t => match setE e t (some (cb b)) with
    | some e' => some (e', t :: lits)
    | none => none
  | _ => some (e, lits)

theorem litE_eq {c : Operand} {b bb : Bool} {e e' : Env} {lits l1 : List Nat} (h : litE c b e lits = some (e', l1)) (hc : evalF (lk e) c = some (.c (.v (.bool bb)))) (hb : bb = b) : ∀ t v, lk e' t = some v → lk e t = some v := by
  intro t v hv
  unfold litE at h
  split at h
  · rename_i d
    split at h
    case h_2 => cases h
    rename_i e1 he
    cases h
    rw [setE_eq he] at hv
    split at hv
    · rename_i hd
      subst hd
      have : lk e d = some (.c (.v (.bool bb))) := hc
      rw [this, hb]
      exact hv
    · exact hv
  · cases h; exact hv

/-- On, until a loop, a return, or an oracle's stop. -/
def runD (P : Program) (T : TT) (K : KT) (N : Nat) : Nat → List Item → Env → Heap → List Orc → List Nat → Option Tr
  | 0, todo, e, h, _, _ => some (.leaf todo e h)
  | n + 1, .code .skip :: k, e, h, q, lits => runD P T K N n k e h q lits
  | n + 1, .code (.label _) :: k, e, h, q, lits => runD P T K N n k e h q lits
  | n + 1, .inBlock _ :: k, e, h, q, lits => runD P T K N n k e h q lits
  | n + 1, .code (.seq a b) :: k, e, h, q, lits => runD P T K N n (.code a :: .code b :: k) e h q lits
  | n + 1, .code (.block id c) :: k, e, h, q, lits => runD P T K N n (.code c :: .inBlock id :: k) e h q lits
  | n + 1, .code (.scope c) :: k, e, h, q, lits => runD P T K N n (.code c :: .inScope c :: k) e h q lits
  | n + 1, .inScope _ :: k, e, h, q, lits => runD P T K N n k e h q lits
  | n + 1, .code (.exit id) :: k, e, h, q, lits => match exitTo id k with
    | some k' => runD P T K N n k' e h q lits
    | none => some (.leaf (.code (.exit id) :: k) e h)
  | n + 1, .code (.region id ops draw) :: k, e, h, q, lits => match q with
    | .stop :: _ => some (.leaf (.code (.region id ops draw) :: k) e h)
    | q => regD P T K ops.toList N draw (fun e1 h1 q1 lits1 => runD P T K N n k e1 h1 q1 lits1) e h q lits
  | n + 1, .code (.cond c x y) :: k, e, h, q, lits => match evalF (lk e) c with
    | some (.c (.v (.bool bb))) => match litX lits c with
      | true => match bb with
        | true => runD P T K N n (.code x :: k) e h q lits
        | false => runD P T K N n (.code y :: k) e h q lits
      | false => match q with
        | .br true :: q' => match litE c true e lits with
          | some (e1, lits1) => match runD P T K N n (.code x :: k) e1 h q' lits1 with
            | some t => some (.need [bb = true] true t)
            | none => none
          | none => none
        | .br false :: q' => match litE c false e lits with
          | some (e1, lits1) => match runD P T K N n (.code y :: k) e1 h q' lits1 with
            | some t => some (.need [bb = false] true t)
            | none => none
          | none => none
        | .stop :: _ => some (.leaf (.code (.cond c x y) :: k) e h)
        | q => match litE c true e lits with
          | none => none
          | some (e1, lits1) => match runD P T K N n (.code x :: k) e1 h q lits1 with
            | none => none
            | some t => match litE c false e lits with
              | none => none
              | some (e2, lits2) => match runD P T K N n (.code y :: k) e2 h q lits2 with
                | none => none
                | some t' => some (.node bb t t')
    | _ => none
  | _ + 1, todo, e, h, _, _ => some (.leaf todo e h)

section
variable {b : Frame} {N : Nat} {s0 : St} {R : Frame → St → Prop} {ds : List DV} {T : TT} {K : KT}

theorem contT_ok {ops : Array Oper} {draw : Bool} {k : List Item} {cont : Env → Heap → List Orc → List Nat → Option Tr} {G : List Item → Env → Heap → Prop}
    (hcont : ∀ {e1 h1 q1 lits1 t}, cont e1 h1 q1 lits1 = some t → chkT t = true → TreeOK G t → Wp P b N s0 R k ds e1 h1) :
    ∀ {f : FT} {t : Tr}, contT ops.toList draw cont f = some t → chkT t = true → TreeOK G t →
      FTok (fun f => Obs f.obs ∧ (match draw with | true => safeB ops.toList f.tr | false => true) = true ∧ Wp P b N s0 R k ds f.env f.heap) f := by
  intro f
  induction f with
  | fin f =>
    intro t ht hc ho
    obtain ⟨e1, h1, tr, ob, q1, lits1⟩ := f
    simp only [contT] at ht
    split at ht
    case h_1 => cases ht
    rename_i t' ht'
    have need : ∀ {c : Bool} {ob : List Pr}, chkT (.need ob c t') = true → c = true ∧ chkT t' = true := fun {c ob} h => by
      simp only [chkT] at h
      cases c with
      | true => exact ⟨rfl, h⟩
      | false => cases h
    split at ht
    · split at ht
      · rename_i hs
        split at ht
        · cases ht; exact ⟨trivial, hs, hcont ht' hc ho⟩
        · cases ht; exact ⟨ho.1, hs, hcont ht' (need hc).2 ho.2⟩
      · cases ht; exact absurd (need hc).1 (by simp)
    · split at ht
      · cases ht; exact ⟨trivial, rfl, hcont ht' hc ho⟩
      · cases ht; exact ⟨ho.1, rfl, hcont ht' (need hc).2 ho.2⟩
  | node bb t1 t2 ih1 ih2 =>
    intro t ht hc ho
    simp only [contT] at ht
    split at ht
    case h_1 => cases ht
    rename_i u1 hu1
    split at ht
    case h_1 => cases ht
    rename_i u2 hu2
    cases ht
    have hc' : chkT u1 = true ∧ chkT u2 = true := by
      simp only [chkT] at hc
      cases hs : chkT u1 with
      | true => rw [hs] at hc; exact ⟨rfl, hc⟩
      | false => rw [hs] at hc; cases hc
    exact ⟨fun hb => ih1 hu1 hc'.1 (ho.1 hb), fun hb => ih2 hu2 hc'.2 (ho.2 hb)⟩

theorem regD_ok (hT : TTok P T) (hK : KOk P K) (hm : P.follows .mixedOrders = true) {id : Nat} {ops : Array Oper} {draw : Bool} {k : List Item} {cont : Env → Heap → List Orc → List Nat → Option Tr} {e : Env} {h : Heap} {q : List Orc} {lits : List Nat}
    (hcont : ∀ {e1 h1 q1 lits1 t}, cont e1 h1 q1 lits1 = some t → chkT t = true → TreeOK (fun k e h => Wp P b N s0 R k ds e h) t → Wp P b N s0 R k ds e1 h1)
    {t : Tr} (ht : regD P T K ops.toList N draw cont e h q lits = some t) (hc : chkT t = true) (ho : TreeOK (fun k e h => Wp P b N s0 R k ds e h) t) : Wp P b N s0 R (.code (.region id ops draw) :: k) ds e h := by
  unfold regD at ht
  split at ht
  case h_1 => cases ht
  rename_i f hf
  obtain ⟨dec, fin, f', k1, ⟨k2, k3, k4⟩, k5, k6, k7, k8⟩ := runTree_ok hf (contT_ok hcont ht hc ho)
  exact .region hT hK hm k1 (k8 k2) (by rw [k7]; exact k3) (by rw [k5, k6]; exact k4)

theorem Wp.run (hT : TTok P T) (hK : KOk P K) (hm : P.follows .mixedOrders = true) (n : Nat) {todo : List Item} {e : Env} {h : Heap} {q : List Orc} {lits : List Nat} {t : Tr} (hr : runD P T K N n todo e h q lits = some t) (hc : chkT t = true)
    (ho : TreeOK (fun k e h => Wp P b N s0 R k ds e h) t) : Wp P b N s0 R todo ds e h := by
  induction n generalizing todo e h q lits t with
  | zero =>
    simp only [runD, Option.some.injEq] at hr
    subst hr
    exact ho
  | succ n ih =>
    unfold runD at hr
    split at hr
    · rename_i heq; cases heq
    · rename_i heq; cases heq; exact .skip (ih hr hc ho)
    · rename_i heq; cases heq; exact .label (ih hr hc ho)
    · rename_i heq; cases heq; exact .inBlock (ih hr hc ho)
    · rename_i heq; cases heq; exact .seq (ih hr hc ho)
    · rename_i heq; cases heq; exact .block (ih hr hc ho)
    · rename_i heq; cases heq; exact .scope (ih hr hc ho)
    · rename_i heq; cases heq; exact .inScope (ih hr hc ho)
    · rename_i heq
      cases heq
      split at hr
      · rename_i k' hk
        exact .exit hk (ih hr hc ho)
      · cases hr; exact ho
    · rename_i heq
      cases heq
      split at hr
      · cases hr; exact ho
      · exact regD_ok hT hK hm (fun h1 h2 h3 => ih h1 h2 h3) hr hc ho
    · rename_i heq
      cases heq
      split at hr
      case h_2 => cases hr
      rename_i bb hbb
      split at hr
      · split at hr
        · exact .cond hbb (fun _ => ih hr hc ho) fun h => by cases h
        · exact .cond hbb (fun h => by cases h) fun _ => ih hr hc ho
      · split at hr
        · split at hr
          case h_2 => cases hr
          rename_i e1 lits1 hl
          split at hr
          case h_2 => cases hr
          rename_i t' ht
          cases hr
          exact .cond hbb (fun h => (ih ht hc ho.2).env (litE_eq hl hbb h)) fun h => by rw [show bb = true from ho.1.1] at h; cases h
        · split at hr
          case h_2 => cases hr
          rename_i e1 lits1 hl
          split at hr
          case h_2 => cases hr
          rename_i t' ht
          cases hr
          exact .cond hbb (fun h => by rw [show bb = false from ho.1.1] at h; cases h) fun h => (ih ht hc ho.2).env (litE_eq hl hbb h)
        · cases hr; exact ho
        · split at hr
          case h_1 => cases hr
          rename_i e1 lits1 hl1
          split at hr
          case h_1 => cases hr
          rename_i t1 ht1
          split at hr
          case h_1 => cases hr
          rename_i e2 lits2 hl2
          split at hr
          case h_1 => cases hr
          rename_i t2 ht2
          cases hr
          have hc' : chkT t1 = true ∧ chkT t2 = true := by
            simp only [chkT] at hc
            cases hs : chkT t1 with
            | true => rw [hs] at hc; exact ⟨rfl, hc⟩
            | false => rw [hs] at hc; cases hc
          exact .cond hbb (fun h => (ih ht1 hc'.1 (ho.1 h)).env (litE_eq hl1 hbb h)) fun h => (ih ht2 hc'.2 (ho.2 h)).env (litE_eq hl2 hbb h)
    · cases hr; exact ho
end

/-! ### Loops -/
def SubE : LEnv → Env → Prop
  | [], _ => True
  | (t, some v) :: l, e => lk e t = some v ∧ SubE l e
  | (_, none) :: l, e => SubE l e

theorem SubE.lk {e' : LEnv} {e : Env} (h : SubE e' e) : ∀ t v, lkL e' t = some v → Lift.lk e t = some v := by
  induction e' with
  | nil => intro t v hv; cases hv
  | cons x l ih =>
    obtain ⟨t', u⟩ := x
    intro t v hv
    simp only [lkL] at hv
    cases u with
    | none =>
      split at hv
      · cases hv
      · exact ih h t v hv
    | some u =>
      split at hv
      · rename_i he
        have := eqN_iff.1 he
        subst this
        cases hv
        exact h.1
      · exact ih h.2 t v hv

theorem Wp.sub {b : Frame} {N : Nat} {s0 : St} {R : Frame → St → Prop} {ds : List DV} {k : List Item} {e : Env} {e' : LEnv} {h : Heap} (hw : Wp P b N s0 R k ds (ofL e') h) (hs : SubE e' e) : Wp P b N s0 R k ds e h := hw.env fun t v hv => hs.lk t v (ofL_lk hv)

/-- A loop with its states 'x', which get smaller. -/
theorem Wp.loopI {b : Frame} {N : Nat} {s0 : St} {R : Frame → St → Prop} {ds : List DV} {k : List Item} {c : Code} {e : Env} {h : Heap} {α : Type} (m : α → Nat) (E : α → LEnv) (H : α → Heap) (I : α → Prop) (x0 : α) (h0 : I x0) (hs : SubE (E x0) e) (hh : h = H x0)
    (step : ∀ x, I x → (∀ y, I y → m y < m x → Wp P b N s0 R (.inLoop c :: k) ds (ofL (E y)) (H y)) → Wp P b N s0 R (.code c :: .inLoop c :: k) ds (ofL (E x)) (H x)) : Wp P b N s0 R (.code (.loop c) :: k) ds e h := by
  subst hh
  have key : ∀ n x, I x → m x ≤ n → Wp P b N s0 R (.code c :: .inLoop c :: k) ds (ofL (E x)) (H x) := by
    intro n
    induction n with
    | zero => intro x hi hx; exact step x hi fun y _ hy => by omega
    | succ n ih => intro x hi hx; exact step x hi fun y hj hy => .inLoop (ih y hj (by omega))
  exact .loop ((key _ x0 h0 (Nat.le_refl _)).sub hs)

/-! ### Returns -/
/-- What a function that was handed 'm' objects returns, with these objects kept. -/
def retW (T : TT) (rs : List ResultVar) (m : Nat) (sel : List Nat) (ds : List DV) (e : Env) (h0 : Heap) : Option (V × Heap) := match unmark ds h0 with
  | none => none
  | some h => match resO T e (look h) rs with
  | some v => match idsF m sel with
    | true => match idOf sel with
      | some n => match sucT n with
        | some _ => match nodupF sel with
          | true => match selH 9 sel h sel with
            | some h' => match sm 9 sel (look h) v with
              | some v' => some (v', h')
              | none => none
            | none => none
          | false => none
        | none => none
      | none => none
    | false => none
  | none => none

def endsHere : List Item → Bool
  | [] => true
  | .code .ret :: _ => true
  | _ => false

theorem Wp.retW {N : Nat} {s0 : St} {k : List Item} {ds : List DV} {e : Env} {h : Heap} {T : TT} (hT : TTok P T) {f : FuncId} {Q : V → Heap → Prop} {fn : Func} (hfn : P.funcs[f]? = some fn) {m0 : Nat} (hm0 : ∀ i, m0 ≤ i → i < 1000 → s0.μ i = .free) (sel : List Nat) {v' : V} {h' : Heap}
    (hr : retW T fn.results.toList m0 sel ds e h = some (v', h')) (hend : endsHere k = true) (hq : Q v' h') : Wp P (frameOf f) N s0 (Ends P f Q) k ds e h := by
  unfold Lift.retW at hr
  split at hr
  case h_1 => cases hr
  rename_i h1 hum
  split at hr
  case h_2 => cases hr
  rename_i v hv
  split at hr
  case h_2 => cases hr
  rename_i hids
  split at hr
  case h_2 => cases hr
  rename_i n hn
  split at hr
  case h_2 => cases hr
  rename_i n' hn'
  split at hr
  case h_2 => cases hr
  rename_i hnd
  split at hr
  case h_2 => cases hr
  rename_i h2 hh2
  split at hr
  case h_2 => cases hr
  rename_i v2 hv2
  cases hr
  refine Wp.ret hT hfn ⟨rfl, rfl, rfl⟩ hm0 hum hv hids hh2 hn ⟨_, hn'⟩ hnd hv2 hq ?_
  unfold endsHere at hend
  split at hend
  · exact .inl rfl
  · exact .inr ⟨_, rfl⟩
  · cases hend

/-! ### A stretch to the return -/
/-- As 'Tr', with the returns reckoned. -/
inductive Tq where
  | fin (v : V) (h : Heap)
  | leaf (k : List Item) (e : Env) (h : Heap)
  | need (obs : List Pr) (t : Tq)
  | node (b : Bool) (t e : Tq)

def retT (T : TT) (rs : List ResultVar) (m : Nat) (sel : List Nat) (ds : List DV) : Tr → Option Tq
  | .leaf k e h => match endsHere k with
    | true => match retW T rs m sel ds e h with
      | some (v, h') => some (.fin v h')
      | none => none
    | false => some (.leaf k e h)
  | .need obs _ t => match retT T rs m sel ds t with
    | some t' => some (.need obs t')
    | none => none
  | .node b t e => match retT T rs m sel ds t with
    | some t' => match retT T rs m sel ds e with
      | some e' => some (.node b t' e')
      | none => none
    | none => none

def TqOK (leafP : List Item → Env → Heap → Prop) (Q : V → Heap → Prop) : Tq → Prop
  | .fin v h => Q v h
  | .leaf k e h => leafP k e h
  | .need obs t => Obs obs ∧ TqOK leafP Q t
  | .node b t e => (b = true → TqOK leafP Q t) ∧ (b = false → TqOK leafP Q e)

theorem retT_ok {N : Nat} {s0 : St} {ds : List DV} {T : TT} (hT : TTok P T) {f : FuncId} {Q : V → Heap → Prop} {fn : Func} (hfn : P.funcs[f]? = some fn) {m0 : Nat} (hm0 : ∀ i, m0 ≤ i → i < 1000 → s0.μ i = .free) {sel : List Nat} :
    ∀ {t : Tr} {t' : Tq}, retT T fn.results.toList m0 sel ds t = some t' → TqOK (fun k e h => Wp P (frameOf f) N s0 (Ends P f Q) k ds e h) Q t' → TreeOK (fun k e h => Wp P (frameOf f) N s0 (Ends P f Q) k ds e h) t := by
  intro t
  induction t with
  | leaf k e h =>
    intro t' ht ho
    simp only [retT] at ht
    split at ht
    · rename_i hend
      split at ht
      case h_2 => cases ht
      rename_i v h' hr
      cases ht
      exact Wp.retW hT hfn hm0 sel hr hend ho
    · cases ht; exact ho
  | need obs c t ih =>
    intro t' ht ho
    simp only [retT] at ht
    split at ht
    case h_2 => cases ht
    rename_i t2 ht2
    cases ht
    exact ⟨ho.1, ih ht2 ho.2⟩
  | node b t e iht ihe =>
    intro t' ht ho
    simp only [retT] at ht
    split at ht
    case h_2 => cases ht
    rename_i t2 ht2
    split at ht
    case h_2 => cases ht
    rename_i e2 he2
    cases ht
    exact ⟨fun hb => iht ht2 (ho.1 hb), fun hb => ihe he2 (ho.2 hb)⟩

/-- A stretch with its returns. -/
theorem Wp.runF {N : Nat} {s0 : St} {ds : List DV} {T : TT} (hT : TTok P T) {K : KT} (hK : KOk P K) (hm : P.follows .mixedOrders = true) {f : FuncId} {Q : V → Heap → Prop} {fn : Func} (hfn : P.funcs[f]? = some fn) {m0 : Nat} (hm0 : ∀ i, m0 ≤ i → i < 1000 → s0.μ i = .free)
    (n : Nat) (sel : List Nat) {todo : List Item} {e : Env} {h : Heap} {q : List Orc} {lits : List Nat} {t : Tr} {t' : Tq} (hr : runD P T K N n todo e h q lits = some t) (hc : chkT t = true) (hq : retT T fn.results.toList m0 sel ds t = some t')
    (ho : TqOK (fun k e h => Wp P (frameOf f) N s0 (Ends P f Q) k ds e h) Q t') : Wp P (frameOf f) N s0 (Ends P f Q) todo ds e h :=
  Wp.run hT hK hm n hr hc (retT_ok hT hfn hm0 hq ho)

end Go.Lift
