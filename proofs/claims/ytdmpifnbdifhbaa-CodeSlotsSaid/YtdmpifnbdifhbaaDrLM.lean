/- Closed runs: a function's body is reckoned to its end. -/
import Derived.Test.YtdmpifnbdifhbaaDrLL
namespace Go.Lift
variable {P : Program}

/-- A region: each guard is gone by its value. -/
def regC (P : Program) (T : TT) (K : KT) (ops : List Oper) (N : Nat) (draw : Bool) (e : Env) (h : Heap) : Option (Env × Heap) :=
  match runT ⟨P, T, K, ops, N, []⟩ ops 0 e h [] none [] with
  | none => none
  | some ⟨e1, h1, tr, ob, _, _⟩ => match chkP ob with
    | true => match draw with
      | true => match safeB ops tr with
        | true => some (e1, h1)
        | false => none
      | false => some (e1, h1)
    | false => none

/-- How an interpreted frame ends. -/
inductive Md where
  | fn (keep : Bool) (rs : List ResultVar)
  | rd (i : Nat)

def iotaF : Nat → List Nat → List Nat
  | 0, acc => acc
  | n + 1, acc => iotaF n (n :: acc)
def hwsF : List Nat → List V → List V
  | [], acc => acc
  | i :: l, acc => .hw i :: hwsF l acc
def newOnes (m : Nat) : List Nat → List Nat → List Nat
  | [], acc => acc
  | i :: l, acc => match Nat.blt i m with
    | true => newOnes m l acc
    | false => newOnes m l (i :: acc)

/-- Which objects are kept at the end. -/
def selE (m : Nat) (h : Heap) (vs : List V) : Option (List Nat) := match reachF (look h) 5000 (hwsF (iotaF m []) vs) [] with
  | some r => catF (iotaF m []) (newOnes m r [])
  | none => none

/-- The result is closed where it can be, unless it is to be kept. -/
def selR (keep : Bool) (m : Nat) (h : Heap) (v : V) : Option (List Nat) := match keep with
  | true => selE m h [v]
  | false => match selE m h [] with
    | none => none
    | some sel => match sm 9 sel (look h) v with
      | some _ => some sel
      | none => selE m h [v]

def finE (T : TT) (md : Md) (m : Nat) (todo : List Item) (ds : List DV) (e : Env) (h : Heap) : Option (V × Heap) := match md with
  | .fn keep rs => match endsHere todo with
    | false => none
    | true => match unmark ds h with
      | none => none
      | some h1 => match resO T e (look h1) rs with
        | none => none
        | some v => match selR keep m h1 v with
          | none => none
          | some sel => retW T rs m sel ds e h
  | .rd i => match pendOf todo with
    | none => none
    | some j => match look h i with
      | some (.lp _ _ fn N' e' ps asg body) => match putH h i (some (.lp (doneOf j) j fn N' e' ps asg body)) with
        | none => none
        | some h1 => match selE m h1 [] with
          | none => none
          | some sel => match idsF m sel with
            | false => none
            | true => match idOf sel with
              | none => none
              | some n => match sucT n with
                | none => none
                | some _ => match nodupF sel with
                  | false => none
                  | true => match selH 9 sel h1 sel with
                    | none => none
                    | some h' => some (cb (againOf j), h')
      | _ => none

def markVs : List DV → List V → List V
  | [], acc => acc
  | .mark i :: l, acc => .hw i :: markVs l acc

/-- Objects that nothing leads to any more are dropped, where there are many. -/
def gcE (m : Nat) (ds : List DV) (e : Env) (h : Heap) : Option (List DV × Env × Heap) := match selE m h (markVs ds (envVs e [])) with
  | none => none
  | some sel => match idsF m sel with
    | false => none
    | true => match idOf sel with
      | none => none
      | some n => match sucT n with
        | none => none
        | some _ => match nodupF sel with
          | false => none
          | true => match selH 9 sel h sel with
            | none => none
            | some h' => match envM (sm 9 sel (look h)) e with
              | none => none
              | some e' => match dsM sel ds with
                | none => none
                | some ds' => some (ds', e', h')

def many : Heap → Nat → Bool
  | [], _ => false
  | _ :: _, 0 => true
  | _ :: h, n + 1 => many h n

/-- The code is run to its end. -/
def goC (P : Program) (T : TT) (K : KT) (f : FuncId) (N : Nat) (md : Md) (m : Nat) : Nat → List Item → List DV → Env → Heap → Option (V × Heap)
  | 0, _, _, _, _ => none
  | n + 1, todo, ds, e, h => match todo with
    | .code .skip :: k => goC P T K f N md m n k ds e h
    | .code (.label _) :: k => goC P T K f N md m n k ds e h
    | .inBlock _ :: k => goC P T K f N md m n k ds e h
    | .code (.seq a b) :: k => goC P T K f N md m n (.code a :: .code b :: k) ds e h
    | .code (.block id c) :: k => goC P T K f N md m n (.code c :: .inBlock id :: k) ds e h
    | .code (.scope c) :: k => goC P T K f N md m n (.code c :: .inScope c :: k) ds e h
    | .inScope _ :: k => goC P T K f N md m n k ds e h
    | .code (.loop c) :: k => goC P T K f N md m n (.code c :: .inLoop c :: k) ds e h
    | .inLoop c :: k => match many h 40 with
      | true => match gcE m ds e h with
        | some (ds', e', h') => goC P T K f N md m n (.code c :: .inLoop c :: k) ds' e' h'
        | none => none
      | false => goC P T K f N md m n (.code c :: .inLoop c :: k) ds e h
    | .code (.goto l) :: k => match gotoIn l k with
      | some k' => goC P T K f N md m n k' ds e h
      | none => none
    | .code (.exit id) :: k => match exitTo id k with
      | some k' => goC P T K f N md m n k' ds e h
      | none => finE T md m (.code (.exit id) :: k) ds e h
    | .code (.region _ ops draw) :: k => match regC P T K ops.toList N draw e h with
      | some (e1, h1) => goC P T K f N md m n k ds e1 h1
      | none => none
    | .code (.cond c x y) :: k => match evalF (lk e) c with
      | some (.c (.v (.bool true))) => goC P T K f N md m n (.code x :: k) ds e h
      | some (.c (.v (.bool false))) => goC P T K f N md m n (.code y :: k) ds e h
      | _ => none
    | .beginRound :: k => match md with
      | .rd i => match look h i with
        | some (.lp .ready pend fn N' e' ps asg body) => match putH h i (some (.lp .busy pend fn N' e' ps asg body)) with
          | some h' => goC P T K f N md m n k ds e h'
          | none => none
        | _ => none
      | _ => none
    | .code (.rangeFunc g ps asg body) :: k => match md with
      | .fn _ _ => match rangeO P K f N g ps asg body none e h [] with
        | some ⟨pend, h', nid, ob⟩ => match chkP ob with
          | true => goC P T K f N md m n (pendItems pend k) (.mark nid :: ds) e h'
          | false => none
        | none => none
      | .rd i => match look h i with
        | some (.lp _ _ _ _ _ _ _ _) => match rangeI P K f N g ps asg body none e h [] with
          | some ⟨pend, h', _, ob⟩ => match chkP ob with
            | true => goC P T K f N md m n (pendItems pend k) ds e h'
            | false => none
          | none => none
        | _ => none
    | todo => finE T md m todo ds e h

/-- What the frame's standing must be for its end. -/
def MdOK (P : Program) (f : FuncId) (s0 : St) (b : Frame) (Q : V → Heap → Prop) (R : Frame → St → Prop) : Md → Prop
  | .fn _ rs => b = frameOf f ∧ R = Ends P f Q ∧ ∃ fn, P.funcs[f]? = some fn ∧ rs = fn.results.toList
  | .rd i => ∃ lb, b = roundFrame lb f ∧ R = EndsR P s0 Q ∧ ∃ lc, s0.μ i = .live lc ∧ lc.base = some (lb, 0)

section
variable {T : TT} {K : KT} {f : FuncId} {N m : Nat} {md : Md} {s0 : St} {b : Frame} {Q : V → Heap → Prop} {R : Frame → St → Prop}

theorem regC_ok (hT : TTok P T) (hK : KOk P K) (hm : P.follows .mixedOrders = true) {id : Nat} {ops : Array Oper} {draw : Bool} {k : List Item} {ds : List DV} {e e1 : Env} {h h1 : Heap}
    (hw : Wp P b N s0 R k ds e1 h1) (hr : regC P T K ops.toList N draw e h = some (e1, h1)) : Wp P b N s0 R (.code (.region id ops draw) :: k) ds e h := by
  unfold regC at hr
  split at hr
  case h_1 => cases hr
  rename_i e2 h2 tr ob q2 lits hrun
  split at hr
  case h_2 => cases hr
  rename_i hob
  cases draw with
  | true =>
    simp only at hr
    split at hr
    case h_2 => cases hr
    rename_i hs
    cases hr
    exact .region hT hK hm hrun (chkP_ok hob) hs hw
  | false =>
    simp only at hr
    cases hr
    exact .region hT hK hm hrun (chkP_ok hob) rfl hw

theorem finE_ok (hT : TTok P T) (hmd : MdOK P f s0 b Q R md) (hm0 : ∀ i, m ≤ i → i < 1000 → s0.μ i = .free) {todo : List Item} {ds : List DV} {e : Env} {h h' : Heap} {v : V} (hf : finE T md m todo ds e h = some (v, h')) (hq : Q v h') :
    Wp P b N s0 R todo ds e h := by
  unfold finE at hf
  split at hf
  · rename_i keep rs
    obtain ⟨rfl, rfl, fn, hfn, rfl⟩ := hmd
    split at hf
    case h_1 => cases hf
    rename_i hend
    split at hf
    case h_1 => cases hf
    split at hf
    case h_1 => cases hf
    split at hf
    case h_1 => cases hf
    rename_i sel _
    exact Wp.retW hT hfn hm0 sel hf hend hq
  · rename_i i
    obtain ⟨lb, rfl, rfl, hi⟩ := hmd
    split at hf
    case h_1 => cases hf
    rename_i j hj
    split at hf
    case h_2 => cases hf
    rename_i st pend fn N' e' ps asg body hob
    split at hf
    case h_1 => cases hf
    rename_i h1 hp
    split at hf
    case h_1 => cases hf
    rename_i sel _
    split at hf
    case h_1 => cases hf
    rename_i hids
    split at hf
    case h_1 => cases hf
    rename_i n hn
    split at hf
    case h_1 => cases hf
    rename_i n' hn'
    split at hf
    case h_1 => cases hf
    rename_i hnd
    split at hf
    case h_1 => cases hf
    rename_i h2 hh2
    cases hf
    exact Wp.roundEnd rfl rfl hi hm0 hj hob hp hids hh2 hn ⟨_, hn'⟩ hnd hq

theorem gcE_ok (hm0 : ∀ i, m ≤ i → i < 1000 → s0.μ i = .free) {k : List Item} {ds ds' : List DV} {e e' : Env} {h h' : Heap} (hg : gcE m ds e h = some (ds', e', h')) (hw : Wp P b N s0 R k ds' e' h') : Wp P b N s0 R k ds e h := by
  unfold gcE at hg
  split at hg
  case h_1 => cases hg
  rename_i sel _
  split at hg
  case h_1 => cases hg
  rename_i hids
  split at hg
  case h_1 => cases hg
  rename_i n hn
  split at hg
  case h_1 => cases hg
  rename_i n' hn'
  split at hg
  case h_1 => cases hg
  rename_i hnd
  split at hg
  case h_1 => cases hg
  rename_i h1 hh1
  split at hg
  case h_1 => cases hg
  rename_i e1 he1
  split at hg
  case h_1 => cases hg
  rename_i ds1 hds
  cases hg
  exact Wp.dropM hm0 hids hh1 hn ⟨_, hn'⟩ hnd he1 hds hw

theorem goC_ok (hT : TTok P T) (hK : KOk P K) (hm : P.follows .mixedOrders = true) (hmd : MdOK P f s0 b Q R md) (hm0 : ∀ i, m ≤ i → i < 1000 → s0.μ i = .free) {v : V} {h' : Heap} (hq : Q v h') :
    ∀ (n : Nat) {todo : List Item} {ds : List DV} {e : Env} {h : Heap}, goC P T K f N md m n todo ds e h = some (v, h') → Wp P b N s0 R todo ds e h := by
  intro n
  induction n with
  | zero => intro todo ds e h hg; cases hg
  | succ n ih =>
    intro todo ds e h hg
    simp only [goC] at hg
    split at hg
    · exact .skip (ih hg)
    · exact .label (ih hg)
    · exact .inBlock (ih hg)
    · exact .seq (ih hg)
    · exact .block (ih hg)
    · exact .scope (ih hg)
    · exact .inScope (ih hg)
    · exact .loop (ih hg)
    · split at hg
      · split at hg
        case h_2 => cases hg
        rename_i ds' e' h1 hgc
        exact gcE_ok hm0 hgc (.inLoop (ih hg))
      · exact .inLoop (ih hg)
    · split at hg
      case h_2 => cases hg
      rename_i k' hk
      exact .goto hk (ih hg)
    · split at hg
      · rename_i k' hk; exact .exit hk (ih hg)
      · exact finE_ok hT hmd hm0 hg hq
    · split at hg
      case h_2 => cases hg
      rename_i e1 h1 hr
      exact regC_ok hT hK hm (ih hg) hr
    · split at hg
      · rename_i hc; exact .cond hc (fun _ => ih hg) fun h => by cases h
      · rename_i hc; exact .cond hc (fun h => by cases h) fun _ => ih hg
      · cases hg
    · split at hg
      case h_2 => cases hg
      rename_i i
      split at hg
      case h_2 => cases hg
      rename_i pend fn N' e' ps asg body hob
      split at hg
      case h_2 => cases hg
      rename_i h1 hp
      obtain ⟨lb, rfl, rfl, hi⟩ := id hmd
      exact .beginRound rfl hi hob hp (ih hg)
    · split at hg
      · rename_i keep rs
        split at hg
        case h_2 => cases hg
        rename_i pend h1 nid ob hr
        split at hg
        case h_2 => cases hg
        rename_i hob
        obtain ⟨rfl, rfl, _⟩ := id hmd
        exact Wp.rangeO hK rfl hr (chkP_ok hob) (ih hg)
      · rename_i i
        split at hg
        case h_2 => cases hg
        rename_i hlp
        split at hg
        case h_2 => cases hg
        rename_i pend h1 nid ob hr
        split at hg
        case h_2 => cases hg
        rename_i hob
        obtain ⟨lb, rfl, rfl, hi⟩ := id hmd
        exact Wp.rangeI hK rfl hi hlp hr (chkP_ok hob) (ih hg)
    · exact finE_ok hT hmd hm0 hg hq
end

/-! ### Functions -/
def bodyC (P : Program) (T : TT) (K : KT) (fs : Tri Func) (keep : FuncId → Bool) (steps : Nat) (f : FuncId) (args : List V) (m : Nat) (h : Heap) : Option (V × Heap) := match lk fs f with
  | some fn => match fn.body with
    | some code => match Nat.ble args.length fn.ntmps with
      | true => goC P T K f fn.ntmps (.fn (keep f) fn.results.toList) m steps [.code code] [] (envOf 0 args) h
      | false => none
    | none => none
  | none => none

def appC (P : Program) (T : TT) (raw : FuncId → List V → Option V) (fs : Tri Func) (keep : FuncId → Bool) (steps : Nat) : Nat → V → List V → Nat → Heap → Option (V × Heap)
  | 0, _, _, _, _ => none
  | n + 1, fv, args, m, h => match fv with
    | .c (.v (.func (.func f) ⟨[]⟩ ⟨[]⟩)) => bodyC P T ⟨raw, appC P T raw fs keep steps n⟩ fs keep steps f args m h
    | .c (.fn (.func f) first caps) => match mapcF first with
      | some a => match mapcF caps with
        | some c => match catF args c with
          | some l => match catF a l with
            | some l => bodyC P T ⟨raw, appC P T raw fs keep steps n⟩ fs keep steps f l m h
            | none => none
          | none => none
        | none => none
      | none => none
    | .fn (.func f) first caps => match catF args caps with
      | some l => match catF first l with
        | some l => bodyC P T ⟨raw, appC P T raw fs keep steps n⟩ fs keep steps f l m h
        | none => none
      | none => none
    | .yl i => match Nat.blt i m with
      | true => match look h i with
        | some (.lp .ready _ fn N e ps asg body) => match setArgs e ps args with
          | some e' => match allLt ps N with
            | true => goC P T ⟨raw, appC P T raw fs keep steps n⟩ fn N (.rd i) m steps [.code asg, .beginRound, .code body] [] e' h
            | false => none
          | none => none
        | _ => none
      | false => none
    | _ => none

theorem bodyC_ok {T : TT} {K : KT} {fs : Tri Func} {keep : FuncId → Bool} {steps : Nat} (hT : TTok P T) (hK : KOk P K) (hm : P.follows .mixedOrders = true) (hfs : fs = triOf (P.funcs.toList.map some)) (hent : ∀ f fn code, P.funcs[f]? = some fn → fn.body = some code → Enters P f)
    {f : FuncId} {args : List V} {m : Nat} {h h' : Heap} {v : V} (hb : bodyC P T K fs keep steps f args m h = some (v, h')) : DCalls P f args m h fun v1 h1 => v1 = v ∧ h1 = h' := by
  unfold bodyC at hb
  split at hb
  case h_2 => cases hb
  rename_i fn hfn
  split at hb
  case h_2 => cases hb
  rename_i code hcode
  split at hb
  case h_2 => cases hb
  rename_i hle
  have hfn' : P.funcs[f]? = some fn := by
    rw [hfs] at hfn
    have := triOf_eq hfn
    rw [List.getElem?_map] at this
    rw [← Array.getElem?_toList]
    cases hg : P.funcs.toList[f]? with
    | none => rw [hg] at this; cases this
    | some g => rw [hg] at this; cases this; rfl
  exact DCalls.of_wp (hent f fn code hfn' hcode) hfn' hcode (Nat.le_of_ble_eq_true hle) fun s0 hs0 => goC_ok hT hK hm (md := .fn (keep f) fn.results.toList) ⟨rfl, rfl, fn, hfn', rfl⟩ hs0 ⟨rfl, rfl⟩ steps hb

theorem appC_ok {T : TT} {raw : FuncId → List V → Option V} {fs : Tri Func} {keep : FuncId → Bool} {steps : Nat} (hT : TTok P T) (hraw : ∀ f args v, raw f args = some v → DCalls P f args 0 [] fun v1 _ => v1 = v) (hm : P.follows .mixedOrders = true) (hfs : fs = triOf (P.funcs.toList.map some))
    (hent : ∀ f fn code, P.funcs[f]? = some fn → fn.body = some code → Enters P f) : ∀ n, KOk P ⟨raw, appC P T raw fs keep steps n⟩ := by
  intro n
  induction n with
  | zero => exact ⟨hraw, fun fv args m h v h' hh => by cases hh⟩
  | succ n ih =>
    refine ⟨hraw, fun fv args m h v h' hh => ?_⟩
    simp only [appC] at hh
    split at hh
    · exact DApp.func (bodyC_ok hT ih hm hfs hent hh)
    · split at hh
      case h_2 => cases hh
      rename_i a ha
      split at hh
      case h_2 => cases hh
      rename_i c hc
      split at hh
      case h_2 => cases hh
      rename_i l hl
      split at hh
      case h_2 => cases hh
      rename_i l2 hl2
      have e1 := mapcF_eq ha
      have e2 := mapcF_eq hc
      have e3 := catF_eq hl
      have e4 := catF_eq hl2
      subst e1 e2 e3 e4
      exact DApp.cloGC (by rw [List.append_assoc]; exact bodyC_ok hT ih hm hfs hent hh)
    · split at hh
      case h_2 => cases hh
      rename_i l hl
      split at hh
      case h_2 => cases hh
      rename_i l2 hl2
      have e3 := catF_eq hl
      have e4 := catF_eq hl2
      subst e3 e4
      exact DApp.cloG (by rw [List.append_assoc]; exact bodyC_ok hT ih hm hfs hent hh)
    · rename_i i
      split at hh
      case h_2 => cases hh
      rename_i him
      split at hh
      case h_2 => cases hh
      rename_i pend fn N e ps asg body hob
      split at hh
      case h_2 => cases hh
      rename_i e' he'
      split at hh
      case h_2 => cases hh
      rename_i hlt
      exact DApp.yl hob (by simpa using him) he' hlt fun s0 lb hs0 hi => goC_ok hT ih hm (md := .rd i) ⟨lb, rfl, rfl, hi⟩ hs0 ⟨rfl, rfl⟩ steps hh
    · cases hh

/-- Functions with bodies are entered. -/
theorem enters_of (h : (P.funcs.toList.all fun fn => !(fn.name == "runtime.NumGoroutine")) = true) (f : FuncId) (fn : Func) (code : Code) (hf : P.funcs[f]? = some fn) (hb : fn.body = some code) : Enters P f := by
  intro args w
  have hn : (fn.name == "runtime.NumGoroutine") = false := by
    have := List.all_eq_true.1 h fn (List.mem_of_getElem? (by rw [Array.getElem?_toList]; exact hf))
    simpa using this
  have hn' : ¬ fn.name = "runtime.NumGoroutine" := by simpa using hn
  simp [callFunc, hf, hn', hb]

/-- A closed run of a function. -/
theorem closed_run {T : TT} {fs : Tri Func} {keep : FuncId → Bool} {steps n : Nat} {raw : FuncId → List V → Option V} (hT : TTok P T) (hraw : ∀ f args v, raw f args = some v → DCalls P f args 0 [] fun v1 _ => v1 = v) (hm : P.follows .mixedOrders = true) (hfs : fs = triOf (P.funcs.toList.map some))
    (hent : ∀ f fn code, P.funcs[f]? = some fn → fn.body = some code → Enters P f) {f : FuncId} {args : List V} {m : Nat} {h h' : Heap} {v : V}
    (hb : bodyC P T ⟨raw, appC P T raw fs keep steps n⟩ fs keep steps f args m h = some (v, h')) : DCalls P f args m h fun v1 h1 => v1 = v ∧ h1 = h' :=
  bodyC_ok hT (appC_ok hT hraw hm hfs hent n) hm hfs hent hb

end Go.Lift
