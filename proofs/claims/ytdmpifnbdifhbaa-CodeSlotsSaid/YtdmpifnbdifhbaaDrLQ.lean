/- Functions whose tree the kernel reckons. -/
import Derived.Test.YtdmpifnbdifhbaaDrLM
namespace Go.Lift
variable {P : Program}

/-- A stretch's tree with its returns, checked. -/
def treeR (P : Program) (T : TT) (K : KT) (N : Nat) (rs : List ResultVar) (m : Nat) (sel : List Nat) (ds : List DV) (fuel : Nat) (todo : List Item) (e : Env) (h : Heap) (q : List Orc) (lits : List Nat) : Option Tq :=
  match runD P T K N fuel todo e h q lits with
  | some t => match chkT t with
    | true => retT T rs m sel ds t
    | false => none
  | none => none

theorem Wp.treeR {N : Nat} {s0 : St} {ds : List DV} {T : TT} (hT : TTok P T) {K : KT} (hK : KOk P K) (hm : P.follows .mixedOrders = true) {f : FuncId} {Q : V → Heap → Prop} {fn : Func} (hfn : P.funcs[f]? = some fn) {m0 : Nat} (hm0 : ∀ i, m0 ≤ i → i < 1000 → s0.μ i = .free)
    {n : Nat} {sel : List Nat} {todo : List Item} {e : Env} {h : Heap} {q : List Orc} {lits : List Nat} {t : Tq} (hr : Lift.treeR P T K N fn.results.toList m0 sel ds n todo e h q lits = some t)
    (ho : TqOK (fun k e h => Wp P (frameOf f) N s0 (Ends P f Q) k ds e h) Q t) : Wp P (frameOf f) N s0 (Ends P f Q) todo ds e h := by
  unfold Lift.treeR at hr
  split at hr
  case h_2 => cases hr
  rename_i t1 ht1
  split at hr
  case h_2 => cases hr
  rename_i hc
  exact Wp.runF hT hK hm hfn hm0 n sel ht1 hc hr ho

/-- The value, by the decisions. -/
def valB : Tq → Option Bool
  | .fin v h => match v with
    | .c (.v (.bool b)) => match h with
      | [] => some b
      | _ :: _ => none
    | _ => none
  | .leaf _ _ _ => none
  | .need _ t => valB t
  | .node b t e => match valB t with
    | some x => match valB e with
      | some y => some (match b with | true => x | false => y)
      | none => none
    | none => none

def valI (k : IntKind) : Tq → Option Int
  | .fin v h => match v with
    | .c (.v (.int k' n)) => match ikEq k k' with
      | true => match h with
        | [] => some n
        | _ :: _ => none
      | false => none
    | _ => none
  | .leaf _ _ _ => none
  | .need _ t => valI k t
  | .node b t e => match valI k t with
    | some x => match valI k e with
      | some y => some (match b with | true => x | false => y)
      | none => none
    | none => none

def appP : List Pr → List Prop → List Prop
  | [], r => r
  | p :: l, r => p.p :: appP l r
def appA {α : Type} : List α → List α → List α
  | [], r => r
  | p :: l, r => p :: appA l r

/-- What is owed, whatever is decided. -/
def owed : Tq → List Prop
  | .fin _ _ => []
  | .leaf _ _ _ => []
  | .need obs t => appP obs (owed t)
  | .node _ t e => appA (owed t) (owed e)

def AllP : List Prop → Prop
  | [] => True
  | p :: l => p ∧ AllP l

theorem AllP.appA : ∀ {l r : List Prop}, AllP (appA l r) → AllP l ∧ AllP r := by
  intro l
  induction l with
  | nil => intro r h; exact ⟨trivial, h⟩
  | cons p l ih => intro r h; obtain ⟨h1, h2⟩ := h; exact ⟨⟨h1, (ih h2).1⟩, (ih h2).2⟩
theorem AllP.appP : ∀ {l : List Pr} {r : List Prop}, AllP (appP l r) → Obs l ∧ AllP r := by
  intro l
  induction l with
  | nil => intro r h; exact ⟨trivial, h⟩
  | cons p l ih => intro r h; obtain ⟨h1, h2⟩ := h; exact ⟨⟨h1, (ih h2).1⟩, (ih h2).2⟩

theorem valB_ok {leafP : List Item → Env → Heap → Prop} : ∀ {t : Tq} {B : Bool}, valB t = some B → AllP (owed t) → TqOK leafP (fun v h => v = cb B ∧ h = []) t := by
  intro t
  induction t with
  | fin v h =>
    intro B hv _
    simp only [valB] at hv
    split at hv
    · split at hv
      · cases hv; exact ⟨rfl, rfl⟩
      · cases hv
    · cases hv
  | leaf => intro B hv; cases hv
  | need obs t ih =>
    intro B hv ho
    exact ⟨(AllP.appP ho).1, ih hv (AllP.appP ho).2⟩
  | node b t e iht ihe =>
    intro B hv ho
    obtain ⟨h1, h2⟩ := AllP.appA ho
    simp only [valB] at hv
    split at hv
    case h_2 => cases hv
    rename_i x hx
    split at hv
    case h_2 => cases hv
    rename_i y hy
    cases hv
    cases b with
    | true => exact ⟨fun _ => iht hx h1, fun h => by cases h⟩
    | false => exact ⟨(fun h => by cases h), fun _ => ihe hy h2⟩

theorem valI_ok {k : IntKind} {leafP : List Item → Env → Heap → Prop} : ∀ {t : Tq} {B : Int}, valI k t = some B → AllP (owed t) → TqOK leafP (fun v h => v = ci k B ∧ h = []) t := by
  intro t
  induction t with
  | fin v h =>
    intro B hv _
    simp only [valI] at hv
    split at hv
    · rename_i k' n _
      split at hv
      · rename_i hk
        have hk : k = k' := by simpa [ikEq] using hk
        subst hk
        split at hv
        · cases hv; exact ⟨rfl, rfl⟩
        · cases hv
      · cases hv
    · cases hv
  | leaf => intro B hv; cases hv
  | need obs t ih =>
    intro B hv ho
    exact ⟨(AllP.appP ho).1, ih hv (AllP.appP ho).2⟩
  | node b t e iht ihe =>
    intro B hv ho
    obtain ⟨h1, h2⟩ := AllP.appA ho
    simp only [valI] at hv
    split at hv
    case h_2 => cases hv
    rename_i x hx
    split at hv
    case h_2 => cases hv
    rename_i y hy
    cases hv
    cases b with
    | true => exact ⟨fun _ => iht hx h1, fun h => by cases h⟩
    | false => exact ⟨(fun h => by cases h), fun _ => ihe hy h2⟩

/-- The tree of a function that is handed closed data. -/
def treeF (P : Program) (T : TT) (K : KT) (fn : Func) (fuel : Nat) (args : List V) (q : List Orc) : Option Tq := match fn.body with
  | some code => match Nat.ble args.length fn.ntmps with
    | true => treeR P T K fn.ntmps fn.results.toList 0 [] [] fuel [.code code] (envOf 0 args) [] q []
    | false => none
  | none => none

def bindB : Option Tq → Option (Bool × List Prop)
  | some t => match valB t with
    | some b => some (b, owed t)
    | none => none
  | none => none
def bindI (k : IntKind) : Option Tq → Option (Int × List Prop)
  | some t => match valI k t with
    | some b => some (b, owed t)
    | none => none
  | none => none

theorem treeF_wp {T : TT} (hT : TTok P T) {K : KT} (hK : KOk P K) (hm : P.follows .mixedOrders = true) {f : FuncId} {fn : Func} (hent : Enters P f) (hfn : P.funcs[f]? = some fn) {fuel : Nat} {args : List V} {q : List Orc} {t : Tq} {Q : V → Heap → Prop}
    (ht : treeF P T K fn fuel args q = some t) (ho : ∀ {leafP : List Item → Env → Heap → Prop}, TqOK leafP Q t) : DCalls P f args 0 [] Q := by
  unfold treeF at ht
  split at ht
  case h_2 => cases ht
  rename_i code hcode
  split at ht
  case h_2 => cases ht
  rename_i hle
  exact DCalls.of_wp hent hfn hcode (Nat.le_of_ble_eq_true hle) fun s0 hs0 => Wp.treeR hT hK hm hfn hs0 ht ho

/-- A function that is handed closed data and returns a truth: by its tree, which the kernel reckons. -/
theorem DCalls.ofB {T : TT} (hT : TTok P T) {K : KT} (hK : KOk P K) (hm : P.follows .mixedOrders = true) {f : FuncId} {fn : Func} (hent : Enters P f) (hfn : P.funcs[f]? = some fn) (fuel : Nat) {args : List V} (q : List Orc) {B : Bool} (L : List Prop)
    (hv : bindB (treeF P T K fn fuel args q) = some (B, L)) (ho : AllP L) : DCalls P f args 0 [] fun v h => v = cb B ∧ h = [] := by
  unfold bindB at hv
  split at hv
  case h_2 => cases hv
  rename_i t ht
  split at hv
  case h_2 => cases hv
  rename_i b hb
  cases hv
  exact treeF_wp hT hK hm hent hfn ht (valB_ok hb ho)

theorem DCalls.ofI {T : TT} (hT : TTok P T) {K : KT} (hK : KOk P K) (hm : P.follows .mixedOrders = true) {f : FuncId} {fn : Func} (hent : Enters P f) (hfn : P.funcs[f]? = some fn) (fuel : Nat) {args : List V} (q : List Orc) {k : IntKind} {B : Int} (L : List Prop)
    (hv : bindI k (treeF P T K fn fuel args q) = some (B, L)) (ho : AllP L) : DCalls P f args 0 [] fun v h => v = ci k B ∧ h = [] := by
  unfold bindI at hv
  split at hv
  case h_2 => cases hv
  rename_i t ht
  split at hv
  case h_2 => cases hv
  rename_i b hb
  cases hv
  exact treeF_wp hT hK hm hent hfn ht (valI_ok hb ho)

/-! ### Owed under the last decisions -/
def takeK : Nat → List (Bool × Bool) → List (Bool × Bool)
  | 0, _ => []
  | _ + 1, [] => []
  | n + 1, x :: l => x :: takeK n l

def impP : List (Bool × Bool) → Prop → Prop
  | [], p => p
  | (b, true) :: l, p => b = true → impP l p
  | (b, false) :: l, p => b = false → impP l p

def impL (path : List (Bool × Bool)) : List Pr → List Prop → List Prop
  | [], r => r
  | p :: l, r => impP path p.p :: impL path l r

/-- What is owed, under the last 'k' decisions. -/
def owedK (k : Nat) : Tq → List (Bool × Bool) → List Prop
  | .fin _ _, _ => []
  | .leaf _ _ _, _ => []
  | .need obs t, path => impL (takeK k path) obs (owedK k t path)
  | .node b t e, path => appA (owedK k t ((b, true) :: path)) (owedK k e ((b, false) :: path))

def PathOK : List (Bool × Bool) → Prop
  | [] => True
  | (b, c) :: l => b = c ∧ PathOK l

theorem PathOK.take {l : List (Bool × Bool)} (h : PathOK l) : ∀ k, PathOK (takeK k l) := by
  induction l with
  | nil => intro k; cases k <;> trivial
  | cons x l ih =>
    intro k
    cases k with
    | zero => trivial
    | succ k => exact ⟨h.1, ih h.2 k⟩
theorem impP_ok {l : List (Bool × Bool)} {p : Prop} (hl : PathOK l) (h : impP l p) : p := by
  induction l with
  | nil => exact h
  | cons x l ih =>
    obtain ⟨b, c⟩ := x
    cases c with
    | true => exact ih hl.2 (h hl.1)
    | false => exact ih hl.2 (h hl.1)
theorem impL_ok {path : List (Bool × Bool)} (hp : PathOK path) : ∀ {l : List Pr} {r : List Prop}, AllP (impL path l r) → Obs l ∧ AllP r := by
  intro l
  induction l with
  | nil => intro r h; exact ⟨trivial, h⟩
  | cons p l ih => intro r h; obtain ⟨h1, h2⟩ := h; exact ⟨⟨impP_ok hp h1, (ih h2).1⟩, (ih h2).2⟩

/-- The same value, and nothing owed any more. -/
theorem valBK_ok {leafP : List Item → Env → Heap → Prop} {k : Nat} : ∀ {t : Tq} {B : Bool} {path : List (Bool × Bool)}, valB t = some B → PathOK path → AllP (owedK k t path) → TqOK leafP (fun v h => v = cb B ∧ h = []) t := by
  intro t
  induction t with
  | fin v h =>
    intro B path hv _ _
    exact valB_ok hv trivial
  | leaf => intro B path hv; cases hv
  | need obs t ih =>
    intro B path hv hp ho
    obtain ⟨h1, h2⟩ := impL_ok (hp.take k) ho
    exact ⟨h1, ih hv hp h2⟩
  | node b t e iht ihe =>
    intro B path hv hp ho
    obtain ⟨h1, h2⟩ := AllP.appA ho
    simp only [valB] at hv
    split at hv
    case h_2 => cases hv
    rename_i x hx
    split at hv
    case h_2 => cases hv
    rename_i y hy
    cases hv
    cases b with
    | true => exact ⟨fun _ => iht (path := (true, true) :: path) hx ⟨rfl, hp⟩ h1, fun h => by cases h⟩
    | false => exact ⟨(fun h => by cases h), fun _ => ihe (path := (false, false) :: path) hy ⟨rfl, hp⟩ h2⟩

def bindBK (k : Nat) : Option Tq → Option (Bool × List Prop)
  | some t => match valB t with
    | some b => some (b, owedK k t [])
    | none => none
  | none => none

theorem DCalls.ofBK {T : TT} (hT : TTok P T) {K : KT} (hK : KOk P K) (hm : P.follows .mixedOrders = true) {f : FuncId} {fn : Func} (hent : Enters P f) (hfn : P.funcs[f]? = some fn) (k fuel : Nat) {args : List V} (q : List Orc) {B : Bool} (L : List Prop)
    (hv : bindBK k (treeF P T K fn fuel args q) = some (B, L)) (ho : AllP L) : DCalls P f args 0 [] fun v h => v = cb B ∧ h = [] := by
  unfold bindBK at hv
  split at hv
  case h_2 => cases hv
  rename_i t ht
  split at hv
  case h_2 => cases hv
  rename_i b hb
  cases hv
  exact treeF_wp hT hK hm hent hfn ht (valBK_ok (path := []) hb trivial ho)

end Go.Lift
