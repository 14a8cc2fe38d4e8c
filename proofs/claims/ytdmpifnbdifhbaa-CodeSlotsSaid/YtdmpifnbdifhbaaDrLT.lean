/- Straight stretches, in any frame. -/
import Derived.Test.YtdmpifnbdifhbaaDrLS
namespace Go.Lift
variable {P : Program}

def lineT : Tr → Option (List Prop × List Item × Env × Heap)
  | .leaf k e h => some ([], k, e, h)
  | .need obs _ t => match lineT t with
    | some (L, x) => some (appP obs L, x)
    | none => none
  | .node b t e => none

/-- A stretch without decisions. -/
def lineE (P : Program) (T : TT) (K : KT) (N m0 fuel : Nat) (sel keep : List Nat) (todo : List Item) (e : Env) (h : Heap) (q : List Orc) : Option (List Prop × List Item × LEnv × Heap) :=
  match runD P T K N fuel todo e h q [] with
  | some t => match chkT t with
    | true => match lineT t with
      | some (L, k, e1, h1) => match dropL m0 sel keep e1 h1 with
        | some (e2, h2) => some (L, k, e2, h2)
        | none => none
      | none => none
    | false => none
  | none => none

theorem lineT_ok {leafP : List Item → Env → Heap → Prop} : ∀ {t : Tr} {L : List Prop} {k : List Item} {e : Env} {h : Heap}, lineT t = some (L, k, e, h) → AllP L → leafP k e h → TreeOK leafP t := by
  intro t
  induction t with
  | leaf k' e' h' => intro L k e h hl _ ho; cases hl; exact ho
  | need obs c t ih =>
    intro L k e h hl ho hq
    simp only [lineT] at hl
    split at hl
    case h_2 => cases hl
    rename_i L' x hx
    cases hl
    obtain ⟨h1, h2⟩ := AllP.appP ho
    exact ⟨h1, ih hx h2 hq⟩
  | node b t e => intro L k e h hl; cases hl

theorem Wp.line {b : Frame} {N : Nat} {s0 : St} {R : Frame → St → Prop} {T : TT} (hT : TTok P T) {K : KT} (hK : KOk P K) (hm : P.follows .mixedOrders = true) {m0 : Nat} (hm0 : ∀ i, m0 ≤ i → i < 1000 → s0.μ i = .free)
    (fuel : Nat) (sel keep : List Nat) (q : List Orc) (L : List Prop) {K' : List Item} (E' : LEnv) (H' : Heap) {todo : List Item} {e : Env} {h : Heap} (hv : lineE P T K N m0 fuel sel keep todo e h q = some (L, K', E', H')) (ho : AllP L)
    (hw : Wp P b N s0 R K' [] (ofL E') H') : Wp P b N s0 R todo [] e h := by
  unfold lineE at hv
  split at hv
  case h_2 => cases hv
  rename_i t ht
  split at hv
  case h_2 => cases hv
  rename_i hc
  split at hv
  case h_2 => cases hv
  rename_i L1 k e1 h1 hl
  split at hv
  case h_2 => cases hv
  rename_i e2 h2 hd
  cases hv
  exact Wp.run hT hK hm fuel ht hc (lineT_ok hl ho (dropL_ok hm0 hd hw))

/-- The first range over a function in a text. -/
def findR : Code → Option (List Nat × Code × Code)
  | .rangeFunc _ ps a b => some (ps.toList, a, b)
  | .seq a b => match findR a with
    | some x => some x
    | none => findR b
  | .block _ c => findR c
  | .scope c => findR c
  | .loop c => findR c
  | .cond _ a b => match findR a with
    | some x => some x
    | none => findR b
  | _ => none
def rangeOf (fn : Func) : List Nat × Code × Code := match fn.body with
  | some c => match findR c with
    | some x => x
    | none => ([], .skip, .skip)
  | none => ([], .skip, .skip)
end Go.Lift
