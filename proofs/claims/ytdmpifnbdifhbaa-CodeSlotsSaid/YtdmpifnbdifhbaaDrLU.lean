/- Segments of which some decisions are known. -/
import Derived.Test.YtdmpifnbdifhbaaDrLT
namespace Go.Lift
variable {P : Program}

/-- The decisions that come first, and are owed. -/
def pruneQ : List Bool → Tq → Option Tq
  | [], t => some t
  | c :: l, .need obs t => match pruneQ (c :: l) t with
    | some t' => some (.need obs t')
    | none => none
  | c :: l, .node b t e => match c with
    | true => match pruneQ l t with
      | some t' => some (.need [Pr.no (b = true)] t')
      | none => none
    | false => match pruneQ l e with
      | some t' => some (.need [Pr.no (b = false)] t')
      | none => none
  | _ :: _, .fin _ _ => none
  | _ :: _, .leaf _ _ _ => none

theorem pruneQ_ok {leafP : List Item → Env → Heap → Prop} {Q : V → Heap → Prop} : ∀ {t t' : Tq} {l : List Bool}, pruneQ l t = some t' → TqOK leafP Q t' → TqOK leafP Q t := by
  intro t
  induction t with
  | fin v h =>
    intro t' l hp ho
    cases l with
    | nil => simp only [pruneQ, Option.some.injEq] at hp; subst hp; exact ho
    | cons c l => cases hp
  | leaf k e h =>
    intro t' l hp ho
    cases l with
    | nil => simp only [pruneQ, Option.some.injEq] at hp; subst hp; exact ho
    | cons c l => cases hp
  | need obs t ih =>
    intro t' l hp ho
    cases l with
    | nil => simp only [pruneQ, Option.some.injEq] at hp; subst hp; exact ho
    | cons c l =>
      simp only [pruneQ] at hp
      split at hp
      case h_2 => cases hp
      rename_i t2 h2
      cases hp
      exact ⟨ho.1, ih h2 ho.2⟩
  | node b t e iht ihe =>
    intro t' l hp ho
    cases l with
    | nil => simp only [pruneQ, Option.some.injEq] at hp; subst hp; exact ho
    | cons c l =>
      cases c with
      | true =>
        simp only [pruneQ] at hp
        split at hp
        case h_2 => cases hp
        rename_i t2 h2
        cases hp
        have hb : b = true := ho.1.1
        exact ⟨fun _ => iht h2 ho.2, fun h => by rw [hb] at h; cases h⟩
      | false =>
        simp only [pruneQ] at hp
        split at hp
        case h_2 => cases hp
        rename_i t2 h2
        cases hp
        have hb : b = false := ho.1.1
        exact ⟨(fun h => by rw [hb] at h; cases h), fun _ => ihe h2 ho.2⟩

def segC (P : Program) (T : TT) (K : KT) (N : Nat) (rs : List ResultVar) (m0 kk fuel : Nat) (ch : List Bool) (rsel sel keep : List Nat) (todo : List Item) (e : Env) (h : Heap) (q : List Orc) : Option SegR :=
  match treeR P T K N rs m0 rsel [] fuel todo e h q [] with
  | some t0 => match pruneQ ch t0 with
    | some t => match goB t with
      | some g => match leafsK m0 sel keep t [] with
        | some l => some ⟨g, retsK t, owedK kk t [], l⟩
        | none => none
      | none => none
    | none => none
  | none => none

/-- As 'Wp.segO', with the first decisions known. -/
theorem Wp.segC {N : Nat} {s0 : St} {T : TT} (hT : TTok P T) {K : KT} (hK : KOk P K) (hm : P.follows .mixedOrders = true) {f : FuncId} {Q : V → Heap → Prop} {fn : Func} (hfn : P.funcs[f]? = some fn) {m0 : Nat} (hm0 : ∀ i, m0 ≤ i → i < 1000 → s0.μ i = .free)
    (kk fuel : Nat) (ch : List Bool) (rsel sel keep : List Nat) (q : List Orc) (nr n : Nat) (G : Bool) (L : List Prop) {K' : List Item} (E' : LEnv) (H' : Heap) (v0 : V) (h0 : Heap) {todo : List Item} {e : Env} {h : Heap}
    (hv : Lift.segC P T K N fn.results.toList m0 kk fuel ch rsel sel keep todo e h q = some ⟨G, List.replicate nr (v0, h0), L, List.replicate n (K', E', H')⟩) (ho : AllP L)
    (hgo : G = true → Wp P (frameOf f) N s0 (Ends P f Q) K' [] (ofL E') H') (hret : G = false → Q v0 h0) : Wp P (frameOf f) N s0 (Ends P f Q) todo [] e h := by
  unfold Lift.segC at hv
  split at hv
  case h_2 => cases hv
  rename_i t0 ht
  split at hv
  case h_2 => cases hv
  rename_i t hp
  split at hv
  case h_2 => cases hv
  rename_i g hg
  split at hv
  case h_2 => cases hv
  rename_i l hl
  simp only [Option.some.injEq, SegR.mk.injEq] at hv
  obtain ⟨rfl, hr, rfl, rfl⟩ := hv
  exact Wp.treeR hT hK hm hfn hm0 ht (pruneQ_ok hp (seg_ok hm0 hg (fun x hx => by rw [hr] at hx; exact List.eq_of_mem_replicate hx) hl (fun x hx => (List.eq_of_mem_replicate hx)) (path := []) trivial ho hgo hret))
end Go.Lift
