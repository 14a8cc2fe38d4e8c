/- Segments that return objects. -/
import Derived.Test.YtdmpifnbdifhbaaDrLR
namespace Go.Lift
variable {P : Program}

/-- A segment that returns the objects 'rsel'. -/
def segO (P : Program) (T : TT) (K : KT) (N : Nat) (rs : List ResultVar) (m0 kk fuel : Nat) (rsel sel keep : List Nat) (todo : List Item) (e : Env) (h : Heap) (q : List Orc) : Option SegR :=
  match treeR P T K N rs m0 rsel [] fuel todo e h q [] with
  | some t => match goB t with
    | some g => match leafsK m0 sel keep t [] with
      | some l => some ⟨g, retsK t, owedK kk t [], l⟩
      | none => none
    | none => none
  | none => none

/-- As 'Wp.seg', with the objects 'rsel' returned. -/
theorem Wp.segO {N : Nat} {s0 : St} {T : TT} (hT : TTok P T) {K : KT} (hK : KOk P K) (hm : P.follows .mixedOrders = true) {f : FuncId} {Q : V → Heap → Prop} {fn : Func} (hfn : P.funcs[f]? = some fn) {m0 : Nat} (hm0 : ∀ i, m0 ≤ i → i < 1000 → s0.μ i = .free)
    (kk fuel : Nat) (rsel sel keep : List Nat) (q : List Orc) (nr n : Nat) (G : Bool) (L : List Prop) {K' : List Item} (E' : LEnv) (H' : Heap) (v0 : V) (h0 : Heap) {todo : List Item} {e : Env} {h : Heap}
    (hv : Lift.segO P T K N fn.results.toList m0 kk fuel rsel sel keep todo e h q = some ⟨G, List.replicate nr (v0, h0), L, List.replicate n (K', E', H')⟩) (ho : AllP L)
    (hgo : G = true → Wp P (frameOf f) N s0 (Ends P f Q) K' [] (ofL E') H') (hret : G = false → Q v0 h0) : Wp P (frameOf f) N s0 (Ends P f Q) todo [] e h := by
  unfold Lift.segO at hv
  split at hv
  case h_2 => cases hv
  rename_i t ht
  split at hv
  case h_2 => cases hv
  rename_i g hg
  split at hv
  case h_2 => cases hv
  rename_i l hl
  simp only [Option.some.injEq, SegR.mk.injEq] at hv
  obtain ⟨rfl, hr, rfl, rfl⟩ := hv
  exact Wp.treeR hT hK hm hfn hm0 ht (seg_ok hm0 hg (fun x hx => by rw [hr] at hx; exact List.eq_of_mem_replicate hx) hl (fun x hx => (List.eq_of_mem_replicate hx)) (path := []) trivial ho hgo hret)

/-- The last segment: it returns. -/
theorem Wp.segF {N : Nat} {s0 : St} {T : TT} (hT : TTok P T) {K : KT} (hK : KOk P K) (hm : P.follows .mixedOrders = true) {f : FuncId} {Q : V → Heap → Prop} {fn : Func} (hfn : P.funcs[f]? = some fn) {m0 : Nat} (hm0 : ∀ i, m0 ≤ i → i < 1000 → s0.μ i = .free)
    (kk fuel : Nat) (rsel : List Nat) (q : List Orc) (nr : Nat) (L : List Prop) (v0 : V) (h0 : Heap) {todo : List Item} {e : Env} {h : Heap}
    (hv : Lift.segO P T K N fn.results.toList m0 kk fuel rsel [] [] todo e h q = some ⟨false, List.replicate nr (v0, h0), L, []⟩) (ho : AllP L)
    (hret : Q v0 h0) : Wp P (frameOf f) N s0 (Ends P f Q) todo [] e h :=
  Wp.segO hT hK hm hfn hm0 kk fuel rsel [] [] q nr 0 false L (K' := []) [] [] v0 h0 hv ho (fun h => by cases h) fun _ => hret
end Go.Lift
