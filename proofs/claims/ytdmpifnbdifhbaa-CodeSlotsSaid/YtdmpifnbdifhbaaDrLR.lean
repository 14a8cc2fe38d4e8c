/- Segments that the kernel reckons: they return a truth, or go on. -/
import Derived.Test.YtdmpifnbdifhbaaDrLQ
namespace Go.Lift
variable {P : Program}

/-- Does it go on? -/
def goB : Tq → Option Bool
  | .fin _ _ => some false
  | .leaf _ _ _ => some true
  | .need _ t => goB t
  | .node b t e => match goB t with
    | some x => match goB e with
      | some y => some (match b with | true => x | false => y)
      | none => none
    | none => none

/-- What it returns where it does. -/
def retsK : Tq → List (V × Heap)
  | .fin v h => [(v, h)]
  | .leaf _ _ _ => []
  | .need _ t => retsK t
  | .node _ t e => appA (retsK t) (retsK e)
theorem appA_eq {α : Type} (l r : List α) : appA l r = l ++ r := by
  induction l with
  | nil => rfl
  | cons x l ih => simp only [appA, ih]; rfl

/-- The objects 'sel' and the temporaries 'keep' go on. -/
def dropL (m0 : Nat) (sel keep : List Nat) (e : Env) (h : Heap) : Option (LEnv × Heap) := match idsF m0 sel with
  | true => match selH 9 sel h sel with
    | some h' => match idOf sel with
      | some n => match sucT n with
        | some _ => match nodupF sel with
          | true => match smE 9 sel (look h) keep e with
            | some e' => some (e', h')
            | none => none
          | false => none
        | none => none
      | none => none
    | none => none
  | false => none

theorem dropL_ok {b : Frame} {N : Nat} {s0 : St} {R : Frame → St → Prop} {k : List Item} {e : Env} {h : Heap} {m0 : Nat} (hm0 : ∀ i, m0 ≤ i → i < 1000 → s0.μ i = .free) {sel keep : List Nat} {e' : LEnv} {h' : Heap} (hd : dropL m0 sel keep e h = some (e', h'))
    (hw : Wp P b N s0 R k [] (ofL e') h') : Wp P b N s0 R k [] e h := by
  unfold dropL at hd
  split at hd
  case h_2 => cases hd
  rename_i hids
  split at hd
  case h_2 => cases hd
  rename_i h1 hh
  split at hd
  case h_2 => cases hd
  rename_i n hn
  split at hd
  case h_2 => cases hd
  rename_i n' hn'
  split at hd
  case h_2 => cases hd
  rename_i hnd
  split at hd
  case h_2 => cases hd
  rename_i e1 he
  cases hd
  exact Wp.drop hm0 hids hh hn ⟨_, hn'⟩ hnd he rfl hw

def leafsK (m0 : Nat) (sel keep : List Nat) : Tq → List (List Item × LEnv × Heap) → Option (List (List Item × LEnv × Heap))
  | .fin _ _, acc => some acc
  | .leaf k e h, acc => match dropL m0 sel keep e h with
    | some (e', h') => some ((k, e', h') :: acc)
    | none => none
  | .need _ t, acc => leafsK m0 sel keep t acc
  | .node _ t e, acc => match leafsK m0 sel keep e acc with
    | some acc' => leafsK m0 sel keep t acc'
    | none => none

theorem leafsK_acc {m0 : Nat} {sel keep : List Nat} : ∀ {t : Tq} {acc l : List (List Item × LEnv × Heap)}, leafsK m0 sel keep t acc = some l → ∃ l', l = l' ++ acc ∧ ∀ acc', leafsK m0 sel keep t acc' = some (l' ++ acc') := by
  intro t
  induction t with
  | fin => intro acc l h; simp only [leafsK, Option.some.injEq] at h; exact ⟨[], h.symm, fun _ => rfl⟩
  | leaf k e hh =>
    intro acc l h
    simp only [leafsK] at h
    split at h
    case h_2 => cases h
    rename_i e' h' hd
    cases h
    exact ⟨[(k, e', h')], rfl, fun acc' => by simp only [leafsK, hd]; rfl⟩
  | need obs t ih => intro acc l h; simp only [leafsK] at h ⊢; exact ih h
  | node b t e iht ihe =>
    intro acc l h
    simp only [leafsK] at h
    split at h
    case h_2 => cases h
    rename_i a1 h1
    obtain ⟨l1, g1, g2⟩ := ihe h1
    obtain ⟨l2, g3, g4⟩ := iht h
    refine ⟨l2 ++ l1, by rw [g3, g1, List.append_assoc], fun acc' => ?_⟩
    simp only [leafsK, g2, g4, List.append_assoc]

structure SegR where
  go : Bool
  rets : List (V × Heap)
  owes : List Prop
  ends : List (List Item × LEnv × Heap)

/-- A segment: whether it goes on, what it returns, what is owed, where it goes on. -/
def segE (P : Program) (T : TT) (K : KT) (N : Nat) (rs : List ResultVar) (m0 kk fuel : Nat) (sel keep : List Nat) (todo : List Item) (e : Env) (h : Heap) (q : List Orc) : Option SegR :=
  match treeR P T K N rs m0 [] [] fuel todo e h q [] with
  | some t => match goB t with
    | some g => match leafsK m0 sel keep t [] with
      | some l => some ⟨g, retsK t, owedK kk t [], l⟩
      | none => none
    | none => none
  | none => none

theorem seg_ok {b : Frame} {N : Nat} {s0 : St} {R : Frame → St → Prop} {Q : V → Heap → Prop} {m0 : Nat} (hm0 : ∀ i, m0 ≤ i → i < 1000 → s0.μ i = .free) {sel keep : List Nat} {kk : Nat} {E' : LEnv} {H' : Heap} {K' : List Item} {v0 : V} {h0 : Heap} :
    ∀ {t : Tq} {G : Bool} {path : List (Bool × Bool)} {l : List (List Item × LEnv × Heap)}, goB t = some G → (∀ x ∈ retsK t, x = (v0, h0)) → leafsK m0 sel keep t [] = some l → (∀ x ∈ l, x = (K', E', H')) → PathOK path → AllP (owedK kk t path) →
      (G = true → Wp P b N s0 R K' [] (ofL E') H') → (G = false → Q v0 h0) → TqOK (fun k e h => Wp P b N s0 R k [] e h) Q t := by
  intro t
  induction t with
  | fin v h =>
    intro G path l hg hr _ _ _ _ _ hret
    simp only [goB, Option.some.injEq] at hg
    subst hg
    have := hr (v, h) (List.mem_cons_self ..)
    cases this
    exact hret rfl
  | leaf k e h =>
    intro G path l hg hr hl hall _ _ hgo _
    simp only [goB, Option.some.injEq] at hg
    subst hg
    simp only [leafsK] at hl
    split at hl
    case h_2 => cases hl
    rename_i e' h' hd
    cases hl
    have := hall _ (List.mem_cons_self ..)
    cases this
    exact dropL_ok hm0 hd (hgo rfl)
  | need obs t ih =>
    intro G path l hg hr hl hall hp ho hgo hret
    obtain ⟨h1, h2⟩ := impL_ok (hp.take kk) ho
    exact ⟨h1, ih hg hr hl hall hp h2 hgo hret⟩
  | node b t e iht ihe =>
    intro G path l hg hr hl hall hp ho hgo hret
    obtain ⟨h1, h2⟩ := AllP.appA ho
    simp only [goB] at hg
    split at hg
    case h_2 => cases hg
    rename_i x hx
    split at hg
    case h_2 => cases hg
    rename_i y hy
    cases hg
    simp only [retsK, appA_eq] at hr
    simp only [leafsK] at hl
    split at hl
    case h_2 => cases hl
    rename_i a1 ha1
    obtain ⟨l2, g3, g4⟩ := leafsK_acc hl
    have ht := g4 []
    rw [List.append_nil] at ht
    subst g3
    cases b with
    | true => exact ⟨fun _ => iht (path := (true, true) :: path) hx (fun x hx => hr x (List.mem_append_left _ hx)) ht (fun x hx => hall x (List.mem_append_left _ hx)) ⟨rfl, hp⟩ h1 hgo hret, fun h => by cases h⟩
    | false => exact ⟨(fun h => by cases h), fun _ => ihe (path := (false, false) :: path) hy (fun x hx => hr x (List.mem_append_right _ hx)) ha1 (fun x hx => hall x (List.mem_append_right _ hx)) ⟨rfl, hp⟩ h2 hgo hret⟩

/-- A segment of which each way that returns returns the same, and each other goes on at the same place in the same state. -/
theorem Wp.seg {N : Nat} {s0 : St} {T : TT} (hT : TTok P T) {K : KT} (hK : KOk P K) (hm : P.follows .mixedOrders = true) {f : FuncId} {Q : V → Heap → Prop} {fn : Func} (hfn : P.funcs[f]? = some fn) {m0 : Nat} (hm0 : ∀ i, m0 ≤ i → i < 1000 → s0.μ i = .free)
    (kk fuel : Nat) (sel keep : List Nat) (q : List Orc) (nr n : Nat) (G : Bool) (L : List Prop) {K' : List Item} (E' : LEnv) (H' : Heap) (v0 : V) (h0 : Heap) {todo : List Item} {e : Env} {h : Heap}
    (hv : segE P T K N fn.results.toList m0 kk fuel sel keep todo e h q = some ⟨G, List.replicate nr (v0, h0), L, List.replicate n (K', E', H')⟩) (ho : AllP L)
    (hgo : G = true → Wp P (frameOf f) N s0 (Ends P f Q) K' [] (ofL E') H') (hret : G = false → Q v0 h0) : Wp P (frameOf f) N s0 (Ends P f Q) todo [] e h := by
  unfold segE at hv
  split at hv
  case h_2 => cases hv
  rename_i t ht
  split at hv
  case h_2 => cases hv
  rename_i g hg
  split at hv
  case h_2 => cases hv
  rename_i l hl
  simp only [Option.some.injEq, SegR.mk.injEq] at hv
  obtain ⟨rfl, hr, rfl, rfl⟩ := hv
  exact Wp.treeR hT hK hm hfn hm0 ht (seg_ok hm0 hg (fun x hx => by rw [hr] at hx; exact List.eq_of_mem_replicate hx) hl (fun x hx => (List.eq_of_mem_replicate hx)) (path := []) trivial ho hgo hret)

/-- A segment that returns a truth. -/
theorem Wp.segB {N : Nat} {s0 : St} {T : TT} (hT : TTok P T) {K : KT} (hK : KOk P K) (hm : P.follows .mixedOrders = true) {f : FuncId} {Q : V → Heap → Prop} {fn : Func} (hfn : P.funcs[f]? = some fn) {m0 : Nat} (hm0 : ∀ i, m0 ≤ i → i < 1000 → s0.μ i = .free)
    (kk fuel : Nat) (q : List Orc) (B : Bool) (L : List Prop) {todo : List Item} {e : Env} {h : Heap} (hv : bindBK kk (Lift.treeR P T K N fn.results.toList m0 [] [] fuel todo e h q []) = some (B, L)) (ho : AllP L) (hret : Q (cb B) []) :
    Wp P (frameOf f) N s0 (Ends P f Q) todo [] e h := by
  unfold bindBK at hv
  split at hv
  case h_2 => cases hv
  rename_i t ht
  split at hv
  case h_2 => cases hv
  rename_i b hb
  cases hv
  have key : ∀ {t : Tq}, TqOK (fun k e h => Wp P (frameOf f) N s0 (Ends P f Q) k [] e h) (fun v h => v = cb B ∧ h = []) t → TqOK (fun k e h => Wp P (frameOf f) N s0 (Ends P f Q) k [] e h) Q t := by
    intro t
    induction t with
    | fin v h => intro ho; obtain ⟨rfl, rfl⟩ := ho; exact hret
    | leaf k e h => intro ho; exact ho
    | need obs t ih => intro ho; exact ⟨ho.1, ih ho.2⟩
    | node b t e i1 i2 => intro ho; exact ⟨fun h => i1 (ho.1 h), fun h => i2 (ho.2 h)⟩
  exact Wp.treeR hT hK hm hfn hm0 ht (key (valBK_ok (path := []) hb trivial ho))

/-! ### A function's loops, by their numbers -/
inductive Found where
  | at (k : List Item)
  | on (n : Nat)

def findL : Code → Nat → List Item → Found
  | .loop c, 0, k => .at (.code (.loop c) :: k)
  | .loop c, n + 1, k => findL c n (.inLoop c :: k)
  | .seq a b, n, k => match findL a n (.code b :: k) with
    | .at x => .at x
    | .on m => findL b m k
  | .block id c, n, k => findL c n (.inBlock id :: k)
  | .scope c, n, k => findL c n (.inScope c :: k)
  | .cond _ a b, n, k => match findL a n k with
    | .at x => .at x
    | .on m => findL b m k
  | _, n, _ => .on n

/-- The items from a function's 'n'th loop on. -/
def loopK (fn : Func) (n : Nat) : List Item := match fn.body with
  | some c => match findL c n [] with
    | .at k => k
    | .on _ => []
  | none => []
def inLK : List Item → List Item
  | .code (.loop c) :: k => .inLoop c :: k
  | l => l
def bodyLK : List Item → List Item
  | .code (.loop c) :: k => .code c :: .inLoop c :: k
  | l => l
def isLoop : List Item → Bool
  | .code (.loop _) :: _ => true
  | _ => false
def bodyK (fn : Func) : List Item := match fn.body with
  | some c => [.code c]
  | none => []

/-- A loop with its states 'x', which get smaller. -/
theorem Wp.loopS {b : Frame} {N : Nat} {s0 : St} {R : Frame → St → Prop} {ds : List DV} {α : Type} (K : List Item) (hK : isLoop K = true) (m : α → Nat) (E : α → LEnv) (H : α → Heap) (I : α → Prop)
    (step : ∀ x, I x → (∀ y, I y → m y < m x → Wp P b N s0 R (inLK K) ds (ofL (E y)) (H y)) → Wp P b N s0 R (bodyLK K) ds (ofL (E x)) (H x)) (x0 : α) (h0 : I x0) : Wp P b N s0 R K ds (ofL (E x0)) (H x0) := by
  unfold isLoop at hK
  split at hK
  case h_2 => cases hK
  rename_i c k
  have key : ∀ n x, I x → m x ≤ n → Wp P b N s0 R (.code c :: .inLoop c :: k) ds (ofL (E x)) (H x) := by
    intro n
    induction n with
    | zero => intro x hi hx; exact step x hi fun y _ hy => by omega
    | succ n ih => intro x hi hx; exact step x hi fun y hj hy => .inLoop (ih y hj (by omega))
  exact .loop (key _ x0 h0 (Nat.le_refl _))

theorem DCalls.of_seg {f : FuncId} {fn : Func} {args : List V} {m : Nat} {h : Heap} {Q : V → Heap → Prop} (hent : Enters P f) (hfn : P.funcs[f]? = some fn) (hsz : (fn.body.isSome && Nat.ble args.length fn.ntmps) = true)
    (hw : ∀ s0, (∀ i, m ≤ i → i < 1000 → s0.μ i = .free) → Wp P (frameOf f) fn.ntmps s0 (Ends P f Q) (bodyK fn) [] (envOf 0 args) h) : DCalls P f args m h Q := by
  simp only [Bool.and_eq_true] at hsz
  obtain ⟨code, hcode⟩ := Option.isSome_iff_exists.1 hsz.1
  refine DCalls.of_wp hent hfn hcode (Nat.le_of_ble_eq_true hsz.2) fun s0 hs0 => ?_
  have := hw s0 hs0
  unfold bodyK at this
  rw [hcode] at this
  exact this
end Go.Lift
