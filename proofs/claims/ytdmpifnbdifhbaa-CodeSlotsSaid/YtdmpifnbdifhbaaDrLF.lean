/- Calls in a region. -/
import Derived.Test.YtdmpifnbdifhbaaDrLE
namespace Go.Lift
variable {P : Program}

def noH : Nat → Option Ob := fun _ => none

def catF {α : Type} : List α → List α → Option (List α)
  | [], r => some r
  | x :: l, r => match catF l r with
    | some t => some (x :: t)
    | none => none
theorem catF_eq {α : Type} {l r t : List α} (h : catF l r = some t) : t = l ++ r := by
  induction l generalizing t with
  | nil => simp [catF] at h; exact h.symm
  | cons x l ih =>
    simp only [catF] at h
    split at h
    · rename_i t' ht
      cases h
      rw [ih ht]; rfl
    · cases h

def newF : List Nat → Heap → Nat → Option (List Nat)
  | [], [], _ => some []
  | [], _ :: h, n => match sucT n with
    | some n' => match newF [] h n' with
      | some r => some (n :: r)
      | none => none
    | none => none
  | _ :: l, _ :: h, n => newF l h n
  | _ :: _, [], _ => none

/-- The objects that are handed on. -/
def smHL (n : Nat) (sel : List Nat) (H : Nat → Option Ob) : List Nat → Option Heap
  | [] => some []
  | i :: l => match H i with
    | some ob => match smO n sel noH ob with
      | some ob' => match smHL n sel H l with
        | some r => some (some ob' :: r)
        | none => none
      | none => none
    | none => none

theorem smHL_eq {n : Nat} {sel : List Nat} {H : Nat → Option Ob} : ∀ {l : List Nat} {r : Heap}, smHL n sel H l = some r → r.length = l.length ∧
    ∀ (p i : Nat), l[p]? = some i → ∃ ob ob', H i = some ob ∧ smO n sel noH ob = some ob' ∧ r[p]? = some (some ob') := by
  intro l
  induction l with
  | nil => intro r h; simp [smHL] at h; subst h; exact ⟨rfl, fun p i h => by simp at h⟩
  | cons x l ih =>
    intro r h
    simp only [smHL] at h
    split at h
    case h_2 => cases h
    rename_i ob hob
    split at h
    case h_2 => cases h
    rename_i ob' hob'
    split at h
    case h_2 => cases h
    rename_i r' hr
    cases h
    obtain ⟨h1, h2⟩ := ih hr
    refine ⟨by simp [h1], fun p i hp => ?_⟩
    cases p with
    | succ p => simpa using h2 p i (by simpa using hp)
    | zero =>
      simp only [List.getElem?_cons_zero, Option.some.injEq] at hp
      subst hp
      exact ⟨ob, ob', hob, hob', by simp⟩

/-- Summaries: what a function that is handed closed data returns; what a call with objects comes to. -/
structure KT where
  raw : FuncId → List V → Option V
  full : V → List V → Nat → Heap → Option (V × Heap)
def noFull : V → List V → Nat → Heap → Option (V × Heap) := fun _ _ _ _ => none
def KOk (P : Program) (K : KT) : Prop := (∀ f args v, K.raw f args = some v → DCalls P f args 0 [] fun v1 _ => v1 = v) ∧
  ∀ fv args m h v h', K.full fv args m h = some (v, h') → DApp P fv args m h fun v1 h1 => v1 = v ∧ h1 = h'

def memQ (x : Nat) : List Nat → Bool
  | [] => false
  | y :: l => match eqN y x with
    | true => true
    | false => memQ x l

def flatF {α : Type} : List (List α) → List α → Option (List α)
  | [], r => some r
  | x :: l, r => match flatF l r with
    | some t => catF x t
    | none => none

def envVs : Env → List V → List V
  | .nil, acc => acc
  | .node (some v) l r, acc => v :: envVs l (envVs r acc)
  | .node none l r, acc => envVs l (envVs r acc)

def reachO (H : Nat → Option Ob) (i : Nat) (l : List V) (acc : List Nat) : Option (List V × List Nat) := match memQ i acc with
  | true => some (l, acc)
  | false => match H i with
    | some (.bx cells) => match catF cells l with
      | some t => some (t, i :: acc)
      | none => none
    | some (.vo _ rows) => match flatF rows l with
      | some t => some (t, i :: acc)
      | none => none
    | some (.lp _ _ _ _ e _ _ _) => some (envVs e l, i :: acc)
    | none => some (l, acc)
    | _ => some (l, i :: acc)

def reachV (H : Nat → Option Ob) (v : V) (l : List V) (acc : List Nat) : Option (List V × List Nat) := match v with
  | .c _ => some (l, acc)
  | .hz => some (l, acc)
  | .hp i _ _ => reachO H i l acc
  | .hs i _ _ => reachO H i l acc
  | .hw i => reachO H i l acc
  | .yl i => reachO H i l acc
  | .ag r => match catF r l with
    | some t => some (t, acc)
    | none => none
  | .tp r => match catF r l with
    | some t => some (t, acc)
    | none => none
  | .fn _ x y => match catF y l with
    | some t => match catF x t with
      | some u => some (u, acc)
      | none => none
    | none => none

/-- The objects that values lead to. -/
def reachF (H : Nat → Option Ob) : Nat → List V → List Nat → Option (List Nat)
  | 0, _, _ => none
  | _ + 1, [], acc => some acc
  | n + 1, v :: l, acc => match reachV H v l acc with
    | some (l', acc') => reachF H n l' acc'
    | none => none

/-- By its summary. -/
def applyK (K : KT) (fv : V) (as : List V) : Option V := match fv with
  | .c (.v (.func (.func f) ⟨[]⟩ ⟨[]⟩)) => K.raw f as
  | .c (.fn (.func f) [] caps) => match mapcF caps with
    | some cv => match catF as cv with
      | some t => K.raw f t
      | none => none
    | none => none
  | _ => none

theorem applyK_ok {K : KT} (hK : KOk P K) {fv v : V} {as : List V} (h : applyK K fv as = some v) : DApp P fv as 0 [] fun v1 _ => v1 = v := by
  unfold applyK at h
  split at h
  · exact DApp.func (hK.1 _ _ _ h)
  · split at h
    case h_2 => cases h
    rename_i cv hcv
    split at h
    case h_2 => cases h
    rename_i t ht
    have e1 := mapcF_eq hcv
    subst e1
    have e2 := catF_eq ht
    subst e2
    exact DApp.cloC (hK.1 _ _ _ h)
  · cases h

/-- What an oracle says of a function, wherever it stands in the list. -/
def scanQ (f : FuncId) : List Orc → Option V
  | [] => none
  | .fn g v :: q => match eqN g f with
    | true => some v
    | false => scanQ f q
  | _ :: q => scanQ f q

def fnOf : V → Option FuncId
  | .c (.v (.func (.func f) _ _)) => some f
  | .c (.fn (.func f) _ _) => some f
  | _ => none

def revF {α : Type} : List α → List α → List α
  | [], r => r
  | x :: l, r => revF l (x :: r)

structure Called where
  fv : V
  as : List V
  m : Nat
  hs : Heap
  v : V
  h' : Heap

/-- A call with the objects 'fx' (kept) and 'mv' (given away) handed on, that comes to 'res'. -/
def callObj (fx mv : List Nat) (fv : V) (as : List V) (H : Nat → Option Ob) (nid : Nat) (res : V → List V → Nat → Heap → Option (V × Heap)) : Option (Res × Called) :=
  match catF fx mv with
  | none => none
  | some sel => match sm 9 sel noH fv with
    | none => none
    | some fv2 => match mapO (sm 9 sel noH) as with
      | none => none
      | some as2 => match smHL 9 sel H sel with
        | none => none
        | some hs => match idOf fx with
          | none => none
          | some m => match res fv2 as2 m hs with
            | none => none
            | some (v, hs') => match newF fx hs' nid with
              | none => none
              | some nw => match catF fx nw with
                | none => none
                | some all => match catF all mv with
                  | none => none
                  | some all2 => match idOf all2 with
                    | none => none
                    | some n2 => match sucT n2 with
                      | none => none
                      | some _ => match nodupF all2 with
                        | false => none
                        | true => match nodupF sel with
                          | false => none
                          | true => match zipE all hs' (nth all) with
                            | none => none
                            | some eff => match catF eff (killE mv) with
                              | none => none
                              | some eff2 => match renF (nth all) v with
                                | none => none
                                | some v' => some (⟨v', eff2, sel, nw⟩, ⟨fv2, as2, m, hs, v, hs'⟩)

/-- A call with all that is handed on seen as closed. -/
def lendE (P : Program) (K : KT) (rds : List Nat) (fv : V) (as : List V) (H : Nat → Option Ob) (q : List Orc) : Option Out :=
  match sm 9 [] (fun i => match posOf rds i with | some _ => H i | none => none) fv with
    | none => none
    | some fv2 => match mapO (sm 9 [] (fun i => match posOf rds i with | some _ => H i | none => none)) as with
      | none => none
      | some as2 => match applyK K fv2 as2 with
        | some v => match rawV v with
          | false => none
          | true => some ⟨⟨v, [], rds, []⟩, [], q⟩
        | none => match fnOf fv2 with
          | none => none
          | some f => match scanQ f q with
            | none => none
            | some v => match rawV v with
              | false => none
              | true => some ⟨⟨v, [], rds, []⟩, [.no (DApp P fv2 as2 0 [] fun v1 _ => v1 = v)], q⟩

/-- A call of a value with arguments. -/
def callE (P : Program) (K : KT) (fv : V) (as : List V) (H : Nat → Option Ob) (nid : Nat) (q : List Orc) : Option Out :=
  match q with
  | .call fx mv v hs' :: q' => match callObj fx mv fv as H nid (fun _ _ _ _ => some (v, hs')) with
    | none => none
    | some (r, c) => some ⟨r, [.no (DApp P c.fv c.as c.m c.hs fun v1 h1 => v1 = c.v ∧ h1 = c.h')], q'⟩
  | .lend rds v :: q' => match sm 9 [] (fun i => match posOf rds i with | some _ => H i | none => none) fv with
    | none => none
    | some fv2 => match mapO (sm 9 [] (fun i => match posOf rds i with | some _ => H i | none => none)) as with
      | none => none
      | some as2 => match rawV v with
        | false => none
        | true => some ⟨⟨v, [], rds, []⟩, [.no (DApp P fv2 as2 0 [] fun v1 _ => v1 = v)], q'⟩
  | q => match reachF H 2000 (fv :: as) [] with
    | none => none
    | some rds => match lendE P K rds fv as H q with
      | some out => some out
      | none => match callObj (revF rds []) [] fv as H nid K.full with
        | none => none
        | some (r, _) => some ⟨r, [], q⟩

def eCall (P : Program) (K : KT) (ρ : Operand → Option V) (f : Operand) (args : List Operand) (H : Nat → Option Ob) (nid : Nat) (q : List Orc) : Option Out :=
  match ρ f with
  | none => none
  | some fv => match evalL ρ args with
    | none => none
    | some as => callE P K fv as H nid q

theorem sucT_lt {n m : Nat} (h : sucT n = some m) : n < 500 := by
  unfold sucT at h
  split at h
  all_goals first
    | omega
    | (split at h
       · rename_i hb; simpa using hb
       · cases h)

theorem callObj_ok {fx mv : List Nat} {fv : V} {as : List V} {H : Nat → Option Ob} {nid : Nat} {res : V → List V → Nat → Heap → Option (V × Heap)} {rr : Res} {ca : Called} (he : callObj fx mv fv as H nid res = some (rr, ca))
    (happ0 : res ca.fv ca.as ca.m ca.hs = some (ca.v, ca.h') → DApp P ca.fv ca.as ca.m ca.hs fun v1 h1 => v1 = ca.v ∧ h1 = ca.h')
    {s : St} {F : Nat → Option Ob} (hr : HR s F) (hrd : ∀ i ∈ rr.rds, F i = H i) (hnew : ∀ i ∈ rr.new, s.μ i = .free) {cf : Value} {cargs : Array Value} (hf : VR s fv cf) (ha : VRs s as cargs) (c : Frame) (cs : List Frame) :
    ∃ fr r s', Runs P cf cargs s.w fr ∧ Steps P (lone fr (c :: cs) s.w) (lone (c.finish r) cs s'.w) ∧ Ext s s' ∧ HR s' (upf F rr.eff) ∧ VR s' rr.val r ∧ (∀ i, s.μ i = .free → i ∉ rr.new → s'.μ i = .free) := by
  unfold callObj at he
  split at he
  case h_1 => cases he
  rename_i sel hsel
  split at he
  case h_1 => cases he
  rename_i fv2 hfv2
  split at he
  case h_1 => cases he
  rename_i as2 has2
  split at he
  case h_1 => cases he
  rename_i hs hhs
  split at he
  case h_1 => cases he
  rename_i m hm
  split at he
  case h_1 => cases he
  rename_i v hs' hres
  split at he
  case h_1 => cases he
  rename_i nw hnw
  split at he
  case h_1 => cases he
  rename_i all hall
  split at he
  case h_1 => cases he
  rename_i all2 hall2
  split at he
  case h_1 => cases he
  rename_i n2 hn2
  split at he
  case h_1 => cases he
  rename_i n3 hn3
  split at he
  case h_1 => cases he
  rename_i hnd
  split at he
  case h_1 => cases he
  rename_i hnds
  split at he
  case h_1 => cases he
  rename_i eff heff
  split at he
  case h_1 => cases he
  rename_i eff2 heff2
  split at he
  case h_1 => cases he
  rename_i v' hv'
  cases he
  have happ := happ0 hres
  have e1 := catF_eq hsel
  subst e1
  have e2 := catF_eq hall
  subst e2
  have e3 := catF_eq hall2
  subst e3
  have e4 := catF_eq heff2
  subst e4
  have hlen : ((fx ++ nw) ++ mv).length < 500 := by rw [← idOf_eq hn2]; exact sucT_lt hn3
  have hsl : (fx ++ mv).length < 500 := by simp only [List.length_append] at hlen ⊢; omega
  obtain ⟨vis, hvis⟩ : ∃ vis : Nat → Prop, vis = fun b => s.vis b ∧ ∀ i l o, i ∉ fx ++ mv → s.μ i = .live l → l.base = some (b, o) → False := ⟨_, rfl⟩
  obtain ⟨hsp, hvo, hvf⟩ := frame_before (sel := fx ++ mv) hvis hr
  obtain ⟨hl1, hl2⟩ := smHL_eq hhs
  have hlive : ∀ i ∈ fx ++ mv, ∃ ob, F i = some ob := fun i hi => by
    obtain ⟨p, hp⟩ := List.mem_iff_getElem?.1 hi
    obtain ⟨ob, _, g1, _⟩ := hl2 p i hp
    exact ⟨ob, by rw [hrd i hi]; exact g1⟩
  have hsm := smH_ok (H := noH) (n := 9) (hs := hs) hr hsp hvo hvf hsl hnds (.inl fun _ => rfl) ⟨fun p i hp => by
    obtain ⟨ob, ob', g1, g2, g3⟩ := hl2 p i hp
    exact .inr ⟨ob, ob', by rw [hrd i (List.mem_of_getElem? hp)]; exact g1, g2, g3⟩, hl1⟩
  have hf2 := sm_ok hr hsp hsl (.inl fun _ => rfl) 9 hf hfv2
  obtain ⟨e1, e2⟩ := mapO_eq has2
  have ha2 : VRs (s.sel (fx ++ mv) vis) as2 cargs := by
    have hsz := ha.1
    refine ⟨by omega, fun j h h' => ?_⟩
    have h9 := ha.2 j (by omega) h'
    exact sm_ok hr hsp hsl (.inl fun _ => rfl) 9 h9 (e2 j (by omega) h)
  obtain ⟨fr, r, v1, s2, h2, k1, k2, k3, k4, k5, rfl, rfl⟩ := happ _ _ _ hsm hf2 ha2 c cs
  obtain ⟨s', g1, g2, g3, g4, g5⟩ := frame_after (nw := nw) hvis hr hlen hnd (fun i hi => by
    obtain ⟨ob, hob⟩ := hlive i hi
    obtain ⟨l, hl, _⟩ := hr.obj i ob hob
    exact ⟨l, hl⟩) hnew (by rw [idOf_eq hm] at k3; exact k3) k4 k5 heff hv'
  exact ⟨fr, r, s', k1, by rw [g1]; exact k2, g2, g3, g4, g5⟩

theorem callE_ok {K : KT} (hK : KOk P K) {fv : V} {as : List V} {H : Nat → Option Ob} {nid : Nat} {q : List Orc} {out : Out} (he : callE P K fv as H nid q = some out) (hobs : Obs out.obs)
    {s : St} {F : Nat → Option Ob} (hr : HR s F) (hrd : ∀ i ∈ out.r.rds, F i = H i) (hnew : ∀ i ∈ out.r.new, s.μ i = .free) {cf : Value} {cargs : Array Value} (hf : VR s fv cf) (ha : VRs s as cargs) (c : Frame) (cs : List Frame) :
    ∃ fr r s', Runs P cf cargs s.w fr ∧ Steps P (lone fr (c :: cs) s.w) (lone (c.finish r) cs s'.w) ∧ Ext s s' ∧ HR s' (upf F out.r.eff) ∧ VR s' out.r.val r ∧ (∀ i, s.μ i = .free → i ∉ out.r.new → s'.μ i = .free) := by
  unfold callE at he
  split at he
  · split at he
    case h_1 => cases he
    rename_i r ca hca
    cases he
    exact callObj_ok hca (fun _ => hobs.1) hr hrd hnew hf ha c cs
  · rename_i rds v q'
    split at he
    case h_1 => cases he
    rename_i fv2 hfv2
    split at he
    case h_1 => cases he
    rename_i as2 has2
    split at he
    case h_1 => cases he
    rename_i hraw
    cases he
    have hsp : Spoken s s.vis := fun _ h _ => h
    have hcv : (∀ i, (fun i => match posOf rds i with | some _ => H i | none => none) i = none) ∨ ((∀ b, s.vis b → s.vis b) ∧ ∀ i ob, (fun i => match posOf rds i with | some _ => H i | none => none) i = some ob → F i = some ob) := by
      refine .inr ⟨fun _ h => h, fun i ob h => ?_⟩
      simp only at h
      split at h
      · rename_i p hp
        rw [hrd i (List.mem_of_getElem? (posOf_eq hp))]; exact h
      · cases h
    have hf2 := sm_ok (sel := []) hr hsp (by simp) hcv 9 hf hfv2
    obtain ⟨e1, e2⟩ := mapO_eq has2
    have ha2 : VRs (s.sel [] s.vis) as2 cargs := by
      have hsz := ha.1
      refine ⟨by omega, fun j h h' => ?_⟩
      have h9 := ha.2 j (by omega) h'
      exact sm_ok (sel := []) hr hsp (by simp) hcv 9 h9 (e2 j (by omega) h)
    have hsm := smH_ok (sel := []) (vis := s.vis) (H := noH) (n := 9) (hs := []) hr hsp (fun i l b o hi => by cases hi) hr.fut (by simp) rfl (.inl fun _ => rfl) ⟨fun p i hp => by simp at hp, rfl⟩
    obtain ⟨fr, r, v1, s2, h2, k1, k2, k3, k4, k5, rfl⟩ := hobs.1 _ _ _ hsm hf2 ha2 c cs
    obtain ⟨g1, g2⟩ := lend_after hr k3
    exact ⟨fr, r, ⟨s.μ, s.vis, s2.w⟩, k1, k2, g1, g2, rawV_ok k5 hraw, fun i hi _ => hi⟩
  · rename_i q' _ _
    split at he
    case h_1 => cases he
    rename_i rds hrds
    split at he
    case h_2 =>
      split at he
      case h_1 => cases he
      rename_i r ca hca
      cases he
      exact callObj_ok hca (fun h => hK.2 _ _ _ _ _ _ h) hr hrd hnew hf ha c cs
    rename_i out' hout
    cases he
    unfold lendE at hout
    replace he := hout
    split at he
    case h_1 => cases he
    rename_i fv2 hfv2
    split at he
    case h_1 => cases he
    rename_i as2 has2
    split at he
    · rename_i v hv
      split at he
      case h_1 => cases he
      rename_i hraw
      cases he
      have hsp : Spoken s s.vis := fun _ h _ => h
      have hcv : (∀ i, (fun i => match posOf rds i with | some _ => H i | none => none) i = none) ∨ ((∀ b, s.vis b → s.vis b) ∧ ∀ i ob, (fun i => match posOf rds i with | some _ => H i | none => none) i = some ob → F i = some ob) := by
        refine .inr ⟨fun _ h => h, fun i ob h => ?_⟩
        simp only at h
        split at h
        · rename_i p hp
          rw [hrd i (List.mem_of_getElem? (posOf_eq hp))]; exact h
        · cases h
      have hf2 := sm_ok (sel := []) hr hsp (by simp) hcv 9 hf hfv2
      obtain ⟨e1, e2⟩ := mapO_eq has2
      have ha2 : VRs (s.sel [] s.vis) as2 cargs := by
        have hsz := ha.1
        refine ⟨by omega, fun j h h' => ?_⟩
        have h9 := ha.2 j (by omega) h'
        exact sm_ok (sel := []) hr hsp (by simp) hcv 9 h9 (e2 j (by omega) h)
      have hsm := smH_ok (sel := []) (vis := s.vis) (H := noH) (n := 9) (hs := []) hr hsp (fun i l b o hi => by cases hi) hr.fut (by simp) rfl (.inl fun _ => rfl) ⟨fun p i hp => by simp at hp, rfl⟩
      obtain ⟨fr, r, v1, s2, h2, k1, k2, k3, k4, k5, rfl⟩ := applyK_ok hK hv _ _ _ hsm hf2 ha2 c cs
      obtain ⟨g1, g2⟩ := lend_after hr k3
      exact ⟨fr, r, ⟨s.μ, s.vis, s2.w⟩, k1, k2, g1, g2, rawV_ok k5 hraw, fun i hi _ => hi⟩
    · split at he
      case h_1 => cases he
      split at he
      case h_1 => cases he
      rename_i v hv
      split at he
      case h_1 => cases he
      rename_i hraw
      cases he
      have hsp : Spoken s s.vis := fun _ h _ => h
      have hcv : (∀ i, (fun i => match posOf rds i with | some _ => H i | none => none) i = none) ∨ ((∀ b, s.vis b → s.vis b) ∧ ∀ i ob, (fun i => match posOf rds i with | some _ => H i | none => none) i = some ob → F i = some ob) := by
        refine .inr ⟨fun _ h => h, fun i ob h => ?_⟩
        simp only at h
        split at h
        · rename_i p hp
          rw [hrd i (List.mem_of_getElem? (posOf_eq hp))]; exact h
        · cases h
      have hf2 := sm_ok (sel := []) hr hsp (by simp) hcv 9 hf hfv2
      obtain ⟨e1, e2⟩ := mapO_eq has2
      have ha2 : VRs (s.sel [] s.vis) as2 cargs := by
        have hsz := ha.1
        refine ⟨by omega, fun j h h' => ?_⟩
        have h9 := ha.2 j (by omega) h'
        exact sm_ok (sel := []) hr hsp (by simp) hcv 9 h9 (e2 j (by omega) h)
      have hsm := smH_ok (sel := []) (vis := s.vis) (H := noH) (n := 9) (hs := []) hr hsp (fun i l b o hi => by cases hi) hr.fut (by simp) rfl (.inl fun _ => rfl) ⟨fun p i hp => by simp at hp, rfl⟩
      obtain ⟨fr, r, v1, s2, h2, k1, k2, k3, k4, k5, rfl⟩ := hobs.1 _ _ _ hsm hf2 ha2 c cs
      obtain ⟨g1, g2⟩ := lend_after hr k3
      exact ⟨fr, r, ⟨s.μ, s.vis, s2.w⟩, k1, k2, g1, g2, rawV_ok k5 hraw, fun i hi _ => hi⟩

theorem sound_call {K : KT} (hK : KOk P K) {b : Frame} {o : Oper} {f : Operand} {args : Array Operand} {tys : Array TypeId} (ho : o.op = .call { callee := .value f, args := args, argTypes := tys })
    {ρ : Operand → Option V} {H : Nat → Option Ob} {nid : Nat} {q : List Orc} {out : Out}
    (he : eCall P K ρ f args.toList H nid q = some out) (hobs : Obs out.obs) : Does P b o ρ H out.r := by
  have mf : f ∈ o.op.operands.toList := by rw [ho]; simp [Op.operands, Call.operands]
  have ma : ∀ x ∈ args.toList, x ∈ o.op.operands.toList := fun x hx => by rw [ho]; simp [Op.operands, Call.operands]; right; simpa using hx
  unfold eCall at he
  split at he
  case h_1 => cases he
  rename_i fv hfv
  split at he
  case h_1 => cases he
  rename_i as has
  intro s F a hr hrd hnew hop ops i rest k cs hi hw
  have ha := evalL_ok has fun x hx => hop x (ma x hx)
  have ha' : VRs s as (args.map a.eval) := by
    have e : (args.toList.map a.eval).toArray = args.map a.eval := Array.ext' (by rw [Array.toList_map])
    rw [← e]; exact ha
  obtain ⟨fr, r, s', k1, k2, g⟩ := callE_ok hK he hobs hr hrd hnew (hop f mf _ hfv) ha' (b.atR a (.inRegion ops (i :: rest) :: k)) cs
  exact ⟨r, s', call_steps ho k1 ops i rest k cs hi hw k2, g⟩

end Go.Lift
