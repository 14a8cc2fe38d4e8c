/- A region's text, reckoned. -/
import Derived.Test.YtdmpifnbdifhbaaDrLG
namespace Go.Lift
variable {P : Program}

theorem eqN_iff {a b : Nat} : eqN a b = true ↔ a = b := ⟨Nat.eq_of_beq_eq_true, fun h => by subst h; simp [eqN]⟩

def dstE (e : Env) (d : Option Nat) (v : Option V) (N : Nat) : Option Env := match d with
  | none => some e
  | some d => match Nat.blt d N with
    | true => setE e d v
    | false => none

def putH : Heap → Nat → Option Ob → Option Heap
  | [], 0, x => some [x]
  | [], _ + 1, _ => none
  | _ :: h, 0, x => some (x :: h)
  | y :: h, i + 1, x => match putH h i x with
    | some r => some (y :: r)
    | none => none
theorem putH_eq {h r : Heap} {i : Nat} {x : Option Ob} (hp : putH h i x = some r) (j : Nat) : look r j = if j = i then x else look h j := by
  induction h generalizing i r j with
  | nil =>
    cases i with
    | zero => simp [putH] at hp; subst hp; cases j <;> simp [look]
    | succ i => simp [putH] at hp
  | cons y h ih =>
    cases i with
    | zero => simp [putH] at hp; subst hp; cases j <;> simp [look]
    | succ i =>
      simp only [putH] at hp
      split at hp
      case h_2 => cases hp
      rename_i r' hr
      cases hp
      cases j with
      | zero => simp [look]
      | succ j => simpa [look] using ih hr j
theorem putH_len {h r : Heap} {i : Nat} {x : Option Ob} (hp : putH h i x = some r) : h.length ≤ r.length := by
  induction h generalizing i r with
  | nil => simp
  | cons y h ih =>
    cases i with
    | zero => simp [putH] at hp; subst hp; simp
    | succ i =>
      simp only [putH] at hp
      split at hp
      case h_2 => cases hp
      rename_i r' hr
      cases hp
      simpa using ih hr

def absentF : Nat → List (Nat × Option Ob) → Bool
  | _, [] => true
  | i, (j, _) :: l => match eqN j i with
    | true => false
    | false => absentF i l
theorem absentF_eq {i : Nat} {l : List (Nat × Option Ob)} (h : absentF i l = true) : l.lookup i = none := by
  induction l with
  | nil => rfl
  | cons x l ih =>
    obtain ⟨j, y⟩ := x
    simp only [absentF] at h
    split at h
    · cases h
    · rename_i hj
      have : (i == j) = false := by
        have : j ≠ i := fun e => by subst e; simp [eqN] at hj
        simpa using Ne.symm this
      simp only [List.lookup, this]
      exact ih h

def putE : Heap → List (Nat × Option Ob) → Option Heap
  | h, [] => some h
  | h, (i, x) :: l => match absentF i l with
    | true => match putH h i x with
      | some h' => putE h' l
      | none => none
    | false => none
theorem putE_eq {h r : Heap} {l : List (Nat × Option Ob)} (hp : putE h l = some r) : look r = upf (look h) l ∧ h.length ≤ r.length := by
  induction l generalizing h r with
  | nil => simp [putE] at hp; subst hp; exact ⟨rfl, Nat.le_refl _⟩
  | cons y l ih =>
    obtain ⟨i, x⟩ := y
    simp only [putE] at hp
    split at hp
    case h_2 => cases hp
    rename_i ha
    split at hp
    case h_2 => cases hp
    rename_i h' hh
    obtain ⟨g1, g2⟩ := ih hp
    refine ⟨?_, Nat.le_trans (putH_len hh) g2⟩
    rw [g1]
    funext j
    unfold upf
    by_cases hj : j = i
    · subst hj
      rw [absentF_eq ha]
      simp [List.lookup, putH_eq hh]
    · have : (j == i) = false := by simpa using hj
      simp only [List.lookup, this]
      rw [putH_eq hh, if_neg hj]

/-- The new objects are numbered behind the old ones. -/
def newIn (h h' : Heap) : List Nat → Bool
  | [] => true
  | i :: l => match Nat.blt i 1000 with
    | false => false
    | true => match nth h i with
      | some _ => false
      | none => match nth h' i with
        | some _ => newIn h h' l
        | none => false
theorem newIn_eq {h h' : Heap} {l : List Nat} (hn : newIn h h' l = true) : ∀ i ∈ l, h.length ≤ i ∧ i < h'.length ∧ i < 1000 := by
  induction l with
  | nil => intro i hi; cases hi
  | cons x l ih =>
    simp only [newIn] at hn
    split at hn
    · cases hn
    rename_i h0
    split at hn
    · cases hn
    rename_i h1
    split at hn
    case h_2 => cases hn
    rename_i y h2
    rw [nth_eq] at h1 h2
    intro i hi
    cases hi with
    | head => exact ⟨List.getElem?_eq_none_iff.1 h1, (List.getElem?_eq_some_iff.1 h2).1, by simpa using h0⟩
    | tail _ hi => exact ih hn i hi

def memF (x : Nat) : List Nat → Bool
  | [] => false
  | y :: l => match eqN y x with
    | true => true
    | false => memF x l
theorem memF_of {x : Nat} {l : List Nat} (h : x ∈ l) : memF x l = true := by
  induction l with
  | nil => cases h
  | cons y l ih =>
    simp only [memF]
    cases he : eqN y x with
    | true => rfl
    | false =>
      cases h with
      | head => simp [eqN] at he
      | tail _ h => exact ih h

structure Fin where
  env : Env
  heap : Heap
  tr : List (Option Res)
  obs : List Pr
  q : List Orc
  lits : List Nat

inductive FT where
  | fin (f : Fin)
  | node (b : Bool) (t e : FT)

def boolEq : Bool → Bool → Bool
  | true, true => true
  | false, false => true
  | _, _ => false

/-- A guard's value is literal ('lits': a hint), or is gone by ('cl'). -/
def guardV (cl known want bb : Bool) : Option Bool := match cl with
  | true => match bb with
    | true => some want
    | false => some (!want)
  | false => match known with
    | true => match bb with
      | true => some want
      | false => some (!want)
    | false => none

def guardE (ops : List Oper) (cl : Bool) (lits : List Nat) (e : Env) (g : Option (Nat × Bool)) : Option Bool := match g with
  | none => some true
  | some (n, want) => match nth ops n with
    | some og => match og.dst with
      | some d => match lk e d with
        | some (.c (.v (.bool bb))) => guardV cl (memF d lits) want bb
        | some (.c (.v (.tuple ⟨[]⟩))) => some false
        | _ => none
      | none => none
    | none => none

def litX (lits : List Nat) : Operand → Bool
  | .const (.bool _) => true
  | .tmp t => memF t lits
  | _ => false

/-- Is the operation's value a literal bool? (a hint) -/
def litOp (op : Op) (lits : List Nat) (e : Env) : Bool := match op with
  | .move x => litX lits x
  | .assign x => litX lits x
  | .unOp .not _ x => litX lits x
  | .pick (.tmp c) x y => match memF c lits with
    | true => match lk e c with
      | some (.c (.v (.bool true))) => litX lits x
      | some (.c (.v (.bool false))) => litX lits y
      | _ => false
    | false => false
  | _ => false

def dropF (x : Nat) : List Nat → Option (List Nat)
  | [] => some []
  | y :: l => match dropF x l with
    | some r => match eqN y x with
      | true => some r
      | false => some (y :: r)
    | none => none

def litsOf (dst : Option Nat) (lit : Bool) (lits : List Nat) : Option (List Nat) := match dst with
  | none => some lits
  | some d => match dropF d lits with
    | some r => match lit with
      | true => some (d :: r)
      | false => some r
    | none => none

/-- The next object's number, where one may be made. -/
def idFor (op : Op) (h : Heap) : Option Nat := match op with
  | .box _ _ => idOf h
  | .alloc _ => idOf h
  | .buildSlice _ _ _ => idOf h
  | .convert _ _ _ => idOf h
  | .call _ => idOf h
  | .makeSlice _ _ _ => idOf h
  | .makeMap _ _ => idOf h
  | .range _ _ => idOf h
  | _ => some 0

/-- What is fixed in a region. -/
structure RC where
  P : Program
  T : TT
  K : KT
  ops : List Oper
  N : Nat
  gs : List Nat

/-- The operations that guard others. -/
def guardsF : List Oper → List Nat
  | [] => []
  | o :: l => match o.guard with
    | some (n, _) => n :: guardsF l
    | none => guardsF l

/-- Is the value to be decided? -/
def decV (gs : List Nat) (m : Nat) (lit : Bool) (v : V) : Option Bool := match memF m gs with
  | false => none
  | true => match lit with
    | true => none
    | false => match v with
      | .c (.v (.bool bb)) => some bb
      | _ => none

structure DT where
  v : V
  obs : List Pr
  dec : Option (List Bool)
  lit : Bool

def decT (gs : List Nat) (m : Nat) (dec : Option (List Bool)) (lit : Bool) (v : V) : Option DT := match dec with
  | none => some ⟨v, [], none, lit⟩
  | some l => match decV gs m lit v with
    | none => some ⟨v, [], some l, lit⟩
    | some bb => match l with
      | [] => none
      | b :: ds => some ⟨cb b, [Pr.of (bb = b)], some ds, true⟩

def noDec : Option (List Bool) → Bool
  | none => true
  | some _ => false

def consT (r : Option Res) (ob : List Pr) : Option Fin → Option Fin
  | none => none
  | some ⟨e2, h2, tr, ob2, q2, lits2⟩ => match catF ob ob2 with
    | none => none
    | some ob3 => some ⟨e2, h2, r :: tr, ob3, q2, lits2⟩

def skipT (c : RC) (o : Oper) (e : Env) (lits : List Nat) : Option (Env × List Nat) := match dstE e o.dst (some (.c (.v undef))) c.N with
  | none => none
  | some e' => match litsOf o.dst false lits with
    | none => none
    | some lits1 => some (e', lits1)

def opT (c : RC) (o : Oper) (e : Env) (h : Heap) (q : List Orc) : Option Out := match idFor o.op h with
  | none => none
  | some nid => opE c.P c.T c.K o.op (evalF (lk e)) (look h) nid q

def putT (c : RC) (o : Oper) (e : Env) (h : Heap) (v : V) (eff : List (Nat × Option Ob)) (nw : List Nat) (lit : Bool) (lits : List Nat) : Option (Env × Heap × List Nat) := match dstE e o.dst (some v) c.N with
  | none => none
  | some e' => match putE h eff with
    | none => none
    | some h' => match newIn h h' nw with
      | false => none
      | true => match litsOf o.dst lit lits with
        | none => none
        | some lits1 => some (e', h', lits1)

def runT (c : RC) : List Oper → Nat → Env → Heap → List Orc → Option (List Bool) → List Nat → Option Fin
  | [], _, e, h, q, _, lits => some ⟨e, h, [], [], q, lits⟩
  | o :: l, m, e, h, q, dec, lits => match guardE c.ops (noDec dec) lits e o.guard with
    | none => none
    | some false => match skipT c o e lits with
      | none => none
      | some (e', lits1) => consT none [] (runT c l (m + 1) e' h q dec lits1)
    | some true => match opT c o e h q with
      | none => none
      | some ⟨⟨v, eff, rds, nw⟩, ob1, q1⟩ => match decT c.gs m dec (litOp o.op lits e) v with
        | none => none
        | some ⟨v', ob, dec', lit⟩ => match putT c o e h v' eff nw lit lits with
          | none => none
          | some (e', h', lits1) => match catF ob ob1 with
            | none => none
            | some ob2 => consT (some ⟨v', eff, rds, nw⟩) ob2 (runT c l (m + 1) e' h' q1 dec' lits1)

def consF (r : Option Res) (ob : List Pr) : FT → Option FT
  | .fin f => match consT r ob (some f) with
    | some f' => some (.fin f')
    | none => none
  | .node b t e => match consF r ob t with
    | some t' => match consF r ob e with
      | some e' => some (.node b t' e')
      | none => none
    | none => none
def consFo (r : Option Res) (ob : List Pr) : Option FT → Option FT
  | some t => consF r ob t
  | none => none
def nodeF (b : Bool) : Option FT → Option FT → Option FT
  | some t, e => match e with
    | some e => some (.node b t e)
    | none => none
  | none, _ => none

/-- A region's tree: what guards others is decided as it comes. -/
def runTree (c : RC) : List Oper → Nat → Env → Heap → List Orc → List Nat → Option FT
  | [], _, e, h, q, lits => some (.fin ⟨e, h, [], [], q, lits⟩)
  | o :: l, m, e, h, q, lits => match guardE c.ops false lits e o.guard with
    | none => none
    | some false => match skipT c o e lits with
      | none => none
      | some (e', lits1) => consFo none [] (runTree c l (m + 1) e' h q lits1)
    | some true => match opT c o e h q with
      | none => none
      | some ⟨⟨v, eff, rds, nw⟩, ob1, q1⟩ => match decV c.gs m (litOp o.op lits e) v with
        | none => match putT c o e h v eff nw (litOp o.op lits e) lits with
          | none => none
          | some (e', h', lits1) => consFo (some ⟨v, eff, rds, nw⟩) ob1 (runTree c l (m + 1) e' h' q1 lits1)
        | some bb => match putT c o e h (cb true) eff nw true lits with
          | none => none
          | some (e', h', lits1) => match putT c o e h (cb false) eff nw true lits with
            | none => none
            | some (e2, h2, lits2) => nodeF bb (consFo (some ⟨cb true, eff, rds, nw⟩) ob1 (runTree c l (m + 1) e' h' q1 lits1)) (consFo (some ⟨cb false, eff, rds, nw⟩) ob1 (runTree c l (m + 1) e2 h2 q1 lits2))

def FTok (G : Fin → Prop) : FT → Prop
  | .fin f => G f
  | .node b t e => (b = true → FTok G t) ∧ (b = false → FTok G e)

theorem Obs.append {a b : List Pr} : Obs (a ++ b) ↔ Obs a ∧ Obs b := by
  induction a with
  | nil => simp [Obs]
  | cons x a ih => simp [Obs, ih, and_assoc]

theorem dstE_eq {e r : Env} {d : Option Nat} {v : Option V} {N : Nat} (h : dstE e d v N = some r) : (∀ x, d = some x → x < N) ∧ ∀ t, lk r t = if d = some t then v else lk e t := by
  unfold dstE at h
  split at h
  · cases h; exact ⟨(fun x hx => by cases hx), fun t => by simp⟩
  · rename_i d'
    split at h
    · rename_i hb
      refine ⟨fun x hx => ?_, fun t => by rw [setE_eq h]; simp⟩
      cases hx
      simpa using hb
    · cases h

theorem guardE_eq {ops : Array Oper} {cl : Bool} {lits : List Nat} {e : Env} {o : Oper} {go : Bool} (h : guardE ops.toList cl lits e o.guard = some go) : guardIs ops (lk e) o go := by
  unfold guardE at h
  split at h
  · rename_i hg
    cases h
    unfold guardIs; rw [hg]
  · rename_i n want hg
    split at h
    case h_2 => cases h
    rename_i og hog
    split at h
    case h_2 => cases h
    rename_i d hd
    rw [nth_eq] at hog
    simp only [Array.getElem?_toList] at hog
    split at h
    case h_3 => cases h
    case h_2 =>
      rename_i hbb
      cases h
      unfold guardIs
      rw [hg]
      exact ⟨og, d, hog, hd, .inr ⟨rfl, hbb⟩⟩
    rename_i bb hbb
    have key : go = (want == bb) → guardIs ops (lk e) o go := fun h => by
      unfold guardIs
      rw [hg]
      subst h
      refine ⟨og, d, hog, hd, .inl ?_⟩
      rw [hbb]
      cases bb <;> cases want <;> rfl
    have h' : go = (want == bb) := by
      unfold guardV at h
      cases cl <;> cases bb <;> cases want <;> cases hm : memF d lits <;> simp [hm] at h <;> simp [← h]
    exact key h'

theorem consT_eq {r : Option Res} {ob : List Pr} {x : Option Fin} {f : Fin} (h : consT r ob x = some f) : ∃ g, x = some g ∧ f = ⟨g.env, g.heap, r :: g.tr, ob ++ g.obs, g.q, g.lits⟩ := by
  unfold consT at h
  split at h
  · cases h
  · rename_i e2 h2 tr ob2 q2 lits2
    split at h
    case h_1 => cases h
    rename_i ob3 hob
    cases h
    exact ⟨_, rfl, by rw [catF_eq hob]⟩

theorem skipT_eq {c : RC} {o : Oper} {e e' : Env} {lits l1 : List Nat} (h : skipT c o e lits = some (e', l1)) : dstE e o.dst (some (.c (.v undef))) c.N = some e' := by
  unfold skipT at h
  split at h
  case h_1 => cases h
  rename_i e1 he
  split at h
  case h_1 => cases h
  cases h
  exact he

theorem opT_eq {c : RC} {o : Oper} {e : Env} {h : Heap} {q : List Orc} {out : Out} (ho : opT c o e h q = some out) : ∃ nid, opE c.P c.T c.K o.op (evalF (lk e)) (look h) nid q = some out := by
  unfold opT at ho
  split at ho
  · cases ho
  · exact ⟨_, ho⟩

theorem putT_eq {c : RC} {o : Oper} {e e' : Env} {h h' : Heap} {v : V} {eff : List (Nat × Option Ob)} {nw : List Nat} {lit : Bool} {lits l1 : List Nat} (hp : putT c o e h v eff nw lit lits = some (e', h', l1)) :
    dstE e o.dst (some v) c.N = some e' ∧ putE h eff = some h' ∧ newIn h h' nw = true := by
  unfold putT at hp
  split at hp
  case h_1 => cases hp
  rename_i e1 he
  split at hp
  case h_1 => cases hp
  rename_i h1 hh
  split at hp
  case h_1 => cases hp
  rename_i hn
  split at hp
  case h_1 => cases hp
  cases hp
  exact ⟨he, hh, hn⟩

theorem decT_eq {gs : List Nat} {m : Nat} {dec : Option (List Bool)} {lit : Bool} {v : V} {d : DT} (h : decT gs m dec lit v = some d) (hob : Obs d.obs) : d.v = v := by
  unfold decT at h
  split at h
  · cases h; rfl
  · split at h
    · cases h; rfl
    · rename_i bb hbb
      split at h
      case h_1 => cases h
      rename_i b ds
      cases h
      have hb : bb = b := hob.1
      unfold decV at hbb
      split at hbb
      · cases hbb
      · split at hbb
        · cases hbb
        · split at hbb
          · cases hbb; rw [hb]; rfl
          · cases hbb

theorem consF_ok {r : Option Res} {ob : List Pr} {G : Fin → Prop} : ∀ {t t' : FT}, consF r ob t = some t' → FTok G t' → FTok (fun f => ∃ f', consT r ob (some f) = some f' ∧ G f') t := by
  intro t
  induction t with
  | fin f =>
    intro t' h ho
    simp only [consF] at h
    split at h
    · rename_i f' hf; cases h; exact ⟨f', hf, ho⟩
    · cases h
  | node b t e iht ihe =>
    intro t' h ho
    simp only [consF] at h
    split at h
    case h_2 => cases h
    rename_i t1 h1
    split at h
    case h_2 => cases h
    rename_i e1 h2
    cases h
    exact ⟨fun hb => iht h1 (ho.1 hb), fun hb => ihe h2 (ho.2 hb)⟩

theorem runTree_ok {c : RC} : ∀ {l : List Oper} {m : Nat} {e : Env} {h : Heap} {q : List Orc} {lits : List Nat} {t : FT}, runTree c l m e h q lits = some t → ∀ {G : Fin → Prop}, FTok G t →
    ∃ dec fin f', runT c l m e h q (some dec) lits = some fin ∧ G f' ∧ fin.env = f'.env ∧ fin.heap = f'.heap ∧ fin.tr = f'.tr ∧ (Obs f'.obs → Obs fin.obs) := by
  intro l
  induction l with
  | nil =>
    intro m e h q lits t ht G hG
    simp only [runTree, Option.some.injEq] at ht
    subst ht
    exact ⟨[], _, _, rfl, hG, rfl, rfl, rfl, id⟩
  | cons o l ih =>
    intro m e h q lits t ht G hG
    have step : ∀ {e1 : Env} {h1 : Heap} {q1 : List Orc} {l1 : List Nat} {r : Option Res} {ob : List Pr} {t1 : FT}, consFo r ob (runTree c l (m + 1) e1 h1 q1 l1) = some t1 → FTok G t1 →
        ∃ dec fin f', consT r ob (runT c l (m + 1) e1 h1 q1 (some dec) l1) = some fin ∧ G f' ∧ fin.env = f'.env ∧ fin.heap = f'.heap ∧ fin.tr = f'.tr ∧ (Obs f'.obs → Obs fin.obs) := fun {e1 h1 q1 l1 r ob t1} hc hg => by
      unfold consFo at hc
      split at hc
      case h_2 => cases hc
      rename_i t2 ht2
      obtain ⟨dec, fin, f', k1, ⟨f2, k2, k3⟩, k4, k5, k6, k7⟩ := ih ht2 (consF_ok hc hg)
      obtain ⟨g, hg1, hg2⟩ := consT_eq k2
      cases hg1
      refine ⟨dec, ⟨fin.env, fin.heap, r :: fin.tr, ob ++ fin.obs, fin.q, fin.lits⟩, f2, ?_, k3, by rw [hg2]; exact k4, by rw [hg2]; exact k5, by rw [hg2]; simp [k6], fun ho => ?_⟩
      · rw [k1]
        have hcat : ∀ (x y : List Pr), catF x y = some (x ++ y) := fun x y => by
          induction x with
          | nil => rfl
          | cons a x ihx => simp only [catF, ihx]; rfl
        obtain ⟨_, _, _, _, _, _⟩ := fin
        simp only [consT, hcat]
      · rw [hg2] at ho
        have := Obs.append.1 ho
        exact Obs.append.2 ⟨this.1, k7 this.2⟩
    simp only [runTree] at ht
    split at ht
    · cases ht
    · rename_i hgd
      split at ht
      case h_1 => cases ht
      rename_i e' l1 hsk
      obtain ⟨dec, fin, f', k1, k⟩ := step ht hG
      refine ⟨dec, fin, f', ?_, k⟩
      simp only [runT, noDec, hgd, hsk, k1]
    · rename_i hgd
      split at ht
      case h_1 => cases ht
      rename_i v eff rds nw ob1 q1 hop
      split at ht
      · rename_i hdv
        split at ht
        case h_1 => cases ht
        rename_i e' h' l1 hput
        obtain ⟨dec, fin, f', k1, k⟩ := step ht hG
        refine ⟨dec, fin, f', ?_, k⟩
        simp only [runT, noDec, hgd, hop, decT, hdv, hput, catF, k1]
      · rename_i bb hdv
        split at ht
        case h_1 => cases ht
        rename_i e' h' l1 hput
        split at ht
        case h_1 => cases ht
        rename_i e2 h2 l2 hput2
        unfold nodeF at ht
        split at ht
        case h_2 => cases ht
        rename_i t1 _ ht1
        split at ht
        case h_2 => cases ht
        rename_i t2 ht2
        cases ht
        cases hb : bb with
        | true =>
          obtain ⟨dec, fin, f', k1, k2, k3, k4, k5, k6⟩ := step ht1 (hG.1 hb)
          obtain ⟨g, hg1, hg2⟩ := consT_eq k1
          refine ⟨true :: dec, ⟨fin.env, fin.heap, fin.tr, Pr.of (bb = true) :: fin.obs, fin.q, fin.lits⟩, f', ?_, k2, k3, k4, k5, fun ho => ⟨hb, k6 ho⟩⟩
          simp only [runT, noDec, hgd, hop, decT, hdv, hput, catF, hg1]
          have hcat : ∀ (x y : List Pr), catF x y = some (x ++ y) := fun x y => by
            induction x with
            | nil => rfl
            | cons a x ihx => simp only [catF, ihx]; rfl
          subst hg2
          obtain ⟨_, _, _, _, _, _⟩ := g
          simp only [consT, hcat]
          rfl
        | false =>
          obtain ⟨dec, fin, f', k1, k2, k3, k4, k5, k6⟩ := step ht2 (hG.2 hb)
          obtain ⟨g, hg1, hg2⟩ := consT_eq k1
          refine ⟨false :: dec, ⟨fin.env, fin.heap, fin.tr, Pr.of (bb = false) :: fin.obs, fin.q, fin.lits⟩, f', ?_, k2, k3, k4, k5, fun ho => ⟨hb, k6 ho⟩⟩
          simp only [runT, noDec, hgd, hop, decT, hdv, hput2, catF, hg1]
          have hcat : ∀ (x y : List Pr), catF x y = some (x ++ y) := fun x y => by
            induction x with
            | nil => rfl
            | cons a x ihx => simp only [catF, ihx]; rfl
          subst hg2
          obtain ⟨_, _, _, _, _, _⟩ := g
          simp only [consT, hcat]
          rfl

theorem runT_ok {T : TT} (hT : TTok P T) {K : KT} (hK : KOk P K) {gs : List Nat} {b : Frame} {ops : Array Oper} {N : Nat} {e0 : Nat → Option V} {H0 : Nat → Option Ob} {trA : List (Option Res)} :
    ∀ {l : List Oper} {m : Nat} {e : Env} {h : Heap} {q : List Orc} {dec : Option (List Bool)} {lits : List Nat} {fin : Fin} {pre : List Oper} {trp : List (Option Res)}, runT ⟨P, T, K, ops.toList, N, gs⟩ l m e h q dec lits = some fin → ops.toList = pre ++ l → trA = trp ++ fin.tr → trp.length = pre.length →
      sig (wrT ops fun j => (nth trA j).join) e0 (fun _ => true) pre.length = lk e → sig (wrO fun j => (nth trA j).join) H0 (fun _ => true) pre.length = look h → Obs fin.obs →
      (∀ j o, pre.length ≤ j → ops[j]? = some o → (∀ d, o.dst = some d → d < N) ∧
        match (nth trA j).join with
        | some r => (guardIs ops (sig (wrT ops fun j => (nth trA j).join) e0 (fun _ => true) j) o true ∧ Does P b o (evalF (sig (wrT ops fun j => (nth trA j).join) e0 (fun _ => true) j)) (sig (wrO fun j => (nth trA j).join) H0 (fun _ => true) j) r)
        | none => guardIs ops (sig (wrT ops fun j => (nth trA j).join) e0 (fun _ => true) j) o false) ∧
      sig (wrT ops fun j => (nth trA j).join) e0 (fun _ => true) ops.size = lk fin.env ∧ sig (wrO fun j => (nth trA j).join) H0 (fun _ => true) ops.size = look fin.heap ∧
      h.length ≤ fin.heap.length ∧
      (∀ j r, pre.length ≤ j → (nth trA j).join = some r → ∀ x ∈ r.new, h.length ≤ x ∧ x < fin.heap.length ∧ x < 1000) ∧
      (∀ i j ri rj x, pre.length ≤ i → pre.length ≤ j → i ≠ j → (nth trA i).join = some ri → (nth trA j).join = some rj → x ∈ ri.new → x ∉ rj.new) ∧ fin.tr.length = l.length := by
  intro l
  induction l with
  | nil =>
    intro m e h q dec lits fin pre trp hr h1 h2 h3 h4 h5 _
    simp only [runT, Option.some.injEq] at hr
    subst hr
    have hsz : ops.size = pre.length := by have := congrArg List.length h1; simpa using this
    have hno : ∀ j, pre.length ≤ j → (nth trA j).join = none := fun j hj => by
      rw [nth_eq, h2]
      simp only [List.append_nil]
      rw [List.getElem?_eq_none (by omega)]; rfl
    refine ⟨fun j o hj ho => ?_, by rw [hsz]; exact h4, by rw [hsz]; exact h5, Nat.le_refl _, fun j r hj hr => ?_, fun i j ri rj x hi _ _ hr => ?_, rfl⟩
    · have := (Array.getElem?_eq_some_iff.1 ho).1; omega
    · rw [hno j hj] at hr; cases hr
    · rw [hno i hi] at hr; cases hr
  | cons o l ih =>
    intro m e h q dec lits fin pre trp hr h1 h2 h3 h4 h5 hobs
    have hget : ops[pre.length]? = some o := by
      rw [← Array.getElem?_toList, h1, List.getElem?_append_right (Nat.le_refl _)]
      simp
    have hsplit : ops.toList = (pre ++ [o]) ++ l := by rw [h1]; simp
    simp only [runT] at hr
    split at hr
    · cases hr
    · rename_i hg
      split at hr
      case h_1 => cases hr
      rename_i e' lits1 hsk
      have he' := skipT_eq hsk
      obtain ⟨fin2, hrun, hfin⟩ := consT_eq hr
      subst hfin
      have hob : Obs fin2.obs := hobs
      have htr : (nth trA pre.length).join = none := by
        rw [nth_eq, h2, List.getElem?_append_right (by omega), h3]
        simp
      obtain ⟨hdN, hlk⟩ := dstE_eq he'
      have hgi := guardE_eq hg
      obtain ⟨g1, g2, g3, g4, g5, g6, g7⟩ := ih (pre := pre ++ [o]) (trp := trp ++ [none]) hrun hsplit (by rw [h2]; simp) (by simp [h3])
        (by
          rw [List.length_append]
          funext t
          show sig _ _ _ (pre.length + 1) t = _
          simp only [sig, if_true]
          rw [h4, hlk]
          simp only [wrT, hget, htr, valR]
          split <;> simp)
        (by
          rw [List.length_append]
          funext t
          show sig _ _ _ (pre.length + 1) t = _
          simp only [sig, if_true]
          rw [h5]
          simp [wrO, htr])
        hob
      have hmono : ∀ j, pre.length ≤ j → j = pre.length ∨ (pre ++ [o]).length ≤ j := fun j hj => by simp; omega
      refine ⟨fun j oj hj hoj => ?_, g2, g3, g4, fun j r hj hr => ?_, fun i j ri rj x hi hj hij hri hrj => ?_, by simp [g7]⟩
      · rcases hmono j hj with rfl | hj'
        · rw [hget] at hoj
          cases hoj
          refine ⟨hdN, ?_⟩
          rw [htr, h4]
          exact hgi
        · exact g1 j oj hj' hoj
      · rcases hmono j hj with rfl | hj'
        · rw [htr] at hr; cases hr
        · exact g5 j r hj' hr
      · rcases hmono i hi with rfl | hi'
        · rw [htr] at hri; cases hri
        · rcases hmono j hj with rfl | hj'
          · rw [htr] at hrj; cases hrj
          · exact g6 i j ri rj x hi' hj' hij hri hrj
    · rename_i hg
      split at hr
      case h_1 => cases hr
      rename_i v eff rds nw ob1 q1 hop0
      split at hr
      case h_1 => cases hr
      rename_i v' ob dec' lit hdec
      split at hr
      case h_1 => cases hr
      rename_i e' h' lits1 hput0
      split at hr
      case h_1 => cases hr
      rename_i ob2 hob2
      obtain ⟨fin2, hrun, hfin⟩ := consT_eq hr
      subst hfin
      have hob : Obs ob ∧ Obs ob1 ∧ Obs fin2.obs := by
        have := Obs.append.1 hobs
        rw [catF_eq hob2] at this
        have h2 := Obs.append.1 this.1
        exact ⟨h2.1, h2.2, this.2⟩
      have hvv : v' = v := decT_eq hdec hob.1
      subst hvv
      obtain ⟨nid, hop⟩ := opT_eq hop0
      obtain ⟨he', hh', hnew⟩ := putT_eq hput0
      have htr : (nth trA pre.length).join = some ⟨v', eff, rds, nw⟩ := by
        rw [nth_eq, h2, List.getElem?_append_right (by omega), h3]
        simp
      obtain ⟨hdN, hlk⟩ := dstE_eq he'
      have hgi := guardE_eq hg
      obtain ⟨hput, hlen⟩ := putE_eq hh'
      have hnw := newIn_eq hnew
      obtain ⟨g1, g2, g3, g4, g5, g6, g7⟩ := ih (pre := pre ++ [o]) (trp := trp ++ [some ⟨v', eff, rds, nw⟩]) hrun hsplit (by rw [h2]; simp) (by simp [h3])
        (by
          rw [List.length_append]
          funext t
          show sig _ _ _ (pre.length + 1) t = _
          simp only [sig, if_true]
          rw [h4, hlk]
          simp only [wrT, hget, htr, valR]
          split <;> simp)
        (by
          rw [List.length_append]
          funext t
          show sig _ _ _ (pre.length + 1) t = _
          simp only [sig, if_true]
          rw [h5, hput]
          simp [wrO, htr, upf])
        hob.2.2
      have hmono : ∀ j, pre.length ≤ j → j = pre.length ∨ (pre ++ [o]).length ≤ j := fun j hj => by simp; omega
      refine ⟨fun j oj hj hoj => ?_, g2, g3, Nat.le_trans hlen g4, fun j r hj hr x hx => ?_, fun i j ri rj x hi hj hij hri hrj hx hx' => ?_, by simp [g7]⟩
      · rcases hmono j hj with rfl | hj'
        · rw [hget] at hoj
          cases hoj
          refine ⟨hdN, ?_⟩
          rw [htr, h4, h5]
          exact ⟨hgi, sound_op hT hK hop hob.2.1⟩
        · exact g1 j oj hj' hoj
      · rcases hmono j hj with rfl | hj'
        · rw [htr] at hr
          cases hr
          have := hnw x hx
          exact ⟨this.1, Nat.lt_of_lt_of_le this.2.1 g4, this.2.2⟩
        · have := g5 j r hj' hr x hx
          exact ⟨Nat.le_trans hlen this.1, this.2⟩
      · rcases hmono i hi with rfl | hi' <;> rcases hmono j hj with rfl | hj'
        · exact hij rfl
        · rw [htr] at hri
          cases hri
          have h8 := hnw x hx
          have h9 := g5 j rj hj' hrj x hx'
          omega
        · rw [htr] at hrj
          cases hrj
          have h8 := hnw x hx'
          have h9 := g5 i ri hi' hri x hx
          omega
        · exact g6 i j ri rj x hi' hj' hij hri hrj hx hx'

end Go.Lift
