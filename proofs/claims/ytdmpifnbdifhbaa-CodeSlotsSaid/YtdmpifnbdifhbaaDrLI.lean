/- That a drawn region is safe: a check. -/
import Derived.Test.YtdmpifnbdifhbaaDrLH
namespace Go.Lift
variable {P : Program}

def meetF : List Nat → List Nat → Bool
  | [], _ => false
  | x :: l, r => match memF x r with
    | true => true
    | false => meetF l r
theorem meetF_of {x : Nat} {l r : List Nat} (h1 : x ∈ l) (h2 : x ∈ r) : meetF l r = true := by
  induction l with
  | nil => cases h1
  | cons y l ih =>
    simp only [meetF]
    cases he : memF y r with
    | true => rfl
    | false =>
      cases h1 with
      | head => rw [memF_of h2] at he; cases he
      | tail _ h => exact ih h

structure Info where
  dst : List Nat
  looks : List Nat
  effs : List Nat
  rds : List Nat

def looksL (o : Oper) (ops : List Oper) : List Nat :=
  (o.op.operands.toList.filterMap fun | .tmp t => some t | _ => none) ++
  (match o.guard with
   | some (g, _) => ((nth ops g).bind (·.dst)).toList
   | none => [])

def infos (ops : List Oper) : List Oper → List (Option Res) → List Info
  | [], _ => []
  | o :: l, [] => ⟨o.dst.toList, looksL o ops, [], []⟩ :: infos ops l []
  | o :: l, none :: r => ⟨o.dst.toList, looksL o ops, [], []⟩ :: infos ops l r
  | o :: l, some t :: r => ⟨o.dst.toList, looksL o ops, t.eff.map (·.1), t.rds⟩ :: infos ops l r

theorem infos_get {ops : List Oper} : ∀ {l : List Oper} {r : List (Option Res)} {j : Nat} {o : Oper}, l[j]? = some o → ∃ inf, (infos ops l r)[j]? = some inf ∧ inf.dst = o.dst.toList ∧ inf.looks = looksL o ops ∧
    ∀ t, (nth r j).join = some t → inf.effs = t.eff.map (·.1) ∧ inf.rds = t.rds := by
  intro l
  induction l with
  | nil => intro r j o h; simp at h
  | cons x l ih =>
    intro r j o h
    cases j with
    | zero =>
      simp at h
      subst h
      cases r with
      | nil => exact ⟨_, rfl, rfl, rfl, fun t ht => by simp [nth] at ht⟩
      | cons y r =>
        cases y with
        | none => exact ⟨_, rfl, rfl, rfl, fun t ht => by simp [nth] at ht⟩
        | some t => exact ⟨_, rfl, rfl, rfl, fun t' ht => by simp [nth] at ht; subst ht; exact ⟨rfl, rfl⟩⟩
    | succ j =>
      simp at h
      cases r with
      | nil =>
        obtain ⟨inf, h1, h2, h3, h4⟩ := ih (r := []) h
        exact ⟨inf, h1, h2, h3, fun t ht => by simp [nth] at ht⟩
      | cons y r =>
        obtain ⟨inf, h1, h2, h3, h4⟩ := ih (r := r) h
        cases y with
        | none => exact ⟨inf, h1, h2, h3, fun t ht => h4 t (by simpa [nth] using ht)⟩
        | some t' => exact ⟨inf, h1, h2, h3, fun t ht => h4 t (by simpa [nth] using ht)⟩

/-- 'i' writes what 'j' uses. -/
def clashB (i j : Info) : Bool := match meetF i.dst j.looks with
  | true => true
  | false => match meetF i.dst j.dst with
    | true => true
    | false => match meetF i.effs j.rds with
      | true => true
      | false => meetF i.effs j.effs

theorem clashB_of {ops : Array Oper} {tr : List (Option Res)} {i j : Nat} (h : clash ops (fun j => (nth tr j).join) i j) {a b : Info} (ha : (infos ops.toList ops.toList tr)[i]? = some a) (hb : (infos ops.toList ops.toList tr)[j]? = some b) : clashB a b = true := by
  obtain ⟨oi, oj, hi, hj, hc⟩ := h
  rw [← Array.getElem?_toList] at hi hj
  obtain ⟨a', e1, a1, a2, a3⟩ := infos_get (ops := ops.toList) (r := tr) hi
  obtain ⟨b', e2, b1, b2, b3⟩ := infos_get (ops := ops.toList) (r := tr) hj
  rw [ha] at e1
  rw [hb] at e2
  cases e1
  cases e2
  have hlook : looksL oj ops.toList = oj.looksAt ops := by
    unfold looksL Oper.looksAt
    congr 1
    cases oj.guard with
    | none => rfl
    | some p => obtain ⟨g, w⟩ := p; simp [nth_eq]
  have key : meetF a.dst b.looks = true ∨ meetF a.dst b.dst = true ∨ meetF a.effs b.rds = true ∨ meetF a.effs b.effs = true := by
    rcases hc with ⟨d, hd, hu⟩ | ⟨ri, rj, x, h1, h2, h3, h4⟩
    · have hd' : d ∈ a.dst := by rw [a1, hd]; simp
      rcases hu with hu | hu
      · exact .inl (meetF_of hd' (by rw [b2, hlook]; exact hu))
      · exact .inr (.inl (meetF_of hd' (by rw [b1, hu]; simp)))
    · have keys : ∀ {l : List (Nat × Option Ob)}, (l.lookup x).isSome = true → x ∈ l.map (·.1) := fun {l} h => by
        induction l with
        | nil => cases h
        | cons y l ih =>
          obtain ⟨k, z⟩ := y
          simp only [List.lookup] at h
          split at h
          · rename_i hk
            have : x = k := by simpa using hk
            subst this
            simp
          · simp only [List.map_cons, List.mem_cons]
            exact .inr (ih h)
      have hx : x ∈ a.effs := by rw [(a3 ri h1).1]; exact keys h3
      rcases h4 with h4 | h4
      · exact .inr (.inr (.inl (meetF_of hx (by rw [(b3 rj h2).2]; exact h4))))
      · exact .inr (.inr (.inr (meetF_of hx (by rw [(b3 rj h2).1]; exact keys h4))))
  unfold clashB
  rcases key with h | h | h | h
  all_goals
    cases h1 : meetF a.dst b.looks <;> cases h2 : meetF a.dst b.dst <;> cases h3 : meetF a.effs b.rds <;> simp_all

/-! ### Who comes before -/
def maskOf (acc : List Nat) : List Edge → Option Nat
  | [] => some 0
  | e :: es => match Region.binds .any e with
    | true => match nth acc e.on with
      | some m => match maskOf acc es with
        | some m' => some (m ||| (1 <<< e.on) ||| m')
        | none => none
      | none => none
    | false => maskOf acc es

theorem maskOf_eq {acc : List Nat} : ∀ {es : List Edge} {m : Nat}, maskOf acc es = some m → (∀ e ∈ es, Region.binds .any e = true → e.on < acc.length) ∧
    ∀ i, m.testBit i = true → ∃ e ∈ es, Region.binds .any e = true ∧ (i = e.on ∨ ∃ m', acc[e.on]? = some m' ∧ m'.testBit i = true) := by
  intro es
  induction es with
  | nil => intro m h; simp [maskOf] at h; subst h; exact ⟨fun e he => by (cases he), fun i hi => by simp at hi⟩
  | cons e es ih =>
    intro m h
    simp only [maskOf] at h
    split at h
    · rename_i hb
      split at h
      case h_2 => cases h
      rename_i m1 hm1
      split at h
      case h_2 => cases h
      rename_i m2 hm2
      simp only [Option.some.injEq] at h
      subst h
      obtain ⟨g1, g2⟩ := ih hm2
      rw [nth_eq] at hm1
      refine ⟨fun e' he' hb' => ?_, fun i hi => ?_⟩
      · cases he' with
        | head => exact (List.getElem?_eq_some_iff.1 hm1).1
        | tail _ he' => exact g1 e' he' hb'
      · simp only [Nat.testBit_or, Bool.or_eq_true] at hi
        rcases hi with (hi | hi) | hi
        · exact ⟨e, List.mem_cons_self .., hb, .inr ⟨m1, hm1, hi⟩⟩
        · refine ⟨e, List.mem_cons_self .., hb, .inl ?_⟩
          rw [Nat.one_shiftLeft, Nat.testBit_two_pow] at hi
          simpa using (decide_eq_true_iff.1 hi).symm
        · obtain ⟨e', h1, h2⟩ := g2 i hi
          exact ⟨e', List.mem_cons_of_mem _ h1, h2⟩
    · rename_i hb
      obtain ⟨g1, g2⟩ := ih h
      refine ⟨fun e' he' hb' => ?_, fun i hi => ?_⟩
      · cases he' with
        | head => rw [hb'] at hb; cases hb
        | tail _ he' => exact g1 e' he' hb'
      · obtain ⟨e', h1, h2⟩ := g2 i hi
        exact ⟨e', List.mem_cons_of_mem _ h1, h2⟩

def masks : List Oper → List Nat → Option (List Nat)
  | [], acc => some acc
  | o :: l, acc => match maskOf acc o.after.toList with
    | some m => masks l (acc ++ [m])
    | none => none

theorem masks_eq : ∀ {l : List Oper} {acc M : List Nat}, masks l acc = some M → M.length = acc.length + l.length ∧ (∀ j, j < acc.length → M[j]? = acc[j]?) ∧
    ∀ j o, l[j]? = some o → ∃ m, M[acc.length + j]? = some m ∧ (∀ e ∈ o.after.toList, Region.binds .any e = true → e.on < acc.length + j) ∧
      ∀ i, m.testBit i = true → ∃ e ∈ o.after.toList, Region.binds .any e = true ∧ (i = e.on ∨ ∃ m', M[e.on]? = some m' ∧ m'.testBit i = true) := by
  intro l
  induction l with
  | nil => intro acc M h; simp [masks] at h; subst h; exact ⟨rfl, fun _ _ => rfl, fun j o h => by simp at h⟩
  | cons o l ih =>
    intro acc M h
    simp only [masks] at h
    split at h
    case h_2 => cases h
    rename_i m hm
    obtain ⟨g1, g2, g3⟩ := ih h
    obtain ⟨m1, m2⟩ := maskOf_eq hm
    have hpre : ∀ j, j < acc.length → M[j]? = acc[j]? := fun j hj => by
      rw [g2 j (by simp; omega), List.getElem?_append_left hj]
    refine ⟨by simp at g1 ⊢; omega, hpre, fun j o' ho' => ?_⟩
    cases j with
    | zero =>
      simp at ho'
      subst ho'
      refine ⟨m, by rw [g2 _ (by simp)]; simp, m1, fun i hi => ?_⟩
      obtain ⟨e, h1, h2, h3⟩ := m2 i hi
      refine ⟨e, h1, h2, ?_⟩
      rcases h3 with h3 | ⟨m', h3, h4⟩
      · exact .inl h3
      · exact .inr ⟨m', by rw [hpre _ (m1 e h1 h2)]; exact h3, h4⟩
    | succ j =>
      simp at ho'
      obtain ⟨m', h1, h2, h3⟩ := g3 j o' ho'
      have e : (acc ++ [m]).length + j = acc.length + (j + 1) := by simp; omega
      rw [e] at h1
      exact ⟨m', h1, fun x hx hb => by have := h2 x hx hb; rw [e] at this; exact this, h3⟩

def laterB (M : List Nat) (j : Nat) (b : Info) : List Info → Nat → Bool
  | [], _ => true
  | a :: l, i => match Nat.blt i j with
    | true => match (match clashB a b with
        | true => true
        | false => clashB b a) with
      | true => match nth M j with
        | some m => match m.testBit i with
          | true => laterB M j b l (i + 1)
          | false => false
        | none => false
      | false => laterB M j b l (i + 1)
    | false => true

theorem laterB_eq {M : List Nat} {j : Nat} {b : Info} : ∀ {l : List Info} {i0 : Nat}, laterB M j b l i0 = true → ∀ i a, l[i]? = some a → i0 + i < j → clashB a b = true ∨ clashB b a = true → ∃ m, M[j]? = some m ∧ m.testBit (i0 + i) = true := by
  intro l
  induction l with
  | nil => intro i0 _ i a h; simp at h
  | cons x l ih =>
    intro i0 h i a hi hlt hc
    simp only [laterB] at h
    split at h
    case h_2 hb => 
      have : ¬ i0 < j := fun hlt => by rw [show i0.blt j = true from Nat.ble_eq.mpr hlt] at hb; cases hb
      omega
    cases i with
    | zero =>
      simp at hi
      subst hi
      have hcc : (match clashB x b with
        | true => true
        | false => clashB b x) = true := by
        rcases hc with hc | hc
        · rw [hc]
        · rw [hc]; split <;> rfl
      rw [hcc] at h
      simp only at h
      split at h
      case h_2 => cases h
      rename_i m hm
      split at h
      case h_2 => cases h
      rename_i hb
      rw [nth_eq] at hm
      exact ⟨m, hm, hb⟩
    | succ i =>
      simp at hi
      have key : laterB M j b l (i0 + 1) = true := by
        split at h
        · split at h
          case h_2 => cases h
          split at h
          case h_2 => cases h
          exact h
        · exact h
      obtain ⟨m, h1, h2⟩ := ih key i a hi (by omega) hc
      exact ⟨m, h1, by have e : i0 + 1 + i = i0 + (i + 1) := by omega
                       rw [e] at h2; exact h2⟩

def pairsB (M : List Nat) (all : List Info) : List Info → Nat → Bool
  | [], _ => true
  | b :: l, j => match laterB M j b all 0 with
    | true => pairsB M all l (j + 1)
    | false => false

theorem pairsB_eq {M : List Nat} {all : List Info} : ∀ {l : List Info} {j0 : Nat}, pairsB M all l j0 = true → ∀ j b, l[j]? = some b → laterB M (j0 + j) b all 0 = true := by
  intro l
  induction l with
  | nil => intro j0 _ j b h; simp at h
  | cons x l ih =>
    intro j0 h j b hj
    simp only [pairsB] at h
    split at h
    case h_2 => cases h
    rename_i hx
    cases j with
    | zero => simp at hj; subst hj; exact hx
    | succ j =>
      have := ih h j b (by simpa using hj)
      have e : j0 + 1 + j = j0 + (j + 1) := by omega
      rw [e] at this
      exact this

def safeB0 (ops : List Oper) (tr : List (Option Res)) : Bool := match masks ops [] with
  | some M => pairsB M (infos ops ops tr) (infos ops ops tr) 0
  | none => false

theorem masks_anc {ops : Array Oper} {M : List Nat} (hM : masks ops.toList [] = some M) : (∀ j o, ops[j]? = some o → ∃ m, M[j]? = some m ∧ (∀ e ∈ o.after, Region.binds .any e = true → e.on < j) ∧
      ∀ i, m.testBit i = true → ∃ e ∈ o.after, Region.binds .any e = true ∧ (i = e.on ∨ ∃ m', M[e.on]? = some m' ∧ m'.testBit i = true)) ∧
    ∀ j i m, j < ops.size → M[j]? = some m → m.testBit i = true → Anc ops i j := by
  obtain ⟨_, _, g⟩ := masks_eq hM
  have hg : ∀ j o, ops[j]? = some o → ∃ m, M[j]? = some m ∧ (∀ e ∈ o.after, Region.binds .any e = true → e.on < j) ∧
      ∀ i, m.testBit i = true → ∃ e ∈ o.after, Region.binds .any e = true ∧ (i = e.on ∨ ∃ m', M[e.on]? = some m' ∧ m'.testBit i = true) := fun j o ho => by
    rw [← Array.getElem?_toList] at ho
    obtain ⟨m, h1, h2, h3⟩ := g j o ho
    simp only [List.length_nil, Nat.zero_add] at h1 h2
    exact ⟨m, h1, fun e he => h2 e (by simpa using he), fun i hi => by
      obtain ⟨e, k1, k2⟩ := h3 i hi
      exact ⟨e, by simpa using k1, k2⟩⟩
  have hanc : ∀ j i m, j < ops.size → M[j]? = some m → m.testBit i = true → Anc ops i j := by
    intro j
    induction j using Nat.strongRecOn with
    | ind j ih =>
      intro i m hj hm hb D hD hpre
      have ho := Array.getElem?_eq_getElem hj
      obtain ⟨m', h1, h2, h3⟩ := hg j _ ho
      rw [hm] at h1
      cases h1
      obtain ⟨e, he, hbi, hor⟩ := h3 i hb
      have hde := hpre _ ho e he hbi
      rcases hor with rfl | ⟨m2, k1, k2⟩
      · exact hde
      · have hlt := h2 e he hbi
        exact ih e.on hlt i m2 (by omega) k1 k2 D hD fun o' ho' e' he' hb' => hD e.on o' ho' hde e' he' hb'
  exact ⟨hg, hanc⟩

theorem safeB0_ok {ops : Array Oper} {tr : List (Option Res)} (h : safeB0 ops.toList tr = true) : Safe ops (fun j => (nth tr j).join) := by
  unfold safeB0 at h
  split at h
  case h_2 => cases h
  rename_i M hM
  obtain ⟨hg, hanc⟩ := masks_anc hM
  refine ⟨fun j o ho e he hb => ?_, fun i j hi hj hc => ?_⟩
  · obtain ⟨m, h1, h2, h3⟩ := hg j o ho
    exact h2 e he hb
  · have hoi : ops.toList[i]? = some ops[i] := by rw [Array.getElem?_toList]; exact Array.getElem?_eq_getElem hi
    have hoj : ops.toList[j]? = some ops[j] := by rw [Array.getElem?_toList]; exact Array.getElem?_eq_getElem hj
    obtain ⟨a, ha, _⟩ := infos_get (ops := ops.toList) (r := tr) hoi
    obtain ⟨b, hb, _⟩ := infos_get (ops := ops.toList) (r := tr) hoj
    have hcb := clashB_of hc ha hb
    refine ⟨fun hij => ?_, fun hji => ?_⟩
    · have h1 := pairsB_eq h j b hb
      rw [Nat.zero_add] at h1
      obtain ⟨m, k1, k2⟩ := laterB_eq h1 i a ha (by omega) (.inl hcb)
      rw [Nat.zero_add] at k2
      exact hanc j i m hj k1 k2
    · have h1 := pairsB_eq h i a ha
      rw [Nat.zero_add] at h1
      obtain ⟨m, k1, k2⟩ := laterB_eq h1 j b hb (by omega) (.inr hcb)
      rw [Nat.zero_add] at k2
      exact hanc i j m hi k1 k2


/-! ### The static part apart from what is written in memory -/
def keysL : List (Nat × Option Ob) → List Nat → List Nat
  | [], acc => acc
  | (i, _) :: l, acc => i :: keysL l acc
theorem keysL_mem {l : List (Nat × Option Ob)} {acc : List Nat} {x : Nat} (h : (l.lookup x).isSome = true) : x ∈ keysL l acc := by
  induction l with
  | nil => cases h
  | cons y l ih =>
    obtain ⟨k, z⟩ := y
    simp only [List.lookup] at h
    simp only [keysL]
    split at h
    · rename_i hk
      have : x = k := by simpa using hk
      subst this
      exact List.mem_cons_self ..
    · exact List.mem_cons_of_mem _ (ih h)
theorem keysL_acc {l : List (Nat × Option Ob)} {acc : List Nat} {x : Nat} (h : x ∈ acc) : x ∈ keysL l acc := by
  induction l with
  | nil => exact h
  | cons y l ih => exact List.mem_cons_of_mem _ ih

/-- Is one of two before the other one, as the edges say? -/
def ordB (M : List Nat) (i j : Nat) : Bool := match Nat.blt i j with
  | true => match nth M j with
    | some m => m.testBit i
    | none => false
  | false => match nth M i with
    | some m => m.testBit j
    | none => false

def dynOne (M : List Nat) (i : Nat) (effs : List Nat) : List (Option Res) → Nat → Bool
  | [], _ => true
  | none :: l, j => dynOne M i effs l (j + 1)
  | some r :: l, j => match eqN i j with
    | true => dynOne M i effs l (j + 1)
    | false => match meetF effs (keysL r.eff r.rds) with
      | true => match ordB M i j with
        | true => dynOne M i effs l (j + 1)
        | false => false
      | false => dynOne M i effs l (j + 1)

def dynB (M : List Nat) (all : List (Option Res)) : List (Option Res) → Nat → Bool
  | [], _ => true
  | none :: l, i => dynB M all l (i + 1)
  | some r :: l, i => match r.eff with
    | [] => dynB M all l (i + 1)
    | x :: e => match dynOne M i (keysL (x :: e) []) all 0 with
      | true => dynB M all l (i + 1)
      | false => false

theorem dynOne_eq {M : List Nat} {i : Nat} {effs : List Nat} : ∀ {l : List (Option Res)} {j0 : Nat}, dynOne M i effs l j0 = true → ∀ j r, l[j]? = some (some r) → j0 + j ≠ i → (∃ x, x ∈ effs ∧ x ∈ keysL r.eff r.rds) → ordB M i (j0 + j) = true := by
  intro l
  induction l with
  | nil => intro j0 _ j r h; simp at h
  | cons y l ih =>
    intro j0 h j r hj hne hx
    cases y with
    | none =>
      simp only [dynOne] at h
      cases j with
      | zero => simp at hj
      | succ j =>
        have e : j0 + (j + 1) = j0 + 1 + j := by omega
        rw [e] at hne ⊢
        exact ih h j r (by simpa using hj) hne hx
    | some t =>
      have key : dynOne M i effs l (j0 + 1) = true := by
        simp only [dynOne] at h
        split at h
        · exact h
        · split at h
          · split at h
            · exact h
            · cases h
          · exact h
      cases j with
      | zero =>
        simp at hj
        subst hj
        simp only [Nat.add_zero] at hne ⊢
        simp only [dynOne] at h
        have h1 : eqN i j0 = false := by
          cases he : eqN i j0 with
          | false => rfl
          | true => exact absurd (eqN_iff.1 he).symm hne
        obtain ⟨x, hx1, hx2⟩ := hx
        rw [h1, meetF_of hx1 hx2] at h
        simp only at h
        split at h
        · rename_i ho; exact ho
        · cases h
      | succ j =>
        have e : j0 + (j + 1) = j0 + 1 + j := by omega
        rw [e] at hne ⊢
        exact ih key j r (by simpa using hj) hne hx

theorem dynB_eq {M : List Nat} {all : List (Option Res)} : ∀ {l : List (Option Res)} {i0 : Nat}, dynB M all l i0 = true → ∀ i r, l[i]? = some (some r) → r.eff ≠ [] → dynOne M (i0 + i) (keysL r.eff []) all 0 = true := by
  intro l
  induction l with
  | nil => intro i0 _ i r h; simp at h
  | cons y l ih =>
    intro i0 h i r hi hne
    cases y with
    | none =>
      simp only [dynB] at h
      cases i with
      | zero => simp at hi
      | succ i =>
        have e : i0 + (i + 1) = i0 + 1 + i := by omega
        rw [e]
        exact ih h i r (by simpa using hi) hne
    | some t =>
      simp only [dynB] at h
      cases i with
      | zero =>
        simp at hi
        subst hi
        split at h
        · rename_i he; exact absurd he hne
        · rename_i x e he
          split at h
          · rename_i ho; rw [he]; exact ho
          · cases h
      | succ i =>
        have e : i0 + (i + 1) = i0 + 1 + i := by omega
        rw [e]
        refine ih ?_ i r (by simpa using hi) hne
        split at h
        · exact h
        · split at h
          · exact h
          · cases h

def safeB (ops : List Oper) (tr : List (Option Res)) : Bool := match safeB0 ops [] with
  | true => match masks ops [] with
    | some M => dynB M tr tr 0
    | none => false
  | false => false

theorem safeB_ok {ops : Array Oper} {tr : List (Option Res)} (h : safeB ops.toList tr = true) : Safe ops (fun j => (nth tr j).join) := by
  unfold safeB at h
  split at h
  case h_2 => cases h
  rename_i h0
  split at h
  case h_2 => cases h
  rename_i M hM
  obtain ⟨hback, hord⟩ := safeB0_ok h0
  obtain ⟨_, hanc⟩ := masks_anc hM
  refine ⟨hback, fun i j hi hj hc => ?_⟩
  obtain ⟨oi, oj, h1, h2, h3⟩ := hc
  rcases h3 with h3 | ⟨ri, rj, x, h3, h4, h5, h6⟩
  · exact hord i j hi hj ⟨oi, oj, h1, h2, .inl h3⟩
  · by_cases hij : i = j
    · subst hij
      exact ⟨fun h => by omega, fun h => by omega⟩
    · have g1 : tr[i]? = some (some ri) := by
        simp only [nth_eq] at h3
        cases hti : tr[i]? with
        | none => rw [hti] at h3; cases h3
        | some y => rw [hti] at h3; cases y with
          | none => cases h3
          | some z => cases h3; rfl
      have g2 : tr[j]? = some (some rj) := by
        simp only [nth_eq] at h4
        cases hti : tr[j]? with
        | none => rw [hti] at h4; cases h4
        | some y => rw [hti] at h4; cases y with
          | none => cases h4
          | some z => cases h4; rfl
      have hne : ri.eff ≠ [] := fun e => by rw [e] at h5; cases h5
      have k1 := dynB_eq h i ri g1 hne
      rw [Nat.zero_add] at k1
      have k2 := dynOne_eq k1 j rj g2 (by omega) ⟨x, keysL_mem h5, by
        rcases h6 with h6 | h6
        · exact keysL_acc h6
        · exact keysL_mem h6⟩
      rw [Nat.zero_add] at k2
      unfold ordB at k2
      refine ⟨fun hlt => ?_, fun hlt => ?_⟩
      · have hb : Nat.blt i j = true := by simpa using hlt
        rw [hb] at k2
        simp only at k2
        split at k2
        · rename_i m hm
          rw [nth_eq] at hm
          exact hanc j i m hj hm k2
        · cases k2
      · have hb : Nat.blt i j = false := by
          cases he : Nat.blt i j with
          | false => rfl
          | true => have : i < j := by simpa using he
                    omega
        rw [hb] at k2
        simp only at k2
        split at k2
        · rename_i m hm
          rw [nth_eq] at hm
          exact hanc i j m hi hm k2
        · cases k2

end Go.Lift
