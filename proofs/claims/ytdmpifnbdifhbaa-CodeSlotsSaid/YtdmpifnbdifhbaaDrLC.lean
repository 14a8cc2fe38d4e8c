/- Calls at data level: a callee sees the objects that it is handed, and no other. -/
import Derived.Test.YtdmpifnbdifhbaaDrLB
namespace Go.Lift
variable {P : Program}

/-! ### Numbers, lists -/
def sucT : Nat → Option Nat
  | 0 => some 1 | 1 => some 2 | 2 => some 3 | 3 => some 4 | 4 => some 5 | 5 => some 6 | 6 => some 7 | 7 => some 8 | 8 => some 9 | 9 => some 10
  | 10 => some 11 | 11 => some 12 | 12 => some 13 | 13 => some 14 | 14 => some 15 | 15 => some 16 | 16 => some 17 | 17 => some 18 | 18 => some 19 | 19 => some 20
  | 20 => some 21 | 21 => some 22 | 22 => some 23 | 23 => some 24 | 24 => some 25 | 25 => some 26 | 26 => some 27 | 27 => some 28 | 28 => some 29 | 29 => some 30
  | n => match Nat.blt n 500 with
    | true => some (n + 1)
    | false => none
theorem sucT_eq {n m : Nat} (h : sucT n = some m) : m = n + 1 := by
  unfold sucT at h
  split at h
  all_goals first
    | (cases h; rfl)
    | (split at h
       · cases h; rfl
       · cases h)
theorem sucT_some {n : Nat} (h : n < 500) : ∃ m, sucT n = some m := by
  have hb : Nat.blt n 500 = true := by simpa using h
  unfold sucT
  split
  all_goals first
    | exact ⟨_, rfl⟩
    | (rw [hb]; exact ⟨_, rfl⟩)

def idOf {α : Type} : List α → Option Nat
  | [] => some 0
  | _ :: l => match idOf l with
    | some n => sucT n
    | none => none
theorem idOf_eq {α : Type} {l : List α} {n : Nat} (h : idOf l = some n) : n = l.length := by
  induction l generalizing n with
  | nil => simp [idOf] at h; exact h.symm
  | cons x l ih =>
    simp only [idOf] at h
    split at h
    · rename_i m hm
      rw [sucT_eq h, ih hm]; rfl
    · cases h

def posOf : List Nat → Nat → Option Nat
  | [], _ => none
  | x :: l, i => match eqN x i with
    | true => some 0
    | false => match posOf l i with
      | some n => sucT n
      | none => none
theorem posOf_eq {l : List Nat} {i p : Nat} (h : posOf l i = some p) : l[p]? = some i := by
  induction l generalizing p with
  | nil => cases h
  | cons x l ih =>
    simp only [posOf] at h
    split at h
    · rename_i hx
      cases h
      simp [Nat.eq_of_beq_eq_true hx]
    · split at h
      · rename_i n hn
        rw [sucT_eq h]
        simpa using ih hn
      · cases h

def mapO {α β : Type} (g : α → Option β) : List α → Option (List β)
  | [] => some []
  | x :: l => match g x with
    | some y => match mapO g l with
      | some r => some (y :: r)
      | none => none
    | none => none
theorem mapO_eq {α β : Type} {g : α → Option β} {l : List α} {r : List β} (h : mapO g l = some r) : r.length = l.length ∧ ∀ j (h : j < l.length) (h' : j < r.length), g l[j] = some r[j] := by
  induction l generalizing r with
  | nil => simp [mapO] at h; subst h; exact ⟨rfl, fun j h => by simp at h⟩
  | cons x l ih =>
    simp only [mapO] at h
    split at h
    case h_2 => cases h
    rename_i y hy
    split at h
    case h_2 => cases h
    rename_i r' hr
    cases h
    obtain ⟨h1, h2⟩ := ih hr
    refine ⟨by simp [h1], fun j h h' => ?_⟩
    cases j with
    | zero => exact hy
    | succ j => simpa using h2 j (by simpa using h) (by simpa using h')

/-! ### What a callee sees -/
/-- A value as one sees it who has the objects 'sel' alone, in this order; what lies in others becomes closed. -/
def sm : Nat → List Nat → (Nat → Option Ob) → V → Option V
  | 0, _, _, _ => none
  | n + 1, sel, H, v => match v with
    | .c x => some (.c x)
    | .hp i r j => match posOf sel i with
      | some p => some (.hp p r j)
      | none => match H i with
        | some (.bx cells) => match r with
          | 0 => match mapO (sm n sel H) cells with
            | some l => match allC l with
              | some c => some (.c (.va c j))
              | none => none
            | none => none
          | _ + 1 => none
        | _ => none
    | .hs i off len => match posOf sel i with
      | some p => some (.hs p off len)
      | none => match H i with
        | some (.co k rows) => some (.c (.sl k ((rows.drop off).take len)))
        | _ => none
    | .hw i => match posOf sel i with
      | some p => some (.hw p)
      | none => match H i with
        | some (.co k rows) => some (.c (.sl k rows))
        | some (.vo k rows) => match mapO (mapO (sm n sel H)) rows with
          | some l => match allRows l with
            | some c => some (.c (.sl k c))
            | none => none
          | none => none
        | _ => none
    | .hz => some .hz
    | .yl i => match posOf sel i with
      | some p => some (.yl p)
      | none => none
    | .ag l => match mapO (sm n sel H) l with
      | some l' => some (mkAg l')
      | none => none
    | .fn f a b => match mapO (sm n sel H) a with
      | some a' => match mapO (sm n sel H) b with
        | some b' => some (mkFn f a' b')
        | none => none
      | none => none
    | .tp l => match mapO (sm n sel H) l with
      | some l' => some (.tp l')
      | none => none

/-- An environment's values, as far as they can be told. -/
def envM (g : V → Option V) : Env → Option Env
  | .nil => some .nil
  | .node v l r => match envM g l with
    | some l' => match envM g r with
      | some r' => match v with
        | some x => match g x with
          | some x' => some (.node (some x') l' r')
          | none => some (.node none l' r')
        | none => some (.node none l' r')
      | none => none
    | none => none
theorem envM_eq {g : V → Option V} : ∀ {e r : Env}, envM g e = some r → ∀ t v', lk r t = some v' → ∃ v, lk e t = some v ∧ g v = some v' := by
  intro e
  induction e with
  | nil => intro r h t v' hv; simp [envM] at h; subst h; rw [lk_nil] at hv; cases hv
  | node u l r0 ihl ihr =>
    intro r h t v' hv
    simp only [envM] at h
    split at h
    case h_2 => cases h
    rename_i l' hl
    split at h
    case h_2 => cases h
    rename_i r' hr
    have rest : ∀ (w : Option V), lk (.node w l' r') t = some v' → (∃ t', t = t' + 1) → ∃ v, lk (.node u l r0) t = some v ∧ g v = some v' := fun w hw ht => by
      obtain ⟨t', rfl⟩ := ht
      rw [lk_succ] at hw ⊢
      split at hw
      · rename_i hm; rw [if_pos hm]; exact ihl hl _ _ hw
      · rename_i hm; rw [if_neg hm]; exact ihr hr _ _ hw
    split at h
    · rename_i x
      split at h
      · rename_i x' hx
        cases h
        cases t with
        | zero => rw [lk_zero] at hv; cases hv; exact ⟨x, rfl, hx⟩
        | succ t => exact rest _ hv ⟨t, rfl⟩
      · cases h
        cases t with
        | zero => rw [lk_zero] at hv; cases hv
        | succ t => exact rest _ hv ⟨t, rfl⟩
    · cases h
      cases t with
      | zero => rw [lk_zero] at hv; cases hv
      | succ t => exact rest _ hv ⟨t, rfl⟩

def smO (n : Nat) (sel : List Nat) (H : Nat → Option Ob) : Ob → Option Ob
  | .bx cells => match mapO (sm n sel H) cells with
    | some l => some (.bx l)
    | none => none
  | .co k rows => some (.co k rows)
  | .vo k rows => match mapO (mapO (sm n sel H)) rows with
    | some l => some (.vo k l)
    | none => none
  | .ot o => some (.ot o)
  | .lp st pend fn N e params asg body => match envM (sm n sel H) e with
    | some e' => some (.lp st pend fn N e' params asg body)
    | none => none

def smH (n : Nat) (sel : List Nat) (H : Nat → Option Ob) : List Nat → Option Heap
  | [] => some []
  | i :: l => match (match H i with
      | some ob => match smO n sel H ob with
        | some ob' => some (some ob')
        | none => none
      | none => some none) with
    | some x => match smH n sel H l with
      | some r => some (x :: r)
      | none => none
    | none => none

theorem smH_eq {n : Nat} {sel : List Nat} {H : Nat → Option Ob} : ∀ {l : List Nat} {r : Heap}, smH n sel H l = some r → r.length = l.length ∧
    ∀ (p i : Nat), l[p]? = some i → (H i = none ∧ r[p]? = some none) ∨ ∃ ob ob', H i = some ob ∧ smO n sel H ob = some ob' ∧ r[p]? = some (some ob') := by
  intro l
  induction l with
  | nil => intro r h; simp [smH] at h; subst h; exact ⟨rfl, fun p i h => by simp at h⟩
  | cons x l ih =>
    intro r h
    simp only [smH] at h
    split at h
    case h_2 => cases h
    rename_i y hy
    split at h
    case h_2 => cases h
    rename_i r' hr
    cases h
    obtain ⟨h1, h2⟩ := ih hr
    refine ⟨by simp [h1], fun p i hp => ?_⟩
    cases p with
    | succ p => simpa using h2 p i (by simpa using hp)
    | zero =>
      simp only [List.getElem?_cons_zero, Option.some.injEq] at hp
      subst hp
      split at hy
      · rename_i ob hob
        split at hy
        · rename_i ob' hob'
          cases hy
          exact .inr ⟨ob, ob', hob, hob', by simp⟩
        · cases hy
      · rename_i hob
        cases hy
        exact .inl ⟨hob, by simp⟩

/-- The state that one sees who has the objects 'sel' alone, and may speak of the blocks 'vis'. -/
def St.sel (s : St) (sel : List Nat) (vis : Nat → Prop) : St := ⟨fun p => match sel[p]? with | some i => s.μ i | none => if p < 1000 then .free else .dead, vis, s.w⟩

theorem St.sel_own {s : St} {sel : List Nat} {vis : Nat → Prop} {b : Nat} (h : (s.sel sel vis).own b) : ∃ i l o, i ∈ sel ∧ s.μ i = .live l ∧ l.base = some (b, o) := by
  obtain ⟨p, l, o, h1, h2⟩ := h
  simp only [St.sel] at h1
  split at h1
  · rename_i i hi
    exact ⟨i, l, o, List.mem_of_getElem? hi, h1, h2⟩
  · split at h1 <;> cases h1

theorem posOf_mem {l : List Nat} {i : Nat} (h : i ∈ l) (hlen : l.length < 500) : ∃ p, posOf l i = some p ∧ p < l.length := by
  induction l with
  | nil => cases h
  | cons x l ih =>
    simp only [posOf]
    cases hx : eqN x i with
    | true => exact ⟨0, rfl, by simp⟩
    | false =>
      have hne : i ≠ x := fun e => by subst e; simp [eqN] at hx
      have hm : i ∈ l := by
        cases h with
        | head => exact absurd rfl hne
        | tail _ h => exact h
      obtain ⟨p, hp, hlt⟩ := ih hm (by simp at hlen; omega)
      simp only [hp]
      have : ∃ m, sucT p = some m := by
        simp at hlen
        exact sucT_some (by omega)
      obtain ⟨m, hm⟩ := this
      have := sucT_eq hm
      exact ⟨m, hm, by simp; omega⟩

section small
variable {s : St} {f : Nat → Option Ob} {sel : List Nat} {vis : Nat → Prop}

/-- What nobody owns may be spoken of on. -/
def Spoken (s : St) (vis : Nat → Prop) : Prop := ∀ b, s.vis b → ¬ s.own b → vis b

theorem imm_sel (hv : Spoken s vis) {b : Nat} (h : s.imm b) : (s.sel sel vis).imm b :=
  ⟨h.1, hv b h.2.1 h.2.2, fun ho => by obtain ⟨i, l, o, _, h1, h2⟩ := St.sel_own ho; exact h.2.2 ⟨i, l, o, h1, h2⟩⟩

theorem SCR.small (hv : Spoken s vis) {x : C} {v : Value} (h : SCR s x v) : SCR (s.sel sel vis) x v := CR.mono (fun _ hb => ⟨imm_sel hv hb, rfl⟩) h

theorem sel_at {p i : Nat} (h : sel[p]? = some i) : (s.sel sel vis).μ p = s.μ i := by simp [St.sel, h]

/-- A block of an object that isn't handed on may be spoken of as closed. -/
theorem imm_other (hr : HR s f) (hall : ∀ b, s.vis b → vis b) {i : Nat} {l : Loc} {b o : Nat} (h1 : s.μ i = .live l) (h2 : l.base = some (b, o)) (hi : i ∉ sel) : (s.sel sel vis).imm b :=
  ⟨hr.lt i l b o h1 h2, hall b (hr.own i l b o h1 h2), fun ho => by
    obtain ⟨j, lj, oj, hj, g1, g2⟩ := St.sel_own ho
    exact hi (by rw [hr.sep i j l lj b o oj h1 g1 h2 g2]; exact hj)⟩

theorem posOf_none {l : List Nat} {i : Nat} (h : posOf l i = none) (hlen : l.length < 500) : i ∉ l := fun hm => by
  obtain ⟨p, hp, _⟩ := posOf_mem hm hlen
  rw [h] at hp; cases hp

/-- The small view of a value stands in the small state. -/
theorem sm_ok (hr : HR s f) (hv : Spoken s vis) (hlen : sel.length < 500) {H : Nat → Option Ob} (hconv : (∀ i, H i = none) ∨ ((∀ b, s.vis b → vis b) ∧ ∀ i ob, H i = some ob → f i = some ob)) :
    ∀ (n : Nat) {v v2 : V} {x : Value}, VR s v x → sm n sel H v = some v2 → VR (s.sel sel vis) v2 x := by
  intro n
  induction n with
  | zero => intro v v2 x _ h; cases h
  | succ n ih =>
    intro v v2 x hx h
    have lists : ∀ {l l' : List V} {cs : Array Value}, l.length = cs.size → (∀ j (h : j < l.length) (h' : j < cs.size), VR s l[j] cs[j]) → mapO (sm n sel H) l = some l' →
        l'.length = cs.size ∧ ∀ j (h : j < l'.length) (h' : j < cs.size), VR (s.sel sel vis) l'[j] cs[j] := fun {l l' cs} h1 h2 h3 => by
      obtain ⟨g1, g2⟩ := mapO_eq h3
      exact ⟨by omega, fun j h h' => ih (h2 j (by omega) h') (g2 j (by omega) h)⟩
    cases hx with
    | c y _ hc => simp only [sm, Option.some.injEq] at h; subst h; exact .c _ _ (SCR.small hv hc)
    | hp i r j l b o h1 h2 =>
      simp only [sm] at h
      split at h
      · rename_i p hp
        cases h
        exact .hp p r j l b o (by rw [sel_at (posOf_eq hp)]; exact h1) h2
      · rename_i hp
        rcases hconv with hn | ⟨hall, hH⟩
        · rw [hn] at h; cases h
        split at h
        · rename_i cells hob
          split at h
          · split at h
            · rename_i l' hl'
              split at h
              · rename_i c hc
                cases h
                obtain ⟨lo, e1, e2⟩ := hr.obj i _ (hH i _ hob)
                rw [h1] at e1
                cases e1
                cases e2 with
                | bx _ b' cs t fz _ c1 c2 c3 c4 c5 =>
                  rw [h2] at c1
                  cases c1
                  obtain ⟨g1, g2⟩ := lists c4.symm c5 hl'
                  have hc' := allC_eq hc
                  have himm := imm_other (sel := sel) hr hall h1 h2 (posOf_none hp hlen)
                  have := CR.va (imm := (s.sel sel vis).imm) (w := s.w) c j b 0 (fun n => cs.getD n undef) himm (fun n hn => by
                    have hlt : n < cs.size := by rw [← g1, hc']; simpa using hn
                    rw [cell_of_heap c2]
                    simp [hlt, c3.2 n hlt]) (fun n hn => by
                    have hlt : n < cs.size := by rw [← g1, hc']; simpa using hn
                    have h9 := g2 n (by rw [hc']; simpa using hn) hlt
                    have e9 : l'[n]'(by rw [hc']; simpa using hn) = .c c[n] := by simp [hc']
                    rw [e9] at h9
                    cases h9 with
                    | c _ _ h9 =>
                      have e8 : cs.getD n undef = cs[n] := by simp [Array.getD_eq_getD_getElem?, hlt]
                      show CR _ _ _ (cs.getD n undef)
                      rw [e8]
                      exact h9)
                  have h8 := VR.c (s := s.sel sel vis) _ _ this
                  simpa using h8
              · cases h
            · cases h
          · cases h
        · cases h
    | dp i r j _ h1 h2 =>
      simp only [sm] at h
      split at h
      · rename_i p hp
        cases h
        exact .dp p r j _ (by rw [sel_at (posOf_eq hp)]; exact h1) h2
      · rcases hconv with hn | ⟨hall, hH⟩
        · rw [hn] at h; cases h
        split at h
        · rename_i cells hob
          obtain ⟨lo, e1, _⟩ := hr.obj i _ (hH i _ hob)
          rw [h1] at e1; cases e1
        · cases h
    | hs i off len cap l h1 h2 h3 h4 =>
      simp only [sm] at h
      split at h
      · rename_i p hp
        cases h
        exact .hs p off len cap l (by rw [sel_at (posOf_eq hp)]; exact h1) h2 h3 h4
      · rename_i hp
        rcases hconv with hn | ⟨hall, hH⟩
        · rw [hn] at h; cases h
        split at h
        · rename_i k rows hob
          cases h
          obtain ⟨lo, e1, e2⟩ := hr.obj i _ (hH i _ hob)
          rw [h1] at e1
          cases e1
          cases e2 with
          | co0 _ _ h0 =>
            subst h0
            simp only [Nat.add_eq_zero_iff, Nat.le_zero_eq] at h4
            obtain ⟨_, rfl⟩ := h4
            exact .c _ _ (by simp; exact .sl0 _ _ _)
          | co _ _ b o cs t fz cmax c1 c2 c3 c4 c5 c6 =>
            simp only at h3 h4
            have hl : ((rows.drop off).take len).length = len := by rw [List.length_take, List.length_drop]; omega
            have hget : ∀ n (hn : n < ((rows.drop off).take len).length), ((rows.drop off).take len)[n] = rows[off + n]'(by omega) := fun n hn => by simp
            have hin : ∀ n m, n < rows.length → m < k → o + n * k + m < cs.size := fun n m g1 g2 => by
              have : (n + 1) * k ≤ cmax * k := Nat.mul_le_mul_right _ (by omega)
              rw [Nat.add_mul, Nat.one_mul] at this
              omega
            have := CR.sl (imm := (s.sel sel vis).imm) (w := s.w) k ((rows.drop off).take len) b (o + off * k) cap (fun n m => cs.getD (o + (off + n) * k + m) undef)
              (imm_other (sel := sel) hr hall h1 rfl (posOf_none hp hlen)) (by omega) (fun n hn => by rw [hget n hn]; exact c5 _ _)
              (fun n m hn hm => by
                rw [hl] at hn
                have hi := hin (off + n) m (by omega) hm
                have e : o + off * k + n * k + m = o + (off + n) * k + m := by rw [Nat.add_mul]; omega
                rw [cell_of_heap c1, e]
                simp [hi, c2.2 _ hi])
              (fun n hn m hm => by
                have e2 := hget n hn
                rw [hl] at hn
                have hc5 := c5 (off + n) (by omega)
                have : ∀ (L : List C) (hL : L = rows[off + n]'(by omega)) (hc : m < L.length), SCR (s.sel sel vis) L[m] (cs.getD (o + (off + n) * k + m) undef) := fun L hL hc => by
                  subst hL
                  have hi := hin (off + n) m (by omega) (by omega)
                  have h9 := SCR.small (sel := sel) hv (c6 (off + n) (by omega) m hc hi)
                  have e8 : cs.getD (o + (off + n) * k + m) undef = cs[o + (off + n) * k + m] := by simp [Array.getD_eq_getD_getElem?, hi]
                  rw [e8]
                  exact h9
                exact this _ e2 hm)
            rw [hl] at this
            exact .c _ _ this
        · cases h
    | hs0 i off ad l h1 =>
      simp only [sm] at h
      split at h
      · rename_i p hp
        cases h
        exact .hs0 p off ad l (by rw [sel_at (posOf_eq hp)]; exact h1)
      · rcases hconv with hn | ⟨hall, hH⟩
        · rw [hn] at h; cases h
        split at h
        · cases h; exact .c _ _ (by simp; exact .sl0 _ _ _)
        · cases h
    | ds i off len _ h1 h2 =>
      simp only [sm] at h
      split at h
      · rename_i p hp
        cases h
        exact .ds p off len _ (by rw [sel_at (posOf_eq hp)]; exact h1) h2
      · rcases hconv with hn | ⟨hall, hH⟩
        · rw [hn] at h; cases h
        split at h
        · rename_i k rows hob
          obtain ⟨lo, e1, _⟩ := hr.obj i _ (hH i _ hob)
          rw [h1] at e1; cases e1
        · cases h
    | hw i cap l h1 h2 h3 =>
      simp only [sm] at h
      split at h
      · rename_i p hp
        cases h
        exact .hw p cap l (by rw [sel_at (posOf_eq hp)]; exact h1) h2 h3
      · rename_i hp
        rcases hconv with hn | ⟨hall, hH⟩
        · rw [hn] at h; cases h
        split at h
        · rename_i k rows hob
          cases h
          obtain ⟨lo, e1, e2⟩ := hr.obj i _ (hH i _ hob)
          rw [h1] at e1
          cases e1
          cases e2 with
          | co0 _ _ h0 => subst h0; exact .c _ _ (.sl0 _ _ _)
          | co _ _ b o cs t fz cmax c1 c2 c3 c4 c5 c6 =>
            have hin : ∀ n m, n < rows.length → m < k → o + n * k + m < cs.size := fun n m g1 g2 => by
              have : (n + 1) * k ≤ cmax * k := Nat.mul_le_mul_right _ (by omega)
              rw [Nat.add_mul, Nat.one_mul] at this
              omega
            refine .c _ _ (.sl k rows b o cap (fun n m => cs.getD (o + n * k + m) undef) (imm_other (sel := sel) hr hall h1 rfl (posOf_none hp hlen)) h2 c5 (fun n m hn hm => ?_) fun n hn m hm => ?_)
            · have hi := hin n m hn hm
              show s.w.cell? _ = _ ∧ _
              rw [cell_of_heap c1]
              simp [hi, c2.2 _ hi]
            · have hc5 := c5 n hn
              have hi := hin n m hn (by omega)
              have h9 := SCR.small (sel := sel) hv (c6 n hn m hm hi)
              have e8 : cs.getD (o + n * k + m) undef = cs[o + n * k + m] := by simp [Array.getD_eq_getD_getElem?, hi]
              show CR _ _ _ (cs.getD (o + n * k + m) undef)
              rw [e8]
              exact h9
        · rename_i k rows hob
          split at h
          case h_2 => cases h
          rename_i l' hl'
          split at h
          case h_2 => cases h
          rename_i c hc
          cases h
          have hc' := allRows_eq hc
          obtain ⟨g1, g2⟩ := mapO_eq hl'
          obtain ⟨lo, e1, e2⟩ := hr.obj i _ (hH i _ hob)
          rw [h1] at e1
          cases e1
          cases e2 with
          | vo _ _ b o cs t fz cmax c1 c2 c3 c4 c5 c6 =>
            have hin : ∀ n m, n < rows.length → m < k → o + n * k + m < cs.size := fun n m g1 g2 => by
              have : (n + 1) * k ≤ cmax * k := Nat.mul_le_mul_right _ (by omega)
              rw [Nat.add_mul, Nat.one_mul] at this
              omega
            have hcl : c.length = rows.length := by rw [← g1, hc']; simp
            have hrow : ∀ n (hn : n < c.length), l'[n]'(by rw [hc']; simpa using hn) = c[n].map .c := fun n hn => by simp [hc']
            have hrowlen : ∀ n (hn : n < c.length), c[n].length = k := fun n hn => by
              have h9 := g2 n (by omega) (by rw [hc']; simpa using hn)
              have h10 := (mapO_eq h9).1
              rw [hrow n hn, List.length_map] at h10
              rw [h10]; exact c5 n (by omega)
            have := CR.sl (imm := (s.sel sel vis).imm) (w := s.w) k c b o cap (fun n m => cs.getD (o + n * k + m) undef) (imm_other (sel := sel) hr hall h1 rfl (posOf_none hp hlen)) (by simp only at h2; omega) hrowlen
              (fun n m hn hm => by
                have hi := hin n m (by omega) hm
                rw [cell_of_heap c1]
                simp [hi, c2.2 _ hi])
              (fun n hn m hm => by
                have hmk : m < k := by rw [← hrowlen n hn]; exact hm
                have hi := hin n m (by omega) hmk
                have h9 := g2 n (by omega) (by rw [hc']; simpa using hn)
                obtain ⟨h10, h11⟩ := mapO_eq h9
                have hm' : m < (rows[n]'(by omega)).length := by rw [c5 n (by omega)]; exact hmk
                have h12 := h11 m hm' (by omega)
                have h13 := ih (c6 n (by omega) m hm' hi) h12
                have e13 : (l'[n]'(by rw [hc']; simpa using hn))[m]'(by rw [hrow n hn]; simpa using hm) = .c c[n][m] := by simp [hc']
                rw [e13] at h13
                cases h13 with
                | c _ _ h14 =>
                  have e8 : cs.getD (o + n * k + m) undef = cs[o + n * k + m] := by simp [Array.getD_eq_getD_getElem?, hi]
                  show CR _ _ _ (cs.getD (o + n * k + m) undef)
                  rw [e8]
                  exact h14)
            rw [hcl] at this
            exact .c _ _ this
        · cases h
    | hw0 i ad l h1 h2 =>
      simp only [sm] at h
      split at h
      · rename_i p hp
        cases h
        exact .hw0 p ad l (by rw [sel_at (posOf_eq hp)]; exact h1) h2
      · rcases hconv with hn | ⟨hall, hH⟩
        · rw [hn] at h; cases h
        split at h
        · rename_i k rows hob
          cases h
          obtain ⟨lo, e1, e2⟩ := hr.obj i _ (hH i _ hob)
          rw [h1] at e1
          cases e1
          have e5 := (loc_of e2 rfl).2.1
          have : rows = [] := List.eq_nil_of_length_eq_zero (by rw [h2] at e5; exact e5.symm)
          subst this
          exact .c _ _ (.sl0 _ _ _)
        · rename_i k rows hob
          split at h
          case h_2 => cases h
          rename_i l' hl'
          split at h
          case h_2 => cases h
          rename_i c hc
          cases h
          obtain ⟨lo, e1, e2⟩ := hr.obj i _ (hH i _ hob)
          rw [h1] at e1
          cases e1
          have e5 := (loc_of e2 rfl).2.1
          have : rows = [] := List.eq_nil_of_length_eq_zero (by rw [h2] at e5; exact e5.symm)
          subst this
          simp only [mapO, Option.some.injEq] at hl'
          subst hl'
          simp only [allRows, Option.some.injEq] at hc
          subst hc
          exact .c _ _ (.sl0 _ _ _)
        · cases h
    | dw i _ h1 h2 =>
      simp only [sm] at h
      split at h
      · rename_i p hp
        cases h
        exact .dw p _ (by rw [sel_at (posOf_eq hp)]; exact h1) h2
      · rcases hconv with hn | ⟨hall, hH⟩
        · rw [hn] at h; cases h
        split at h
        · rename_i k rows hob
          obtain ⟨lo, e1, _⟩ := hr.obj i _ (hH i _ hob)
          rw [h1] at e1; cases e1
        · rename_i k rows hob
          obtain ⟨lo, e1, _⟩ := hr.obj i _ (hH i _ hob)
          rw [h1] at e1; cases e1
        · cases h
    | hz ad => simp only [sm, Option.some.injEq] at h; subst h; exact .hz ad
    | yl i l b h1 h2 =>
      simp only [sm] at h
      split at h
      · rename_i p hp
        cases h
        exact .yl p l b (by rw [sel_at (posOf_eq hp)]; exact h1) h2
      · cases h
    | dy i _ h1 h2 =>
      simp only [sm] at h
      split at h
      · rename_i p hp
        cases h
        exact .dy p _ (by rw [sel_at (posOf_eq hp)]; exact h1) h2
      · cases h
    | ag l cs h1 h2 h3 =>
      simp only [sm] at h
      split at h
      case h_2 => cases h
      rename_i l' hl'
      cases h
      obtain ⟨g1, g2⟩ := lists h1 h3 hl'
      exact VR.mkAg g1 h2 g2
    | fn ff a b fs cs h1 h2 h3 h4 =>
      simp only [sm] at h
      split at h
      case h_2 => cases h
      rename_i a' ha
      split at h
      case h_2 => cases h
      rename_i b' hb
      cases h
      obtain ⟨g1, g2⟩ := lists h1 h3 ha
      obtain ⟨g3, g4⟩ := lists h2 h4 hb
      exact VR.mkFn g1 g3 g2 g4
    | tp l cs h1 h2 =>
      simp only [sm] at h
      split at h
      case h_2 => cases h
      rename_i l' hl'
      cases h
      obtain ⟨g1, g2⟩ := lists h1 h2 hl'
      exact .tp _ _ g1 g2
end small

end Go.Lift
