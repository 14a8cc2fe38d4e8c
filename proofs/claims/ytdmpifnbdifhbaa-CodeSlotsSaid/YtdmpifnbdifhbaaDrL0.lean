/- The base of a data-level logic: closed data C, values V over numbered objects, how they stand in the model's memory, and that they stand on under extension. -/
import Derived.AtR
import Derived.Below
import Derived.KernelRfl
namespace Go.Lift

/-- Closed data: it lies in memory that nobody writes. -/
inductive C where
  | v (x : Value)
  | sl (k : Nat) (rows : List (List C))
  | ag (cells : List C)
  | va (row : List C) (j : Nat)
  | fn (f : Fn) (first caps : List C)

/-- Values over numbered objects. -/
inductive V where
  | c (x : C)
  | hp (i r j : Nat)
  | hs (i off len : Nat)
  | hw (i : Nat)
  | hz
  | yl (i : Nat)
  | ag (cells : List V)
  | fn (f : Fn) (first caps : List V)
  | tp (vs : List V)

instance : Inhabited C := ⟨.v undef⟩
instance : Inhabited V := ⟨.c (.v undef)⟩

/- Objects that may be written: a row of cells (a variable), an array of closed rows, an array of rows, a block of another kind. -/
def eqN (a b : Nat) : Bool := Nat.beq a b

/-- Values of temporaries, by the bits of their numbers. -/
inductive Tri (α : Type) where
  | nil
  | node (v : Option α) (l r : Tri α)

section tri
variable {α : Type}
def lk : Tri α → Nat → Option α
  | .nil, _ => none
  | .node v _ _, 0 => v
  | .node _ l r, n + 1 => match Nat.beq (Nat.mod n 2) 0 with
    | true => lk l (Nat.div n 2)
    | false => lk r (Nat.div n 2)

def setF : Nat → Tri α → Nat → Option α → Option (Tri α)
  | 0, _, _, _ => none
  | _ + 1, .nil, 0, v => some (.node v .nil .nil)
  | n + 1, .nil, d + 1, v => match Nat.beq (Nat.mod d 2) 0 with
    | true => match setF n .nil (Nat.div d 2) v with
      | some l => some (.node none l .nil)
      | none => none
    | false => match setF n .nil (Nat.div d 2) v with
      | some r => some (.node none .nil r)
      | none => none
  | _ + 1, .node _ l r, 0, v => some (.node v l r)
  | n + 1, .node u l r, d + 1, v => match Nat.beq (Nat.mod d 2) 0 with
    | true => match setF n l (Nat.div d 2) v with
      | some l' => some (.node u l' r)
      | none => none
    | false => match setF n r (Nat.div d 2) v with
      | some r' => some (.node u l r')
      | none => none
def setE (e : Tri α) (d : Nat) (v : Option α) : Option (Tri α) := setF 12 e d v

theorem lk_nil (t : Nat) : lk (.nil : Tri α) t = none := by cases t <;> rfl
theorem lk_zero (v : Option α) (l r : Tri α) : lk (.node v l r) 0 = v := rfl
theorem lk_succ (v : Option α) (l r : Tri α) (n : Nat) : lk (.node v l r) (n + 1) = if n % 2 = 0 then lk l (n / 2) else lk r (n / 2) := by
  show (match Nat.beq (Nat.mod n 2) 0 with | true => lk l (Nat.div n 2) | false => lk r (Nat.div n 2)) = _
  cases hb : Nat.beq (Nat.mod n 2) 0 with
  | true => rw [if_pos (show n % 2 = 0 from Nat.eq_of_beq_eq_true hb)]; rfl
  | false => rw [if_neg (show ¬ n % 2 = 0 from Nat.ne_of_beq_eq_false hb)]; rfl

theorem setF_eq : ∀ {n : Nat} {e r : Tri α} {d : Nat} {v : Option α}, setF n e d v = some r → ∀ t, lk r t = if d = t then v else lk e t := by
  intro n
  induction n with
  | zero => intro e r d v h; cases h
  | succ n ih =>
    intro e r d v h t
    have half : ∀ (d t : Nat), d % 2 = t % 2 → (d / 2 = t / 2 ↔ d + 1 = t + 1) := fun d t h => by omega
    cases e with
    | nil =>
      cases d with
      | zero =>
        simp only [setF, Option.some.injEq] at h
        subst h
        cases t with
        | zero => simp [lk_zero]
        | succ t => rw [lk_succ]; simp [lk_nil]
      | succ d =>
        simp only [setF] at h
        split at h
        · rename_i hb
          have hb : d % 2 = 0 := Nat.eq_of_beq_eq_true hb
          split at h
          case h_2 => cases h
          rename_i l' hl
          cases h
          replace ih := fun t => (ih hl t)
          simp only [show d.div 2 = d / 2 from rfl] at ih
          cases t with
          | zero => simp [lk_zero, lk_nil]
          | succ t =>
            rw [lk_succ, ih]
            by_cases hm : t % 2 = 0
            · rw [if_pos hm]
              have := half d t (by rw [hm]; exact hb)
              by_cases hq : d / 2 = t / 2
              · rw [if_pos hq, if_pos (this.1 hq)]
              · rw [if_neg hq, if_neg (fun h => hq (this.2 h)), lk_nil, lk_nil]
            · rw [if_neg hm, if_neg (by intro e; have : d = t := by omega
                                        subst this; exact hm hb)]
              simp [lk_nil]
        · rename_i hb
          have hb : ¬ d % 2 = 0 := Nat.ne_of_beq_eq_false hb
          split at h
          case h_2 => cases h
          rename_i l' hl
          cases h
          replace ih := fun t => (ih hl t)
          simp only [show d.div 2 = d / 2 from rfl] at ih
          cases t with
          | zero => simp [lk_zero, lk_nil]
          | succ t =>
            rw [lk_succ, ih]
            by_cases hm : t % 2 = 0
            · rw [if_pos hm, if_neg (by intro e; have : d = t := by omega
                                        subst this; exact hb hm)]
              simp [lk_nil]
            · rw [if_neg hm]
              have := half d t (by omega)
              by_cases hq : d / 2 = t / 2
              · rw [if_pos hq, if_pos (this.1 hq)]
              · rw [if_neg hq, if_neg (fun h => hq (this.2 h)), lk_nil, lk_nil]
    | node u l r0 =>
      cases d with
      | zero =>
        simp only [setF, Option.some.injEq] at h
        subst h
        cases t with
        | zero => simp [lk_zero]
        | succ t => rw [lk_succ, lk_succ]; simp
      | succ d =>
        simp only [setF] at h
        split at h
        · rename_i hb
          have hb : d % 2 = 0 := Nat.eq_of_beq_eq_true hb
          split at h
          case h_2 => cases h
          rename_i l' hl
          cases h
          replace ih := fun t => (ih hl t)
          simp only [show d.div 2 = d / 2 from rfl] at ih
          cases t with
          | zero => simp [lk_zero]
          | succ t =>
            rw [lk_succ, lk_succ, ih]
            by_cases hm : t % 2 = 0
            · rw [if_pos hm, if_pos hm]
              have := half d t (by rw [hm]; exact hb)
              by_cases hq : d / 2 = t / 2
              · rw [if_pos hq, if_pos (this.1 hq)]
              · rw [if_neg hq, if_neg (fun h => hq (this.2 h))]
            · rw [if_neg hm, if_neg hm, if_neg (by intro e; have : d = t := by omega
                                                   subst this; exact hm hb)]
        · rename_i hb
          have hb : ¬ d % 2 = 0 := Nat.ne_of_beq_eq_false hb
          split at h
          case h_2 => cases h
          rename_i l' hl
          cases h
          replace ih := fun t => (ih hl t)
          simp only [show d.div 2 = d / 2 from rfl] at ih
          cases t with
          | zero => simp [lk_zero]
          | succ t =>
            rw [lk_succ, lk_succ, ih]
            by_cases hm : t % 2 = 0
            · rw [if_pos hm, if_pos hm, if_neg (by intro e; have : d = t := by omega
                                                   subst this; exact hb hm)]
            · rw [if_neg hm, if_neg hm]
              have := half d t (by omega)
              by_cases hq : d / 2 = t / 2
              · rw [if_pos hq, if_pos (this.1 hq)]
              · rw [if_neg hq, if_neg (fun h => hq (this.2 h))]
theorem setE_eq {e r : Tri α} {d : Nat} {v : Option α} (h : setE e d v = some r) (t : Nat) : lk r t = if d = t then v else lk e t := setF_eq h t

/-- As a list: the first entry counts. -/
def lkL : List (Nat × Option α) → Nat → Option α
  | [], _ => none
  | (t, u) :: e, d => match eqN t d with
    | true => u
    | false => lkL e d
def ofL : List (Nat × Option α) → Tri α
  | [] => .nil
  | (t, u) :: l => match setE (ofL l) t u with
    | some r => r
    | none => .nil
theorem ofL_lk : ∀ {l : List (Nat × Option α)} {t : Nat} {v : α}, lk (ofL l) t = some v → lkL l t = some v := by
  intro l
  induction l with
  | nil => intro t v h; rw [ofL, lk_nil] at h; cases h
  | cons x l ih =>
    obtain ⟨d, u⟩ := x
    intro t v h
    simp only [ofL] at h
    split at h
    · rename_i r hr
      rw [setE_eq hr] at h
      simp only [lkL]
      by_cases hd : d = t
      · subst hd
        rw [if_pos rfl] at h
        simp [eqN, h]
      · rw [if_neg hd] at h
        have : eqN d t = false := by
          cases he : eqN d t with
          | false => rfl
          | true => exact absurd (Nat.eq_of_beq_eq_true he) hd
        rw [this]
        exact ih h
    · rw [lk_nil] at h; cases h

/-- A table with the entries of a list. -/
def triL : Nat → List (Option α) → Tri α → Option (Tri α)
  | _, [], t => some t
  | n, x :: l, t => match setE t n x with
    | some t' => triL (n + 1) l t'
    | none => none
theorem triL_eq : ∀ {l : List (Option α)} {n : Nat} {t t' : Tri α}, triL n l t = some t' → ∀ i, lk t' i = if n ≤ i ∧ i < n + l.length then (l[i - n]?).join else lk t i := by
  intro l
  induction l with
  | nil => intro n t t' h i; simp [triL] at h; subst h; rw [if_neg (by simp)]
  | cons x l ih =>
    intro n t t' h i
    simp only [triL] at h
    split at h
    case h_2 => cases h
    rename_i t1 h1
    rw [ih h i, setE_eq h1]
    simp only [List.length_cons]
    by_cases hi : n = i
    · subst hi
      rw [if_neg (by omega), if_pos rfl, if_pos (by omega)]
      simp
    · rw [if_neg hi]
      by_cases hr : n + 1 ≤ i ∧ i < n + 1 + l.length
      · rw [if_pos hr, if_pos (by omega)]
        have : i - n = (i - (n + 1)) + 1 := by omega
        rw [this]; simp
      · rw [if_neg hr, if_neg (by omega)]
def triOf (l : List (Option α)) : Tri α := match triL 0 l .nil with
  | some t => t
  | none => .nil
theorem triOf_eq {l : List (Option α)} {i : Nat} {x : α} (h : lk (triOf l) i = some x) : l[i]? = some (some x) := by
  unfold triOf at h
  split at h
  · rename_i t ht
    rw [triL_eq ht, lk_nil] at h
    split at h
    · rw [Nat.sub_zero] at h
      cases hl : l[i]? with
      | none => rw [hl] at h; cases h
      | some y => rw [hl] at h; cases y with
        | none => cases h
        | some z => cases h; rfl
    · cases h
  · rw [lk_nil] at h; cases h
end tri

abbrev Env := Tri V
abbrev LEnv := List (Nat × Option V)

inductive Ob where
  | bx (cells : List V)
  | co (k : Nat) (rows : List (List C))
  | vo (k : Nat) (rows : List (List V))
  | ot (o : Obj)
  | lp (st : LoopState) (pend : Option Code) (fn : FuncId) (N : Nat) (e : Env) (params : List Nat) (asg body : Code)

abbrev Heap := List (Option Ob)

inductive CR (imm : Nat → Prop) (w : World) : C → Value → Prop where
  | v (x : Value) : CR imm w (.v x) x
  | sl0 (k : Nat) (a : Option Addr) (cap : Nat) : CR imm w (.sl k []) (.slice a 0 cap)
  | sl (k : Nat) (rows : List (List C)) (b o cap : Nat) (g : Nat → Nat → Value) :
      imm b → rows.length ≤ cap → (∀ i (hi : i < rows.length), rows[i].length = k) →
      (∀ i j, i < rows.length → j < k → w.cell? ⟨b, o + i * k + j, none⟩ = some (g i j) ∧ (g i j).oneCell' = true) →
      (∀ i (hi : i < rows.length) j (hj : j < rows[i].length), CR imm w (rows[i][j]) (g i j)) →
      CR imm w (.sl k rows) (.slice (some ⟨b, o, none⟩) rows.length cap)
  | ag (cells : List C) (cs : Array Value) : cells.length = cs.size → (∀ j (h' : j < cs.size), cs[j].oneCell' = true) →
      (∀ j (h : j < cells.length) (h' : j < cs.size), CR imm w cells[j] cs[j]) → CR imm w (.ag cells) (.agg cs)
  | va (row : List C) (j b o : Nat) (g : Nat → Value) :
      imm b → (∀ j, j < row.length → w.cell? ⟨b, o + j, none⟩ = some (g j) ∧ (g j).oneCell' = true) →
      (∀ j (hj : j < row.length), CR imm w row[j] (g j)) →
      CR imm w (.va row j) (.pointer (some ⟨b, o + j, none⟩))
  | fn (f : Fn) (first caps : List C) (fs cs : Array Value) : first.length = fs.size → caps.length = cs.size →
      (∀ j (h : j < first.length) (h' : j < fs.size), CR imm w first[j] fs[j]) →
      (∀ j (h : j < caps.length) (h' : j < cs.size), CR imm w caps[j] cs[j]) → CR imm w (.fn f first caps) (.func f fs cs)

theorem CR.mono {imm imm' : Nat → Prop} {w w' : World} (hi : ∀ b, imm b → imm' b ∧ w'.heap[b]? = w.heap[b]?) {x : C} {v : Value} (h : CR imm w x v) : CR imm' w' x v := by
  induction h with
  | v x => exact .v x
  | sl0 k a cap => exact .sl0 k a cap
  | sl k rows b o cap g hb hc hk hcell _ ih =>
    exact .sl k rows b o cap g (hi b hb).1 hc hk (fun i j h1 h2 => ⟨(World.cell?_of_block (w := w) (hi b hb).2).trans (hcell i j h1 h2).1, (hcell i j h1 h2).2⟩) ih
  | ag cells cs hl ho _ ih => exact .ag cells cs hl ho ih
  | va row j b o g hb hcell _ ih =>
    exact .va row j b o g (hi b hb).1 (fun j h1 => ⟨(World.cell?_of_block (w := w) (hi b hb).2).trans (hcell j h1).1, (hcell j h1).2⟩) ih
  | fn f first caps fs cs h1 h2 _ _ i1 i2 => exact .fn f first caps fs cs h1 h2 i1 i2

structure Loc where
  base : Option (Nat × Nat)
  k : Nat
  cmax : Nat
  len : Nat

inductive Slot where
  | free
  | dead
  | live (l : Loc)

/-- Where the objects lie, which blocks may be spoken of, and the world. -/
structure St where
  μ : Nat → Slot
  vis : Nat → Prop
  w : World

def St.own (s : St) (b : Nat) : Prop := ∃ i l o, s.μ i = .live l ∧ l.base = some (b, o)
def St.imm (s : St) (b : Nat) : Prop := b < s.w.heap.size ∧ (s.vis b ∧ ¬ s.own b)

abbrev SCR (s : St) (x : C) (v : Value) : Prop := CR s.imm s.w x v

inductive VR (s : St) : V → Value → Prop where
  | c (x : C) (v : Value) : SCR s x v → VR s (.c x) v
  | hp (i r j : Nat) (l : Loc) (b o : Nat) : s.μ i = .live l → l.base = some (b, o) →
      VR s (.hp i r j) (.pointer (some ⟨b, o + r * l.k + j, none⟩))
  | dp (i r j : Nat) (v : Value) : s.μ i = .dead → v.oneCell' = true → VR s (.hp i r j) v
  | hs (i off len cap : Nat) (l : Loc) : s.μ i = .live l → len ≤ cap → off + cap ≤ l.cmax → off + len ≤ l.len →
      VR s (.hs i off len) (.slice (l.base.map fun p => ⟨p.1, p.2 + off * l.k, none⟩) len cap)
  | hs0 (i off : Nat) (a : Option Addr) (l : Loc) : s.μ i = .live l → VR s (.hs i off 0) (.slice a 0 0)
  | ds (i off len : Nat) (v : Value) : s.μ i = .dead → v.oneCell' = true → VR s (.hs i off len) v
  | hw (i cap : Nat) (l : Loc) : s.μ i = .live l → l.len ≤ cap → cap ≤ l.cmax →
      VR s (.hw i) (.slice (l.base.map fun p => ⟨p.1, p.2, none⟩) l.len cap)
  | hw0 (i : Nat) (a : Option Addr) (l : Loc) : s.μ i = .live l → l.len = 0 → VR s (.hw i) (.slice a 0 0)
  | dw (i : Nat) (v : Value) : s.μ i = .dead → v.oneCell' = true → VR s (.hw i) v
  | hz (a : Option Addr) : VR s .hz (.slice a 0 0)
  | yl (i : Nat) (l : Loc) (b : Nat) : s.μ i = .live l → l.base = some (b, 0) → VR s (.yl i) (.func (.yield b) #[] #[])
  | dy (i : Nat) (v : Value) : s.μ i = .dead → v.oneCell' = true → VR s (.yl i) v
  | ag (cells : List V) (cs : Array Value) : cells.length = cs.size → (∀ j (h' : j < cs.size), cs[j].oneCell' = true) →
      (∀ j (h : j < cells.length) (h' : j < cs.size), VR s cells[j] cs[j]) → VR s (.ag cells) (.agg cs)
  | fn (f : Fn) (first caps : List V) (fs cs : Array Value) : first.length = fs.size → caps.length = cs.size →
      (∀ j (h : j < first.length) (h' : j < fs.size), VR s first[j] fs[j]) →
      (∀ j (h : j < caps.length) (h' : j < cs.size), VR s caps[j] cs[j]) → VR s (.fn f first caps) (.func f fs cs)
  | tp (vs : List V) (cs : Array Value) : vs.length = cs.size →
      (∀ j (h : j < vs.length) (h' : j < cs.size), VR s vs[j] cs[j]) → VR s (.tp vs) (.tuple cs)

/-- What a run leaves as it was. -/
structure Ext (s s' : St) : Prop where
  live : ∀ i l, s.μ i = .live l → s'.μ i = .live l ∨ s'.μ i = .dead
  dead : ∀ i, s.μ i = .dead → s'.μ i = .dead
  keep : ∀ b, b < s.w.heap.size → ¬ s.own b → ¬ s'.own b ∧ s'.w.heap[b]? = s.w.heap[b]?
  vis : s'.vis = s.vis
  size : s.w.heap.size ≤ s'.w.heap.size
  tape : s'.w.tape = s.w.tape
  os : s'.w.os = s.w.os
  output : s'.w.output = s.w.output

theorem Ext.imm {s s' : St} (h : Ext s s') (b : Nat) (hb : s.imm b) : s'.imm b ∧ s'.w.heap[b]? = s.w.heap[b]? :=
  ⟨⟨Nat.lt_of_lt_of_le hb.1 h.size, by rw [h.vis]; exact hb.2.1, (h.keep b hb.1 hb.2.2).1⟩, (h.keep b hb.1 hb.2.2).2⟩

theorem Ext.refl (s : St) : Ext s s := ⟨fun _ _ h => .inl h, fun _ h => h, fun _ _ h => ⟨h, rfl⟩, rfl, Nat.le_refl _, rfl, rfl, rfl⟩
theorem Ext.trans {a b c : St} (h : Ext a b) (k : Ext b c) : Ext a c where
  live i l hl := by
    rcases h.live i l hl with h1 | h1
    · exact k.live i l h1
    · exact .inr (k.dead i h1)
  dead i hd := k.dead i (h.dead i hd)
  keep x h1 h2 := by
    obtain ⟨g1, g2⟩ := h.keep x h1 h2
    obtain ⟨g3, g4⟩ := k.keep x (Nat.lt_of_lt_of_le h1 h.size) g1
    exact ⟨g3, g4.trans g2⟩
  vis := k.vis.trans h.vis
  size := Nat.le_trans h.size k.size
  tape := k.tape.trans h.tape
  os := k.os.trans h.os
  output := k.output.trans h.output

theorem SCR.mono {s s' : St} (h : Ext s s') {x : C} {v : Value} (hx : SCR s x v) : SCR s' x v := CR.mono h.imm hx

theorem VR.mono {s s' : St} (h : Ext s s') {x : V} {v : Value} (hx : VR s x v) : VR s' x v := by
  induction hx with
  | c x v hc => exact .c x v (SCR.mono h hc)
  | hp i r j l b o h1 h2 =>
    rcases h.live i l h1 with h3 | h3
    · exact .hp i r j l b o h3 h2
    · exact .dp _ _ _ _ h3 rfl
  | dp i r j v h1 h2 => exact .dp _ _ _ _ (h.dead i h1) h2
  | hs i off len cap l h1 h2 h3 h5 =>
    rcases h.live i l h1 with h4 | h4
    · exact .hs i off len cap l h4 h2 h3 h5
    · exact .ds _ _ _ _ h4 rfl
  | hs0 i off a l h1 =>
    rcases h.live i l h1 with h4 | h4
    · exact .hs0 i off a l h4
    · exact .ds _ _ _ _ h4 rfl
  | ds i off len v h1 h2 => exact .ds _ _ _ _ (h.dead i h1) h2
  | hw i cap l h1 h2 h3 =>
    rcases h.live i l h1 with h4 | h4
    · exact .hw i cap l h4 h2 h3
    · exact .dw _ _ h4 rfl
  | hw0 i a l h1 h2 =>
    rcases h.live i l h1 with h4 | h4
    · exact .hw0 i a l h4 h2
    · exact .dw _ _ h4 rfl
  | dw i v h1 h2 => exact .dw _ _ (h.dead i h1) h2
  | hz a => exact .hz a
  | yl i l b h1 h2 =>
    rcases h.live i l h1 with h4 | h4
    · exact .yl i l b h4 h2
    · exact .dy _ _ h4 rfl
  | dy i v h1 h2 => exact .dy _ _ (h.dead i h1) h2
  | ag cells cs hl ho _ ih => exact .ag cells cs hl ho ih
  | fn f first caps fs cs h1 h2 _ _ i1 i2 => exact .fn f first caps fs cs h1 h2 i1 i2
  | tp vs cs hl _ ih => exact .tp vs cs hl ih

/-- No cell of the block is shared with a string; each holds one cell's value. -/
def Clear (fz : Nat × Nat) (cs : Array Value) : Prop := (fz.1 ≤ fz.2 ∧ ∀ j, j < cs.size → ¬ (fz.1 ≤ j ∧ j < fz.2)) ∧ ∀ j (h : j < cs.size), cs[j].oneCell' = true
theorem Clear.zero {cs : Array Value} (h : ∀ j (h : j < cs.size), cs[j].oneCell' = true) : Clear (0, 0) cs := ⟨⟨Nat.le_refl _, fun j _ h => by simp at h⟩, h⟩

/-- How an object stands in memory. -/
inductive OR (s : St) : Ob → Loc → Prop where
  | bx (cells : List V) (b : Nat) (cs : Array Value) (t : TypeId) (fz : Nat × Nat) (l : Loc) : l.base = some (b, 0) →
      s.w.heap[b]? = some (.cells cs t fz) → Clear fz cs → cs.size = cells.length →
      (∀ j (h : j < cells.length) (h' : j < cs.size), VR s cells[j] cs[j]) → OR s (.bx cells) l
  | co0 (k : Nat) (rows : List (List C)) : rows = [] → OR s (.co k rows) ⟨none, k, 0, 0⟩
  | co (k : Nat) (rows : List (List C)) (b o : Nat) (cs : Array Value) (t : TypeId) (fz : Nat × Nat) (cmax : Nat) :
      s.w.heap[b]? = some (.cells cs t fz) → Clear fz cs → o + cmax * k ≤ cs.size → rows.length ≤ cmax →
      (∀ i (hi : i < rows.length), rows[i].length = k) →
      (∀ i (hi : i < rows.length) j (hj : j < rows[i].length) (hc : o + i * k + j < cs.size), SCR s (rows[i][j]) cs[o + i * k + j]) →
      OR s (.co k rows) ⟨some (b, o), k, cmax, rows.length⟩
  | vo (k : Nat) (rows : List (List V)) (b o : Nat) (cs : Array Value) (t : TypeId) (fz : Nat × Nat) (cmax : Nat) :
      s.w.heap[b]? = some (.cells cs t fz) → Clear fz cs → o + cmax * k ≤ cs.size → rows.length ≤ cmax →
      (∀ i (hi : i < rows.length), rows[i].length = k) →
      (∀ i (hi : i < rows.length) j (hj : j < rows[i].length) (hc : o + i * k + j < cs.size), VR s (rows[i][j]) cs[o + i * k + j]) →
      OR s (.vo k rows) ⟨some (b, o), k, cmax, rows.length⟩
  | ot (o : Obj) (b : Nat) (l : Loc) : l.base = some (b, 0) → s.w.heap[b]? = some o → OR s (.ot o) l
  | lp (st : LoopState) (pend : Option Code) (fn : FuncId) (N : Nat) (e : Env) (params : List Nat) (asg body : Code) (b : Nat) (l : Loc) (tmps : Array Value) (df : Nat) : l.base = some (b, 0) →
      s.w.heap[b]? = some (.loop ⟨st, pend, fn, tmps, params.toArray, asg, body, df⟩) → tmps.size = N → (∀ t v, lk e t = some v → VR s v (tmps.getD t undef)) → OR s (.lp st pend fn N e params asg body) l

/-- The heap stands so. -/
structure HR (s : St) (f : Nat → Option Ob) : Prop where
  obj : ∀ i o, f i = some o → ∃ l, s.μ i = .live l ∧ OR s o l
  non : ∀ i l, s.μ i = .live l → ∃ o, f i = some o
  lt : ∀ i l b o, s.μ i = .live l → l.base = some (b, o) → b < s.w.heap.size
  own : ∀ i l b o, s.μ i = .live l → l.base = some (b, o) → s.vis b
  fut : ∀ b, s.w.heap.size ≤ b → s.vis b
  sep : ∀ i j li lj b oi oj, s.μ i = .live li → s.μ j = .live lj → li.base = some (b, oi) → lj.base = some (b, oj) → i = j

def look : Heap → Nat → Option Ob
  | [], _ => none
  | x :: _, 0 => x
  | _ :: h, i + 1 => look h i

theorem look_eq (h : Heap) (i : Nat) : look h i = (h[i]?).join := by
  induction h generalizing i with
  | nil => rfl
  | cons x h ih => cases i with
    | zero => rfl
    | succ i => simpa [look] using ih i

/-- A list of objects stands so; nothing is numbered behind it. -/
structure HL (s : St) (h : Heap) : Prop where
  hr : HR s (look h)
  out : ∀ i, h.length ≤ i → i < 1000 → s.μ i = .free
  high : ∀ i, 1000 ≤ i → s.μ i = .dead

/-- The objects from 'm' on are given away: they may be moved. -/
def St.park (s : St) (m : Nat) : St := ⟨fun i => if i < m then s.μ i else if i < 1000 then .free else s.μ (m + (i - 1000)), s.vis, s.w⟩

theorem park_own {s : St} {m b : Nat} (hh : ∀ i, 1000 ≤ i → s.μ i = .dead) : (s.park m).own b ↔ s.own b := by
  constructor
  · rintro ⟨i, l, o, h1, h2⟩
    simp only [St.park] at h1
    split at h1
    · exact ⟨i, l, o, h1, h2⟩
    · split at h1
      · cases h1
      · exact ⟨_, l, o, h1, h2⟩
  · rintro ⟨i, l, o, h1, h2⟩
    have hi : i < 1000 := by
      rcases Nat.lt_or_ge i 1000 with h | h
      · exact h
      · rw [hh i h] at h1; cases h1
    by_cases him : i < m
    · exact ⟨i, l, o, by simp [St.park, him, h1], h2⟩
    · refine ⟨1000 + (i - m), l, o, ?_, h2⟩
      simp only [St.park]
      rw [if_neg (by omega), if_neg (by omega)]
      have : m + (1000 + (i - m) - 1000) = i := by omega
      rw [this]; exact h1

theorem ext_park {s : St} {m : Nat} (hh : ∀ i, 1000 ≤ i → s.μ i = .dead) : Ext (s.park m) s where
  live i l hl := by
    simp only [St.park] at hl
    split at hl
    · exact .inl hl
    · split at hl
      · cases hl
      · exact .inr (hh i (by omega))
  dead i hd := by
    simp only [St.park] at hd
    split at hd
    · exact hd
    · split at hd
      · cases hd
      · exact hh i (by omega)
  keep b hb hn := ⟨fun h => hn ((park_own hh).2 h), rfl⟩
  vis := rfl
  size := Nat.le_refl _
  tape := rfl
  os := rfl
  output := rfl

def VRs (s : St) (l : List V) (vs : Array Value) : Prop := l.length = vs.size ∧ ∀ j (h : j < l.length) (h' : j < vs.size), VR s l[j] vs[j]

theorem VRs.mono {s s' : St} (he : Ext s s') {l : List V} {vs : Array Value} (h : VRs s l vs) : VRs s' l vs := ⟨h.1, fun j h1 h2 => (h.2 j h1 h2).mono he⟩

/-- An object whose block has not turned. -/
theorem OR.mono {s s' : St} (he : Ext s s') {o : Ob} {l : Loc} (hb : ∀ b x, l.base = some (b, x) → s'.w.heap[b]? = s.w.heap[b]?) (h : OR s o l) : OR s' o l := by
  cases h with
  | bx cells b cs t fz l h1 h2 h3 h4 h5 => exact .bx cells b cs t fz l h1 (by rw [hb b 0 h1]; exact h2) h3 h4 fun j a b => (h5 j a b).mono he
  | co0 k rows h => exact .co0 k rows h
  | co k rows b o cs t fz cmax h1 h2 h3 h4 h5 h6 => exact .co k rows b o cs t fz cmax (by rw [hb b o rfl]; exact h1) h2 h3 h4 h5 fun i hi j hj hc => SCR.mono he (h6 i hi j hj hc)
  | vo k rows b o cs t fz cmax h1 h2 h3 h4 h5 h6 => exact .vo k rows b o cs t fz cmax (by rw [hb b o rfl]; exact h1) h2 h3 h4 h5 fun i hi j hj hc => (h6 i hi j hj hc).mono he
  | ot o b l h1 h2 => exact .ot o b l h1 (by rw [hb b 0 h1]; exact h2)
  | lp st pend fn N e params asg body b l tmps df h1 h2 h3 h4 => exact .lp _ _ _ _ _ _ _ _ b l tmps df h1 (by rw [hb b 0 h1]; exact h2) h3 fun t v hv => (h4 t v hv).mono he

end Go.Lift
