/- The operations at data level: an evaluator, and that it is right: values, variables, loads, stores. -/
import Derived.Test.YtdmpifnbdifhbaaDrL3
namespace Go.Lift
variable {P : Program}

inductive Orc where
  | g (n : Nat) (b : Bool)
  | br (b : Bool)
  | stop
  | fn (f : FuncId) (v : V)
  | row (r : List C)
  | whole
  | str (l : List UInt8)
  | rows (rs : List (List C))
  | call (fx mv : List Nat) (v : V) (hs' : Heap)
  | lend (rds : List Nat) (v : V)

/-- An obligation, with a check (which may know nothing of it). -/
structure Pr where
  p : Prop
  d : Bool
  ok : d = true → p
@[reducible] def Pr.of (p : Prop) [h : Decidable p] : Pr := ⟨p, decide p, of_decide_eq_true⟩
@[reducible] def Pr.no (p : Prop) : Pr := ⟨p, false, fun h => by cases h⟩
instance (p : Prop) [Decidable p] : CoeDep Prop p Pr := ⟨Pr.of p⟩

structure Out where
  r : Res
  obs : List Pr
  q : List Orc

def Obs : List Pr → Prop
  | [] => True
  | p :: r => p.p ∧ Obs r

def chkP : List Pr → Bool
  | [] => true
  | p :: r => match p.d with
    | true => chkP r
    | false => false
theorem chkP_ok {l : List Pr} (h : chkP l = true) : Obs l := by
  induction l with
  | nil => trivial
  | cons p r ih =>
    simp only [chkP] at h
    split at h
    · rename_i hd; exact ⟨p.ok hd, ih h⟩
    · cases h

def qv (v : V) (obs : List Pr) (q : List Orc) : Option Out := some ⟨⟨v, [], [], []⟩, obs, q⟩

/-! ### Lists that are reckoned to the end -/
section lists
variable {α : Type}
def nth : List α → Nat → Option α
  | [], _ => none
  | x :: _, 0 => some x
  | _ :: l, n + 1 => nth l n
theorem nth_eq (l : List α) (n : Nat) : nth l n = l[n]? := by
  induction l generalizing n with
  | nil => simp [nth]
  | cons x l ih => cases n with
    | zero => rfl
    | succ n => simpa [nth] using ih n

def takeF : List α → Nat → Option (List α)
  | _, 0 => some []
  | [], _ + 1 => none
  | x :: l, n + 1 => match takeF l n with
    | some r => some (x :: r)
    | none => none
theorem takeF_eq {l r : List α} {n : Nat} (h : takeF l n = some r) : r = l.take n ∧ n ≤ l.length := by
  induction l generalizing n r with
  | nil => cases n with
    | zero => simp [takeF] at h; subst h; simp
    | succ n => simp [takeF] at h
  | cons x l ih => cases n with
    | zero => simp [takeF] at h; subst h; simp
    | succ n =>
      simp only [takeF] at h
      split at h
      · rename_i r' hr
        cases h
        obtain ⟨h1, h2⟩ := ih hr
        exact ⟨by simp [h1], by simp; omega⟩
      · cases h
def segF (l : List α) (off n : Nat) : Option (List α) := takeF (l.drop off) n
theorem segF_eq {l r : List α} {off n : Nat} (h : segF l off n = some r) : r.length = n ∧ (n = 0 ∨ off + n ≤ l.length) ∧ ∀ j, j < n → r[j]? = l[off + j]? := by
  obtain ⟨h1, h2⟩ := takeF_eq h
  rw [List.length_drop] at h2
  refine ⟨by rw [h1, List.length_take, List.length_drop]; omega, by omega, fun j hj => ?_⟩
  subst h1
  rw [List.getElem?_take_of_lt hj, List.getElem?_drop]

def putF : List α → List α → Option (List α)
  | l, [] => some l
  | [], _ :: _ => none
  | _ :: l, v :: vs => match putF l vs with
    | some r => some (v :: r)
    | none => none
theorem putF_eq {l vs r : List α} (h : putF l vs = some r) : r.length = l.length ∧ vs.length ≤ l.length ∧ ∀ j, r[j]? = if j < vs.length then vs[j]? else l[j]? := by
  induction l generalizing vs r with
  | nil => cases vs with
    | nil => simp [putF] at h; subst h; simp
    | cons => simp [putF] at h
  | cons x l ih => cases vs with
    | nil => simp [putF] at h; subst h; simp
    | cons v vs =>
      simp only [putF] at h
      split at h
      · rename_i r' hr
        cases h
        obtain ⟨h1, h2, h3⟩ := ih hr
        refine ⟨by simp [h1], by simp; omega, fun j => ?_⟩
        cases j with
        | zero => simp
        | succ j => simpa using h3 j
      · cases h
def setSegF : List α → Nat → List α → Option (List α)
  | l, 0, vs => putF l vs
  | [], _ + 1, _ => none
  | x :: l, n + 1, vs => match setSegF l n vs with
    | some r => some (x :: r)
    | none => none
theorem setSegF_eq {l vs r : List α} {n : Nat} (h : setSegF l n vs = some r) : r.length = l.length ∧ (vs.length = 0 ∨ n + vs.length ≤ l.length) ∧ ∀ j, r[j]? = if n ≤ j ∧ j < n + vs.length then vs[j - n]? else l[j]? := by
  induction l generalizing n r with
  | nil => cases n with
    | zero =>
      simp only [setSegF] at h
      obtain ⟨h1, h2, h3⟩ := putF_eq h
      exact ⟨h1, by omega, fun j => by simpa using h3 j⟩
    | succ n => simp [setSegF] at h
  | cons x l ih => cases n with
    | zero =>
      simp only [setSegF] at h
      obtain ⟨h1, h2, h3⟩ := putF_eq h
      exact ⟨h1, by omega, fun j => by simpa using h3 j⟩
    | succ n =>
      simp only [setSegF] at h
      split at h
      · rename_i r' hr
        cases h
        obtain ⟨h1, h2, h3⟩ := ih hr
        refine ⟨by simp [h1], by rw [List.length_cons]; omega, fun j => ?_⟩
        cases j with
        | zero => simp
        | succ j =>
          have := h3 j
          simp only [List.getElem?_cons_succ, this]
          have e1 : (n ≤ j ∧ j < n + vs.length) ↔ (n + 1 ≤ j + 1 ∧ j + 1 < n + 1 + vs.length) := by omega
          simp only [e1]
          have e2 : j + 1 - (n + 1) = j - n := by omega
          rw [e2]
      · cases h

def addF : Nat → Nat → Nat
  | 0, b => b
  | a + 1, b => a + 1 + b
theorem addF_eq (a b : Nat) : addF a b = a + b := by cases a <;> simp [addF]
end lists

def allC : List V → Option (List C)
  | [] => some []
  | .c x :: l => match allC l with
    | some r => some (x :: r)
    | none => none
  | _ :: _ => none
theorem allC_eq {l : List V} {r : List C} (h : allC l = some r) : l = r.map .c := by
  induction l generalizing r with
  | nil => simp [allC] at h; subst h; rfl
  | cons x l ih =>
    cases x <;> simp only [allC] at h <;> try (cases h; done)
    split at h
    · rename_i r' hr
      cases h
      simp [ih hr]
    · cases h

def mapcF : List C → Option (List V)
  | [] => some []
  | x :: l => match mapcF l with
    | some r => some (.c x :: r)
    | none => none
theorem mapcF_eq {l : List C} {r : List V} (h : mapcF l = some r) : r = l.map .c := by
  induction l generalizing r with
  | nil => simp [mapcF] at h; subst h; rfl
  | cons x l ih =>
    simp only [mapcF] at h
    split at h
    · rename_i r' hr
      cases h
      simp [ih hr]
    · cases h

/-- A struct's value out of its cells'. -/
def mkAg (l : List V) : V := match allC l with
  | some r => .c (.ag r)
  | none => .ag l
theorem VR.mkAg {s : St} {l : List V} {cs : Array Value} (hl : l.length = cs.size) (ho : ∀ j (h' : j < cs.size), cs[j].oneCell' = true) (h : ∀ j (h : j < l.length) (h' : j < cs.size), VR s l[j] cs[j]) : VR s (mkAg l) (.agg cs) := by
  unfold Lift.mkAg
  split
  · rename_i r hr
    have := allC_eq hr
    subst this
    refine .c _ _ (.ag _ _ (by simpa using hl) ho fun j h1 h2 => ?_)
    have := h j (by simpa using h1) h2
    simp only [List.getElem_map] at this
    cases this with
    | c _ _ h => exact h
  · exact .ag _ _ hl ho h

def oneV : V → Bool
  | .c (.v x) => x.oneCell'
  | .c (.ag _) | .ag _ | .tp _ => false
  | _ => true

theorem VR.one {s : St} {v : V} {x : Value} (h : VR s v x) (ho : oneV v = true) : x.oneCell' = true := by
  cases h with
  | c y _ h =>
    cases h with
    | v y => exact ho
    | sl0 => rfl
    | sl => rfl
    | ag => cases ho
    | va => rfl
    | fn => rfl
  | hp => rfl
  | dp _ _ _ _ _ h => exact h
  | hs => rfl
  | hs0 => rfl
  | ds _ _ _ _ _ h => exact h
  | hw => rfl
  | hw0 => rfl
  | dw _ _ _ h => exact h
  | hz => rfl
  | yl => rfl
  | dy _ _ _ h => exact h
  | ag => cases ho
  | fn => rfl
  | tp => cases ho

theorem cells_of_one {x : Value} (h : x.oneCell' = true) : x.cells = #[x] := by cases x <;> first | rfl | cases h

/-- The cells of a value. -/
def cellsOf : V → Option (List V)
  | .c (.ag l) => mapcF l
  | .ag l => some l
  | v => if oneV v then some [v] else none

theorem VR.cells {s : St} {v : V} {x : Value} {l : List V} (h : VR s v x) (hl : cellsOf v = some l) : (l.length = x.cells.size ∧ ∀ j (h' : j < x.cells.size), x.cells[j].oneCell' = true) ∧ ∀ j (h : j < l.length) (h' : j < x.cells.size), VR s l[j] x.cells[j] := by
  have hone : ∀ {u : V}, VR s u x → (if oneV u then some [u] else none) = some l → (l.length = x.cells.size ∧ ∀ j (h' : j < x.cells.size), x.cells[j].oneCell' = true) ∧ ∀ j (h : j < l.length) (h' : j < x.cells.size), VR s l[j] x.cells[j] := fun {u} hu he => by
    split at he
    · rename_i ho
      cases he
      have := cells_of_one (hu.one ho)
      rw [this]
      refine ⟨⟨rfl, fun j h1 => ?_⟩, fun j h1 h2 => ?_⟩
      · have : j = 0 := by simp at h1; exact h1
        subst this
        exact hu.one ho
      have : j = 0 := by simp at h1; exact h1
      subst this
      exact hu
    · cases he
  unfold cellsOf at hl
  split at hl
  · rename_i cs
    have := mapcF_eq hl
    subst this
    cases h with
    | c _ _ h =>
      cases h with
      | ag _ as h1 h0 h2 =>
        refine ⟨⟨by simpa [Value.cells] using h1, h0⟩, fun j h3 h4 => ?_⟩
        simp only [List.getElem_map]
        exact .c _ _ (h2 j (by simpa using h3) h4)
  · rename_i l'
    cases hl
    cases h with
    | ag _ as h1 h0 h2 => exact ⟨⟨h1, h0⟩, h2⟩
  · exact hone h hl

/-! ### The evaluator's parts -/
def eBox (ρ : Operand → Option V) (x : Operand) (nid : Nat) (q : List Orc) : Option Out :=
  match ρ x with
  | some v => match cellsOf v with
    | some cells => some ⟨⟨.hp nid 0 0, [(nid, some (.bx cells))], [], [nid]⟩, [], q⟩
    | none => none
  | none => none

def zeroF (z : Value) : Option (List V) :=
  match z.cells.toList.all Value.oneCell' with
  | true => mapcF (z.cells.toList.map .v)
  | false => none

def eAlloc (T : TT) (t : TypeId) (nid : Nat) (q : List Orc) : Option Out :=
  match T t with
  | some ti => match zeroF ti.zero with
    | some cells => some ⟨⟨.hp nid 0 0, [(nid, some (.bx cells))], [], [nid]⟩, [], q⟩
    | none => none
  | none => none

/-- A load out of a row of cells. -/
def loadRow (ti : TI) (cells : List V) (j : Nat) : Option V :=
  match aggD ti.d with
  | true => match segF cells j ti.size with
    | some l => some (mkAg l)
    | none => none
  | false => match nth cells j with
    | some v => some v
    | none => none

def loadRowC (ti : TI) (row : List C) (j : Nat) : Option C :=
  match aggD ti.d with
  | true => match segF row j ti.size with
    | some l => some (.ag l)
    | none => none
  | false => nth row j

/-- A row of closed rows: by an oracle, or reckoned. -/
def rowAt (rows : List (List C)) (n : Nat) (q : List Orc) : Option (List C × List Pr × List Orc) := match q with
  | .row row :: q' => some (row, [.no (rows[n]? = some row)], q')
  | q => match nth rows n with
    | some row => some (row, [], q)
    | none => none
theorem rowAt_ok {rows : List (List C)} {n : Nat} {q q' : List Orc} {row : List C} {obs : List Pr} (h : rowAt rows n q = some (row, obs, q')) (ho : Obs obs) : rows[n]? = some row := by
  unfold rowAt at h
  split at h
  · cases h; exact ho.1
  · split at h
    · rename_i hn; cases h; rw [← nth_eq]; exact hn
    · cases h

def eLoadC (ti : TI) (row : List C) (j : Nat) (rds : List Nat) (obs : List Pr) (q : List Orc) : Option Out :=
  match q, j with
  | .whole :: q', 0 => some ⟨⟨.c (.ag row), [], rds, []⟩, Pr.of (aggD ti.d = true) :: Pr.of (row.length = ti.size) :: obs, q'⟩
  | q, j => match loadRowC ti row j with
    | some c => some ⟨⟨.c c, [], rds, []⟩, obs, q⟩
    | none => none

def eLoad (T : TT) (t : TypeId) (ρ : Operand → Option V) (a : Operand) (H : Nat → Option Ob) (q : List Orc) : Option Out :=
  match T t with
  | some ti => match ρ a with
    | some (.hp i 0 j) => match H i with
      | some (.bx cells) => match loadRow ti cells j with
        | some v => some ⟨⟨v, [], [i], []⟩, [], q⟩
        | none => none
      | some (.co _ rows) => match rowAt rows 0 q with
        | some (row, obs, q') => eLoadC ti row j [i] obs q'
        | none => none
      | some (.vo _ rows) => match nth rows 0 with
        | some row => match loadRow ti row j with
          | some v => some ⟨⟨v, [], [i], []⟩, [], q⟩
          | none => none
        | none => none
      | _ => none
    | some (.hp i r j) => match H i with
      | some (.co _ rows) => match rowAt rows r q with
        | some (row, obs, q') => eLoadC ti row j [i] obs q'
        | none => none
      | some (.vo _ rows) => match nth rows r with
        | some row => match loadRow ti row j with
          | some v => some ⟨⟨v, [], [i], []⟩, [], q⟩
          | none => none
        | none => none
      | _ => none
    | some (.c (.va row j)) => eLoadC ti row j [] [] q
    | _ => none
  | none => none

/-! ### Loads -/
def rowArr (g : Nat → Value) (n : Nat) : Array Value := ((List.range n).map g).toArray
theorem rowArr_size (g : Nat → Value) (n : Nat) : (rowArr g n).size = n := by simp [rowArr]
theorem rowArr_get (g : Nat → Value) (n j : Nat) (h : j < (rowArr g n).size) : (rowArr g n)[j] = g j := by simp [rowArr]

theorem addr_add (b o n : Nat) : (⟨b, o, none⟩ : Addr).add n = ⟨b, o + n, none⟩ := by
  unfold Addr.add
  split
  · rename_i h; subst h; rfl
  · rfl

theorem run_loadCellsFrom {w : World} {b o : Nat} {g : Nat → Value} : ∀ (n i : Nat) (acc : Array Value), (∀ j, j < i + n → w.cell? ⟨b, o + j, none⟩ = some (g j)) → acc = rowArr g i →
    (loadCellsFrom ⟨b, o, none⟩ i n acc).run P w = .ok (rowArr g (i + n)) w := by
  intro n
  induction n with
  | zero => intro i acc _ ha; subst ha; rfl
  | succ n ih =>
    intro i acc h ha
    unfold loadCellsFrom
    simp only [Sem.run_bind, run_load, addr_add, h i (by omega), Result.andThen_ok]
    rw [ih (i + 1) _ (fun j hj => h j (by omega)) (by subst ha; simp [rowArr, List.range_succ])]
    have : i + 1 + n = i + (n + 1) := by omega
    rw [this]

theorem run_loadCells {w : World} {b o : Nat} {g : Nat → Value} {n : Nat} (h : ∀ j, j < n → w.cell? ⟨b, o + j, none⟩ = some (g j)) :
    (loadCells ⟨b, o, none⟩ n).run P w = .ok (rowArr g n) w := by
  have := run_loadCellsFrom (P := P) (w := w) (b := b) (o := o) (g := g) n 0 #[] (fun j hj => h j (by omega)) rfl
  simpa [loadCells] using this

theorem run_loadVar {t : TypeId} {ti : TI} (hti : TIok P t ti) {w : World} {b o : Nat} {g : Nat → Value} (h : ∀ j, j < (if aggD ti.d then ti.size else 1) → w.cell? ⟨b, o + j, none⟩ = some (g j)) :
    (loadVar t ⟨b, o, none⟩).run P w = .ok (if aggD ti.d then .agg (rowArr g ti.size) else g 0) w := by
  unfold loadVar
  simp only [Sem.run_bind, hti.isAgg, Result.andThen_ok]
  cases ha : aggD ti.d with
  | true =>
    rw [ha] at h
    simp only [if_true] at h
    simp only [if_true, Sem.run_bind, hti.sizeOf, Result.andThen_ok]
    rw [run_loadCells h]
    rfl
  | false =>
    rw [ha] at h
    simp only [Bool.false_eq_true, if_false, run_load]
    have := h 0 (by simp)
    simp only [Nat.add_zero] at this
    rw [this]

/-- Out of a row whose cells are known. -/
theorem loadRow_ok {t : TypeId} {ti : TI} (hti : TIok P t ti) {s : St} {cells : List V} {b o : Nat} {g : Nat → Value}
    (h : ∀ j, j < cells.length → s.w.cell? ⟨b, o + j, none⟩ = some (g j) ∧ (g j).oneCell' = true) (hv : ∀ j (hj : j < cells.length), VR s cells[j] (g j)) {j : Nat} {v : V} (he : loadRow ti cells j = some v) :
    ∃ x, (loadVar t ⟨b, o + j, none⟩).run P s.w = .ok x s.w ∧ VR s v x := by
  unfold loadRow at he
  split at he
  · rename_i ha
    split at he
    · rename_i l hl
      cases he
      obtain ⟨h1, h2, h3⟩ := segF_eq hl
      have hlt : ∀ i, i < ti.size → j + i < cells.length := fun i hi => by omega
      refine ⟨_, run_loadVar (g := fun i => g (j + i)) hti (fun i hi => ?_), ?_⟩
      · rw [ha] at hi
        rw [Nat.add_assoc]
        exact (h _ (hlt i hi)).1
      · rw [ha, if_pos rfl]
        refine VR.mkAg (by rw [rowArr_size, h1]) (fun i hi => by rw [rowArr_get]; rw [rowArr_size] at hi; exact (h _ (hlt i hi)).2) fun i hi hi' => ?_
        rw [rowArr_get]
        have e := h3 i (by omega)
        rw [List.getElem?_eq_getElem hi, List.getElem?_eq_getElem (hlt i (by omega))] at e
        rw [Option.some.inj e]
        exact hv _ _
    · cases he
  · rename_i ha
    split at he
    · rename_i u hu
      cases he
      rw [nth_eq] at hu
      obtain ⟨hj, hu⟩ := List.getElem?_eq_some_iff.1 hu
      refine ⟨_, run_loadVar (g := fun i => g (j + i)) hti (fun i hi => ?_), ?_⟩
      · rw [ha] at hi
        have : i = 0 := by simp at hi; exact hi
        subst this
        exact (h _ hj).1
      · rw [ha]
        simp only [Bool.false_eq_true, if_false, Nat.add_zero]
        rw [← hu]
        exact hv j hj
    · cases he

theorem loadRowC_ok {t : TypeId} {ti : TI} (hti : TIok P t ti) {s : St} {row : List C} {b o : Nat} {g : Nat → Value}
    (h : ∀ j, j < row.length → s.w.cell? ⟨b, o + j, none⟩ = some (g j) ∧ (g j).oneCell' = true) (hv : ∀ j (hj : j < row.length), SCR s row[j] (g j)) {j : Nat} {v : C} (he : loadRowC ti row j = some v) :
    ∃ x, (loadVar t ⟨b, o + j, none⟩).run P s.w = .ok x s.w ∧ SCR s v x := by
  unfold loadRowC at he
  split at he
  · rename_i ha
    split at he
    · rename_i l hl
      cases he
      obtain ⟨h1, h2, h3⟩ := segF_eq hl
      have hlt : ∀ i, i < ti.size → j + i < row.length := fun i hi => by omega
      refine ⟨_, run_loadVar (g := fun i => g (j + i)) hti (fun i hi => ?_), ?_⟩
      · rw [ha] at hi
        rw [Nat.add_assoc]
        exact (h _ (hlt i hi)).1
      · rw [ha, if_pos rfl]
        refine .ag _ _ (by rw [rowArr_size, h1]) (fun i hi => by rw [rowArr_get]; rw [rowArr_size] at hi; exact (h _ (hlt i hi)).2) fun i hi hi' => ?_
        rw [rowArr_get]
        have e := h3 i (by omega)
        rw [List.getElem?_eq_getElem hi, List.getElem?_eq_getElem (hlt i (by omega))] at e
        rw [Option.some.inj e]
        exact hv _ _
    · cases he
  · rename_i ha
    rw [nth_eq] at he
    obtain ⟨hj, hu⟩ := List.getElem?_eq_some_iff.1 he
    refine ⟨_, run_loadVar (g := fun i => g (j + i)) hti (fun i hi => ?_), ?_⟩
    · rw [ha] at hi
      have : i = 0 := by simp at hi; exact hi
      subst this
      exact (h _ hj).1
    · rw [ha]
      simp only [Bool.false_eq_true, if_false, Nat.add_zero]
      rw [← hu]
      exact hv j hj

theorem eLoadC_ok {t : TypeId} {ti : TI} (hti : TIok P t ti) {s : St} {row : List C} {b o : Nat} {g : Nat → Value}
    (h : ∀ j, j < row.length → s.w.cell? ⟨b, o + j, none⟩ = some (g j) ∧ (g j).oneCell' = true) (hv : ∀ j (hj : j < row.length), SCR s row[j] (g j)) {j : Nat} {rds : List Nat} {obs : List Pr} {q : List Orc} {out : Out}
    (he : eLoadC ti row j rds obs q = some out) (hobs : Obs out.obs) :
    out.r.eff = [] ∧ out.r.new = [] ∧ out.r.rds = rds ∧ Obs obs ∧ ∃ x, (loadVar t ⟨b, o + j, none⟩).run P s.w = .ok x s.w ∧ VR s out.r.val x := by
  unfold eLoadC at he
  split at he
  · cases he
    obtain ⟨ha, hl, hobs⟩ := hobs
    refine ⟨rfl, rfl, rfl, hobs, ?_⟩
    refine ⟨_, run_loadVar (g := g) hti (fun i hi => ?_), ?_⟩
    · rw [ha, if_pos rfl] at hi
      exact (h i (by omega)).1
    · rw [ha, if_pos rfl]
      refine .c _ _ (.ag _ _ (by rw [rowArr_size, hl]) (fun i hi => by rw [rowArr_get]; rw [rowArr_size] at hi; exact (h _ (by omega)).2) fun i hi hi' => ?_)
      rw [rowArr_get]
      exact hv i hi
  · split at he
    · rename_i c hc
      cases he
      refine ⟨rfl, rfl, rfl, hobs, ?_⟩
      obtain ⟨x, h1, h2⟩ := loadRowC_ok hti h hv hc
      exact ⟨x, h1, .c _ _ h2⟩
    · cases he

/-! ### Where objects lie -/
theorem cell_of_heap {w : World} {b : Nat} {cs : Array Value} {t : TypeId} {fz : Nat × Nat} (h : w.heap[b]? = some (.cells cs t fz)) (o : Nat) : w.cell? ⟨b, o, none⟩ = cs[o]? := by
  simp [World.cell?, h]

theorem bx_at {s : St} {f : Nat → Option Ob} (hr : HR s f) {i r j : Nat} {cells : List V} (hf : f i = some (.bx cells)) (hr0 : r = 0) {x : Value} (hx : VR s (.hp i r j) x) :
    ∃ l b cs t fz, s.μ i = .live l ∧ l.base = some (b, 0) ∧ x = .pointer (some ⟨b, j, none⟩) ∧ s.w.heap[b]? = some (.cells cs t fz) ∧ Clear fz cs ∧ cs.size = cells.length ∧
      ∀ j (h : j < cells.length) (h' : j < cs.size), VR s cells[j] cs[j] := by
  obtain ⟨l, h1, h2⟩ := hr.obj i _ hf
  cases h2 with
  | bx _ b cs t fz _ g1 g2 g3 g4 g5 =>
    refine ⟨l, b, cs, t, fz, h1, g1, ?_, g2, g3, g4, g5⟩
    cases hx with
    | hp _ _ _ l' b' o' k1 k2 =>
      rw [h1] at k1
      cases k1
      rw [g1] at k2
      cases k2
      subst hr0
      simp
    | dp _ _ _ _ k1 => rw [h1] at k1; cases k1

theorem co_at {s : St} {f : Nat → Option Ob} (hr : HR s f) {i r j k : Nat} {rows : List (List C)} (hf : f i = some (.co k rows)) {row : List C} (hrow : rows[r]? = some row) {x : Value} (hx : VR s (.hp i r j) x) :
    ∃ l b o cs t fz, s.μ i = .live l ∧ l.base = some (b, o) ∧ x = .pointer (some ⟨b, o + r * k + j, none⟩) ∧ s.w.heap[b]? = some (.cells cs t fz) ∧ Clear fz cs ∧ row.length = k ∧ o + r * k + k ≤ cs.size ∧
      ∀ j (h : j < row.length) (h' : o + r * k + j < cs.size), SCR s row[j] cs[o + r * k + j] := by
  obtain ⟨l, h1, h2⟩ := hr.obj i _ hf
  obtain ⟨hrl, hre⟩ := List.getElem?_eq_some_iff.1 hrow
  cases h2 with
  | co0 _ _ h => subst h; simp at hrl
  | co _ _ b o cs t fz cmax g1 g2 g3 g4 g5 g6 =>
    have hk : row.length = k := by rw [← hre]; exact g5 r hrl
    have hsz : o + r * k + k ≤ cs.size := by
      have : (r + 1) * k ≤ cmax * k := Nat.mul_le_mul_right _ (by omega)
      rw [Nat.add_mul, Nat.one_mul] at this
      omega
    refine ⟨_, b, o, cs, t, fz, h1, rfl, ?_, g1, g2, hk, hsz, fun j hj hj' => ?_⟩
    · cases hx with
      | hp _ _ _ l' b' o' k1 k2 =>
        rw [h1] at k1
        cases k1
        cases k2
        rfl
      | dp _ _ _ _ k1 => rw [h1] at k1; cases k1
    · subst hre
      exact g6 r hrl j hj hj'

theorem vo_at {s : St} {f : Nat → Option Ob} (hr : HR s f) {i r j k : Nat} {rows : List (List V)} (hf : f i = some (.vo k rows)) {row : List V} (hrow : rows[r]? = some row) {x : Value} (hx : VR s (.hp i r j) x) :
    ∃ l b o cs t fz, s.μ i = .live l ∧ l.base = some (b, o) ∧ x = .pointer (some ⟨b, o + r * k + j, none⟩) ∧ s.w.heap[b]? = some (.cells cs t fz) ∧ Clear fz cs ∧ row.length = k ∧ o + r * k + k ≤ cs.size ∧
      ∀ j (h : j < row.length) (h' : o + r * k + j < cs.size), VR s row[j] cs[o + r * k + j] := by
  obtain ⟨l, h1, h2⟩ := hr.obj i _ hf
  obtain ⟨hrl, hre⟩ := List.getElem?_eq_some_iff.1 hrow
  cases h2 with
  | vo _ _ b o cs t fz cmax g1 g2 g3 g4 g5 g6 =>
    have hk : row.length = k := by rw [← hre]; exact g5 r hrl
    have hsz : o + r * k + k ≤ cs.size := by
      have : (r + 1) * k ≤ cmax * k := Nat.mul_le_mul_right _ (by omega)
      rw [Nat.add_mul, Nat.one_mul] at this
      omega
    refine ⟨_, b, o, cs, t, fz, h1, rfl, ?_, g1, g2, hk, hsz, fun j hj hj' => ?_⟩
    · cases hx with
      | hp _ _ _ l' b' o' k1 k2 =>
        rw [h1] at k1
        cases k1
        cases k2
        rfl
      | dp _ _ _ _ k1 => rw [h1] at k1; cases k1
    · subst hre
      exact g6 r hrl j hj hj'

theorem va_at {s : St} {row : List C} {j : Nat} {x : Value} (hx : VR s (.c (.va row j)) x) :
    ∃ (b o : Nat) (g : Nat → Value), x = .pointer (some ⟨b, o + j, none⟩) ∧ (∀ j, j < row.length → s.w.cell? ⟨b, o + j, none⟩ = some (g j) ∧ (g j).oneCell' = true) ∧ (∀ j (hj : j < row.length), SCR s row[j] (g j)) := by
  cases hx with
  | c _ _ h =>
    cases h with
    | va _ _ b o g h1 h2 h3 => exact ⟨b, o, g, rfl, h2, h3⟩

theorem load_run {ρ : Operand → Value} {o : Oper} {t : TypeId} {a : Operand} (ho : o.op = .load t a) {ad : Addr} (ha : ρ a = .pointer (some ad)) {w : World} {x : Value} (h : (loadVar t ad).run P w = .ok x w) :
    (execOp ρ o).run P w = .ok (.value x) w := by
  unfold execOp
  rw [ho]
  simp [Instr.loadAt, Instr.sureAddr, ha, h]

theorem sound_load {T : TT} (hT : TTok P T) {b : Frame} {o : Oper} {t : TypeId} {a : Operand} (ho : o.op = .load t a) {ρ : Operand → Option V} {H : Nat → Option Ob} {q : List Orc} {out : Out}
    (he : eLoad T t ρ a H q = some out) (hobs : Obs out.obs) : Does P b o ρ H out.r := by
  unfold eLoad at he
  split at he
  case h_2 => cases he
  rename_i ti hti0
  have hti := hT t ti hti0
  have hnd : ∀ c, o.op ≠ .defer c := fun c h => by rw [ho] at h; cases h
  have hmem : ∀ {v : V}, ρ a = some v → ∀ {s : St} {ac : Act}, (∀ x ∈ o.op.operands.toList, ∀ u, ρ x = some u → VR s u (ac.eval x)) → VR s v (ac.eval a) := by
    intro v hv s ac h
    exact h a (by rw [ho]; simp [Op.operands]) _ hv
  have bxcase : ∀ {i j : Nat} {cells : List V} {v : V}, ρ a = some (.hp i 0 j) → H i = some (.bx cells) → loadRow ti cells j = some v → Does P b o ρ H ⟨v, [], [i], []⟩ := fun {i j cells v} h1 h2 h3 =>
    Does.quiet hnd fun s f ac hr hrd hop => by
      have hf := hrd i (by simp)
      rw [h2] at hf
      obtain ⟨l, bb, cs, tt, fz, _, _, hx, hh, hcl, hsz, hvr⟩ := bx_at hr hf rfl (hmem h1 hop)
      obtain ⟨x, k1, k2⟩ := loadRow_ok hti (s := s) (b := bb) (o := 0) (g := fun j => cs.getD j undef) (fun j hj => by
        rw [cell_of_heap hh, Nat.zero_add, Array.getD_eq_getD_getElem?]
        have : j < cs.size := by omega
        have h1 := hcl.2 j this
        simp [this, h1]) (fun j hj => by
        have hj' : j < cs.size := by omega
        have := hvr j hj hj'
        simpa [Array.getD_eq_getD_getElem?, hj'] using this) h3
      rw [Nat.zero_add] at k1
      exact ⟨x, load_run ho hx k1, k2⟩
  have cocase : ∀ {i r j k : Nat} {rows : List (List C)} {row : List C} {obs : List Pr} {q0 q' : List Orc} {out : Out}, ρ a = some (.hp i r j) → H i = some (.co k rows) → rowAt rows r q0 = some (row, obs, q') → eLoadC ti row j [i] obs q' = some out → Obs out.obs → Does P b o ρ H out.r := fun {i r j k rows row obs q0 q' out} h1 h2 hq h3 h4 => by
    have key : ∀ (s : St) (f : Nat → Option Ob) (ac : Act), HR s f → f i = some (.co k rows) → VR s (.hp i r j) (ac.eval a) → rows[r]? = some row → out.r.eff = [] ∧ out.r.new = [] ∧ out.r.rds = [i] ∧ ∃ x, (execOp ac.eval o).run P s.w = .ok (.value x) s.w ∧ VR s out.r.val x := fun s f ac hr hf hx hrow => by
      obtain ⟨l, bb, oo, cs, tt, fz, _, _, hx, hh, hcl, hrl, hsz, hvr⟩ := co_at hr hf hrow hx
      obtain ⟨e1, e2, e3, _, x, k1, k2⟩ := eLoadC_ok hti (s := s) (b := bb) (o := oo + r * k) (g := fun j => cs.getD (oo + r * k + j) undef) (fun j hj => by
        rw [cell_of_heap hh, Array.getD_eq_getD_getElem?]
        have : oo + r * k + j < cs.size := by omega
        have h1 := hcl.2 _ this
        simp [this, h1]) (fun j hj => by
        have hj' : oo + r * k + j < cs.size := by omega
        have := hvr j hj hj'
        simpa [Array.getD_eq_getD_getElem?, hj'] using this) h3 h4
      exact ⟨e1, e2, e3, x, load_run ho hx k1, k2⟩
    have hform : out.r = ⟨out.r.val, [], [i], []⟩ ∧ rows[r]? = some row := by
      unfold eLoadC at h3
      split at h3
      · cases h3; exact ⟨rfl, rowAt_ok hq h4.2.2⟩
      · split at h3
        · cases h3; exact ⟨rfl, rowAt_ok hq h4⟩
        · cases h3
    rw [hform.1]
    exact Does.quiet hnd fun s f ac hr hrd hop => by
      have hf := hrd i (by simp)
      rw [h2] at hf
      exact (key s f ac hr hf (hmem h1 hop) hform.2).2.2.2
  have vocase : ∀ {i r j k : Nat} {rows : List (List V)} {row : List V} {v : V}, ρ a = some (.hp i r j) → H i = some (.vo k rows) → nth rows r = some row → loadRow ti row j = some v → Does P b o ρ H ⟨v, [], [i], []⟩ := fun {i r j k rows row v} h1 h2 hn h3 =>
    Does.quiet hnd fun s f ac hr hrd hop => by
      have hf := hrd i (by simp)
      rw [h2] at hf
      obtain ⟨l, bb, oo, cs, tt, fz, _, _, hx, hh, hcl, hrl, hsz, hvr⟩ := vo_at hr hf (by rw [← nth_eq]; exact hn) (hmem h1 hop)
      obtain ⟨x, k1, k2⟩ := loadRow_ok hti (s := s) (b := bb) (o := oo + r * k) (g := fun j => cs.getD (oo + r * k + j) undef) (fun j hj => by
        rw [cell_of_heap hh, Array.getD_eq_getD_getElem?]
        have : oo + r * k + j < cs.size := by omega
        have h1 := hcl.2 _ this
        simp [this, h1]) (fun j hj => by
        have hj' : oo + r * k + j < cs.size := by omega
        have := hvr j hj hj'
        simpa [Array.getD_eq_getD_getElem?, hj'] using this) h3
      exact ⟨x, load_run ho hx k1, k2⟩
  split at he
  · rename_i i j h1
    split at he
    · rename_i cells h2
      split at he
      · rename_i v h3; cases he; exact bxcase h1 h2 h3
      · cases he
    · rename_i k rows h2
      split at he
      · rename_i hq; exact cocase h1 h2 hq he hobs
      · cases he
    · rename_i k rows h2
      split at he
      · rename_i row h3
        split at he
        · rename_i v h4; cases he; exact vocase h1 h2 h3 h4
        · cases he
      · cases he
    · cases he
  · rename_i i r j _ h1
    split at he
    · rename_i k rows h2
      split at he
      · rename_i hq; exact cocase h1 h2 hq he hobs
      · cases he
    · rename_i k rows h2
      split at he
      · rename_i row h3
        split at he
        · rename_i v h4; cases he; exact vocase h1 h2 h3 h4
        · cases he
      · cases he
    · cases he
  · rename_i row j h1
    have hform : out.r = ⟨out.r.val, [], [], []⟩ := by
      unfold eLoadC at he
      split at he
      · cases he; rfl
      · split at he
        · cases he; rfl
        · cases he
    rw [hform]
    exact Does.quiet hnd fun s f ac hr hrd hop => by
      obtain ⟨bb, oo, g, hx, k1, k2⟩ := va_at (hmem h1 hop)
      obtain ⟨_, _, _, _, x, k3, k4⟩ := eLoadC_ok hti k1 k2 he hobs
      exact ⟨x, load_run ho hx k3, k4⟩
  · cases he

end Go.Lift
