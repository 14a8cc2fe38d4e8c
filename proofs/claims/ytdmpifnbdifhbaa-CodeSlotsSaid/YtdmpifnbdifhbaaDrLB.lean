/- Structs and slices built; min and max, at data level. -/
import Derived.Test.YtdmpifnbdifhbaaDrLA
namespace Go.Lift
variable {P : Program}

def evalP (ρ : Operand → Option V) : List (Nat × Operand) → Option (List (Nat × V))
  | [] => some []
  | (n, x) :: l => match ρ x with
    | some v => match evalP ρ l with
      | some r => some ((n, v) :: r)
      | none => none
    | none => none

theorem evalP_ok {ρ : Operand → Option V} {s : St} {a : Act} : ∀ {l : List (Nat × Operand)} {r : List (Nat × V)}, evalP ρ l = some r → (∀ p ∈ l, ∀ u, ρ p.2 = some u → VR s u (a.eval p.2)) →
    r.length = l.length ∧ ∀ j (h : j < r.length) (h' : j < l.length), r[j].1 = l[j].1 ∧ VR s r[j].2 (a.eval l[j].2) := by
  intro l
  induction l with
  | nil => intro r h _; simp [evalP] at h; subst h; exact ⟨rfl, fun j h => by simp at h⟩
  | cons p l ih =>
    intro r h hop
    obtain ⟨n, x⟩ := p
    simp only [evalP] at h
    split at h
    case h_2 => cases h
    rename_i v hv
    split at h
    case h_2 => cases h
    rename_i r' hr
    cases h
    obtain ⟨h1, h2⟩ := ih hr fun p hp => hop p (List.mem_cons_of_mem _ hp)
    refine ⟨by simp [h1], fun j h h' => ?_⟩
    cases j with
    | zero => exact ⟨rfl, hop (n, x) (List.mem_cons_self ..) v hv⟩
    | succ j => simpa using h2 j (by simpa using h) (by simpa using h')

def allOneL (l : List V) : Bool := allOne l

/-- The parts laid into the cells. -/
def fillF (place : Nat → Option (Nat × Nat)) (cells : List V) : List (Nat × V) → Option (List V)
  | [] => some cells
  | (n, v) :: l => match place n with
    | some (off, size) => match cellsOf v with
      | some vals => match eqN vals.length size with
        | true => match setSegF cells off vals with
          | some c => fillF place c l
          | none => none
        | false => none
      | none => none
    | none => none

theorem foldl_put (vs : Array Value) (off : Nat) (cs : Array Value) : vs.zipIdx.foldl (fun cs (p : Value × Nat) => cs.setIfInBounds (off + p.2) p.1) cs = putCells cs off vs.toList := by
  have key : ∀ (l : List Value) (k : Nat) (cs : Array Value), (l.zipIdx k).foldl (fun cs (p : Value × Nat) => cs.setIfInBounds (off + p.2) p.1) cs = putCells cs (off + k) l := by
    intro l
    induction l with
    | nil => intro k cs; rfl
    | cons v l ih => intro k cs; simp only [List.zipIdx_cons, List.foldl_cons, putCells]; rw [ih, Nat.add_assoc]
  have := key vs.toList 0 cs
  rw [Nat.add_zero] at this
  rw [← this, ← Array.foldl_toList, Array.toList_zipIdx]

theorem fill_ok {s : St} {place : Nat → Option (Nat × Nat)} : ∀ {l : List (Nat × V)} {ps : List (Nat × Value)} {cells r : List V} {cs : Array Value}, fillF place cells l = some r → l.length = ps.length →
    (∀ j (h : j < l.length) (h' : j < ps.length), l[j].1 = ps[j].1 ∧ VR s l[j].2 ps[j].2) → VRs s cells cs → (∀ j (h : j < cs.size), cs[j].oneCell' = true) →
    ∃ cs', Instr.fill place cs ps = some cs' ∧ VRs s r cs' ∧ ∀ j (h : j < cs'.size), cs'[j].oneCell' = true := by
  intro l
  induction l with
  | nil =>
    intro ps cells r cs h hl _ hc ho
    simp [fillF] at h
    subst h
    have : ps = [] := List.eq_nil_of_length_eq_zero (by simpa using hl.symm)
    subst this
    exact ⟨cs, rfl, hc, ho⟩
  | cons p l ih =>
    intro ps cells r cs h hl hv hc ho
    obtain ⟨n, v⟩ := p
    cases ps with
    | nil => simp at hl
    | cons q ps =>
      obtain ⟨m, x⟩ := q
      have h0 := hv 0 (by simp) (by simp)
      simp only [List.getElem_cons_zero] at h0
      obtain ⟨rfl, hx⟩ := h0
      simp only [fillF] at h
      split at h
      case h_2 => cases h
      rename_i off size hp
      split at h
      case h_2 => cases h
      rename_i vals hvals
      split at h
      case h_2 => cases h
      rename_i hsz
      have hsz : vals.length = size := Nat.eq_of_beq_eq_true hsz
      split at h
      case h_2 => cases h
      rename_i c hset
      obtain ⟨⟨k1, k0⟩, k2⟩ := hx.cells hvals
      obtain ⟨s1, s2, s3⟩ := setSegF_eq hset
      by_cases hz : vals.length = 0
      · -- a part of no cells
        have hxz : x.cells = #[] := Array.eq_empty_of_size_eq_zero (by omega)
        by_cases hoff : off ≤ cells.length
        · have hcc : c = cells := by
            apply List.ext_getElem? fun j => ?_
            rw [s3, if_neg (by omega)]
          subst hcc
          obtain ⟨cs', e1, e2⟩ := ih (ps := ps) (cs := cs) h (by simpa using hl) (fun j h h' => by have h9 := hv (j + 1) (by simpa using h) (by simpa using h'); simp only [List.getElem_cons_succ] at h9; exact h9) hc ho
          refine ⟨cs', ?_, e2⟩
          simp only [Instr.fill, hp]
          rw [if_neg (by have := hc.1; simp [hxz]; omega)]
          have h9 := foldl_put x.cells off cs
          rw [h9, hxz]
          exact e1
        · exfalso
          have : ∀ (l : List V) (n : Nat) (r : List V), setSegF l n vals = some r → n ≤ l.length := by
            intro l
            induction l with
            | nil => intro n r h; cases n with
              | zero => simp
              | succ n => simp [setSegF] at h
            | cons y l ih => intro n r h; cases n with
              | zero => simp
              | succ n =>
                simp only [setSegF] at h
                split at h
                · rename_i r' hr'; have := ih n r' hr'; simp; omega
                · cases h
          exact hoff (this _ _ _ hset)
      · have hle : off + vals.length ≤ cells.length := by omega
        have hcs := hc.1
        have hone : ∀ v ∈ x.cells.toList, v.oneCell' = true := fun v hv => by
          obtain ⟨j, hj, rfl⟩ := List.getElem_of_mem hv
          rw [Array.getElem_toList]
          exact k0 j (by simpa using hj)
        have hput : ∀ j (hj : j < (putCells cs off x.cells.toList).size), (putCells cs off x.cells.toList)[j].oneCell' = true := (Clear.put (fz := (0, 0)) (Clear.zero ho) off hone).2
        have hvr : VRs s c (putCells cs off x.cells.toList) := by
          refine ⟨by rw [putCells_size]; omega, fun j h1 h2 => ?_⟩
          have ec := s3 j
          rw [List.getElem?_eq_getElem h1] at ec
          have ep := putCells_get cs off x.cells.toList j
          rw [Array.getElem?_eq_getElem h2] at ep
          have h2' : j < cs.size := by rwa [putCells_size] at h2
          by_cases hin : off ≤ j ∧ j < off + vals.length
          · rw [if_pos hin, List.getElem?_eq_getElem (by omega)] at ec
            rw [if_pos (by simp; omega), List.getElem?_eq_getElem (by simp; omega)] at ep
            rw [Option.some.inj ec, Option.some.inj ep]
            simp only [Array.getElem_toList]
            exact k2 _ _ _
          · rw [if_neg hin, List.getElem?_eq_getElem (by omega)] at ec
            rw [if_neg (by simp; omega), Array.getElem?_eq_getElem h2'] at ep
            rw [Option.some.inj ec, Option.some.inj ep]
            exact hc.2 j (by omega) h2'
        obtain ⟨cs', e1, e2⟩ := ih (ps := ps) (cs := putCells cs off x.cells.toList) h (by simpa using hl) (fun j h h' => by have h9 := hv (j + 1) (by simpa using h) (by simpa using h'); simp only [List.getElem_cons_succ] at h9; exact h9) hvr hput
        refine ⟨cs', ?_, e2⟩
        simp only [Instr.fill, hp]
        rw [if_neg (by simp; omega)]
        have := foldl_put x.cells off cs
        rw [this]
        exact e1

/-! ### structs -/
def structPlaces (T : TT) : List Field → Option (List (Nat × Nat))
  | [] => some []
  | fd :: l => match T fd.type with
    | some tf => match structPlaces T l with
      | some r => some ((fd.offset, tf.size) :: r)
      | none => none
    | none => none

def eBuild (T : TT) (ρ : Operand → Option V) (t : TypeId) (parts : Array (Nat × Operand)) (q : List Orc) : Option Out :=
  match T t with
  | some ti => match ti.d with
    | .struct ⟨fs⟩ => match structPlaces T fs with
      | some pl => match zeroF ti.zero with
        | some cells => match evalP ρ parts.toList with
          | some ps => match fillF (nth pl) cells ps with
            | some r => qv (mkAg r) [] q
            | none => none
          | none => none
        | none => none
      | none => none
    | _ => none
  | none => none

theorem structPlaces_ok {T : TT} (hT : TTok P T) {w : World} : ∀ {fs : List Field} {pl : List (Nat × Nat)}, structPlaces T fs = some pl →
    (fs.mapM (m := Sem) fun f => do pure (f.offset, ← sizeOf f.type)).run P w = .ok pl w := by
  intro fs
  induction fs with
  | nil => intro pl h; simp [structPlaces] at h; subst h; simp
  | cons fd fs ih =>
    intro pl h
    simp only [structPlaces] at h
    split at h
    case h_2 => cases h
    rename_i tf htf
    split at h
    case h_2 => cases h
    rename_i r hr
    cases h
    simp only [List.mapM_cons, Sem.run_bind, (hT _ _ htf).sizeOf, Result.andThen_ok, Sem.run_pure, ih hr]

theorem sound_build {T : TT} (hT : TTok P T) {b : Frame} {o : Oper} {t : TypeId} {parts : Array (Nat × Operand)} (ho : o.op = .build t parts) {ρ : Operand → Option V} {H : Nat → Option Ob} {q : List Orc} {out : Out}
    (he : eBuild T ρ t parts q = some out) : Does P b o ρ H out.r := by
  have hnd : ∀ d, o.op ≠ .defer d := fun d h => by rw [ho] at h; cases h
  unfold eBuild at he
  split at he
  case h_2 => cases he
  rename_i ti hti0
  have hti := hT t ti hti0
  split at he
  case h_2 => cases he
  rename_i fs hd
  split at he
  case h_2 => cases he
  rename_i pl hpl
  split at he
  case h_2 => cases he
  rename_i cells hz
  split at he
  case h_2 => cases he
  rename_i ps hps
  split at he
  case h_2 => cases he
  rename_i r hr
  cases he
  refine Quiet1.does hnd fun s a hop => ?_
  obtain ⟨p1, p2⟩ := evalP_ok hps fun p hp u hu => hop p.2 (by rw [ho]; simp [Op.operands]; exact ⟨p.1, by simpa using hp⟩) u hu
  obtain ⟨z1, z2⟩ := zeroF_ok hz s
  obtain ⟨cs', e1, e2, e3⟩ := fill_ok (s := s) (place := nth pl) (ps := (parts.map fun (i, x) => (i, a.eval x)).toList) hr (by simp [p1]) (fun j h h' => by
    have := p2 j h (by rw [← p1]; exact h)
    simpa using this) z1 z2
  refine ⟨.agg cs', ?_, VR.mkAg e2.1 e3 e2.2⟩
  unfold execOp
  rw [ho]
  have hm : ((⟨fs⟩ : Array Field).mapM (m := Sem) fun f => do pure (f.offset, ← sizeOf f.type)).run P s.w = .ok ⟨pl⟩ s.w := by
    rw [Array.mapM_eq_mapM_toList, Sem.run_map]
    rw [structPlaces_ok hT hpl]
    rfl
  have hplace : (fun i => (⟨pl⟩ : Array (Nat × Nat))[i]?) = nth pl := funext fun i => by rw [nth_eq]; simp
  simp only [Instr.build, hti.zeroValue, hti.underlying, hd, hm, hplace, e1, Sem.run_bind, Result.andThen_ok, Sem.run_pure]

/-! ### slices -/
def rowsF (sz : Nat) : Nat → List (Nat × V) → Option (List (List V))
  | _, [] => some []
  | n, (m, v) :: l => match eqN n m with
    | true => match cellsOf v with
      | some vals => match eqN vals.length sz with
        | true => match rowsF sz (n + 1) l with
          | some r => some (vals :: r)
          | none => none
        | false => none
      | none => none
    | false => none

def allRows : List (List V) → Option (List (List C))
  | [] => some []
  | r :: l => match allC r with
    | some c => match allRows l with
      | some cs => some (c :: cs)
      | none => none
    | none => none

theorem allRows_eq {l : List (List V)} {r : List (List C)} (h : allRows l = some r) : l = r.map (List.map .c) := by
  induction l generalizing r with
  | nil => simp [allRows] at h; subst h; rfl
  | cons x l ih =>
    simp only [allRows] at h
    split at h
    case h_2 => cases h
    rename_i c hc
    split at h
    case h_2 => cases h
    rename_i cs hcs
    cases h
    simp [ih hcs, allC_eq hc]

def mkArr (k : Nat) (rows : List (List V)) : Ob := match allRows rows with
  | some cr => .co k cr
  | none => .vo k rows

def eBuildSlice (T : TT) (ρ : Operand → Option V) (t : TypeId) (len : Nat) (parts : Array (Nat × Operand)) (nid : Nat) (q : List Orc) : Option Out :=
  match T t with
  | some ti => match ti.d with
    | .slice e => match T e with
      | some ⟨_, sz, _, z, _⟩ => match z.cells.toList.all Value.oneCell' && eqN z.cells.size sz && Nat.blt (len * sz) 1000 with
        | true => match evalP ρ parts.toList with
          | some ps => match eqN ps.length len with
            | true => match rowsF sz 0 ps with
              | some rows => some ⟨⟨.hw nid, [(nid, some (mkArr sz rows))], [], [nid]⟩, [], q⟩
              | none => none
            | false => none
          | none => none
        | false => none
      | none => none
    | _ => none
  | none => none

theorem rowsF_ok {s : St} {sz len : Nat} : ∀ {l : List (Nat × V)} {ps : List (Nat × Value)} {n : Nat} {rows : List (List V)} {cs : Array Value}, rowsF sz n l = some rows → l.length = ps.length →
    (∀ j (h : j < l.length) (h' : j < ps.length), l[j].1 = ps[j].1 ∧ VR s l[j].2 ps[j].2) → cs.size = len * sz → n + l.length = len → (∀ j (h : j < cs.size), cs[j].oneCell' = true) →
    ∃ cs', Instr.fill (fun i => some (i * sz, sz)) cs ps = some cs' ∧ cs'.size = cs.size ∧ rows.length = l.length ∧ (∀ j (h : j < cs'.size), cs'[j].oneCell' = true) ∧ (∀ j, j < n * sz → cs'[j]? = cs[j]?) ∧
      (∀ r (hr : r < rows.length), rows[r].length = sz) ∧ ∀ r (hr : r < rows.length) c (hc : c < rows[r].length) (hj : (n + r) * sz + c < cs'.size), VR s rows[r][c] cs'[(n + r) * sz + c] := by
  intro l
  induction l with
  | nil =>
    intro ps n rows cs h hl _ hsz hn ho
    simp [rowsF] at h
    subst h
    have : ps = [] := List.eq_nil_of_length_eq_zero (by simpa using hl.symm)
    subst this
    exact ⟨cs, rfl, rfl, rfl, ho, fun _ _ => rfl, fun r hr => by simp at hr, fun r hr => by simp at hr⟩
  | cons p l ih =>
    intro ps n rows cs h hl hv hsz hn ho
    obtain ⟨m, v⟩ := p
    cases ps with
    | nil => simp at hl
    | cons q ps =>
      obtain ⟨m', x⟩ := q
      have h0 := hv 0 (by simp) (by simp)
      simp only [List.getElem_cons_zero] at h0
      obtain ⟨rfl, hx⟩ := h0
      simp only [rowsF] at h
      split at h
      case h_2 => cases h
      rename_i hnm
      have hnm : n = m := Nat.eq_of_beq_eq_true hnm
      subst hnm
      split at h
      case h_2 => cases h
      rename_i vals hvals
      split at h
      case h_2 => cases h
      rename_i hvs
      have hvs : vals.length = sz := Nat.eq_of_beq_eq_true hvs
      split at h
      case h_2 => cases h
      rename_i rows' hrows
      cases h
      obtain ⟨⟨k1, k0⟩, k2⟩ := hx.cells hvals
      simp only [List.length_cons] at hn
      have hone : ∀ v ∈ x.cells.toList, v.oneCell' = true := fun v hv => by
        obtain ⟨j, hj, rfl⟩ := List.getElem_of_mem hv
        rw [Array.getElem_toList]
        exact k0 j (by simpa using hj)
      have hput := (Clear.put (fz := (0, 0)) (Clear.zero ho) (n * sz) hone).2
      have hmul : (n + 1) * sz ≤ len * sz := Nat.mul_le_mul_right _ (by omega)
      rw [Nat.add_mul, Nat.one_mul] at hmul
      obtain ⟨cs', e1, e2, e3, e4, e5, e6, e7⟩ := ih (ps := ps) (cs := putCells cs (n * sz) x.cells.toList) hrows (by simpa using hl)
        (fun j h h' => by have h9 := hv (j + 1) (by simpa using h) (by simpa using h'); simp only [List.getElem_cons_succ] at h9; exact h9) (by rw [putCells_size]; exact hsz) (by omega) hput
      rw [putCells_size] at e2
      refine ⟨cs', ?_, e2, by simp [e3], e4, fun j hj => ?_, fun r hr => ?_, fun r hr c hc hj => ?_⟩
      · simp only [Instr.fill]
        rw [if_neg (by simp; omega), foldl_put]
        exact e1
      · rw [e5 j (by rw [Nat.add_mul]; omega), putCells_get, if_neg (by omega)]
      · cases r with
        | zero => exact hvs
        | succ r => simpa using e6 r (by simpa using hr)
      · cases r with
        | zero =>
          simp only [List.getElem_cons_zero] at hc ⊢
          simp only [Nat.add_zero] at hj ⊢
          have e8 := e5 (n * sz + c) (by rw [Nat.add_mul]; omega)
          rw [Array.getElem?_eq_getElem hj, putCells_get, if_pos (by simp; omega), List.getElem?_eq_getElem (by simp; omega)] at e8
          rw [Option.some.inj e8]
          simp only [Array.getElem_toList]
          have := k2 c hc (by omega)
          simpa using this
        | succ r =>
          have h7 := e7 r (by simpa using hr) c (by simpa using hc)
          have e9 : n + 1 + r = n + (r + 1) := by omega
          rw [e9] at h7
          simpa using h7 hj

theorem sound_buildSlice {T : TT} (hT : TTok P T) {b : Frame} {o : Oper} {t : TypeId} {len : Nat} {parts : Array (Nat × Operand)} (ho : o.op = .buildSlice t len parts) {ρ : Operand → Option V} {H : Nat → Option Ob} {nid : Nat}
    {q : List Orc} {out : Out} (he : eBuildSlice T ρ t len parts nid q = some out) : Does P b o ρ H out.r := by
  have hnd : ∀ d, o.op ≠ .defer d := fun d h => by rw [ho] at h; cases h
  unfold eBuildSlice at he
  split at he
  case h_2 => cases he
  rename_i ti hti0
  have hti := hT t ti hti0
  split at he
  case h_2 => cases he
  rename_i e hd
  split at he
  case h_2 => cases he
  rename_i d sz bys z zq hte0
  have hte := hT e _ hte0
  split at he
  case h_2 => cases he
  rename_i hz
  simp only [Bool.and_eq_true] at hz
  obtain ⟨⟨hz1, hz2⟩, hz3⟩ := hz
  have hz2 : z.cells.size = sz := Nat.eq_of_beq_eq_true hz2
  have hz3 : len * sz < 1000 := by
    have := Nat.le_of_ble_eq_true hz3
    omega
  rw [List.all_eq_true] at hz1
  split at he
  case h_2 => cases he
  rename_i ps hps
  split at he
  case h_2 => cases he
  rename_i hpl
  have hpl : ps.length = len := Nat.eq_of_beq_eq_true hpl
  split at he
  case h_2 => cases he
  rename_i rows hrows
  cases he
  refine Does.of_run hnd fun s f a hr _ hnew hop => ?_
  have hfree := hnew nid (by simp)
  obtain ⟨p1, p2⟩ := evalP_ok hps fun p hp u hu => hop p.2 (by rw [ho]; simp [Op.operands]; exact ⟨p.1, by simpa using hp⟩) u hu
  let z0 : Array Value := if len * sz = 0 then #[] else z.cells
  let c0 : Array Value := (Array.range (len * sz)).map fun i => z0[i % z0.size]!
  have hc0 : c0.size = len * sz := by simp [c0]
  have hone0 : ∀ j (h : j < c0.size), c0[j].oneCell' = true := fun j h => by
    have hne : ¬ len * sz = 0 := by omega
    simp only [c0, z0, if_neg hne, Array.getElem_map, Array.getElem_range]
    have hzs : 0 < z.cells.size := by
      rcases Nat.eq_zero_or_pos z.cells.size with h0 | h0
      · rw [hz2] at h0; rw [h0] at hne; omega
      · exact h0
    have hm := Nat.mod_lt j hzs
    rw [getElem!_pos z.cells _ hm]
    exact hz1 _ (by simp)
  obtain ⟨cs', e1, e2, e3, e4, e5, e6, e7⟩ := rowsF_ok (s := s) (len := len) (cs := c0) (ps := (parts.map fun (i, x) => (i, a.eval x)).toList) hrows (by simp [p1]) (fun j h h' => by
    have := p2 j h (by rw [← p1]; exact h)
    simpa using this) hc0 (by omega) hone0
  have hrl : rows.length = len := by omega
  have hsz' : cs'.size = len * sz := by omega
  let w' : World := { s.w with heap := s.w.heap.push (.cells cs' e) }
  have hrun : (execOp a.eval o).run P s.w = .ok (.value (.slice (some ⟨s.w.heap.size, 0, none⟩) len len)) w' := by
    unfold execOp
    rw [ho]
    have hszr : (sizeOf e).run P s.w = .ok sz s.w := hte.sizeOf
    have hzr : (zeroValue e).run P s.w = .ok z s.w := hte.zeroValue
    have h24 : ¬ (len * sz > 16777216) := by omega
    by_cases hne : len * sz = 0
    · have : c0 = (Array.range (len * sz)).map fun i => (#[] : Array Value)[i % (#[] : Array Value).size]! := by simp only [c0, z0, if_pos hne]
      rw [this] at e1
      simp only [hne] at e1
      simp only [Instr.buildSlice, hti.underlying, hd, hszr, Sem.run_bind, Result.andThen_ok, if_false, hne, if_true, Sem.run_pure, e1, newRow, run_newObj, Nat.reducePow, Nat.not_lt_zero, gt_iff_lt]
      rfl
    · have : c0 = (Array.range (len * sz)).map fun i => z.cells[i % z.cells.size]! := by simp only [c0, z0, if_neg hne]
      rw [this] at e1
      simp only [Instr.buildSlice, hti.underlying, hd, hszr, h24, Sem.run_bind, Result.andThen_ok, if_false, hne, hzr, Sem.run_pure, e1, newRow, run_newObj, Nat.reducePow]
      rfl
  let lc : Loc := ⟨some (s.w.heap.size, 0), sz, len, len⟩
  have hl : ∀ b x, lc.base = some (b, x) → b = s.w.heap.size := fun b x h => by simp [lc] at h; exact h.1.symm
  have hext := ext_new (s := s) (i := nid) (w' := w') (l := lc) hfree rfl rfl rfl rfl hl
  refine ⟨_, ⟨upd s.μ nid (.live lc), s.vis, w'⟩, hrun, hext, ?_, ?_, free_new⟩
  · refine hr_new hr hfree rfl hext hl ?_
    unfold mkArr
    split
    · rename_i cr hcr
      have hcr' := allRows_eq hcr
      have hlen : cr.length = len := by rw [← hrl, hcr']; simp
      have := OR.co (s := ⟨upd s.μ nid (.live lc), s.vis, w'⟩) sz cr s.w.heap.size 0 cs' e (0, 0) len (by simp [w']) (Clear.zero e4) (by omega) (by omega)
        (fun i hi => by
          have := e6 i (by rw [hcr']; simpa using hi)
          simpa [hcr'] using this)
        (fun i hi j hj hc => by
          have h1 : i < rows.length := by rw [hcr']; simpa using hi
          have h2 : rows[i] = cr[i].map .c := by simp [hcr']
          have := e7 i h1 j (by rw [h2]; simpa using hj) (by simpa using hc)
          have h3 : rows[i][j]'(by rw [h2]; simpa using hj) = .c cr[i][j] := by simp [hcr']
          rw [h3] at this
          simp only [Nat.zero_add] at this ⊢
          have := this.mono hext
          cases this with
          | c _ _ h => exact h)
      simpa [hlen, lc] using this
    · have := OR.vo (s := ⟨upd s.μ nid (.live lc), s.vis, w'⟩) sz rows s.w.heap.size 0 cs' e (0, 0) len (by simp [w']) (Clear.zero e4) (by omega) (by omega) e6
        (fun i hi j hj hc => by
          have := e7 i hi j hj (by simpa using hc)
          simp only [Nat.zero_add] at this ⊢
          exact this.mono hext)
      simpa [hrl, lc] using this
  · have := VR.hw (s := ⟨upd s.μ nid (.live lc), s.vis, w'⟩) nid len lc (upd_same _ _ _) (Nat.le_refl _) (Nat.le_refl _)
    simpa [lc] using this

/-! ### min and max of two ints -/
def eMin (ρ : Operand → Option V) (x y : Operand) (q : List Orc) : Option Out :=
  match ρ x with
  | some (.c (.v (.int k a))) => match ρ y with
    | some (.c (.v (.int _ b))) => qv (ci k (if b < a then b else a)) [] q
    | _ => none
  | _ => none
def eMax (ρ : Operand → Option V) (x y : Operand) (q : List Orc) : Option Out :=
  match ρ x with
  | some (.c (.v (.int k a))) => match ρ y with
    | some (.c (.v (.int _ b))) => qv (ci k (if b > a then b else a)) [] q
    | _ => none
  | _ => none

theorem sound_min {b : Frame} {o : Oper} {tys : Array TypeId} {x y : Operand} (ho : o.op = .call { callee := .builtin .min, args := #[x, y], argTypes := tys }) {ρ : Operand → Option V} {H : Nat → Option Ob} {q : List Orc} {out : Out}
    (he : eMin ρ x y q = some out) : Does P b o ρ H out.r := by
  have mx : x ∈ o.op.operands.toList := by rw [ho]; simp [Op.operands, Call.operands]
  have my : y ∈ o.op.operands.toList := by rw [ho]; simp [Op.operands, Call.operands]
  unfold eMin at he
  split at he
  case h_2 => cases he
  rename_i k a hx
  split at he
  case h_2 => cases he
  rename_i k' c hy
  cases he
  refine Quiet1.does (fun d h => by rw [ho] at h; cases h) fun s ac hop => ?_
  have h1 := (hop x mx _ hx).raw
  have h2 := (hop y my _ hy).raw
  refine ⟨_, ?_, .c _ _ (.v _)⟩
  unfold execOp
  rw [ho]
  simp [resolve, invoke, builtin, Builtin.min_, h1, h2, Builtin.min2]

theorem sound_max {b : Frame} {o : Oper} {tys : Array TypeId} {x y : Operand} (ho : o.op = .call { callee := .builtin .max, args := #[x, y], argTypes := tys }) {ρ : Operand → Option V} {H : Nat → Option Ob} {q : List Orc} {out : Out}
    (he : eMax ρ x y q = some out) : Does P b o ρ H out.r := by
  have mx : x ∈ o.op.operands.toList := by rw [ho]; simp [Op.operands, Call.operands]
  have my : y ∈ o.op.operands.toList := by rw [ho]; simp [Op.operands, Call.operands]
  unfold eMax at he
  split at he
  case h_2 => cases he
  rename_i k a hx
  split at he
  case h_2 => cases he
  rename_i k' c hy
  cases he
  refine Quiet1.does (fun d h => by rw [ho] at h; cases h) fun s ac hop => ?_
  have h1 := (hop x mx _ hx).raw
  have h2 := (hop y my _ hy).raw
  refine ⟨_, ?_, .c _ _ (.v _)⟩
  unfold execOp
  rw [ho]
  simp [resolve, invoke, builtin, Builtin.max_, h1, h2, Builtin.max2]

end Go.Lift
