/- Variables made and written, cuts, conversions at data level. -/
import Derived.Test.YtdmpifnbdifhbaaDrL6
namespace Go.Lift
variable {P : Program}

/-! ### box, alloc -/
theorem sound_newbox {b : Frame} {o : Oper} {ρ : Operand → Option V} {H : Nat → Option Ob} {cells : List V} {nid : Nat} (hnd : ∀ c, o.op ≠ .defer c)
    (h : ∀ (s : St) (a : Act), (∀ x ∈ o.op.operands.toList, ∀ u, ρ x = some u → VR s u (a.eval x)) →
      ∃ (cs : Array Value) (t : TypeId), (execOp a.eval o).run P s.w = .ok (.value (.pointer (some ⟨s.w.heap.size, 0, none⟩))) { s.w with heap := s.w.heap.push (.cells cs t) } ∧ VRs s cells cs ∧ ∀ j (h : j < cs.size), cs[j].oneCell' = true) :
    Does P b o ρ H ⟨.hp nid 0 0, [(nid, some (.bx cells))], [], [nid]⟩ := by
  refine Does.of_run hnd fun s f a hr _ hnew hop => ?_
  obtain ⟨cs, t, h1, h2, h3⟩ := h s a hop
  have hf := hnew nid (by simp)
  let l : Loc := ⟨some (s.w.heap.size, 0), cells.length, 1, 1⟩
  have hl : ∀ b x, l.base = some (b, x) → b = s.w.heap.size := fun b x h => by simp [l] at h; exact h.1.symm
  have he := ext_new (s := s) (i := nid) (w' := { s.w with heap := s.w.heap.push (.cells cs t) }) (l := l) hf rfl rfl rfl rfl hl
  refine ⟨_, ⟨upd s.μ nid (.live l), s.vis, { s.w with heap := s.w.heap.push (.cells cs t) }⟩, h1, he, ?_, ?_, free_new⟩
  · refine hr_new hr hf rfl he hl ?_
    refine .bx cells s.w.heap.size cs t (0, 0) l rfl (by simp) (Clear.zero h3) h2.1.symm fun j g1 g2 => (h2.2 j g1 g2).mono he
  · have := VR.hp (s := ⟨upd s.μ nid (.live l), s.vis, { s.w with heap := s.w.heap.push (.cells cs t) }⟩) nid 0 0 l s.w.heap.size 0 (upd_same _ _ _) rfl
    simpa using this

theorem sound_box {b : Frame} {o : Oper} {t : TypeId} {x : Operand} (ho : o.op = .box t x) {ρ : Operand → Option V} {H : Nat → Option Ob} {nid : Nat} {q : List Orc} {out : Out}
    (he : eBox ρ x nid q = some out) : Does P b o ρ H out.r := by
  unfold eBox at he
  split at he
  case h_2 => cases he
  rename_i v hv
  split at he
  case h_2 => cases he
  rename_i cells hc
  cases he
  refine sound_newbox (fun c h => by rw [ho] at h; cases h) fun s a hop => ?_
  have h1 := hop x (by rw [ho]; simp [Op.operands]) v hv
  refine ⟨(a.eval x).cells, t, ?_, ⟨(h1.cells hc).1.1, (h1.cells hc).2⟩, (h1.cells hc).1.2⟩
  unfold execOp
  rw [ho]
  simp [Instr.box, newVar, newRow]

theorem zeroF_ok {z : Value} {cells : List V} (h : zeroF z = some cells) (s : St) : VRs s cells z.cells ∧ ∀ j (h : j < z.cells.size), z.cells[j].oneCell' = true := by
  unfold zeroF at h
  split at h
  · rename_i ha
    have := mapcF_eq h
    subst this
    rw [List.all_eq_true] at ha
    refine ⟨⟨by simp, fun j h1 h2 => ?_⟩, fun j h => ha _ (by simp)⟩
    simp
    exact .c _ _ (.v _)
  · cases h

theorem sound_alloc {T : TT} (hT : TTok P T) {b : Frame} {o : Oper} {t : TypeId} (ho : o.op = .alloc t) {ρ : Operand → Option V} {H : Nat → Option Ob} {nid : Nat} {q : List Orc} {out : Out}
    (he : eAlloc T t nid q = some out) : Does P b o ρ H out.r := by
  unfold eAlloc at he
  split at he
  case h_2 => cases he
  rename_i ti hti0
  have hti := hT t ti hti0
  split at he
  case h_2 => cases he
  rename_i cells hc
  cases he
  refine sound_newbox (fun c h => by rw [ho] at h; cases h) fun s a hop => ?_
  refine ⟨ti.zero.cells, t, ?_, zeroF_ok hc s⟩
  unfold execOp
  rw [ho]
  simp [Instr.alloc, hti.zeroValue, newVar, newRow]

/-! ### store -/
def allOne : List V → Bool
  | [] => true
  | v :: l => match oneV v with
    | true => allOne l
    | false => false

def eStore (T : TT) (ρ : Operand → Option V) (t : TypeId) (a x : Operand) (H : Nat → Option Ob) (q : List Orc) : Option Out :=
  match T t with
  | some ti => match ρ x with
    | some v => match cellsOf v with
      | some vals => match eqN vals.length ti.size && allOne vals with
        | true => match ρ a with
          | some (.hp i r j) => match H i with
            | some (.bx cells) => match r, setSegF cells j vals with
              | 0, some cells' => some ⟨⟨.c (.v undef), [(i, some (.bx cells'))], [i], []⟩, [], q⟩
              | _, _ => none
            | some (.co k rows) => match rowAt rows r q with
              | some (row, obs, q') => match allC vals with
                | some vc => match setSegF row j vc with
                  | some row' => some ⟨⟨.c (.v undef), [(i, some (.co k (rows.set r row')))], [i], []⟩, obs, q'⟩
                  | none => none
                | none => none
              | none => none
            | some (.vo k rows) => match nth rows r with
              | some row => match setSegF row j vals with
                | some row' => match setSegF rows r [row'] with
                  | some rows' => some ⟨⟨.c (.v undef), [(i, some (.vo k rows'))], [i], []⟩, [], q⟩
                  | none => none
                | none => none
              | none => none
            | _ => none
          | _ => none
        | false => none
      | none => none
    | none => none
  | none => none

theorem allOne_get {l : List V} (h : allOne l = true) : ∀ j (hj : j < l.length), oneV l[j] = true := by
  induction l with
  | nil => intro j hj; simp at hj
  | cons v l ih =>
    simp only [allOne] at h
    split at h
    · rename_i hv
      intro j hj
      cases j with
      | zero => exact hv
      | succ j => exact ih h j (by simpa using hj)
    · cases h

/-- What a row of stores makes of a block. -/
def putCells (cs : Array Value) (o : Nat) : List Value → Array Value
  | [] => cs
  | v :: l => putCells (cs.setIfInBounds o v) (o + 1) l

theorem putCells_size (cs : Array Value) (o : Nat) (l : List Value) : (putCells cs o l).size = cs.size := by
  induction l generalizing cs o with
  | nil => rfl
  | cons v l ih => simp [putCells, ih]

theorem putCells_get (cs : Array Value) (o : Nat) (l : List Value) (j : Nat) : (putCells cs o l)[j]? = if o ≤ j ∧ j < o + l.length ∧ j < cs.size then l[j - o]? else cs[j]? := by
  induction l generalizing cs o with
  | nil => simp [putCells]; intro h1 h2; omega
  | cons v l ih =>
    simp only [putCells, ih, Array.size_setIfInBounds, List.length_cons]
    by_cases hj : o = j
    · subst hj
      rw [if_neg (by omega)]
      by_cases hs : o < cs.size
      · rw [if_pos (by omega)]
        simp [hs]
      · rw [if_neg (by omega)]
        simp [hs]
    · rw [Array.getElem?_setIfInBounds_ne hj]
      by_cases h1 : o + 1 ≤ j ∧ j < o + 1 + l.length ∧ j < cs.size
      · rw [if_pos h1, if_pos (by omega)]
        have : j - o = (j - (o + 1)) + 1 := by omega
        rw [this]
        simp
      · rw [if_neg h1, if_neg (by omega)]

theorem Clear.put {fz : Nat × Nat} {cs : Array Value} (h : Clear fz cs) (o : Nat) {l : List Value} (hl : ∀ v ∈ l, v.oneCell' = true) : Clear fz (putCells cs o l) := by
  refine ⟨⟨h.1.1, fun j hj => h.1.2 j (by rwa [putCells_size] at hj)⟩, fun j hj => ?_⟩
  have e := putCells_get cs o l j
  rw [Array.getElem?_eq_getElem hj] at e
  have hj' : j < cs.size := by rwa [putCells_size] at hj
  by_cases hin : o ≤ j ∧ j < o + l.length ∧ j < cs.size
  · rw [if_pos hin, List.getElem?_eq_getElem (by omega)] at e
    rw [Option.some.inj e]
    exact hl _ (List.getElem_mem _)
  · rw [if_neg hin, Array.getElem?_eq_getElem hj'] at e
    rw [Option.some.inj e]
    exact h.2 j hj'

theorem setCell_block {w : World} {b o : Nat} {cs : Array Value} {t : TypeId} {fz : Nat × Nat} (h : w.heap[b]? = some (.cells cs t fz)) (v : Value) :
    (w.setCell ⟨b, o, none⟩ v).heap[b]? = some (.cells (cs.setIfInBounds o v) t fz) := by
  obtain ⟨hlt, he⟩ := Array.getElem?_eq_some_iff.1 h
  simp only [World.setCell]
  rw [Array.getElem?_eq_getElem (by rw [Array.size_modify]; exact hlt), Array.getElem_modify_self, he]
  rfl

theorem run_storeCells {b : Nat} {t : TypeId} {fz : Nat × Nat} : ∀ (vs : List Value) (o i : Nat) (w : World) (cs : Array Value), w.heap[b]? = some (.cells cs t fz) → Clear fz cs → o + i + vs.length ≤ cs.size →
    (∀ v ∈ vs, v.oneCell' = true) →
    ∃ w', (storeCells ⟨b, o, none⟩ vs i).run P w = .ok () w' ∧ w'.heap[b]? = some (.cells (putCells cs (o + i) vs) t fz) ∧ (∀ c, c ≠ b → w'.heap[c]? = w.heap[c]?) ∧ w'.heap.size = w.heap.size ∧
      w'.tape = w.tape ∧ w'.os = w.os ∧ w'.output = w.output := by
  intro vs
  induction vs with
  | nil =>
    intro o i w cs h _ _ _
    exact ⟨w, rfl, h, fun _ _ => rfl, rfl, rfl, rfl, rfl⟩
  | cons v vs ih =>
    intro o i w cs h hc hsz hone
    simp only [List.length_cons] at hsz
    have hlt : o + i < cs.size := by omega
    have hcell : w.cell? ⟨b, o + i, none⟩ = some cs[o + i] := by rw [cell_of_heap h]; simp [hlt]
    have hfz : w.frozen? ⟨b, o + i, none⟩ = false := by
      simp only [World.frozen?, h]
      have := hc.1.2 (o + i) hlt
      simpa using this
    have hb' : (w.setCell ⟨b, o + i, none⟩ v).heap[b]? = some (.cells (cs.setIfInBounds (o + i) v) t fz) := setCell_block h v
    have hc' : Clear fz (cs.setIfInBounds (o + i) v) := ⟨⟨hc.1.1, fun j hj => hc.1.2 j (by simpa using hj)⟩, fun j hj => by
      rw [Array.getElem_setIfInBounds]
      split
      · exact hone v (List.mem_cons_self ..)
      · exact hc.2 j (by simpa using hj)⟩
    obtain ⟨w', h1, h2, h3, h4, h5, h6, h7⟩ := ih o (i + 1) (w.setCell ⟨b, o + i, none⟩ v) (cs.setIfInBounds (o + i) v) hb' hc' (by simp; omega) fun u hu => hone u (List.mem_cons_of_mem _ hu)
    refine ⟨w', ?_, ?_, fun c hcb => (h3 c hcb).trans (RowKit.Below.heap_setCell _ _ _ _ hcb), by rw [h4]; simp [World.setCell], h5, h6, h7⟩
    · rw [storeCells]
      simp only [Sem.run_bind, addr_add]
      rw [run_store P w _ v .plain (hone v (List.mem_cons_self ..)), hcell]
      simp only [hfz, Bool.false_eq_true, if_false, Result.andThen_ok]
      exact h1
    · simpa [putCells, Nat.add_assoc] using h2

theorem store_run {ρ : Operand → Value} {o : Oper} {t : TypeId} {a x : Operand} (ho : o.op = .store t a x) {ti : TI} (hti : TIok P t ti) {b oo : Nat} (ha : ρ a = .pointer (some ⟨b, oo, none⟩)) {w w' : World}
    (hsz : (ρ x).cells.size = ti.size) (h : (storeCells ⟨b, oo, none⟩ (ρ x).cells.toList).run P w = .ok () w') : (execOp ρ o).run P w = .ok .skip w' := by
  unfold execOp
  rw [ho]
  simp [Instr.storeAt, Instr.sureAddr, ha, storeVar, hti.sizeOf, hsz, h]

theorem sound_store {T : TT} (hT : TTok P T) {b : Frame} {o : Oper} {t : TypeId} {a x : Operand} (ho : o.op = .store t a x) {ρ : Operand → Option V} {H : Nat → Option Ob} {q : List Orc} {out : Out}
    (he : eStore T ρ t a x H q = some out) (hobs : Obs out.obs) : Does P b o ρ H out.r := by
  have hnd : ∀ d, o.op ≠ .defer d := fun d h => by rw [ho] at h; cases h
  have ma : a ∈ o.op.operands.toList := by rw [ho]; simp [Op.operands]
  have mx : x ∈ o.op.operands.toList := by rw [ho]; simp [Op.operands]
  unfold eStore at he
  split at he
  case h_2 => cases he
  rename_i ti hti0
  have hti := hT t ti hti0
  split at he
  case h_2 => cases he
  rename_i v hv
  split at he
  case h_2 => cases he
  rename_i vals hvals
  split at he
  case h_2 => cases he
  rename_i hlen
  simp only [Bool.and_eq_true] at hlen
  obtain ⟨hlen, hall⟩ := hlen
  have hlen : vals.length = ti.size := Nat.eq_of_beq_eq_true hlen
  have hone := allOne_get hall
  have go : ∀ (s : St) (ac : Act) (bl oo : Nat) (cs : Array Value) (tt : TypeId) (fz : Nat × Nat), (∀ x ∈ o.op.operands.toList, ∀ u, ρ x = some u → VR s u (ac.eval x)) →
      ac.eval a = .pointer (some ⟨bl, oo, none⟩) → s.w.heap[bl]? = some (.cells cs tt fz) → Clear fz cs → oo + vals.length ≤ cs.size →
      ∃ (w' : World) (xs : List Value), (execOp ac.eval o).run P s.w = .ok .skip w' ∧ w'.heap[bl]? = some (.cells (putCells cs oo xs) tt fz) ∧ (∀ c, c ≠ bl → w'.heap[c]? = s.w.heap[c]?) ∧ w'.heap.size = s.w.heap.size ∧
        w'.tape = s.w.tape ∧ w'.os = s.w.os ∧ w'.output = s.w.output ∧ (xs.length = vals.length ∧ Clear fz (putCells cs oo xs)) ∧ ∀ j (h : j < vals.length) (h' : j < xs.length), VR s vals[j] xs[j] := fun s ac bl oo cs tt fz hop ha hh hcl hsz => by
    have hx := hop x mx v hv
    obtain ⟨⟨k1, k0⟩, k2⟩ := hx.cells hvals
    have hone' : ∀ u ∈ (ac.eval x).cells.toList, u.oneCell' = true := fun u hu => by
      obtain ⟨j, hj, rfl⟩ := List.getElem_of_mem hu
      simp only [Array.length_toList] at hj
      have := k2 j (by omega) hj
      rw [Array.getElem_toList]
      exact this.one (hone j (by omega))
    obtain ⟨w', g1, g2, g3, g4, g5, g6, g7⟩ := run_storeCells (P := P) (ac.eval x).cells.toList oo 0 s.w cs hh hcl (by simp; omega) hone'
    refine ⟨w', (ac.eval x).cells.toList, store_run ho hti ha (by omega) g1, by simpa using g2, g3, g4, g5, g6, g7, ⟨by simp; omega, hcl.put _ hone'⟩, fun j h1 h2 => ?_⟩
    simp only [Array.getElem_toList]
    exact k2 j h1 (by simpa using h2)
  split at he
  case h_2 => cases he
  rename_i i r j hx
  split at he
  · rename_i cells hob
    split at he
    case h_2 => cases he
    rename_i cells' hset
    cases he
    obtain ⟨s1, s2, s3⟩ := setSegF_eq hset
    refine Does.of_skip hnd rfl fun s f ac hr hrd _ hop => ?_
    have hf := hrd i (by simp)
    rw [hob] at hf
    obtain ⟨l, bl, cs, tt, fz, e1, e2, e3, e4, e5, e6, e7⟩ := bx_at hr hf rfl (hop a ma _ hx)
    by_cases h0 : vals.length = 0
    · -- a value of no cells
      have hx' := hop x mx v hv
      obtain ⟨⟨k1, k0⟩, k2⟩ := hx'.cells hvals
      have hnil : (ac.eval x).cells.toList = [] := List.eq_nil_of_length_eq_zero (by rw [Array.length_toList]; omega)
      refine ⟨s, store_run ho hti e3 (by omega) (by rw [hnil]; rfl), Ext.refl s, ?_, fun i h _ => h⟩
      have : cells' = cells := by
        apply List.ext_getElem? fun n => ?_
        rw [s3, if_neg (by omega)]
      rw [this, upf_one]
      have : (fun n => if n = i then some (Ob.bx cells) else f n) = f := funext fun n => by
        by_cases hn : n = i
        · subst hn; simp [hf]
        · simp [hn]
      rw [this]; exact hr
    · obtain ⟨w', xs, g1, g2, g3, g4, g5, g6, g7, ⟨g8, g0⟩, g9⟩ := go s ac bl j cs tt fz hop e3 e4 e5 (by omega)
      have hext := ext_turn (w' := w') e1 e2 g3 g4 g5 g6 g7
      refine ⟨⟨s.μ, s.vis, w'⟩, g1, hext, ?_, fun i h _ => h⟩
      refine hr_turn hr e1 e2 g3 g4 hext ?_
      refine .bx cells' bl _ tt fz l e2 g2 g0 (by rw [putCells_size]; omega) fun n h1 h2 => ?_
      have h2' : n < cs.size := by rw [putCells_size] at h2; exact h2
      have ec := s3 n
      rw [List.getElem?_eq_getElem h1] at ec
      have ep := putCells_get cs j xs n
      rw [Array.getElem?_eq_getElem h2] at ep
      by_cases hin : j ≤ n ∧ n < j + vals.length
      · rw [if_pos hin] at ec
        rw [if_pos (by omega)] at ep
        have hnl : n - j < vals.length := by omega
        rw [List.getElem?_eq_getElem hnl] at ec
        rw [List.getElem?_eq_getElem (by omega)] at ep
        rw [Option.some.inj ec, Option.some.inj ep]
        exact (g9 (n - j) hnl (by omega)).mono hext
      · rw [if_neg hin] at ec
        rw [if_neg (by omega)] at ep
        rw [List.getElem?_eq_getElem (by omega)] at ec
        rw [Array.getElem?_eq_getElem h2'] at ep
        rw [Option.some.inj ec, Option.some.inj ep]
        exact (e7 n (by omega) h2').mono hext
  · rename_i k rows hob
    split at he
    case h_2 => cases he
    rename_i row obs q' hq
    split at he
    case h_2 => cases he
    rename_i vc hvc
    split at he
    case h_2 => cases he
    rename_i row' hset
    cases he
    have hrow := rowAt_ok hq hobs
    obtain ⟨s1, s2, s3⟩ := setSegF_eq hset
    have hvc' := allC_eq hvc
    obtain ⟨hrl, hre⟩ := List.getElem?_eq_some_iff.1 hrow
    refine Does.of_skip hnd rfl fun s f ac hr hrd _ hop => ?_
    have hf := hrd i (by simp)
    rw [hob] at hf
    obtain ⟨l, h1, h2⟩ := hr.obj i _ hf
    have hxa := hop a ma _ hx
    cases h2 with
    | co0 _ _ h => subst h; simp at hrl
    | co _ _ bl oo cs tt fz cmax c1 c2 c3 c4 c5 c6 =>
      have hrk : row.length = k := by rw [← hre]; exact c5 r hrl
      have hmul : (r + 1) * k ≤ cmax * k := Nat.mul_le_mul_right _ (by omega)
      rw [Nat.add_mul, Nat.one_mul] at hmul
      have hvl : vals.length = vc.length := by rw [hvc']; simp
      have hea : ac.eval a = .pointer (some ⟨bl, oo + r * k + j, none⟩) := by
        generalize ac.eval a = y at hxa
        cases hxa with
        | hp _ _ _ l' b' o' k1 k2 => rw [h1] at k1; cases k1; cases k2; rfl
        | dp _ _ _ _ k1 => rw [h1] at k1; cases k1
      by_cases h0 : vals.length = 0
      · have hx' := hop x mx v hv
        obtain ⟨⟨k1, k0⟩, k2⟩ := hx'.cells hvals
        have hnil : (ac.eval x).cells.toList = [] := List.eq_nil_of_length_eq_zero (by rw [Array.length_toList]; omega)
        refine ⟨s, store_run ho hti hea (by omega) (by rw [hnil]; rfl), Ext.refl s, ?_, fun i h _ => h⟩
        have hrr : row' = row := by
          apply List.ext_getElem? fun n => ?_
          rw [s3, if_neg (by omega)]
        have : rows.set r row' = rows := by
          rw [hrr, ← hre]; exact List.set_getElem_self hrl
        rw [this, upf_one]
        have : (fun n => if n = i then some (Ob.co k rows) else f n) = f := funext fun n => by
          by_cases hn : n = i
          · subst hn; simp [hf]
          · simp [hn]
        rw [this]; exact hr
      · obtain ⟨w', xs, g1, g2, g3, g4, g5, g6, g7, ⟨g8, g0⟩, g9⟩ := go s ac bl (oo + r * k + j) cs tt fz hop hea c1 c2 (by omega)
        have hext := ext_turn (w' := w') h1 (show (⟨some (bl, oo), k, cmax, rows.length⟩ : Loc).base = some (bl, oo) from rfl) g3 g4 g5 g6 g7
        refine ⟨⟨s.μ, s.vis, w'⟩, g1, hext, ?_, fun i h _ => h⟩
        refine hr_turn hr h1 rfl g3 g4 hext ?_
        have := OR.co (s := ⟨s.μ, s.vis, w'⟩) k (rows.set r row') bl oo (putCells cs (oo + r * k + j) xs) tt fz cmax g2 g0 (by rw [putCells_size]; exact c3) (by simpa using c4)
          (fun n hn => by
            simp only [List.length_set] at hn
            rw [List.getElem_set]
            split
            · omega
            · exact c5 n hn)
          (fun n hn m hm hc => by
            simp only [List.length_set] at hn
            have hc' : oo + n * k + m < cs.size := by rw [putCells_size] at hc; exact hc
            have hmk : m < k := by
              rw [List.getElem_set] at hm
              split at hm
              · omega
              · have := c5 n hn; omega
            have ep := putCells_get cs (oo + r * k + j) xs (oo + n * k + m)
            rw [Array.getElem?_eq_getElem hc] at ep
            by_cases hnr : r = n
            · subst hnr
              have hrow'e : (rows.set r row')[r]'(by simpa using hn) = row' := by simp
              have ec := s3 m
              have hm' : m < row'.length := by omega
              rw [List.getElem?_eq_getElem hm'] at ec
              have hgoal : SCR ⟨s.μ, s.vis, w'⟩ row'[m] (putCells cs (oo + r * k + j) xs)[oo + r * k + m] := by
                by_cases hin : j ≤ m ∧ m < j + vc.length
                · rw [if_pos hin] at ec
                  rw [if_pos (by omega)] at ep
                  have hnl : m - j < vals.length := by omega
                  have hnl' : m - j < vc.length := by omega
                  rw [List.getElem?_eq_getElem hnl'] at ec
                  have e' : oo + r * k + m - (oo + r * k + j) = m - j := by omega
                  rw [e', List.getElem?_eq_getElem (by omega)] at ep
                  rw [Option.some.inj ec, Option.some.inj ep]
                  have := (g9 (m - j) hnl (by omega)).mono hext
                  have e2 : vals[m - j] = .c vc[m - j] := by simp [hvc']
                  rw [e2] at this
                  cases this with
                  | c _ _ h => exact h
                · rw [if_neg hin] at ec
                  rw [if_neg (by omega)] at ep
                  rw [List.getElem?_eq_getElem (by omega)] at ec
                  rw [Array.getElem?_eq_getElem hc'] at ep
                  rw [Option.some.inj ec, Option.some.inj ep]
                  subst hre
                  exact SCR.mono hext (c6 r hrl m (by omega) hc')
              have e3 : ∀ (L : List C) (hL : L = row') (hm1 : m < L.length), SCR ⟨s.μ, s.vis, w'⟩ L[m] (putCells cs (oo + r * k + j) xs)[oo + r * k + m] := fun L hL hm1 => by subst hL; exact hgoal
              exact e3 _ hrow'e hm
            · have hne : ¬ (oo + r * k + j ≤ oo + n * k + m ∧ oo + n * k + m < oo + r * k + j + xs.length ∧ oo + n * k + m < cs.size) := by
                rcases Nat.lt_or_gt_of_ne hnr with h | h
                · have : (r + 1) * k ≤ n * k := Nat.mul_le_mul_right _ h
                  rw [Nat.add_mul, Nat.one_mul] at this
                  omega
                · have : (n + 1) * k ≤ r * k := Nat.mul_le_mul_right _ h
                  rw [Nat.add_mul, Nat.one_mul] at this
                  omega
              rw [if_neg hne, Array.getElem?_eq_getElem hc'] at ep
              rw [Option.some.inj ep]
              have e3 : ∀ (L : List C) (hL : L = rows[n]) (hm1 : m < L.length), SCR ⟨s.μ, s.vis, w'⟩ L[m] cs[oo + n * k + m] := fun L hL hm1 => by subst hL; exact SCR.mono hext (c6 n hn m hm1 hc')
              exact e3 _ (by rw [List.getElem_set_ne hnr]) hm)
        simpa using this
  · rename_i k rows hob
    split at he
    case h_2 => cases he
    rename_i row hrow0
    split at he
    case h_2 => cases he
    rename_i row' hset
    split at he
    case h_2 => cases he
    rename_i rows' hset'
    cases he
    rw [nth_eq] at hrow0
    obtain ⟨s1, s2, s3⟩ := setSegF_eq hset
    obtain ⟨q1, q2, q3⟩ := setSegF_eq hset'
    obtain ⟨hrl, hre⟩ := List.getElem?_eq_some_iff.1 hrow0
    have hrows : rows' = rows.set r row' := by
      apply List.ext_getElem? fun n => ?_
      rw [q3, List.getElem?_set]
      by_cases hn : r = n
      · subst hn; simp [hrl]
      · rw [if_neg (by simp; omega), if_neg hn]
    subst hrows
    refine Does.of_skip hnd rfl fun s f ac hr hrd _ hop => ?_
    have hf := hrd i (by simp)
    rw [hob] at hf
    obtain ⟨l, h1, h2⟩ := hr.obj i _ hf
    have hxa := hop a ma _ hx
    cases h2 with
    | vo _ _ bl oo cs tt fz cmax c1 c2 c3 c4 c5 c6 =>
      have hrk : row.length = k := by rw [← hre]; exact c5 r hrl
      have hmul : (r + 1) * k ≤ cmax * k := Nat.mul_le_mul_right _ (by omega)
      rw [Nat.add_mul, Nat.one_mul] at hmul
      have hea : ac.eval a = .pointer (some ⟨bl, oo + r * k + j, none⟩) := by
        generalize ac.eval a = y at hxa
        cases hxa with
        | hp _ _ _ l' b' o' k1 k2 => rw [h1] at k1; cases k1; cases k2; rfl
        | dp _ _ _ _ k1 => rw [h1] at k1; cases k1
      by_cases h0 : vals.length = 0
      · have hx' := hop x mx v hv
        obtain ⟨⟨k1, k0⟩, k2⟩ := hx'.cells hvals
        have hnil : (ac.eval x).cells.toList = [] := List.eq_nil_of_length_eq_zero (by rw [Array.length_toList]; omega)
        refine ⟨s, store_run ho hti hea (by omega) (by rw [hnil]; rfl), Ext.refl s, ?_, fun i h _ => h⟩
        have hrr : row' = row := by
          apply List.ext_getElem? fun n => ?_
          rw [s3, if_neg (by omega)]
        have : rows.set r row' = rows := by
          rw [hrr, ← hre]; exact List.set_getElem_self hrl
        rw [this, upf_one]
        have : (fun n => if n = i then some (Ob.vo k rows) else f n) = f := funext fun n => by
          by_cases hn : n = i
          · subst hn; simp [hf]
          · simp [hn]
        rw [this]; exact hr
      · obtain ⟨w', xs, g1, g2, g3, g4, g5, g6, g7, ⟨g8, g0⟩, g9⟩ := go s ac bl (oo + r * k + j) cs tt fz hop hea c1 c2 (by omega)
        have hext := ext_turn (w' := w') h1 (show (⟨some (bl, oo), k, cmax, rows.length⟩ : Loc).base = some (bl, oo) from rfl) g3 g4 g5 g6 g7
        refine ⟨⟨s.μ, s.vis, w'⟩, g1, hext, ?_, fun i h _ => h⟩
        refine hr_turn hr h1 rfl g3 g4 hext ?_
        have := OR.vo (s := ⟨s.μ, s.vis, w'⟩) k (rows.set r row') bl oo (putCells cs (oo + r * k + j) xs) tt fz cmax g2 g0 (by rw [putCells_size]; exact c3) (by simpa using c4)
          (fun n hn => by
            simp only [List.length_set] at hn
            rw [List.getElem_set]
            split
            · omega
            · exact c5 n hn)
          (fun n hn m hm hc => by
            simp only [List.length_set] at hn
            have hc' : oo + n * k + m < cs.size := by rw [putCells_size] at hc; exact hc
            have hmk : m < k := by
              rw [List.getElem_set] at hm
              split at hm
              · omega
              · have := c5 n hn; omega
            have ep := putCells_get cs (oo + r * k + j) xs (oo + n * k + m)
            rw [Array.getElem?_eq_getElem hc] at ep
            by_cases hnr : r = n
            · subst hnr
              have hrow'e : (rows.set r row')[r]'(by simpa using hn) = row' := by simp
              have ec := s3 m
              have hm' : m < row'.length := by omega
              rw [List.getElem?_eq_getElem hm'] at ec
              have hgoal : VR ⟨s.μ, s.vis, w'⟩ row'[m] (putCells cs (oo + r * k + j) xs)[oo + r * k + m] := by
                by_cases hin : j ≤ m ∧ m < j + vals.length
                · rw [if_pos hin] at ec
                  rw [if_pos (by omega)] at ep
                  have hnl : m - j < vals.length := by omega
                  rw [List.getElem?_eq_getElem hnl] at ec
                  have e' : oo + r * k + m - (oo + r * k + j) = m - j := by omega
                  rw [e', List.getElem?_eq_getElem (by omega)] at ep
                  rw [Option.some.inj ec, Option.some.inj ep]
                  exact (g9 (m - j) hnl (by omega)).mono hext
                · rw [if_neg hin] at ec
                  rw [if_neg (by omega)] at ep
                  rw [List.getElem?_eq_getElem (by omega)] at ec
                  rw [Array.getElem?_eq_getElem hc'] at ep
                  rw [Option.some.inj ec, Option.some.inj ep]
                  subst hre
                  exact (c6 r hrl m (by omega) hc').mono hext
              have e3 : ∀ (L : List V) (hL : L = row') (hm1 : m < L.length), VR ⟨s.μ, s.vis, w'⟩ L[m] (putCells cs (oo + r * k + j) xs)[oo + r * k + m] := fun L hL hm1 => by subst hL; exact hgoal
              exact e3 _ hrow'e hm
            · have hne : ¬ (oo + r * k + j ≤ oo + n * k + m ∧ oo + n * k + m < oo + r * k + j + xs.length ∧ oo + n * k + m < cs.size) := by
                rcases Nat.lt_or_gt_of_ne hnr with h | h
                · have : (r + 1) * k ≤ n * k := Nat.mul_le_mul_right _ h
                  rw [Nat.add_mul, Nat.one_mul] at this
                  omega
                · have : (n + 1) * k ≤ r * k := Nat.mul_le_mul_right _ h
                  rw [Nat.add_mul, Nat.one_mul] at this
                  omega
              rw [if_neg hne, Array.getElem?_eq_getElem hc'] at ep
              rw [Option.some.inj ep]
              have e3 : ∀ (L : List V) (hL : L = rows[n]) (hm1 : m < L.length), VR ⟨s.μ, s.vis, w'⟩ L[m] cs[oo + n * k + m] := fun L hL hm1 => by subst hL; exact (c6 n hn m hm1 hc').mono hext
              exact e3 _ (by rw [List.getElem_set_ne hnr]) hm)
        simpa using this
  · cases he

end Go.Lift
