/- From a reading of memory to closed data; from a body's run to a call. -/
import Derived.Test.YtdmpifnbdifhbaaDrLU
import Derived.ProofKit
import Derived.SizedLaws
import Derived.Deep.Slices
namespace Go.Lift
open Go.RowKit
variable {P : Program}

/-! ### A call -/
/-- Nothing is spoken of but what lies there. -/
def st0 (W : World) : St := ⟨fun i => if i < 1000 then .free else .dead, fun _ => True, W⟩
theorem st0_own (W : World) (b : Nat) : ¬ (st0 W).own b := by
  rintro ⟨i, l, o, h, _⟩
  simp only [st0] at h
  split at h <;> cases h
theorem st0_hl (W : World) : HL (st0 W) [] := by
  refine ⟨⟨fun i o h => by simp [look] at h, fun i l h => ?_, fun i l b o h => ?_, fun i l b o h => ?_, fun _ _ => trivial, fun i j li lj b oi oj h => ?_⟩, fun i _ h => ?_, fun i h => ?_⟩
  · simp only [st0] at h; split at h <;> cases h
  · simp only [st0] at h; split at h <;> cases h
  · simp only [st0] at h; split at h <;> cases h
  · simp only [st0] at h; split at h <;> cases h
  · simp only [st0]; rw [if_pos h]
  · simp only [st0]; rw [if_neg (by omega)]

abbrev immW (W : World) (b : Nat) : Prop := b < W.heap.size
theorem immW_st0 {W : World} {x : C} {v : Value} (h : CR (immW W) W x v) : VR (st0 W) (.c x) v :=
  .c x v (CR.mono (fun b hb => ⟨⟨hb, trivial, st0_own W b⟩, rfl⟩) h)

theorem Calls.of_wp {f : FuncId} {fn : Func} {args : List V} {Q : V → Heap → Prop} (hfn : P.funcs[f]? = some fn) (hsz : (fn.body.isSome && Nat.ble args.length fn.ntmps) = true)
    (hw : ∀ s0, (∀ i, 0 ≤ i → i < 1000 → s0.μ i = .free) → Wp P (frameOf f) fn.ntmps s0 (Ends P f Q) (bodyK fn) [] (envOf 0 args) []) {W : World} {cargs : Array Value} (hv : VRs (st0 W) args cargs) :
    Calls P f cargs W fun e W' => ∃ r v s' h', e = .returned r ∧ W' = s'.w ∧ VR s' v r ∧ Q v h' ∧ Below W.heap.size W W' := by
  simp only [Bool.and_eq_true] at hsz
  obtain ⟨code, hcode⟩ := Option.isSome_iff_exists.1 hsz.1
  have hsz2 := Nat.le_of_ble_eq_true hsz.2
  intro cs
  have hfr : Frame.enter P f cargs .normal = (frameOf f).atR ⟨cargs ++ Array.replicate (fn.ntmps - cargs.size) undef, []⟩ (bodyK fn) := by
    simp [Frame.enter, Frame.atR, frameOf, hfn, hcode, bodyK]
  obtain ⟨fr, s', h1, h2, h3, r, v, h', h4, h5, h6, h7⟩ := hw (st0 W) (fun i h1 h2 => by simp only [st0]; rw [if_pos h2]) ⟨cargs ++ Array.replicate (fn.ntmps - cargs.size) undef, []⟩ (st0 W) ⟨fun t v hv' => by
      obtain ⟨j, e1, e2⟩ := envOf_eq hv'
      have e1' : t = j := by omega
      subst e1'
      obtain ⟨hj, e3⟩ := List.getElem?_eq_some_iff.1 e2
      have hj' : t < cargs.size := by rw [← hv.1]; exact hj
      have := hv.2 t hj hj'
      rw [e3] at this
      have e4 : (cargs ++ Array.replicate (fn.ntmps - cargs.size) undef).getD t undef = cargs[t] := by
        rw [Array.getD_eq_getD_getElem?, Array.getElem?_append_left hj', Array.getElem?_eq_getElem hj']; rfl
      rw [e4]; exact this, st0_hl W, by have := hv.1; simp; omega, trivial⟩ (.refl _) cs
  refine ⟨.returned r, s'.w, fr, ⟨r, v, s', h', rfl, rfl, h6, h7, h2.os, h2.tape, h2.output, h2.size, fun k hk => (h2.keep k hk (st0_own W k)).2⟩, ?_, h3, h4⟩
  rw [hfr]
  exact h1

/-! ### Readings -/
/-- A value of one cell that reads is closed data. -/
def Rd1 (P : Program) (W : World) (t : TypeId) (G : C → Prop) : Prop := ∀ (H : Type) (enc : TypeId × Value → H) (fuel : Nat) (cs : List Value) (d : DataW H) (ps : List MemPlace),
  DataW.trod enc P W 0 (fun _ => true) true fuel t cs = some (d, ps) → (∀ x ∈ d.weights P t, x ≤ reachBytes) → ∃ c v, cs = [v] ∧ CR (immW W) W c v ∧ v.oneCell' = true ∧ G c

/-- A value of some cells that reads is a row of closed data. -/
def RdR (P : Program) (W : World) (t : TypeId) (k : Nat) (G : List C → Prop) : Prop := ∀ (H : Type) (enc : TypeId × Value → H) (fuel : Nat) (cs : List Value) (d : DataW H) (ps : List MemPlace),
  DataW.trod enc P W 0 (fun _ => true) true fuel t cs = some (d, ps) → (∀ x ∈ d.weights P t, x ≤ reachBytes) → ∃ row : List C, row.length = k ∧ cs.length = k ∧ (∀ j (h : j < row.length) (h' : j < cs.length), CR (immW W) W row[j] cs[j] ∧ cs[j].oneCell' = true) ∧ G row

theorem rd_int {W : World} {t : TypeId} {k : IntKind} (ht : P.underlying t = some (.int k)) : Rd1 P W t fun c => ∃ n, c = .v (.int k n) ∧ k.min ≤ n ∧ n ≤ k.max := by
  intro H enc fuel cs d ps h _
  obtain ⟨n, rfl, _, hw⟩ := DataW.trod_int ht h
  simp only [Lit.wf, Bool.and_eq_true, decide_eq_true_eq] at hw
  exact ⟨_, _, rfl, .v _, rfl, n, rfl, hw.1, hw.2⟩

theorem cell_lt {w : World} {a : Addr} {v : Value} (h : w.cell? a = some v) : a.block < w.heap.size ∧ a.spot = none := by
  unfold World.cell? at h
  split at h
  · rename_i hb
    split at h
    · cases h
    · rename_i hs
      refine ⟨?_, by simpa using hs⟩
      rcases Nat.lt_or_ge a.block w.heap.size with h1 | h1
      · exact h1
      · rw [Array.getElem?_eq_none h1] at hb; cases hb
  · cases h

theorem weightsAll_mem {H : Type} {e : TypeId} {l : List (DataW H)} {d : DataW H} (h : d ∈ l) {x : Nat} (hx : x ∈ d.weights P e) : x ∈ DataW.weightsAll P e l := by
  induction l with
  | nil => cases h
  | cons y l ih =>
    rw [DataW.weightsAll]
    rcases List.mem_cons.1 h with rfl | h
    · exact List.mem_append_left _ hx
    · exact List.mem_append_right _ (ih h)

theorem rd_slice {W : World} {t e : TypeId} {k bb : Nat} {G : List C → Prop} (ht : P.underlying t = some (.slice e)) (hc : P.cellsOf e = k) (hk : 0 < k) (hb : P.bytesOf e = bb) (he : RdR P W e k G) :
    Rd1 P W t fun c => ∃ rows, c = .sl k rows ∧ (∀ r ∈ rows, G r) ∧ rows.length * bb ≤ reachBytes := by
  intro H enc fuel cs d ps h hw
  rcases Go.Deep.open_slice ht h with ⟨rfl, hx⟩ | ⟨a, len, cap, m, n, D, Pl, rfl, _, hl, hm, hmm, hx, hel⟩
  · exact ⟨.sl k [], _, rfl, .sl0 _ _ _, rfl, [], rfl, fun r hr => by (cases hr), by simp⟩
  simp only [Prod.mk.injEq] at hx
  obtain ⟨rfl, rfl⟩ := hx
  simp only [if_true] at hmm
  subst hmm
  have hlen : len * bb ≤ reachBytes := by
    have := hw ((((List.range len).map D).length + ((List.range (m - len)).map fun j => D (len + j)).length) * P.bytesOf e) (by simp [DataW.weights, ht])
    rw [hb] at this
    simp only [List.length_map, List.length_range] at this
    have h2 : len * bb ≤ (len + (m - len)) * bb := Nat.mul_le_mul_right _ (by omega)
    omega
  have hrow : ∀ i, i < len → ∃ row : List C, row.length = k ∧ G row ∧ ∃ cs' : List Value, cs'.length = k ∧ (∀ j, j < k → W.cell? (a.add (i * k + j)) = cs'[j]?) ∧ ∀ j (h : j < row.length) (h' : j < cs'.length), CR (immW W) W row[j] cs'[j] ∧ cs'[j].oneCell' = true := fun i hi => by
    obtain ⟨cs', h1, h2⟩ := hel i (by omega)
    rw [hc] at h1
    obtain ⟨_, h3, h4⟩ := World.cells?_some h1
    obtain ⟨row, g1, g2, g3, g4⟩ := he H enc n cs' _ _ h2 fun x hx => hw x (by
      have : D i ∈ (List.range len).map D := List.mem_map_of_mem (by simpa using hi)
      simp only [DataW.weights, ht]
      exact List.mem_cons_of_mem _ (List.mem_append_left _ (weightsAll_mem this hx)))
    refine ⟨row, g1, g4, cs', h3, fun j hj => ?_, g3⟩
    rw [← h4 j hj, Go.Deep.add_add]
  cases hlz : len with
  | zero =>
    subst hlz
    exact ⟨.sl k [], _, rfl, .sl0 _ _ _, rfl, [], rfl, fun r hr => by (cases hr), by simp⟩
  | succ len' =>
    rw [← hlz]
    have hpos : 0 < len := by omega
    obtain ⟨R, hR⟩ := Go.Deep.choose_lt hrow
    obtain ⟨_, _, cs0, q1, q2, _⟩ := hR 0 hpos
    have hc0 := q2 0 hk
    rw [List.getElem?_eq_getElem (by omega)] at hc0
    obtain ⟨b, o, sp⟩ := a
    have h00 : (Addr.mk b o sp).add (0 * k + 0) = Addr.mk b o sp := by simp [Addr.add]
    rw [h00] at hc0
    obtain ⟨hbl, hspot⟩ := cell_lt hc0
    simp only at hbl hspot
    subst hspot
    have hadd : ∀ n, (Addr.mk b o none).add n = ⟨b, o + n, none⟩ := fun n => by
      unfold Addr.add; split
      · rename_i h0; subst h0; rfl
      · rfl
    refine ⟨.sl k ((List.range len).map R), .slice (some ⟨b, o, none⟩) len m, rfl, ?_, rfl, _, rfl, fun r hr => ?_, by simpa using hlen⟩
    · have hll : ((List.range len).map R).length = len := by simp
      have := CR.sl (imm := immW W) (w := W) k ((List.range len).map R) b o m (fun i j => (W.cell? ⟨b, o + i * k + j, none⟩).getD undef) hbl (by rw [hll]; exact hl) (fun i hi => by
        rw [hll] at hi
        simpa using (hR i hi).1) (fun i j hi hj => by
        rw [hll] at hi
        obtain ⟨r1, _, cs', q1, q2, q3⟩ := hR i hi
        have h9 := q2 j hj
        rw [hadd, ← Nat.add_assoc, List.getElem?_eq_getElem (by omega)] at h9
        rw [h9]
        exact ⟨rfl, (q3 j (by omega) (by omega)).2⟩) (fun i hi j hj => by
        have hi' := hi
        rw [hll] at hi'
        obtain ⟨r1, _, cs', q1, q2, q3⟩ := hR i hi'
        simp only [List.getElem_map, List.getElem_range] at hj ⊢
        have h9 := q2 j (by omega)
        rw [hadd, ← Nat.add_assoc, List.getElem?_eq_getElem (by omega)] at h9
        rw [h9]
        exact (q3 j hj (by omega)).1)
      rw [hll] at this
      exact this
    · obtain ⟨i, hi, rfl⟩ := List.mem_map.1 hr
      exact (hR i (by simpa using hi)).2.1

def All2 : List (C → Prop) → List C → Prop
  | [], [] => True
  | G :: Gs, c :: row => G c ∧ All2 Gs row
  | _, _ => False

/-- Fields of one cell each. -/
def FieldsOK (P : Program) (W : World) : Nat → List Field → List (C → Prop) → Prop
  | _, [], [] => True
  | n, f :: fs, G :: Gs => f.offset = n ∧ P.cellsOf f.type = 1 ∧ Rd1 P W f.type G ∧ FieldsOK P W (n + 1) fs Gs
  | _, _, _ => False

theorem fields_rd {W : World} {H : Type} {enc : TypeId × Value → H} {fuel : Nat} {cs : List Value} : ∀ {l : List Field} {n : Nat} {Gs : List (C → Prop)} {xs : List (DataW H × List MemPlace)}, FieldsOK P W n l Gs →
    xs.length = l.length → (∀ (i : Nat) (f : Field), l[i]? = some f → DataW.trod enc P W 0 (fun _ => true) true fuel f.type ((cs.drop f.offset).take (P.cellsOf f.type)) = xs[i]?) → (∀ x ∈ DataW.weightsEach P (l.map (·.type)) (xs.map (·.1)), x ≤ reachBytes) →
    ∃ row : List C, row.length = l.length ∧ All2 Gs row ∧ n + row.length ≤ max n cs.length ∧ ∀ j (h : j < row.length) (h' : n + j < cs.length), CR (immW W) W row[j] cs[n + j] ∧ cs[n + j].oneCell' = true := by
  intro l
  induction l with
  | nil =>
    intro n Gs xs hf _ h _
    cases Gs with
    | nil => exact ⟨[], rfl, trivial, by simp; omega, fun j h => by simp at h⟩
    | cons G Gs => exact hf.elim
  | cons f l ih =>
    intro n Gs xs hf hxl h hw
    cases Gs with
    | nil => exact hf.elim
    | cons G Gs =>
      obtain ⟨ho, hc, hr, hrest⟩ := hf
      cases xs with
      | nil => simp at hxl
      | cons x xs' =>
      have hx := h 0 f rfl
      have hxs : ∀ (i : Nat) (f : Field), l[i]? = some f → DataW.trod enc P W 0 (fun _ => true) true fuel f.type ((cs.drop f.offset).take (P.cellsOf f.type)) = xs'[i]? := fun i g hg => by simpa using h (i + 1) g (by simpa using hg)
      simp only [List.getElem?_cons_zero] at hx
      rw [ho, hc] at hx
      simp only [List.map_cons, DataW.weightsEach] at hw
      obtain ⟨c, v, e, g1, g2, g3⟩ := hr H enc fuel _ _ _ hx fun y hy => hw y (List.mem_append_left _ hy)
      obtain ⟨row, r1, r2, r3, r4⟩ := ih hrest (by simpa using hxl) hxs fun y hy => hw y (List.mem_append_right _ hy)
      have hn : n < cs.length := by
        rcases Nat.lt_or_ge n cs.length with h9 | h9
        · exact h9
        · rw [List.drop_eq_nil_of_le h9] at e; cases e
      have hv : cs[n] = v := by
        rw [List.drop_eq_getElem_cons hn, List.take_succ_cons, List.take_zero] at e
        simpa using e
      refine ⟨c :: row, by simp [r1], ⟨g3, r2⟩, by simp only [List.length_cons]; omega, fun j h h' => ?_⟩
      cases j with
      | zero => simp only [Nat.add_zero, List.getElem_cons_zero, hv]; exact ⟨g1, g2⟩
      | succ j =>
        have e2 : n + 1 + j = n + (j + 1) := by omega
        have := r4 j (by simpa using h) (by omega)
        simp only [e2] at this
        simpa using this

theorem rd_struct {W : World} {t : TypeId} {fs : Array Field} {k : Nat} {Gs : List (C → Prop)} (ht : P.underlying t = some (.struct fs)) (hc : P.cellsOf t = k) (hk : fs.size = k) (hf : FieldsOK P W 0 fs.toList Gs) : RdR P W t k (All2 Gs) := by
  intro H enc fuel cs d ps h hw
  obtain ⟨xs, n, _, hx, hl, hxl, hxs⟩ := DataW.trod_struct ht h
  simp only [Prod.mk.injEq] at hx
  obtain ⟨rfl, rfl⟩ := hx
  obtain ⟨row, r1, r2, r3, r4⟩ := fields_rd hf (by simpa using hxl) (fun i f hi => hxs i f (by simpa using hi)) fun x hx => hw x (by simpa [DataW.weights, ht] using hx)
  have hrl : row.length = k := by rw [r1]; simpa using hk
  refine ⟨row, hrl, hl.trans hc, fun j h h' => ?_, r2⟩
  have := r4 j h (by omega)
  simpa using this

theorem map_of_rows {α : Type} {f : α → List C} {ok : α → Prop} : ∀ {rows : List (List C)}, (∀ r ∈ rows, ∃ g, r = f g ∧ ok g) → ∃ l : List α, rows = l.map f ∧ ∀ g ∈ l, ok g := by
  intro rows
  induction rows with
  | nil => exact fun _ => ⟨[], rfl, fun g h => by cases h⟩
  | cons r rows ih =>
    intro h
    obtain ⟨g, hg, ho⟩ := h r (List.mem_cons_self ..)
    obtain ⟨l, hl, hs⟩ := ih fun x hx => h x (List.mem_cons_of_mem _ hx)
    refine ⟨g :: l, by rw [hg, hl]; rfl, fun x hx => ?_⟩
    rcases List.mem_cons.1 hx with rfl | hx
    · exact ho
    · exact hs x hx
end Go.Lift
