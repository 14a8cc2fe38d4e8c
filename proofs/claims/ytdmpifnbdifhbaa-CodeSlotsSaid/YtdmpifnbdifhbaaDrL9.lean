/- Structs and slices built, append, min and max at data level. -/
import Derived.Test.YtdmpifnbdifhbaaDrL8
import Derived.Laws.Append
namespace Go.Lift
variable {P : Program}

/-! ### an object's place is taken by another one's -/
def killμ (μ : Nat → Slot) : Option Nat → Nat → Slot
  | none => μ
  | some i => upd μ i .dead

def effMove (ki : Option Nat) (nid : Nat) (ob : Ob) : List (Nat × Option Ob) := match ki with
  | none => [(nid, some ob)]
  | some i => [(i, none), (nid, some ob)]

theorem killμ_live {μ : Nat → Slot} {ki : Option Nat} {j : Nat} {l : Loc} (h : killμ μ ki j = .live l) : μ j = .live l ∧ ki ≠ some j := by
  cases ki with
  | none => exact ⟨h, by simp⟩
  | some i =>
    simp only [killμ, upd] at h
    split at h
    · cases h
    · rename_i hne; exact ⟨h, fun e => hne (Option.some.inj e).symm⟩

theorem killμ_ne {μ : Nat → Slot} {ki : Option Nat} {j : Nat} (h : ki ≠ some j) : killμ μ ki j = μ j := by
  cases ki with
  | none => rfl
  | some i => simp only [killμ, upd]; rw [if_neg (fun e => h (by rw [e]))]

section move
variable {s : St} {f : Nat → Option Ob} {ki : Option Nat} {nid : Nat} {lc : Loc} {w' : World}
theorem ext_move (hf : s.μ nid = .free) (hk : ∀ i, ki = some i → ∃ l, s.μ i = .live l)
    (hh : ∀ c, c < s.w.heap.size → (∀ i l y, ki = some i → s.μ i = .live l → l.base ≠ some (c, y)) → w'.heap[c]? = s.w.heap[c]?) (hs : s.w.heap.size ≤ w'.heap.size)
    (hl : ∀ b x, lc.base = some (b, x) → b < w'.heap.size ∧ ((∃ i l y, ki = some i ∧ s.μ i = .live l ∧ l.base = some (b, y)) ∨ s.w.heap.size ≤ b))
    (ht : w'.tape = s.w.tape) (ho : w'.os = s.w.os) (hp : w'.output = s.w.output) : Ext s ⟨upd (killμ s.μ ki) nid (.live lc), s.vis, w'⟩ where
  live j lj hj := by
    have hne : j ≠ nid := fun e => by subst e; rw [hf] at hj; cases hj
    show upd _ nid _ j = _ ∨ upd _ nid _ j = _
    rw [upd_ne _ _ hne]
    by_cases hki : ki = some j
    · subst hki; right; simp [killμ, upd]
    · left; rw [killμ_ne hki]; exact hj
  dead j hj := by
    have hne : j ≠ nid := fun e => by subst e; rw [hf] at hj; cases hj
    show upd _ nid _ j = _
    rw [upd_ne _ _ hne]
    by_cases hki : ki = some j
    · obtain ⟨l, hl⟩ := hk j hki; rw [hj] at hl; cases hl
    · rw [killμ_ne hki]; exact hj
  keep b hb hn := by
    refine ⟨?_, hh b hb fun i l y _ h1 h2 => hn ⟨i, l, y, h1, h2⟩⟩
    rintro ⟨j, lj, oj, h1, h2⟩
    replace h1 : upd (killμ s.μ ki) nid (.live lc) j = .live lj := h1
    by_cases hji : j = nid
    · subst hji
      simp only [upd_same, Slot.live.injEq] at h1
      subst h1
      rcases (hl b oj h2).2 with ⟨i, l, y, _, h3, h4⟩ | h3
      · exact hn ⟨i, l, y, h3, h4⟩
      · omega
    · rw [upd_ne _ _ hji] at h1
      exact hn ⟨j, lj, oj, (killμ_live h1).1, h2⟩
  vis := rfl
  size := hs
  tape := ht
  os := ho
  output := hp

theorem hr_move {ob : Ob} (hr : HR s f) (hf : s.μ nid = .free) (hk : ∀ i, ki = some i → ∃ l, s.μ i = .live l)
    (hh : ∀ c, c < s.w.heap.size → (∀ i l y, ki = some i → s.μ i = .live l → l.base ≠ some (c, y)) → w'.heap[c]? = s.w.heap[c]?) (hs : s.w.heap.size ≤ w'.heap.size)
    (hl : ∀ b x, lc.base = some (b, x) → b < w'.heap.size ∧ ((∃ i l y, ki = some i ∧ s.μ i = .live l ∧ l.base = some (b, y)) ∨ s.w.heap.size ≤ b))
    (he : Ext s ⟨upd (killμ s.μ ki) nid (.live lc), s.vis, w'⟩) (hor : OR ⟨upd (killμ s.μ ki) nid (.live lc), s.vis, w'⟩ ob lc) :
    HR ⟨upd (killμ s.μ ki) nid (.live lc), s.vis, w'⟩ (upf f (effMove ki nid ob)) := by
  have hkn : ki ≠ some nid := fun e => by obtain ⟨l, hl⟩ := hk nid e; rw [hf] at hl; cases hl
  have hupf : ∀ j, upf f (effMove ki nid ob) j = if j = nid then some ob else if ki = some j then none else f j := fun j => by
    cases ki with
    | none => rw [effMove, upf_one]; by_cases h : j = nid <;> simp [h]
    | some i =>
      have hin : i ≠ nid := fun e => hkn (by rw [e])
      unfold upf effMove
      by_cases h : j = i
      · subst h; simp [List.lookup, hin]
      · have h1 : (j == i) = false := by simpa using h
        by_cases h2 : j = nid
        · subst h2; simp [List.lookup, h1]
        · have h3 : (j == nid) = false := by simpa using h2
          simp [List.lookup, h1, h3, h2, Ne.symm h]
  have hμ : ∀ j, j ≠ nid → (upd (killμ s.μ ki) nid (.live lc)) j = killμ s.μ ki j := fun j h => upd_ne _ _ h
  have hblk : ∀ j lj b x, j ≠ nid → ki ≠ some j → s.μ j = .live lj → lj.base = some (b, x) → w'.heap[b]? = s.w.heap[b]? := fun j lj b x _ h2 h3 h4 =>
    hh b (hr.lt j lj b x h3 h4) fun i l y e1 e2 e3 => h2 (by rw [e1, hr.sep i j l lj b y x e2 h3 e3 h4])
  refine ⟨fun j oj hj => ?_, fun j lj hj => ?_, fun j lj b x hj hx => ?_, fun j lj b x hj hx => ?_, fun b hb => hr.fut b (Nat.le_trans hs hb), fun j j' lj lj' b x x' h1 h2 h3 h4 => ?_⟩
  · rw [hupf] at hj
    by_cases hjn : j = nid
    · subst hjn
      rw [if_pos rfl] at hj
      cases hj
      exact ⟨lc, upd_same _ _ _, hor⟩
    · rw [if_neg hjn] at hj
      split at hj
      · cases hj
      · rename_i hki
        obtain ⟨lj, h1, h2⟩ := hr.obj j oj hj
        exact ⟨lj, by show upd _ _ _ j = _; rw [hμ j hjn, killμ_ne hki]; exact h1, h2.mono he fun b x hx => hblk j lj b x hjn hki h1 hx⟩
  · rw [hupf]
    by_cases hjn : j = nid
    · exact ⟨ob, by rw [if_pos hjn]⟩
    · replace hj : upd (killμ s.μ ki) nid (.live lc) j = .live lj := hj
      rw [hμ j hjn] at hj
      obtain ⟨h1, h2⟩ := killμ_live hj
      obtain ⟨o, ho⟩ := hr.non j lj h1
      exact ⟨o, by rw [if_neg hjn, if_neg h2]; exact ho⟩
  · replace hj : upd (killμ s.μ ki) nid (.live lc) j = .live lj := hj
    by_cases hjn : j = nid
    · subst hjn
      rw [upd_same] at hj
      cases hj
      exact (hl b x hx).1
    · rw [hμ j hjn] at hj
      exact Nat.lt_of_lt_of_le (hr.lt j lj b x (killμ_live hj).1 hx) hs
  · show s.vis b
    replace hj : upd (killμ s.μ ki) nid (.live lc) j = .live lj := hj
    by_cases hjn : j = nid
    · subst hjn
      rw [upd_same] at hj
      cases hj
      rcases (hl b x hx).2 with ⟨i, l, y, _, h3, h4⟩ | h3
      · exact hr.own i l b y h3 h4
      · exact hr.fut b h3
    · rw [hμ j hjn] at hj
      exact hr.own j lj b x (killμ_live hj).1 hx
  · replace h1 : upd (killμ s.μ ki) nid (.live lc) j = .live lj := h1
    replace h2 : upd (killμ s.μ ki) nid (.live lc) j' = .live lj' := h2
    have key : ∀ j lj x, upd (killμ s.μ ki) nid (.live lc) j = .live lj → lj.base = some (b, x) → (j = nid ∧ ((∃ i l y, ki = some i ∧ s.μ i = .live l ∧ l.base = some (b, y)) ∨ s.w.heap.size ≤ b)) ∨ (j ≠ nid ∧ s.μ j = .live lj ∧ ki ≠ some j) := fun j lj x hj hx => by
      by_cases hjn : j = nid
      · subst hjn
        rw [upd_same] at hj
        cases hj
        exact .inl ⟨rfl, (hl b x hx).2⟩
      · rw [hμ j hjn] at hj
        obtain ⟨g1, g2⟩ := killμ_live hj
        exact .inr ⟨hjn, g1, g2⟩
    have clash : ∀ j lj x, s.μ j = .live lj → ki ≠ some j → lj.base = some (b, x) → ((∃ i l y, ki = some i ∧ s.μ i = .live l ∧ l.base = some (b, y)) ∨ s.w.heap.size ≤ b) → False := fun j lj x g1 g2 g3 g4 => by
      rcases g4 with ⟨i, l, y, k1, k2, k3⟩ | g4
      · exact g2 (by rw [k1, hr.sep i j l lj b y x k2 g1 k3 g3])
      · have := hr.lt j lj b x g1 g3; omega
    rcases key j lj x h1 h3 with ⟨e1, e2⟩ | ⟨e1, e2, e3⟩ <;> rcases key j' lj' x' h2 h4 with ⟨g1, g2⟩ | ⟨g1, g2, g3⟩
    · rw [e1, g1]
    · exact (clash j' lj' x' g2 g3 h4 e2).elim
    · exact (clash j lj x e2 e3 h3 g2).elim
    · exact hr.sep j j' lj lj' b x x' e2 g2 h3 h4

theorem free_move : ∀ j, s.μ j = .free → j ∉ [nid] → (∀ i, ki = some i → ∃ l, s.μ i = .live l) → (⟨upd (killμ s.μ ki) nid (.live lc), s.vis, w'⟩ : St).μ j = .free := fun j hj hn hk => by
  show upd _ nid _ j = _
  rw [upd_ne _ _ (by simpa using hn), killμ_ne (fun e => by obtain ⟨l, hl⟩ := hk j e; rw [hj] at hl; cases hl)]
  exact hj
end move

/-! ### append -/
def srcRows (H : Nat → Option Ob) (sz : Nat) : V → Option (List (List C) × List Nat)
  | .c (.sl k rows) => match eqN k sz with
    | true => some (rows, [])
    | false => none
  | .c (.v (.slice none 0 0)) => some ([], [])
  | .c (.v (.string ⟨⟨l⟩⟩)) => match eqN 1 sz with
    | true => some (l.map byteRow, [])
    | false => none
  | .hz => some ([], [])
  | .hw i => match H i with
    | some (.co k rows) => match eqN k sz with
      | true => some (rows, [i])
      | false => none
    | _ => none
  | .hs i off len => match H i with
    | some (.co k rows) => match eqN k sz with
      | true => some ((rows.drop off).take len, [i])
      | false => none
    | _ => none
  | _ => none

/-- The slice that is appended to: its object; none: it has no room. -/
def baseOf : V → Option (Option Nat)
  | .c (.v (.slice none 0 0)) => some none
  | .hz => some none
  | .hw i => some (some i)
  | .hs i _ _ => some (some i)
  | _ => none

def catR : Option Nat → List (List C) → List (List C) → List (List C)
  | none, _, y => y
  | some _, x, y => x ++ y

def eAppend (T : TT) (ρ : Operand → Option V) (t : TypeId) (x y : Operand) (H : Nat → Option Ob) (nid : Nat) (q : List Orc) : Option Out :=
  match T t with
  | some ti => match ti.d with
    | .slice e => match T e with
      | some ⟨_, sz, by' + 1, z, _⟩ => match z.cells.toList.all Value.oneCell' && eqN z.cells.size sz with
        | true => match ρ x with
          | some u => match baseOf u with
            | some ki => match srcRows H sz u with
              | some (rx, d1) => match ρ y with
                | some v => match srcRows H sz v with
                  | some (ry, d2) => some ⟨⟨.hw nid, effMove ki nid (.co sz (catR ki rx ry)), d1 ++ d2, [nid]⟩, [(catR ki rx ry).length * (by' + 1) ≤ 140737488355328], q⟩
                  | none => none
                | none => none
              | none => none
            | none => none
          | none => none
        | false => none
      | _ => none
    | _ => none
  | none => none

/-- What an appended slice or string is good for. -/
theorem src_ok {s : St} {f H : Nat → Option Ob} (hr : HR s f) {sz : Nat} {v : V} {rows : List (List C)} {rds : List Nat} (h : srcRows H sz v = some (rows, rds)) (hf : ∀ i ∈ rds, f i = H i) {x : Value} (hx : VR s v x) :
    (∀ w', (Builtin.lenOf x).run P w' = .ok rows.length w') ∧ (∀ r (hr : r < rows.length), rows[r].length = sz) ∧
    ∃ news : Array Value, (∀ w', w'.heap = s.w.heap → (Builtin.firstCells sz rows.length x).run P w' = .ok news w') ∧ news.size = rows.length * sz ∧ (∀ j (h : j < news.size), news[j].oneCell' = true) ∧
      ∀ r (hr : r < rows.length) c (hc : c < rows[r].length) (hj : r * sz + c < news.size), SCR s (rows[r][c]) news[r * sz + c] := by
  have emp : ∀ (x : Value) (ad : Option Addr) (cap : Nat), x = .slice ad 0 cap → (∀ w', (Builtin.lenOf x).run P w' = .ok 0 w') ∧ ∀ w', (Builtin.firstCells sz 0 x).run P w' = .ok #[] w' := fun x ad cap hx => by
    subst hx
    refine ⟨fun _ => rfl, fun w' => ?_⟩
    cases ad with
    | none => rfl
    | some a => simp [Builtin.firstCells, loadCells, loadCellsFrom]
  have empty : ∀ (ad : Option Addr) (cap : Nat), x = .slice ad 0 cap → rows = [] → (∀ w', (Builtin.lenOf x).run P w' = .ok rows.length w') ∧ (∀ r (hr : r < rows.length), rows[r].length = sz) ∧
      ∃ news : Array Value, (∀ w', w'.heap = s.w.heap → (Builtin.firstCells sz rows.length x).run P w' = .ok news w') ∧ news.size = rows.length * sz ∧ (∀ j (h : j < news.size), news[j].oneCell' = true) ∧
      ∀ r (hr : r < rows.length) c (hc : c < rows[r].length) (hj : r * sz + c < news.size), SCR s (rows[r][c]) news[r * sz + c] := fun ad cap h1 h2 => by
    subst h2
    obtain ⟨e1, e2⟩ := emp x ad cap h1
    exact ⟨e1, fun r hr => by simp at hr, #[], fun w' _ => e2 w', by simp, fun j h => by simp at h, fun r hr => by simp at hr⟩
  have full : ∀ (b o n cap : Nat) (g : Nat → Nat → Value), x = .slice (some ⟨b, o, none⟩) n cap → n = rows.length → (∀ r (hr : r < rows.length), rows[r].length = sz) →
      (∀ r c, r < rows.length → c < sz → s.w.cell? ⟨b, o + r * sz + c, none⟩ = some (g r c) ∧ (g r c).oneCell' = true) → (∀ r (hr : r < rows.length) c (hc : c < rows[r].length), SCR s (rows[r][c]) (g r c)) →
      (∀ w', (Builtin.lenOf x).run P w' = .ok rows.length w') ∧ (∀ r (hr : r < rows.length), rows[r].length = sz) ∧
      ∃ news : Array Value, (∀ w', w'.heap = s.w.heap → (Builtin.firstCells sz rows.length x).run P w' = .ok news w') ∧ news.size = rows.length * sz ∧ (∀ j (h : j < news.size), news[j].oneCell' = true) ∧
      ∀ r (hr : r < rows.length) c (hc : c < rows[r].length) (hj : r * sz + c < news.size), SCR s (rows[r][c]) news[r * sz + c] := fun b o n cap g h1 h2 h3 h4 h5 => by
    subst h2
    have hdm : ∀ j, j < rows.length * sz → j / sz < rows.length ∧ j % sz < sz ∧ j / sz * sz + j % sz = j := fun j hj => by
      have hsz : 0 < sz := by
        rcases Nat.eq_zero_or_pos sz with h | h
        · subst h; simp at hj
        · exact h
      exact ⟨Nat.div_lt_of_lt_mul (by rw [Nat.mul_comm]; exact hj), Nat.mod_lt _ hsz, Nat.div_add_mod' j sz⟩
    refine ⟨fun w' => by rw [h1]; rfl, h3, rowArr (fun j => g (j / sz) (j % sz)) (rows.length * sz), fun w' hw => ?_, by rw [rowArr_size], fun j h => ?_, fun r hr c hc hj => ?_⟩
    · rw [h1]
      refine run_loadCells fun j hj => ?_
      obtain ⟨k1, k2, k3⟩ := hdm j hj
      have := (h4 _ _ k1 k2).1
      rw [Nat.add_assoc, k3] at this
      have e : w'.cell? ⟨b, o + j, none⟩ = s.w.cell? ⟨b, o + j, none⟩ := by simp [World.cell?, hw]
      rw [e]
      exact this
    · rw [rowArr_get]
      rw [rowArr_size] at h
      obtain ⟨k1, k2, _⟩ := hdm j h
      exact (h4 _ _ k1 k2).2
    · rw [rowArr_get]
      have hc' : c < sz := by rw [← h3 r hr]; exact hc
      have e1 : (r * sz + c) / sz = r := by
        rw [Nat.add_comm, Nat.add_mul_div_right _ _ (by omega), Nat.div_eq_of_lt hc', Nat.zero_add]
      have e2 : (r * sz + c) % sz = c := by rw [Nat.add_comm, Nat.add_mul_mod_self_right, Nat.mod_eq_of_lt hc']
      rw [e1, e2]
      exact h5 r hr c hc
  unfold srcRows at h
  split at h
  · rename_i k rows'
    split at h
    case h_2 => cases h
    rename_i hk
    have hk' : k = sz := Nat.eq_of_beq_eq_true hk
    subst hk'
    cases h
    cases hx with
    | c _ _ hx =>
      cases hx with
      | sl0 _ ad cap => exact empty ad cap rfl rfl
      | sl _ _ b o cap g g1 g2 g3 g4 g5 => exact full b o _ cap g rfl rfl g3 g4 g5
  · cases h
    exact empty none 0 hx.raw rfl
  · rename_i l
    split at h
    case h_2 => cases h
    rename_i hk
    have hk' : 1 = sz := Nat.eq_of_beq_eq_true hk
    subst hk'
    cases h
    have := hx.raw
    subst this
    refine ⟨fun w' => by simp [Builtin.lenOf]; rfl, fun r hr => by simp [byteRow], (⟨l⟩ : Array UInt8).map (fun (b : UInt8) => Value.int IntKind.u8 b.toNat), fun w' _ => ?_, by simp, fun j h => by simp [Value.oneCell'], fun r hr c hc hj => ?_⟩
    · simp only [Builtin.firstCells, Sem.run_pure, List.length_map]
      congr 2
      apply Array.ext'
      simp [ByteArray.data_extract]
    · have hc0 : c = 0 := by simp [byteRow] at hc; exact hc
      subst hc0
      simp only [List.length_map] at hr
      simp [byteRow]
      exact .v _
  · cases h
    cases hx with
    | hz ad => exact empty ad 0 rfl rfl
  · rename_i i
    split at h
    case h_2 => cases h
    rename_i k rows' hob
    split at h
    case h_2 => cases h
    rename_i hk
    have hk' : k = sz := Nat.eq_of_beq_eq_true hk
    subst hk'
    cases h
    have hfi := hf i (by simp)
    rw [hob] at hfi
    obtain ⟨l, g1, g2⟩ := hr.obj i _ hfi
    cases g2 with
    | co0 _ _ h =>
      cases hx with
      | hw _ cap l' k1 => rw [g1] at k1; cases k1; exact empty _ cap rfl h
      | hw0 _ ad => exact empty ad 0 rfl h
      | dw _ _ k1 => rw [g1] at k1; cases k1
    | co _ _ b o cs tt fz cmax c1 c2 c3 c4 c5 c6 =>
      cases hx with
      | hw _ cap l' k1 k2 k3 =>
        rw [g1] at k1; cases k1
        have hin : ∀ r c, r < rows.length → c < k → o + r * k + c < cs.size := fun r c h1 h2 => by
          have : (r + 1) * k ≤ cmax * k := Nat.mul_le_mul_right _ (by omega)
          rw [Nat.add_mul, Nat.one_mul] at this
          omega
        refine full b o _ cap (fun r c => cs.getD (o + r * k + c) undef) rfl rfl c5 (fun r c h1 h2 => ?_) fun r h1 c h2 => ?_
        · have := hin r c h1 h2
          rw [cell_of_heap c1]
          simp [this, c2.2 _ this]
        · have := hin r c h1 (by rw [← c5 r h1]; exact h2)
          have h3 := c6 r h1 c h2 this
          simpa [Array.getD_eq_getD_getElem?, this] using h3
      | hw0 _ ad l' k1 k2 => rw [g1] at k1; cases k1; exact empty ad 0 rfl (List.eq_nil_of_length_eq_zero k2)
      | dw _ _ k1 => rw [g1] at k1; cases k1
  · rename_i i off len
    split at h
    case h_2 => cases h
    rename_i k rows' hob
    split at h
    case h_2 => cases h
    rename_i hk
    have hk' : k = sz := Nat.eq_of_beq_eq_true hk
    subst hk'
    cases h
    have hfi := hf i (by simp)
    rw [hob] at hfi
    obtain ⟨l, g1, g2⟩ := hr.obj i _ hfi
    cases g2 with
    | co0 _ _ h =>
      subst h
      cases hx with
      | hs _ _ _ cap l' k1 k2 k3 k4 =>
        rw [g1] at k1; cases k1
        have h0 : len = 0 := by simp at k4; omega
        subst h0
        exact empty _ cap rfl (by simp)
      | hs0 _ _ ad => exact empty ad 0 rfl (by simp)
      | ds _ _ _ _ k1 => rw [g1] at k1; cases k1
    | co _ _ b o cs tt fz cmax c1 c2 c3 c4 c5 c6 =>
      cases hx with
      | hs _ _ _ cap l' k1 k2 k3 k4 =>
        rw [g1] at k1; cases k1
        simp only at k4
        have hlen : ((rows'.drop off).take len).length = len := by rw [List.length_take, List.length_drop]; omega
        have hget : ∀ r (h : r < ((rows'.drop off).take len).length), ((rows'.drop off).take len)[r] = rows'[off + r]'(by omega) := fun r h => by simp
        have hin : ∀ r c, r < rows'.length → c < k → o + r * k + c < cs.size := fun r c h1 h2 => by
          have : (r + 1) * k ≤ cmax * k := Nat.mul_le_mul_right _ (by omega)
          rw [Nat.add_mul, Nat.one_mul] at this
          omega
        refine full b (o + off * k) _ cap (fun r c => cs.getD (o + (off + r) * k + c) undef) rfl hlen.symm (fun r h => by rw [hget r h]; exact c5 _ _) (fun r c h1 h2 => ?_) fun r h1 c h2 => ?_
        · rw [hlen] at h1
          have := hin (off + r) c (by omega) h2
          have e : o + off * k + r * k + c = o + (off + r) * k + c := by rw [Nat.add_mul]; omega
          rw [cell_of_heap c1, e]
          simp [this, c2.2 _ this]
        · have h1' := h1
          rw [hlen] at h1'
          have e2 := hget r h1
          have hc5 := c5 (off + r) (by omega)
          have : ∀ (L : List C) (hL : L = rows'[off + r]'(by omega)) (hc : c < L.length), SCR s L[c] (cs.getD (o + (off + r) * k + c) undef) := fun L hL hc => by
            subst hL
            have hi := hin (off + r) c (by omega) (by omega)
            have h3 := c6 (off + r) (by omega) c hc hi
            simpa [Array.getD_eq_getD_getElem?, hi] using h3
          exact this _ e2 h2
      | hs0 _ _ ad => exact empty ad 0 rfl (by simp)
      | ds _ _ _ _ k1 => rw [g1] at k1; cases k1
  · cases h

/-- What a slice that is appended to is good for. -/
theorem base_ok {s : St} {f H : Nat → Option Ob} (hr : HR s f) {sz : Nat} {v : V} {ki : Option Nat} (hb : baseOf v = some ki) {rows : List (List C)} {rds : List Nat} (h : srcRows H sz v = some (rows, rds)) (hf : ∀ i ∈ rds, f i = H i)
    {x : Value} (hx : VR s v x) :
    (∀ i, ki = some i → ∃ l, s.μ i = .live l) ∧ ∃ ad sCap, x = .slice ad rows.length sCap ∧ (ki = none → rows = []) ∧ rows.length ≤ sCap ∧
      (sCap = 0 ∨ ∃ i l b oB o cs t fz, ki = some i ∧ s.μ i = .live l ∧ l.base = some (b, oB) ∧ ad = some ⟨b, o, none⟩ ∧ s.w.heap[b]? = some (.cells cs t fz) ∧ Clear fz cs ∧ o + sCap * sz ≤ cs.size ∧
        ∀ r (hr : r < rows.length) c (hc : c < rows[r].length) (hj : o + r * sz + c < cs.size), SCR s (rows[r][c]) cs[o + r * sz + c]) := by
  unfold baseOf at hb
  split at hb
  · cases hb
    simp only [srcRows, Option.some.injEq, Prod.mk.injEq] at h
    obtain ⟨rfl, rfl⟩ := h
    exact ⟨(fun i h => by cases h), none, 0, hx.raw, fun _ => rfl, Nat.le_refl _, .inl rfl⟩
  · cases hb
    simp only [srcRows, Option.some.injEq, Prod.mk.injEq] at h
    obtain ⟨rfl, rfl⟩ := h
    cases hx with
    | hz ad => exact ⟨(fun i h => by cases h), ad, 0, rfl, fun _ => rfl, Nat.le_refl _, .inl rfl⟩
  · rename_i i
    cases hb
    simp only [srcRows] at h
    split at h
    case h_2 => cases h
    rename_i k rows' hob
    split at h
    case h_2 => cases h
    rename_i hk
    have hk' : k = sz := Nat.eq_of_beq_eq_true hk
    subst hk'
    cases h
    have hfi := hf i (by simp)
    rw [hob] at hfi
    obtain ⟨l, g1, g2⟩ := hr.obj i _ hfi
    refine ⟨fun j h => by cases h; exact ⟨l, g1⟩, ?_⟩
    cases g2 with
    | co0 _ _ h =>
      subst h
      cases hx with
      | hw _ cap l' k1 k2 k3 => rw [g1] at k1; cases k1; exact ⟨_, cap, rfl, (fun h => by cases h), Nat.zero_le _, .inl (by simpa using k3)⟩
      | hw0 _ ad => exact ⟨ad, 0, rfl, (fun h => by cases h), Nat.le_refl _, .inl rfl⟩
      | dw _ _ k1 => rw [g1] at k1; cases k1
    | co _ _ b o cs tt fz cmax c1 c2 c3 c4 c5 c6 =>
      cases hx with
      | hw _ cap l' k1 k2 k3 =>
        rw [g1] at k1; cases k1
        refine ⟨_, cap, rfl, (fun h => by cases h), k2, .inr ⟨i, _, b, o, o, cs, tt, fz, rfl, g1, rfl, rfl, c1, c2, ?_, fun r h1 c h2 hj => c6 r h1 c h2 hj⟩⟩
        have : cap * k ≤ cmax * k := Nat.mul_le_mul_right _ k3
        omega
      | hw0 _ ad l' k1 k2 =>
        rw [g1] at k1; cases k1
        have h0 : rows = [] := List.eq_nil_of_length_eq_zero k2
        subst h0
        exact ⟨ad, 0, rfl, (fun h => by cases h), Nat.le_refl _, .inl rfl⟩
      | dw _ _ k1 => rw [g1] at k1; cases k1
  · rename_i i off len
    cases hb
    simp only [srcRows] at h
    split at h
    case h_2 => cases h
    rename_i k rows' hob
    split at h
    case h_2 => cases h
    rename_i hk
    have hk' : k = sz := Nat.eq_of_beq_eq_true hk
    subst hk'
    cases h
    have hfi := hf i (by simp)
    rw [hob] at hfi
    obtain ⟨l, g1, g2⟩ := hr.obj i _ hfi
    refine ⟨fun j h => by cases h; exact ⟨l, g1⟩, ?_⟩
    cases g2 with
    | co0 _ _ h =>
      subst h
      cases hx with
      | hs _ _ _ cap l' k1 k2 k3 k4 =>
        rw [g1] at k1; cases k1
        simp only [Nat.add_eq_zero_iff, Nat.le_zero_eq] at k3 k4
        have h0 : len = 0 := by omega
        subst h0
        exact ⟨none, cap, by simp, (fun h => by cases h), by simp, .inl (by omega)⟩
      | hs0 _ _ ad => exact ⟨ad, 0, by simp, (fun h => by cases h), by simp, .inl rfl⟩
      | ds _ _ _ _ k1 => rw [g1] at k1; cases k1
    | co _ _ b o cs tt fz cmax c1 c2 c3 c4 c5 c6 =>
      cases hx with
      | hs _ _ _ cap l' k1 k2 k3 k4 =>
        rw [g1] at k1; cases k1
        simp only at k3 k4
        have hlen : ((rows'.drop off).take len).length = len := by rw [List.length_take, List.length_drop]; omega
        have hget : ∀ r (h : r < ((rows'.drop off).take len).length), ((rows'.drop off).take len)[r] = rows'[off + r]'(by omega) := fun r h => by simp
        refine ⟨_, cap, by rw [hlen]; rfl, (fun h => by cases h), by omega, .inr ⟨i, _, b, o, o + off * k, cs, tt, fz, rfl, g1, rfl, rfl, c1, c2, ?_, fun r h1 c h2 hj => ?_⟩⟩
        · have : (off + cap) * k ≤ cmax * k := Nat.mul_le_mul_right _ k3
          rw [Nat.add_mul] at this
          omega
        · have e2 := hget r h1
          rw [hlen] at h1
          have e : o + off * k + r * k + c = o + (off + r) * k + c := by rw [Nat.add_mul]; omega
          have : ∀ (L : List C) (hL : L = rows'[off + r]'(by omega)) (hc : c < L.length), SCR s L[c] (cs[o + off * k + r * k + c]) := fun L hL hc => by
            subst hL
            have h3 := c6 (off + r) (by omega) c hc (by omega)
            simpa [e] using h3
          exact this _ e2 h2
      | hs0 _ _ ad => exact ⟨ad, 0, by simp, (fun h => by cases h), by simp, .inl rfl⟩
      | ds _ _ _ _ k1 => rw [g1] at k1; cases k1
  · cases hb

end Go.Lift
