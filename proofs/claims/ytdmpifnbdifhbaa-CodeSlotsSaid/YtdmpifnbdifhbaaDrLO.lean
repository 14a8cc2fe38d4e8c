/- Append of rows with objects. -/
import Derived.Test.YtdmpifnbdifhbaaDrLA
namespace Go.Lift
variable {P : Program}

def upR : List (List C) → Option (List (List V))
  | [] => some []
  | r :: l => match mapcF r with
    | some c => match upR l with
      | some t => some (c :: t)
      | none => none
    | none => none
theorem upR_eq {rows : List (List C)} {r : List (List V)} (h : upR rows = some r) : r = rows.map fun x => x.map .c := by
  induction rows generalizing r with
  | nil => simp [upR] at h; subst h; rfl
  | cons x l ih =>
    simp only [upR] at h
    split at h
    case h_2 => cases h
    rename_i c hc
    split at h
    case h_2 => cases h
    rename_i t ht
    cases h
    rw [ih ht, mapcF_eq hc]; rfl

def srcRowsV (H : Nat → Option Ob) (sz : Nat) (v : V) : Option (List (List V) × List Nat) :=
  match srcRows H sz v with
  | some (rows, rds) => match upR rows with
    | some r => some (r, rds)
    | none => none
  | none => match v with
    | .hw i => match H i with
      | some (.vo k rows) => match eqN k sz with
        | true => some (rows, [i])
        | false => none
      | _ => none
    | .hs i off len => match H i with
      | some (.vo k rows) => match eqN k sz with
        | true => some ((rows.drop off).take len, [i])
        | false => none
      | _ => none
    | _ => none

def catRV : Option Nat → List (List V) → List (List V) → List (List V)
  | none, _, y => y
  | some _, x, y => x ++ y
theorem catRV_eq {ki : Option Nat} {x y : List (List V)} (h : ki = none → x = []) : catRV ki x y = x ++ y := by
  cases ki with
  | none => rw [h rfl]; rfl
  | some i => rfl

theorem src_okV {s : St} {f H : Nat → Option Ob} (hr : HR s f) {sz : Nat} {v : V} {rows : List (List V)} {rds : List Nat} (h : srcRowsV H sz v = some (rows, rds)) (hf : ∀ i ∈ rds, f i = H i) {x : Value} (hx : VR s v x) :
    (∀ w', (Builtin.lenOf x).run P w' = .ok rows.length w') ∧ (∀ r (hr : r < rows.length), rows[r].length = sz) ∧
    ∃ news : Array Value, (∀ w', w'.heap = s.w.heap → (Builtin.firstCells sz rows.length x).run P w' = .ok news w') ∧ news.size = rows.length * sz ∧ (∀ j (h : j < news.size), news[j].oneCell' = true) ∧
      ∀ r (hr : r < rows.length) c (hc : c < rows[r].length) (hj : r * sz + c < news.size), VR s (rows[r][c]) news[r * sz + c] := by
  have emp : ∀ (x : Value) (ad : Option Addr) (cap : Nat), x = .slice ad 0 cap → (∀ w', (Builtin.lenOf x).run P w' = .ok 0 w') ∧ ∀ w', (Builtin.firstCells sz 0 x).run P w' = .ok #[] w' := fun x ad cap hx => by
    subst hx
    refine ⟨fun _ => rfl, fun w' => ?_⟩
    cases ad with
    | none => rfl
    | some a => simp [Builtin.firstCells, loadCells, loadCellsFrom]
  have empty : ∀ (ad : Option Addr) (cap : Nat), x = .slice ad 0 cap → rows = [] → (∀ w', (Builtin.lenOf x).run P w' = .ok rows.length w') ∧ (∀ r (hr : r < rows.length), rows[r].length = sz) ∧
      ∃ news : Array Value, (∀ w', w'.heap = s.w.heap → (Builtin.firstCells sz rows.length x).run P w' = .ok news w') ∧ news.size = rows.length * sz ∧ (∀ j (h : j < news.size), news[j].oneCell' = true) ∧
      ∀ r (hr : r < rows.length) c (hc : c < rows[r].length) (hj : r * sz + c < news.size), VR s (rows[r][c]) news[r * sz + c] := fun ad cap h1 h2 => by
    subst h2
    obtain ⟨e1, e2⟩ := emp x ad cap h1
    exact ⟨e1, fun r hr => by simp at hr, #[], fun w' _ => e2 w', by simp, fun j h => by simp at h, fun r hr => by simp at hr⟩
  have full : ∀ (b o n cap : Nat) (g : Nat → Nat → Value), x = .slice (some ⟨b, o, none⟩) n cap → n = rows.length → (∀ r (hr : r < rows.length), rows[r].length = sz) →
      (∀ r c, r < rows.length → c < sz → s.w.cell? ⟨b, o + r * sz + c, none⟩ = some (g r c) ∧ (g r c).oneCell' = true) → (∀ r (hr : r < rows.length) c (hc : c < rows[r].length), VR s (rows[r][c]) (g r c)) →
      (∀ w', (Builtin.lenOf x).run P w' = .ok rows.length w') ∧ (∀ r (hr : r < rows.length), rows[r].length = sz) ∧
      ∃ news : Array Value, (∀ w', w'.heap = s.w.heap → (Builtin.firstCells sz rows.length x).run P w' = .ok news w') ∧ news.size = rows.length * sz ∧ (∀ j (h : j < news.size), news[j].oneCell' = true) ∧
      ∀ r (hr : r < rows.length) c (hc : c < rows[r].length) (hj : r * sz + c < news.size), VR s (rows[r][c]) news[r * sz + c] := fun b o n cap g h1 h2 h3 h4 h5 => by
    subst h2
    have hdm : ∀ j, j < rows.length * sz → j / sz < rows.length ∧ j % sz < sz ∧ j / sz * sz + j % sz = j := fun j hj => by
      have hsz : 0 < sz := by
        rcases Nat.eq_zero_or_pos sz with h | h
        · subst h; simp at hj
        · exact h
      exact ⟨Nat.div_lt_of_lt_mul (by rw [Nat.mul_comm]; exact hj), Nat.mod_lt _ hsz, Nat.div_add_mod' j sz⟩
    refine ⟨fun w' => by rw [h1]; rfl, h3, rowArr (fun j => g (j / sz) (j % sz)) (rows.length * sz), fun w' hw => ?_, by rw [rowArr_size], fun j h => ?_, fun r hr c hc hj => ?_⟩
    · rw [h1]
      refine run_loadCells fun j hj => ?_
      obtain ⟨k1, k2, k3⟩ := hdm j hj
      have := (h4 _ _ k1 k2).1
      rw [Nat.add_assoc, k3] at this
      have e : w'.cell? ⟨b, o + j, none⟩ = s.w.cell? ⟨b, o + j, none⟩ := by simp [World.cell?, hw]
      rw [e]
      exact this
    · rw [rowArr_get]
      rw [rowArr_size] at h
      obtain ⟨k1, k2, _⟩ := hdm j h
      exact (h4 _ _ k1 k2).2
    · rw [rowArr_get]
      have hc' : c < sz := by rw [← h3 r hr]; exact hc
      have e1 : (r * sz + c) / sz = r := by
        rw [Nat.add_comm, Nat.add_mul_div_right _ _ (by omega), Nat.div_eq_of_lt hc', Nat.zero_add]
      have e2 : (r * sz + c) % sz = c := by rw [Nat.add_comm, Nat.add_mul_mod_self_right, Nat.mod_eq_of_lt hc']
      rw [e1, e2]
      exact h5 r hr c hc
  unfold srcRowsV at h
  split at h
  · rename_i rows' rds' hs
    split at h
    case h_2 => cases h
    rename_i r hr'
    cases h
    have e := upR_eq hr'
    subst e
    obtain ⟨g1, g2, news, g3, g4, g5, g6⟩ := src_ok (P := P) hr hs hf hx
    refine ⟨by simpa using g1, fun r hr => by simpa using g2 r (by simpa using hr), news, fun w' hw => by simpa using g3 w' hw, by simpa using g4, g5, fun r hr c hc hj => ?_⟩
    simp only [List.length_map] at hr
    have := g6 r hr c (by simpa using hc) hj
    simpa using VR.c _ _ this
  rename_i hnone
  clear hnone
  split at h
  · rename_i i
    split at h
    case h_2 => cases h
    rename_i k rows' hob
    split at h
    case h_2 => cases h
    rename_i hk
    have hk' : k = sz := Nat.eq_of_beq_eq_true hk
    subst hk'
    cases h
    have hfi := hf i (by simp)
    rw [hob] at hfi
    obtain ⟨l, g1, g2⟩ := hr.obj i _ hfi
    cases g2 with
    | vo _ _ b o cs tt fz cmax c1 c2 c3 c4 c5 c6 =>
      cases hx with
      | hw _ cap l' k1 k2 k3 =>
        rw [g1] at k1; cases k1
        have hin : ∀ r c, r < rows.length → c < k → o + r * k + c < cs.size := fun r c h1 h2 => by
          have : (r + 1) * k ≤ cmax * k := Nat.mul_le_mul_right _ (by omega)
          rw [Nat.add_mul, Nat.one_mul] at this
          omega
        refine full b o _ cap (fun r c => cs.getD (o + r * k + c) undef) rfl rfl c5 (fun r c h1 h2 => ?_) fun r h1 c h2 => ?_
        · have := hin r c h1 h2
          rw [cell_of_heap c1]
          simp [this, c2.2 _ this]
        · have := hin r c h1 (by rw [← c5 r h1]; exact h2)
          have h3 := c6 r h1 c h2 this
          simpa [Array.getD_eq_getD_getElem?, this] using h3
      | hw0 _ ad l' k1 k2 => rw [g1] at k1; cases k1; exact empty ad 0 rfl (List.eq_nil_of_length_eq_zero k2)
      | dw _ _ k1 => rw [g1] at k1; cases k1
  · rename_i i off len
    split at h
    case h_2 => cases h
    rename_i k rows' hob
    split at h
    case h_2 => cases h
    rename_i hk
    have hk' : k = sz := Nat.eq_of_beq_eq_true hk
    subst hk'
    cases h
    have hfi := hf i (by simp)
    rw [hob] at hfi
    obtain ⟨l, g1, g2⟩ := hr.obj i _ hfi
    cases g2 with
    | vo _ _ b o cs tt fz cmax c1 c2 c3 c4 c5 c6 =>
      cases hx with
      | hs _ _ _ cap l' k1 k2 k3 k4 =>
        rw [g1] at k1; cases k1
        simp only at k4
        have hlen : ((rows'.drop off).take len).length = len := by rw [List.length_take, List.length_drop]; omega
        have hget : ∀ r (h : r < ((rows'.drop off).take len).length), ((rows'.drop off).take len)[r] = rows'[off + r]'(by omega) := fun r h => by simp
        have hin : ∀ r c, r < rows'.length → c < k → o + r * k + c < cs.size := fun r c h1 h2 => by
          have : (r + 1) * k ≤ cmax * k := Nat.mul_le_mul_right _ (by omega)
          rw [Nat.add_mul, Nat.one_mul] at this
          omega
        refine full b (o + off * k) _ cap (fun r c => cs.getD (o + (off + r) * k + c) undef) rfl hlen.symm (fun r h => by rw [hget r h]; exact c5 _ _) (fun r c h1 h2 => ?_) fun r h1 c h2 => ?_
        · rw [hlen] at h1
          have := hin (off + r) c (by omega) h2
          have e : o + off * k + r * k + c = o + (off + r) * k + c := by rw [Nat.add_mul]; omega
          rw [cell_of_heap c1, e]
          simp [this, c2.2 _ this]
        · have h1' := h1
          rw [hlen] at h1'
          have e2 := hget r h1
          have hc5 := c5 (off + r) (by omega)
          have : ∀ (L : List V) (hL : L = rows'[off + r]'(by omega)) (hc : c < L.length), VR s L[c] (cs.getD (o + (off + r) * k + c) undef) := fun L hL hc => by
            subst hL
            have hi := hin (off + r) c (by omega) (by omega)
            have h3 := c6 (off + r) (by omega) c hc hi
            simpa [Array.getD_eq_getD_getElem?, hi] using h3
          exact this _ e2 h2
      | hs0 _ _ ad => exact empty ad 0 rfl (by simp)
      | ds _ _ _ _ k1 => rw [g1] at k1; cases k1
  · cases h

/-- What a slice that is appended to is good for. -/
theorem base_okV {s : St} {f H : Nat → Option Ob} (hr : HR s f) {sz : Nat} {v : V} {ki : Option Nat} (hb : baseOf v = some ki) {rows : List (List V)} {rds : List Nat} (h : srcRowsV H sz v = some (rows, rds)) (hf : ∀ i ∈ rds, f i = H i)
    {x : Value} (hx : VR s v x) :
    (∀ i, ki = some i → ∃ l, s.μ i = .live l) ∧ ∃ ad sCap, x = .slice ad rows.length sCap ∧ (ki = none → rows = []) ∧ rows.length ≤ sCap ∧
      (sCap = 0 ∨ ∃ i l b oB o cs t fz, ki = some i ∧ s.μ i = .live l ∧ l.base = some (b, oB) ∧ ad = some ⟨b, o, none⟩ ∧ s.w.heap[b]? = some (.cells cs t fz) ∧ Clear fz cs ∧ o + sCap * sz ≤ cs.size ∧
        ∀ r (hr : r < rows.length) c (hc : c < rows[r].length) (hj : o + r * sz + c < cs.size), VR s (rows[r][c]) cs[o + r * sz + c]) := by
  unfold srcRowsV at h
  split at h
  · rename_i rows' rds' hs
    split at h
    case h_2 => cases h
    rename_i r hr'
    cases h
    have e := upR_eq hr'
    subst e
    obtain ⟨g1, ad, sCap, g2, g3, g4, g5⟩ := base_ok hr hb hs hf hx
    refine ⟨g1, ad, sCap, by simpa using g2, fun h => by simp [g3 h], by simpa using g4, ?_⟩
    rcases g5 with h0 | ⟨i, l, b, oB, o, cs, tt, fz, e1, e2, e3, e4, e5, e6, e7, e8⟩
    · exact .inl h0
    · refine .inr ⟨i, l, b, oB, o, cs, tt, fz, e1, e2, e3, e4, e5, e6, e7, fun r hr c hc hj => ?_⟩
      simp only [List.length_map] at hr
      have := e8 r hr c (by simpa using hc) hj
      simpa using VR.c _ _ this
  rename_i hnone
  clear hnone
  split at h
  · rename_i i
    cases hb
    split at h
    case h_2 => cases h
    rename_i k rows' hob
    split at h
    case h_2 => cases h
    rename_i hk
    have hk' : k = sz := Nat.eq_of_beq_eq_true hk
    subst hk'
    cases h
    have hfi := hf i (by simp)
    rw [hob] at hfi
    obtain ⟨l, g1, g2⟩ := hr.obj i _ hfi
    refine ⟨fun j h => by cases h; exact ⟨l, g1⟩, ?_⟩
    cases g2 with
    | vo _ _ b o cs tt fz cmax c1 c2 c3 c4 c5 c6 =>
      cases hx with
      | hw _ cap l' k1 k2 k3 =>
        rw [g1] at k1; cases k1
        refine ⟨_, cap, rfl, (fun h => by cases h), k2, .inr ⟨i, _, b, o, o, cs, tt, fz, rfl, g1, rfl, rfl, c1, c2, ?_, fun r h1 c h2 hj => c6 r h1 c h2 hj⟩⟩
        have : cap * k ≤ cmax * k := Nat.mul_le_mul_right _ k3
        omega
      | hw0 _ ad l' k1 k2 =>
        rw [g1] at k1; cases k1
        have h0 : rows = [] := List.eq_nil_of_length_eq_zero k2
        subst h0
        exact ⟨ad, 0, rfl, (fun h => by cases h), Nat.le_refl _, .inl rfl⟩
      | dw _ _ k1 => rw [g1] at k1; cases k1
  · rename_i i off len
    cases hb
    split at h
    case h_2 => cases h
    rename_i k rows' hob
    split at h
    case h_2 => cases h
    rename_i hk
    have hk' : k = sz := Nat.eq_of_beq_eq_true hk
    subst hk'
    cases h
    have hfi := hf i (by simp)
    rw [hob] at hfi
    obtain ⟨l, g1, g2⟩ := hr.obj i _ hfi
    refine ⟨fun j h => by cases h; exact ⟨l, g1⟩, ?_⟩
    cases g2 with
    | vo _ _ b o cs tt fz cmax c1 c2 c3 c4 c5 c6 =>
      cases hx with
      | hs _ _ _ cap l' k1 k2 k3 k4 =>
        rw [g1] at k1; cases k1
        simp only at k3 k4
        have hlen : ((rows'.drop off).take len).length = len := by rw [List.length_take, List.length_drop]; omega
        have hget : ∀ r (h : r < ((rows'.drop off).take len).length), ((rows'.drop off).take len)[r] = rows'[off + r]'(by omega) := fun r h => by simp
        refine ⟨_, cap, by rw [hlen]; rfl, (fun h => by cases h), by omega, .inr ⟨i, _, b, o, o + off * k, cs, tt, fz, rfl, g1, rfl, rfl, c1, c2, ?_, fun r h1 c h2 hj => ?_⟩⟩
        · have : (off + cap) * k ≤ cmax * k := Nat.mul_le_mul_right _ k3
          rw [Nat.add_mul] at this
          omega
        · have e2 := hget r h1
          rw [hlen] at h1
          have e : o + off * k + r * k + c = o + (off + r) * k + c := by rw [Nat.add_mul]; omega
          have : ∀ (L : List V) (hL : L = rows'[off + r]'(by omega)) (hc : c < L.length), VR s L[c] (cs[o + off * k + r * k + c]) := fun L hL hc => by
            subst hL
            have h3 := c6 (off + r) (by omega) c hc (by omega)
            simpa [e] using h3
          exact this _ e2 h2
      | hs0 _ _ ad => exact ⟨ad, 0, by simp, (fun h => by cases h), by simp, .inl rfl⟩
      | ds _ _ _ _ k1 => rw [g1] at k1; cases k1
  · cases h

def noneF {α : Type} : List α → Bool
  | [] => true
  | _ :: _ => false

def eAppendV (T : TT) (ρ : Operand → Option V) (t : TypeId) (x y : Operand) (H : Nat → Option Ob) (nid : Nat) (q : List Orc) : Option Out :=
  match T t with
  | some ti => match ti.d with
    | .slice e => match T e with
      | some ⟨_, sz, by' + 1, z, _⟩ => match z.cells.toList.all Value.oneCell' && eqN z.cells.size sz with
        | true => match ρ x with
          | some u => match baseOf u with
            | some ki => match srcRowsV H sz u with
              | some (rx, d1) => match ρ y with
                | some v => match srcRowsV H sz v with
                  | some (ry, d2) => match noneF (catRV ki rx ry) with
                    | false => some ⟨⟨.hw nid, effMove ki nid (.vo sz (catRV ki rx ry)), d1 ++ d2, [nid]⟩, [(catRV ki rx ry).length * (by' + 1) ≤ 140737488355328], q⟩
                    | true => none
                  | none => none
                | none => none
              | none => none
            | none => none
          | none => none
        | false => none
      | _ => none
    | _ => none
  | none => none

theorem sound_appendV {T : TT} (hT : TTok P T) {b : Frame} {o : Oper} {t tx : TypeId} {x y : Operand} (ho : o.op = .call { callee := .builtin .append, args := #[x, y], argTypes := #[t, tx] })
    {tix : TI} (htx : T tx = some tix) (hxk : (∃ e', tix.d = .slice e') ∨ tix.d = .string)
    {ρ : Operand → Option V} {H : Nat → Option Ob} {nid : Nat} {q : List Orc} {out : Out} (he : eAppendV T ρ t x y H nid q = some out) (hobs : Obs out.obs) : Does P b o ρ H out.r := by
  have hnd : ∀ d, o.op ≠ .defer d := fun d h => by rw [ho] at h; cases h
  have mx : x ∈ o.op.operands.toList := by rw [ho]; simp [Op.operands, Call.operands]
  have my : y ∈ o.op.operands.toList := by rw [ho]; simp [Op.operands, Call.operands]
  unfold eAppendV at he
  split at he
  case h_2 => cases he
  rename_i ti hti0
  have hti := hT t ti hti0
  split at he
  case h_2 => cases he
  rename_i e hd
  split at he
  case h_2 => cases he
  rename_i d sz by' z zq hte0
  have hte := hT e _ hte0
  split at he
  case h_2 => cases he
  rename_i hz
  simp only [Bool.and_eq_true] at hz
  obtain ⟨hz1, hz2⟩ := hz
  have hz2 : z.cells.size = sz := Nat.eq_of_beq_eq_true hz2
  rw [List.all_eq_true] at hz1
  split at he
  case h_2 => cases he
  rename_i u hu
  split at he
  case h_2 => cases he
  rename_i ki hki
  split at he
  case h_2 => cases he
  rename_i rx d1 hrx
  split at he
  case h_2 => cases he
  rename_i v hv
  split at he
  case h_2 => cases he
  rename_i ry d2 hry
  split at he
  case h_2 => cases he
  rename_i hne
  cases he
  obtain ⟨hbound, _⟩ := hobs
  simp only [Pr.of] at hbound
  refine Does.of_run hnd fun s f a hr hrd hnew hop => ?_
  have hfree := hnew nid (by simp)
  have hxv := hop x mx u hu
  have hyv := hop y my v hv
  have hf1 : ∀ i ∈ d1, f i = H i := fun i hi => hrd i (List.mem_append_left _ hi)
  have hf2 : ∀ i ∈ d2, f i = H i := fun i hi => hrd i (List.mem_append_right _ hi)
  obtain ⟨hkl, ad, sCap, hxe, hkn, hcap, hloc⟩ := base_okV hr hki hrx hf1 hxv
  obtain ⟨_, hxk1, old, hold, hosz, hoone, hov⟩ := src_okV (P := P) hr hrx hf1 hxv
  obtain ⟨hlen, hyk1, news, hnews, hnsz, hnone, hnv⟩ := src_okV (P := P) hr hry hf2 hyv
  rw [catRV_eq hkn] at hbound ⊢
  rw [List.length_append] at hbound
  rw [hxe] at hold
  obtain ⟨hroom, hgrow⟩ := run_append (P := P) (w := s.w) (ty := o.type) hti hd hte (hT tx tix htx) hxk (n := ry.length) (x := a.eval y) hlen hnews hold hbound (Nat.succ_pos _)
  have hexec : ∀ v w', (Builtin.append_ #[t, tx] o.type #[.slice ad rx.length sCap, a.eval y]).run P s.w = .ok v w' → (execOp a.eval o).run P s.w = .ok (.value v) w' := fun v w' h => by
    unfold execOp
    rw [ho]
    simp [resolve, invoke, builtin, hxe, h]
  have hrowlen : ∀ r (h : r < (rx ++ ry).length), (rx ++ ry)[r].length = sz := fun r h => by
    rw [List.getElem_append]
    split
    · exact hxk1 _ _
    · exact hyk1 _ _
  by_cases hfit : rx.length + ry.length ≤ sCap
  · rcases hloc with h0 | ⟨i, l, bl, oB, oo, cs, tt, fz, e1, e2, e3, e4, e5, e6, e7, e8⟩
    · -- no room is wanted
      subst h0
      have hx0 : rx = [] := List.eq_nil_of_length_eq_zero (by omega)
      have hy0 : ry = [] := List.eq_nil_of_length_eq_zero (by omega)
      subst hx0; subst hy0
      rw [catRV_eq hkn] at hne
      cases hne
    · -- in place
      subst e4
      have hb0 : oo + rx.length * sz + 0 + news.toList.length ≤ cs.size := by
        have : (rx.length + ry.length) * sz ≤ sCap * sz := Nat.mul_le_mul_right _ hfit
        rw [Nat.add_mul] at this
        simp [hnsz]; omega
      have hnone' : ∀ v ∈ news.toList, v.oneCell' = true := fun v hv => by
        obtain ⟨j, hj, rfl⟩ := List.getElem_of_mem hv
        rw [Array.getElem_toList]
        exact hnone j (by simpa using hj)
      obtain ⟨w', g1, g2, g3, g4, g5, g6, g7⟩ := run_storeCells (P := P) news.toList (oo + rx.length * sz) 0 s.w cs e5 e6 hb0 hnone'
      have hrun := hexec _ _ (hroom hfit w' (by simp only [addr_add]; exact g1))
      let lc : Loc := ⟨some (bl, oo), sz, sCap, (rx ++ ry).length⟩
      have hkeep : ∀ c, c < s.w.heap.size → (∀ i l y, ki = some i → s.μ i = .live l → l.base ≠ some (c, y)) → w'.heap[c]? = s.w.heap[c]? := fun c _ h => g3 c fun e => h i l oB e1 e2 (by rw [e3, e])
      have hlb : ∀ b x, lc.base = some (b, x) → b < w'.heap.size ∧ ((∃ i l y, ki = some i ∧ s.μ i = .live l ∧ l.base = some (b, y)) ∨ s.w.heap.size ≤ b) := fun b x h => by
        simp only [lc, Option.some.injEq, Prod.mk.injEq] at h
        obtain ⟨rfl, rfl⟩ := h
        exact ⟨by rw [g4]; exact hr.lt i l bl oB e2 e3, .inl ⟨i, l, oB, e1, e2, e3⟩⟩
      have hext := ext_move (s := s) (ki := ki) (nid := nid) (lc := lc) (w' := w') hfree hkl hkeep (by rw [g4]; exact Nat.le_refl _) hlb g5 g6 g7
      refine ⟨_, ⟨upd (killμ s.μ ki) nid (.live lc), s.vis, w'⟩, hrun, hext, ?_, ?_, fun j h1 h2 => free_move j h1 h2 hkl⟩
      · refine hr_move hr hfree hkl hkeep (by rw [g4]; exact Nat.le_refl _) hlb hext ?_
        refine .vo sz (rx ++ ry) bl oo _ tt fz sCap (by simpa using g2) (e6.put _ hnone') (by rw [putCells_size]; exact e7) (by simpa using hfit) hrowlen fun r hr1 c hc hj => ?_
        have hj' : oo + r * sz + c < cs.size := by rw [putCells_size] at hj; exact hj
        have hcs : c < sz := by rw [hrowlen r hr1] at hc; exact hc
        have ep := putCells_get cs (oo + rx.length * sz) news.toList (oo + r * sz + c)
        rw [Array.getElem?_eq_getElem (by rw [putCells_size]; exact hj')] at ep
        by_cases hrx' : r < rx.length
        · have hlt : (r + 1) * sz ≤ rx.length * sz := Nat.mul_le_mul_right _ hrx'
          rw [Nat.add_mul, Nat.one_mul] at hlt
          rw [if_neg (by omega), Array.getElem?_eq_getElem hj'] at ep
          have e' : (rx ++ ry)[r] = rx[r] := List.getElem_append_left hrx'
          have : ∀ (L : List V) (hL : L = rx[r]) (hc : c < L.length), VR ⟨upd (killμ s.μ ki) nid (.live lc), s.vis, w'⟩ L[c] (putCells cs (oo + rx.length * sz) news.toList)[oo + r * sz + c] := fun L hL hc => by
            subst hL
            rw [Option.some.inj ep]
            exact VR.mono hext (e8 r hrx' c hc hj')
          simpa using this _ e' hc
        · have hr2 : r - rx.length < ry.length := by simp at hr1; omega
          have hmul : r * sz = rx.length * sz + (r - rx.length) * sz := by rw [← Nat.add_mul]; congr 1; omega
          have hbnd : ((r - rx.length) + 1) * sz ≤ ry.length * sz := Nat.mul_le_mul_right _ hr2
          rw [Nat.add_mul, Nat.one_mul] at hbnd
          have hidx : oo + r * sz + c - (oo + rx.length * sz) = (r - rx.length) * sz + c := by omega
          rw [if_pos (by simp [hnsz]; omega), hidx] at ep
          have hin : (r - rx.length) * sz + c < news.size := by omega
          rw [List.getElem?_eq_getElem (by simpa using hin)] at ep
          have e' : (rx ++ ry)[r] = ry[r - rx.length] := List.getElem_append_right (by omega)
          have : ∀ (L : List V) (hL : L = ry[r - rx.length]) (hc : c < L.length), VR ⟨upd (killμ s.μ ki) nid (.live lc), s.vis, w'⟩ L[c] (putCells cs (oo + rx.length * sz) news.toList)[oo + r * sz + c] := fun L hL hc => by
            subst hL
            rw [Option.some.inj ep]
            simp only [Array.getElem_toList]
            exact VR.mono hext (hnv _ hr2 c hc hin)
          simpa using this _ e' hc
      · have := VR.hw (s := ⟨upd (killμ s.μ ki) nid (.live lc), s.vis, w'⟩) nid sCap lc (upd_same _ _ _) (by simpa [lc] using hfit) (Nat.le_refl _)
        simpa [lc] using this
  · -- a new array
    obtain ⟨cap, hc1, hrun0⟩ := hgrow (by omega)
    have hrun := hexec _ _ hrun0
    let cells : Array Value := old ++ news ++ Builtin.zeroCells z.cells (cap - (rx.length + ry.length))
    let w' : World := { s.w with drawn := s.w.drawn + 1, heap := s.w.heap.push (.cells cells e) }
    let lc : Loc := ⟨some (s.w.heap.size, 0), sz, cap, (rx ++ ry).length⟩
    have hkeep : ∀ c, c < s.w.heap.size → (∀ i l y, ki = some i → s.μ i = .live l → l.base ≠ some (c, y)) → w'.heap[c]? = s.w.heap[c]? := fun c hc _ => by
      show (s.w.heap.push _)[c]? = _
      rw [Array.getElem?_push, if_neg (Nat.ne_of_lt hc)]
    have hle : s.w.heap.size ≤ w'.heap.size := by simp [w']
    have hlb : ∀ b x, lc.base = some (b, x) → b < w'.heap.size ∧ ((∃ i l y, ki = some i ∧ s.μ i = .live l ∧ l.base = some (b, y)) ∨ s.w.heap.size ≤ b) := fun b x h => by
      simp only [lc, Option.some.injEq, Prod.mk.injEq] at h
      obtain ⟨rfl, rfl⟩ := h
      exact ⟨by simp [w'], .inr (Nat.le_refl _)⟩
    have hext := ext_move (s := s) (ki := ki) (nid := nid) (lc := lc) (w' := w') hfree hkl hkeep hle hlb rfl rfl rfl
    have hzc : (Builtin.zeroCells z.cells (cap - (rx.length + ry.length))).size = (cap - (rx.length + ry.length)) * sz := by simp [Builtin.zeroCells, hz2]
    have hcsz : cells.size = cap * sz := by
      simp only [cells, Array.size_append, hosz, hnsz, hzc, ← Nat.add_mul]
      congr 1; omega
    have hone : ∀ j (h : j < cells.size), cells[j].oneCell' = true := fun j h => by
      simp only [cells, Array.getElem_append]
      split
      · split
        · exact hoone _ _
        · exact hnone _ _
      · rename_i h1 h2
        have hzs : 0 < z.cells.size := by
          rcases Nat.eq_zero_or_pos z.cells.size with h0 | h0
          · rw [hz2] at h0
            rw [h0] at hcsz
            omega
          · exact h0
        simp only [Builtin.zeroCells, Array.getElem_map, Array.getElem_range]
        have hm := Nat.mod_lt (j - (old ++ news).size) hzs
        rw [getElem!_pos z.cells _ hm]
        exact hz1 _ (by simp)
    refine ⟨_, ⟨upd (killμ s.μ ki) nid (.live lc), s.vis, w'⟩, hrun, hext, ?_, ?_, fun j h1 h2 => free_move j h1 h2 hkl⟩
    · refine hr_move hr hfree hkl hkeep hle hlb hext ?_
      refine .vo sz (rx ++ ry) s.w.heap.size 0 cells e (0, 0) cap (by simp [w']) (Clear.zero hone) (by rw [hcsz]; omega) (by simpa using hc1) hrowlen fun r hr1 c hc hj => ?_
      have hcs : c < sz := by rw [hrowlen r hr1] at hc; exact hc
      by_cases hrx' : r < rx.length
      · have hlt : (r + 1) * sz ≤ rx.length * sz := Nat.mul_le_mul_right _ hrx'
        rw [Nat.add_mul, Nat.one_mul] at hlt
        have e' : (rx ++ ry)[r] = rx[r] := List.getElem_append_left hrx'
        have hin : r * sz + c < old.size := by omega
        have ec : cells[0 + r * sz + c] = old[r * sz + c] := by
          simp only [cells, Nat.zero_add]
          rw [Array.getElem_append_left (by simp; omega), Array.getElem_append_left hin]
        rw [ec]
        have : ∀ (L : List V) (hL : L = rx[r]) (hc : c < L.length), VR ⟨upd (killμ s.μ ki) nid (.live lc), s.vis, w'⟩ L[c] old[r * sz + c] := fun L hL hc => by
          subst hL
          exact VR.mono hext (hov r hrx' c hc hin)
        exact this _ e' hc
      · have hr2 : r - rx.length < ry.length := by simp at hr1; omega
        have hmul : r * sz = rx.length * sz + (r - rx.length) * sz := by rw [← Nat.add_mul]; congr 1; omega
        have hbnd : ((r - rx.length) + 1) * sz ≤ ry.length * sz := Nat.mul_le_mul_right _ hr2
        rw [Nat.add_mul, Nat.one_mul] at hbnd
        have hin : (r - rx.length) * sz + c < news.size := by omega
        have e' : (rx ++ ry)[r] = ry[r - rx.length] := List.getElem_append_right (by omega)
        have ec : cells[0 + r * sz + c] = news[(r - rx.length) * sz + c] := by
          simp only [cells, Nat.zero_add]
          rw [Array.getElem_append_left (by simp; omega), Array.getElem_append_right (by omega)]
          congr 1; omega
        rw [ec]
        have : ∀ (L : List V) (hL : L = ry[r - rx.length]) (hc : c < L.length), VR ⟨upd (killμ s.μ ki) nid (.live lc), s.vis, w'⟩ L[c] news[(r - rx.length) * sz + c] := fun L hL hc => by
          subst hL
          exact VR.mono hext (hnv _ hr2 c hc hin)
        exact this _ e' hc
    · have := VR.hw (s := ⟨upd (killμ s.μ ki) nid (.live lc), s.vis, w'⟩) nid cap lc (upd_same _ _ _) (by simpa [lc] using hc1) (Nat.le_refl _)
      simpa [lc] using this

end Go.Lift
