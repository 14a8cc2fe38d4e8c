/- Append is right; structs and slices built; min and max. -/
import Derived.Test.YtdmpifnbdifhbaaDrL9
namespace Go.Lift
variable {P : Program}

theorem catR_eq {ki : Option Nat} {x y : List (List C)} (h : ki = none → x = []) : catR ki x y = x ++ y := by
  cases ki with
  | none => rw [h rfl]; rfl
  | some i => rfl

/-- The run of an append. -/
theorem run_append {w : World} {t tx e : TypeId} {ty : TypeId} {ti tix : TI} {sz bys : Nat} {d : TypeDesc} {z : Value} {zq : Bool} (hti : TIok P t ti) (hd : ti.d = .slice e) (hte : TIok P e ⟨d, sz, bys, z, zq⟩)
    (htx : TIok P tx tix) (hxk : (∃ e', tix.d = .slice e') ∨ tix.d = .string)
    {ad : Option Addr} {sLen sCap n : Nat} {x : Value} {old news : Array Value} (hl : ∀ w', (Builtin.lenOf x).run P w' = .ok n w') (hn : ∀ w', w'.heap = w.heap → (Builtin.firstCells sz n x).run P w' = .ok news w')
    (ho : ∀ w', w'.heap = w.heap → (Builtin.firstCells sz sLen (.slice ad sLen sCap)).run P w' = .ok old w') (hb : (sLen + n) * bys ≤ 140737488355328) (hb0 : 0 < bys) :
    (sLen + n ≤ sCap → ∀ w', (match ad with | some a => storeCells (a.add (sLen * sz)) news.toList | none => (pure () : Sem Unit)).run P w = .ok () w' →
      (Builtin.append_ #[t, tx] ty #[.slice ad sLen sCap, x]).run P w = .ok (.slice ad (sLen + n) sCap) w') ∧
    (sCap < sLen + n → ∃ cap, sLen + n ≤ cap ∧ (Builtin.append_ #[t, tx] ty #[.slice ad sLen sCap, x]).run P w =
      .ok (.slice (some ⟨w.heap.size, 0, none⟩) (sLen + n) cap) { w with drawn := w.drawn + 1, heap := w.heap.push (.cells (old ++ news ++ Builtin.zeroCells z.cells (cap - (sLen + n))) e) }) := by
  obtain ⟨ie, hie, hi1, hi2, hi3⟩ := hte.inf
  constructor
  · intro hroom w' hst
    cases ad with
    | none =>
      simp at hst
      subst hst
      rcases hxk with ⟨e', hx⟩ | hx <;> simp [Builtin.append_, hti.underlying, hd, hte.sizeOf, htx.underlying, hx, hl, hroom, hn w rfl]
    | some a =>
      simp only at hst
      rcases hxk with ⟨e', hx⟩ | hx <;> simp [Builtin.append_, hti.underlying, hd, hte.sizeOf, htx.underlying, hx, hl, hroom, hn w rfl, hst]
  · intro hgrow
    refine ⟨Question.cut (.appendCap (sLen + n) sCap e) (w.tape w.drawn (.appendCap (sLen + n) sCap e)), by simp [Question.cut], ?_⟩
    have hfits := growslice_fits hgrow hb
    have h1 : ¬ (sLen + n ≤ sCap) := by omega
    have h48 : ¬ (281474976710656 < Builtin.nextslicecap (sLen + n) sCap * bys) := by omega
    have hmul : (sLen + n) * 1 ≤ (sLen + n) * bys := Nat.mul_le_mul_left _ hb0
    have h63 : ¬ (9223372036854775807 < ((sLen : Int) + (n : Int))) := by omega
    have hb1 : bys ≠ 0 := by omega
    have hsz : (sizeOf e).run P w = .ok sz w := hte.sizeOf
    have hbi : ie.bytes = bys := hi2
    have hzz : ie.zero = some z := hi3
    rcases hxk with ⟨e', hx⟩ | hx <;> simp [Builtin.append_, hti.underlying, hd, hsz, htx.underlying, hx, hl, h1, typeInfo, zeroValue, hie, hbi, hzz, hb1, h48, hn w.drew rfl, ho w.drew rfl, newRow, Question.forced] <;> rfl

theorem sound_append {T : TT} (hT : TTok P T) {b : Frame} {o : Oper} {t tx : TypeId} {x y : Operand} (ho : o.op = .call { callee := .builtin .append, args := #[x, y], argTypes := #[t, tx] })
    {tix : TI} (htx : T tx = some tix) (hxk : (∃ e', tix.d = .slice e') ∨ tix.d = .string)
    {ρ : Operand → Option V} {H : Nat → Option Ob} {nid : Nat} {q : List Orc} {out : Out} (he : eAppend T ρ t x y H nid q = some out) (hobs : Obs out.obs) : Does P b o ρ H out.r := by
  have hnd : ∀ d, o.op ≠ .defer d := fun d h => by rw [ho] at h; cases h
  have mx : x ∈ o.op.operands.toList := by rw [ho]; simp [Op.operands, Call.operands]
  have my : y ∈ o.op.operands.toList := by rw [ho]; simp [Op.operands, Call.operands]
  unfold eAppend at he
  split at he
  case h_2 => cases he
  rename_i ti hti0
  have hti := hT t ti hti0
  split at he
  case h_2 => cases he
  rename_i e hd
  split at he
  case h_2 => cases he
  rename_i d sz by' z zq hte0
  have hte := hT e _ hte0
  split at he
  case h_2 => cases he
  rename_i hz
  simp only [Bool.and_eq_true] at hz
  obtain ⟨hz1, hz2⟩ := hz
  have hz2 : z.cells.size = sz := Nat.eq_of_beq_eq_true hz2
  rw [List.all_eq_true] at hz1
  split at he
  case h_2 => cases he
  rename_i u hu
  split at he
  case h_2 => cases he
  rename_i ki hki
  split at he
  case h_2 => cases he
  rename_i rx d1 hrx
  split at he
  case h_2 => cases he
  rename_i v hv
  split at he
  case h_2 => cases he
  rename_i ry d2 hry
  cases he
  obtain ⟨hbound, _⟩ := hobs
  simp only [Pr.of] at hbound
  refine Does.of_run hnd fun s f a hr hrd hnew hop => ?_
  have hfree := hnew nid (by simp)
  have hxv := hop x mx u hu
  have hyv := hop y my v hv
  have hf1 : ∀ i ∈ d1, f i = H i := fun i hi => hrd i (List.mem_append_left _ hi)
  have hf2 : ∀ i ∈ d2, f i = H i := fun i hi => hrd i (List.mem_append_right _ hi)
  obtain ⟨hkl, ad, sCap, hxe, hkn, hcap, hloc⟩ := base_ok hr hki hrx hf1 hxv
  obtain ⟨_, hxk1, old, hold, hosz, hoone, hov⟩ := src_ok (P := P) hr hrx hf1 hxv
  obtain ⟨hlen, hyk1, news, hnews, hnsz, hnone, hnv⟩ := src_ok (P := P) hr hry hf2 hyv
  rw [catR_eq hkn] at hbound ⊢
  rw [List.length_append] at hbound
  rw [hxe] at hold
  obtain ⟨hroom, hgrow⟩ := run_append (P := P) (w := s.w) (ty := o.type) hti hd hte (hT tx tix htx) hxk (n := ry.length) (x := a.eval y) hlen hnews hold hbound (Nat.succ_pos _)
  have hexec : ∀ v w', (Builtin.append_ #[t, tx] o.type #[.slice ad rx.length sCap, a.eval y]).run P s.w = .ok v w' → (execOp a.eval o).run P s.w = .ok (.value v) w' := fun v w' h => by
    unfold execOp
    rw [ho]
    simp [resolve, invoke, builtin, hxe, h]
  have hrowlen : ∀ r (h : r < (rx ++ ry).length), (rx ++ ry)[r].length = sz := fun r h => by
    rw [List.getElem_append]
    split
    · exact hxk1 _ _
    · exact hyk1 _ _
  by_cases hfit : rx.length + ry.length ≤ sCap
  · rcases hloc with h0 | ⟨i, l, bl, oB, oo, cs, tt, fz, e1, e2, e3, e4, e5, e6, e7, e8⟩
    · -- no room is wanted
      subst h0
      have hx0 : rx = [] := List.eq_nil_of_length_eq_zero (by omega)
      have hy0 : ry = [] := List.eq_nil_of_length_eq_zero (by omega)
      subst hx0; subst hy0
      have hn0 : news.toList = [] := List.eq_nil_of_length_eq_zero (by simpa using hnsz)
      have hst : (match ad with | some a => storeCells (a.add (0 * sz)) news.toList | none => (pure () : Sem Unit)).run P s.w = .ok () s.w := by
        rw [hn0]; cases ad <;> rfl
      have hrun := hexec _ _ (hroom hfit s.w hst)
      have hext := ext_move (s := s) (ki := ki) (nid := nid) (lc := ⟨none, sz, 0, 0⟩) (w' := s.w) hfree hkl (fun _ _ _ => rfl) (Nat.le_refl _) (fun b x h => by cases h) rfl rfl rfl
      refine ⟨_, ⟨upd (killμ s.μ ki) nid (.live ⟨none, sz, 0, 0⟩), s.vis, s.w⟩, hrun, hext, ?_, ?_, fun j h1 h2 => free_move j h1 h2 hkl⟩
      · exact hr_move hr hfree hkl (fun _ _ _ => rfl) (Nat.le_refl _) (fun b x h => by cases h) hext (.co0 _ _ rfl)
      · exact .hw0 nid ad ⟨none, sz, 0, 0⟩ (upd_same _ _ _) rfl
    · -- in place
      subst e4
      have hb0 : oo + rx.length * sz + 0 + news.toList.length ≤ cs.size := by
        have : (rx.length + ry.length) * sz ≤ sCap * sz := Nat.mul_le_mul_right _ hfit
        rw [Nat.add_mul] at this
        simp [hnsz]; omega
      have hnone' : ∀ v ∈ news.toList, v.oneCell' = true := fun v hv => by
        obtain ⟨j, hj, rfl⟩ := List.getElem_of_mem hv
        rw [Array.getElem_toList]
        exact hnone j (by simpa using hj)
      obtain ⟨w', g1, g2, g3, g4, g5, g6, g7⟩ := run_storeCells (P := P) news.toList (oo + rx.length * sz) 0 s.w cs e5 e6 hb0 hnone'
      have hrun := hexec _ _ (hroom hfit w' (by simp only [addr_add]; exact g1))
      let lc : Loc := ⟨some (bl, oo), sz, sCap, (rx ++ ry).length⟩
      have hkeep : ∀ c, c < s.w.heap.size → (∀ i l y, ki = some i → s.μ i = .live l → l.base ≠ some (c, y)) → w'.heap[c]? = s.w.heap[c]? := fun c _ h => g3 c fun e => h i l oB e1 e2 (by rw [e3, e])
      have hlb : ∀ b x, lc.base = some (b, x) → b < w'.heap.size ∧ ((∃ i l y, ki = some i ∧ s.μ i = .live l ∧ l.base = some (b, y)) ∨ s.w.heap.size ≤ b) := fun b x h => by
        simp only [lc, Option.some.injEq, Prod.mk.injEq] at h
        obtain ⟨rfl, rfl⟩ := h
        exact ⟨by rw [g4]; exact hr.lt i l bl oB e2 e3, .inl ⟨i, l, oB, e1, e2, e3⟩⟩
      have hext := ext_move (s := s) (ki := ki) (nid := nid) (lc := lc) (w' := w') hfree hkl hkeep (by rw [g4]; exact Nat.le_refl _) hlb g5 g6 g7
      refine ⟨_, ⟨upd (killμ s.μ ki) nid (.live lc), s.vis, w'⟩, hrun, hext, ?_, ?_, fun j h1 h2 => free_move j h1 h2 hkl⟩
      · refine hr_move hr hfree hkl hkeep (by rw [g4]; exact Nat.le_refl _) hlb hext ?_
        refine .co sz (rx ++ ry) bl oo _ tt fz sCap (by simpa using g2) (e6.put _ hnone') (by rw [putCells_size]; exact e7) (by simpa using hfit) hrowlen fun r hr1 c hc hj => ?_
        have hj' : oo + r * sz + c < cs.size := by rw [putCells_size] at hj; exact hj
        have hcs : c < sz := by rw [hrowlen r hr1] at hc; exact hc
        have ep := putCells_get cs (oo + rx.length * sz) news.toList (oo + r * sz + c)
        rw [Array.getElem?_eq_getElem (by rw [putCells_size]; exact hj')] at ep
        by_cases hrx' : r < rx.length
        · have hlt : (r + 1) * sz ≤ rx.length * sz := Nat.mul_le_mul_right _ hrx'
          rw [Nat.add_mul, Nat.one_mul] at hlt
          rw [if_neg (by omega), Array.getElem?_eq_getElem hj'] at ep
          have e' : (rx ++ ry)[r] = rx[r] := List.getElem_append_left hrx'
          have : ∀ (L : List C) (hL : L = rx[r]) (hc : c < L.length), SCR ⟨upd (killμ s.μ ki) nid (.live lc), s.vis, w'⟩ L[c] (putCells cs (oo + rx.length * sz) news.toList)[oo + r * sz + c] := fun L hL hc => by
            subst hL
            rw [Option.some.inj ep]
            exact SCR.mono hext (e8 r hrx' c hc hj')
          simpa using this _ e' hc
        · have hr2 : r - rx.length < ry.length := by simp at hr1; omega
          have hmul : r * sz = rx.length * sz + (r - rx.length) * sz := by rw [← Nat.add_mul]; congr 1; omega
          have hbnd : ((r - rx.length) + 1) * sz ≤ ry.length * sz := Nat.mul_le_mul_right _ hr2
          rw [Nat.add_mul, Nat.one_mul] at hbnd
          have hidx : oo + r * sz + c - (oo + rx.length * sz) = (r - rx.length) * sz + c := by omega
          rw [if_pos (by simp [hnsz]; omega), hidx] at ep
          have hin : (r - rx.length) * sz + c < news.size := by omega
          rw [List.getElem?_eq_getElem (by simpa using hin)] at ep
          have e' : (rx ++ ry)[r] = ry[r - rx.length] := List.getElem_append_right (by omega)
          have : ∀ (L : List C) (hL : L = ry[r - rx.length]) (hc : c < L.length), SCR ⟨upd (killμ s.μ ki) nid (.live lc), s.vis, w'⟩ L[c] (putCells cs (oo + rx.length * sz) news.toList)[oo + r * sz + c] := fun L hL hc => by
            subst hL
            rw [Option.some.inj ep]
            simp only [Array.getElem_toList]
            exact SCR.mono hext (hnv _ hr2 c hc hin)
          simpa using this _ e' hc
      · have := VR.hw (s := ⟨upd (killμ s.μ ki) nid (.live lc), s.vis, w'⟩) nid sCap lc (upd_same _ _ _) (by simpa [lc] using hfit) (Nat.le_refl _)
        simpa [lc] using this
  · -- a new array
    obtain ⟨cap, hc1, hrun0⟩ := hgrow (by omega)
    have hrun := hexec _ _ hrun0
    let cells : Array Value := old ++ news ++ Builtin.zeroCells z.cells (cap - (rx.length + ry.length))
    let w' : World := { s.w with drawn := s.w.drawn + 1, heap := s.w.heap.push (.cells cells e) }
    let lc : Loc := ⟨some (s.w.heap.size, 0), sz, cap, (rx ++ ry).length⟩
    have hkeep : ∀ c, c < s.w.heap.size → (∀ i l y, ki = some i → s.μ i = .live l → l.base ≠ some (c, y)) → w'.heap[c]? = s.w.heap[c]? := fun c hc _ => by
      show (s.w.heap.push _)[c]? = _
      rw [Array.getElem?_push, if_neg (Nat.ne_of_lt hc)]
    have hle : s.w.heap.size ≤ w'.heap.size := by simp [w']
    have hlb : ∀ b x, lc.base = some (b, x) → b < w'.heap.size ∧ ((∃ i l y, ki = some i ∧ s.μ i = .live l ∧ l.base = some (b, y)) ∨ s.w.heap.size ≤ b) := fun b x h => by
      simp only [lc, Option.some.injEq, Prod.mk.injEq] at h
      obtain ⟨rfl, rfl⟩ := h
      exact ⟨by simp [w'], .inr (Nat.le_refl _)⟩
    have hext := ext_move (s := s) (ki := ki) (nid := nid) (lc := lc) (w' := w') hfree hkl hkeep hle hlb rfl rfl rfl
    have hzc : (Builtin.zeroCells z.cells (cap - (rx.length + ry.length))).size = (cap - (rx.length + ry.length)) * sz := by simp [Builtin.zeroCells, hz2]
    have hcsz : cells.size = cap * sz := by
      simp only [cells, Array.size_append, hosz, hnsz, hzc, ← Nat.add_mul]
      congr 1; omega
    have hone : ∀ j (h : j < cells.size), cells[j].oneCell' = true := fun j h => by
      simp only [cells, Array.getElem_append]
      split
      · split
        · exact hoone _ _
        · exact hnone _ _
      · rename_i h1 h2
        have hzs : 0 < z.cells.size := by
          rcases Nat.eq_zero_or_pos z.cells.size with h0 | h0
          · rw [hz2] at h0
            rw [h0] at hcsz
            omega
          · exact h0
        simp only [Builtin.zeroCells, Array.getElem_map, Array.getElem_range]
        have hm := Nat.mod_lt (j - (old ++ news).size) hzs
        rw [getElem!_pos z.cells _ hm]
        exact hz1 _ (by simp)
    refine ⟨_, ⟨upd (killμ s.μ ki) nid (.live lc), s.vis, w'⟩, hrun, hext, ?_, ?_, fun j h1 h2 => free_move j h1 h2 hkl⟩
    · refine hr_move hr hfree hkl hkeep hle hlb hext ?_
      refine .co sz (rx ++ ry) s.w.heap.size 0 cells e (0, 0) cap (by simp [w']) (Clear.zero hone) (by rw [hcsz]; omega) (by simpa using hc1) hrowlen fun r hr1 c hc hj => ?_
      have hcs : c < sz := by rw [hrowlen r hr1] at hc; exact hc
      by_cases hrx' : r < rx.length
      · have hlt : (r + 1) * sz ≤ rx.length * sz := Nat.mul_le_mul_right _ hrx'
        rw [Nat.add_mul, Nat.one_mul] at hlt
        have e' : (rx ++ ry)[r] = rx[r] := List.getElem_append_left hrx'
        have hin : r * sz + c < old.size := by omega
        have ec : cells[0 + r * sz + c] = old[r * sz + c] := by
          simp only [cells, Nat.zero_add]
          rw [Array.getElem_append_left (by simp; omega), Array.getElem_append_left hin]
        rw [ec]
        have : ∀ (L : List C) (hL : L = rx[r]) (hc : c < L.length), SCR ⟨upd (killμ s.μ ki) nid (.live lc), s.vis, w'⟩ L[c] old[r * sz + c] := fun L hL hc => by
          subst hL
          exact SCR.mono hext (hov r hrx' c hc hin)
        exact this _ e' hc
      · have hr2 : r - rx.length < ry.length := by simp at hr1; omega
        have hmul : r * sz = rx.length * sz + (r - rx.length) * sz := by rw [← Nat.add_mul]; congr 1; omega
        have hbnd : ((r - rx.length) + 1) * sz ≤ ry.length * sz := Nat.mul_le_mul_right _ hr2
        rw [Nat.add_mul, Nat.one_mul] at hbnd
        have hin : (r - rx.length) * sz + c < news.size := by omega
        have e' : (rx ++ ry)[r] = ry[r - rx.length] := List.getElem_append_right (by omega)
        have ec : cells[0 + r * sz + c] = news[(r - rx.length) * sz + c] := by
          simp only [cells, Nat.zero_add]
          rw [Array.getElem_append_left (by simp; omega), Array.getElem_append_right (by omega)]
          congr 1; omega
        rw [ec]
        have : ∀ (L : List C) (hL : L = ry[r - rx.length]) (hc : c < L.length), SCR ⟨upd (killμ s.μ ki) nid (.live lc), s.vis, w'⟩ L[c] news[(r - rx.length) * sz + c] := fun L hL hc => by
          subst hL
          exact SCR.mono hext (hnv _ hr2 c hc hin)
        exact this _ e' hc
    · have := VR.hw (s := ⟨upd (killμ s.μ ki) nid (.live lc), s.vis, w'⟩) nid cap lc (upd_same _ _ _) (by simpa [lc] using hc1) (Nat.le_refl _)
      simpa [lc] using this

end Go.Lift
