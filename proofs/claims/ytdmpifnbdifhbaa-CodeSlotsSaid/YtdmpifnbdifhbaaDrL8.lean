/- Cuts, conversions, min and max at data level. -/
import Derived.Test.YtdmpifnbdifhbaaDrL7
namespace Go.Lift
variable {P : Program}

/-! ### cuts -/
def bnd (ρ : Operand → Option V) : Option Operand → Option (Option Int)
  | none => some none
  | some x => match ρ x with
    | some (.c (.v (.int _ n))) => some (some n)
    | _ => none

/-- A bound's value stands so. -/
def BndOk (v : Option Value) (b : Option Int) : Prop :=
  match b with
  | none => v = none
  | some n => ∃ k, v = some (.int k n)

theorem bnd_ok {ρ : Operand → Option V} {x : Option Operand} {b : Option Int} (h : bnd ρ x = some b) {s : St} {a : Act} (hop : ∀ y, x = some y → ∀ u, ρ y = some u → VR s u (a.eval y)) : BndOk (x.map a.eval) b := by
  cases x with
  | none => simp only [bnd, Option.some.injEq] at h; subst h; rfl
  | some y =>
    simp only [bnd] at h
    split at h
    · rename_i k n hy
      cases h
      have := (hop y rfl _ hy).raw
      exact ⟨k, by simp [this]⟩
    · cases h

theorem run_sliceBound {w : World} {k : IntKind} {n : Int} {y : Nat} {code : BoundsCode} (h0 : 0 ≤ n) (h1 : n ≤ (y : Int)) : (Instr.sliceBound (.int k n) y code).run P w = .ok n.toNat w := by
  simp [Instr.sliceBound, asIntOf, h0, h1]

def loN (lo : Option Int) : Nat := match lo with
  | none => 0
  | some n => n.toNat
def hiN (hi : Option Int) (len : Nat) : Nat := match hi with
  | none => len
  | some n => n.toNat

/-- What is asked of a cut's bounds. -/
def bndObs (lo hi mx : Option Int) (len : Nat) : List Pr :=
  match lo, hi, mx with
  | none, none, none => []
  | some a, none, none => [0 ≤ a, a ≤ (len : Int)]
  | none, some b, none => [0 ≤ b, b ≤ (len : Int)]
  | some a, some b, none => [0 ≤ a, a ≤ b, b ≤ (len : Int)]
  | none, some b, some c => [0 ≤ b, b ≤ c, c ≤ (len : Int)]
  | some a, some b, some c => [0 ≤ a, a ≤ b, b ≤ c, c ≤ (len : Int)]
  | _, none, some _ => [False]

theorem run_bounds {w : World} {isS : Bool} {len cap : Nat} (hlc : len ≤ cap) {lv hv mv : Option Value} {lo hi mx : Option Int} (h1 : BndOk lv lo) (h2 : BndOk hv hi) (h3 : BndOk mv mx) (hobs : Obs (bndObs lo hi mx len)) :
    (Instr.sliceBounds isS len cap lv hv mv).run P w = .ok (loN lo, hiN hi len, hiN mx cap) w ∧ loN lo ≤ hiN hi len ∧ hiN hi len ≤ len ∧ hiN hi len ≤ hiN mx cap ∧ hiN mx cap ≤ cap := by
  unfold Instr.sliceBounds
  cases lo with
  | none =>
    cases h1
    cases hi with
    | none =>
      cases h2
      cases mx with
      | none => cases h3; simp [loN, hiN, hlc]
      | some c => exact hobs.1.elim
    | some n =>
      obtain ⟨k, rfl⟩ := h2
      cases mx with
      | none =>
        cases h3
        obtain ⟨o1, o2, _⟩ := hobs
        simp only [Pr.of] at o1 o2
        simp [run_sliceBound (P := P) o1 (show n ≤ (cap : Int) by omega), loN, hiN]
        omega
      | some c =>
        obtain ⟨k', rfl⟩ := h3
        obtain ⟨o1, o2, o3, _⟩ := hobs
        simp only [Pr.of] at o1 o2 o3
        simp [run_sliceBound (P := P) (show (0 : Int) ≤ c by omega) (show c ≤ (cap : Int) by omega), run_sliceBound (P := P) o1 (show n ≤ (c.toNat : Int) by omega), loN, hiN]
        omega
  | some m =>
    obtain ⟨k0, rfl⟩ := h1
    cases hi with
    | none =>
      cases h2
      cases mx with
      | none =>
        cases h3
        obtain ⟨o1, o2, _⟩ := hobs
        simp only [Pr.of] at o1 o2
        simp [run_sliceBound (P := P) o1 (show m ≤ (len : Int) by omega), loN, hiN]
        omega
      | some c => exact hobs.1.elim
    | some n =>
      obtain ⟨k, rfl⟩ := h2
      cases mx with
      | none =>
        cases h3
        obtain ⟨o1, o2, o3, _⟩ := hobs
        simp only [Pr.of] at o1 o2 o3
        simp [run_sliceBound (P := P) (show (0 : Int) ≤ n by omega) (show n ≤ (cap : Int) by omega), run_sliceBound (P := P) o1 (show m ≤ (n.toNat : Int) by omega), loN, hiN]
        omega
      | some c =>
        obtain ⟨k', rfl⟩ := h3
        obtain ⟨o1, o2, o3, o4, _⟩ := hobs
        simp only [Pr.of] at o1 o2 o3 o4
        simp [run_sliceBound (P := P) (show (0 : Int) ≤ c by omega) (show c ≤ (cap : Int) by omega), run_sliceBound (P := P) (show (0 : Int) ≤ n by omega) (show n ≤ (c.toNat : Int) by omega),
          run_sliceBound (P := P) o1 (show m ≤ (n.toNat : Int) by omega), loN, hiN]
        omega

def cutL {α : Type} (lo hi : Option Int) (l : List α) : List α :=
  match lo, hi with
  | none, none => l
  | some a, none => l.drop a.toNat
  | none, some b => l.take b.toNat
  | some a, some b => (l.take b.toNat).drop a.toNat

theorem cutL_eq {α : Type} (lo hi : Option Int) (l : List α) : cutL lo hi l = (l.take (hiN hi l.length)).drop (loN lo) := by
  cases lo <;> cases hi <;> simp [cutL, hiN, loN]

/-- Cut to nothing, with no room: 's[:0:0]'. -/
def isZero3 (lo hi mx : Option Int) : Bool :=
  match lo, hi, mx with
  | none, some 0, some 0 => true
  | some 0, some 0, some 0 => true
  | _, _, _ => false

def hsOf (i off : Nat) (lo hi : Option Int) (len : Nat) : V :=
  match lo, hi with
  | none, none => .hs i off len
  | some a, none => .hs i (addF off a.toNat) (len - a.toNat)
  | none, some b => .hs i off b.toNat
  | some a, some b => .hs i (addF off a.toNat) (b.toNat - a.toNat)

def hwOf (i : Nat) (lo hi : Option Int) (len : Nat) : V :=
  match lo, hi with
  | none, none => .hw i
  | some a, none => .hs i a.toNat (len - a.toNat)
  | none, some b => .hs i 0 b.toNat
  | some a, some b => .hs i a.toNat (b.toNat - a.toNat)

def eSlice (T : TT) (ρ : Operand → Option V) (t : TypeId) (x : Operand) (lo hi mx : Option Operand) (H : Nat → Option Ob) (q : List Orc) : Option Out :=
  match T t with
  | some ti => match bnd ρ lo with
    | some lo => match bnd ρ hi with
      | some hi => match bnd ρ mx with
        | some mx => match ti.d with
          | .string => match ρ x with
            | some (.c (.v (.string ⟨⟨l⟩⟩))) => match mx with
              | none => qv (cs (cutL lo hi l)) (bndObs lo hi none l.length) q
              | some _ => none
            | _ => none
          | .slice e => match T e with
            | some te => match ρ x with
              | some (.c (.sl k rows)) => match eqN te.size k with
                | true => match isZero3 lo hi mx with
                  | true => qv .hz [] q
                  | false => qv (.c (.sl k (cutL lo hi rows))) (bndObs lo hi mx rows.length) q
                | false => none
              | some (.hs i off len) => match H i with
                | some ob => match obK ob with
                  | some (k, _) => match eqN te.size k with
                    | true => match isZero3 lo hi mx with
                      | true => some ⟨⟨.hz, [], [i], []⟩, [], q⟩
                      | false => some ⟨⟨hsOf i off lo hi len, [], [i], []⟩, bndObs lo hi mx len, q⟩
                    | false => none
                  | none => none
                | none => none
              | some (.hw i) => match H i with
                | some ob => match obK ob with
                  | some (k, _) => match eqN te.size k with
                    | true => match isZero3 lo hi mx with
                      | true => some ⟨⟨.hz, [], [i], []⟩, [], q⟩
                      | false => some ⟨⟨hwOf i lo hi (obLen ob), [], [i], []⟩, bndObs lo hi mx (obLen ob), q⟩
                    | false => none
                  | none => none
                | none => none
              | some .hz => match isZero3 lo hi mx with
                | true => qv .hz [] q
                | false => none
              | some (.c (.v (.slice none 0 0))) => match isZero3 lo hi mx with
                | true => qv .hz [] q
                | false => none
              | _ => none
            | none => none
          | _ => none
        | none => none
      | none => none
    | none => none
  | none => none

theorem isZero3_eq {lo hi mx : Option Int} (h : isZero3 lo hi mx = true) : loN lo = 0 ∧ hi = some 0 ∧ mx = some 0 ∧ (lo = none ∨ lo = some 0) := by
  unfold isZero3 at h
  split at h
  · exact ⟨rfl, rfl, rfl, .inl rfl⟩
  · exact ⟨rfl, rfl, rfl, .inr rfl⟩
  · cases h

theorem obs_zero3 {lo hi mx : Option Int} (h : isZero3 lo hi mx = true) (len : Nat) : Obs (bndObs lo hi mx len) := by
  obtain ⟨_, rfl, rfl, rfl | rfl⟩ := isZero3_eq h
  · exact ⟨by omega, by omega, by omega, trivial⟩
  · exact ⟨by omega, by omega, by omega, by omega, trivial⟩

theorem sound_slice {T : TT} (hT : TTok P T) {b : Frame} {o : Oper} {t : TypeId} {x : Operand} {lo hi mx : Option Operand} (ho : o.op = .slice t x lo hi mx) {ρ : Operand → Option V} {H : Nat → Option Ob} {q : List Orc} {out : Out}
    (he : eSlice T ρ t x lo hi mx H q = some out) (hobs : Obs out.obs) : Does P b o ρ H out.r := by
  have hnd : ∀ d, o.op ≠ .defer d := fun d h => by rw [ho] at h; cases h
  have mx' : x ∈ o.op.operands.toList := by rw [ho]; simp [Op.operands]
  have ml : ∀ y, lo = some y → y ∈ o.op.operands.toList := fun y h => by rw [ho]; subst h; simp [Op.operands]
  have mh : ∀ y, hi = some y → y ∈ o.op.operands.toList := fun y h => by rw [ho]; subst h; simp [Op.operands]
  have mm : ∀ y, mx = some y → y ∈ o.op.operands.toList := fun y h => by rw [ho]; subst h; simp [Op.operands]
  unfold eSlice at he
  split at he
  case h_2 => cases he
  rename_i ti hti0
  have hti := hT t ti hti0
  split at he
  case h_2 => cases he
  rename_i lo' hlo
  split at he
  case h_2 => cases he
  rename_i hi' hhi
  split at he
  case h_2 => cases he
  rename_i mx'' hmx
  have bounds : ∀ (s : St) (a : Act), (∀ x ∈ o.op.operands.toList, ∀ u, ρ x = some u → VR s u (a.eval x)) → BndOk (lo.map a.eval) lo' ∧ BndOk (hi.map a.eval) hi' ∧ BndOk (mx.map a.eval) mx'' := fun s a hop =>
    ⟨bnd_ok hlo fun y hy => hop y (ml y hy), bnd_ok hhi fun y hy => hop y (mh y hy), bnd_ok hmx fun y hy => hop y (mm y hy)⟩
  split at he
  · rename_i hd
    split at he
    case h_2 => cases he
    rename_i l hx
    split at he
    case h_2 => cases he
    cases he
    refine Quiet1.does hnd fun s a hop => ?_
    have h1 := (hop x mx' _ hx).raw
    obtain ⟨b1, b2, b3⟩ := bounds s a hop
    obtain ⟨r1, r2, r3, _⟩ := run_bounds (P := P) (w := s.w) (isS := false) (Nat.le_refl l.length) b1 b2 b3 hobs
    refine ⟨_, ?_, .c _ _ (.v _)⟩
    have hmn : mx.map a.eval = none := b3
    unfold execOp
    rw [ho]
    have r1' : (Instr.sliceBounds false (⟨⟨l⟩⟩ : ByteArray).size (⟨⟨l⟩⟩ : ByteArray).size (lo.map a.eval) (hi.map a.eval) none).run P s.w = .ok (loN lo', hiN hi' l.length, hiN none l.length) s.w := by
      rw [hmn] at r1; exact r1
    simp only [Instr.sliceAt, Instr.slice, hti.underlying, hd, h1, hmn, r1', Sem.run_bind, Result.andThen_ok, Sem.run_pure, Option.isSome_none, Bool.false_eq_true, if_false]
    congr 2
    simp only [Value.string.injEq]
    apply ByteArray.ext
    apply Array.ext'
    simp only [ByteArray.data_extract, Array.toList_extract, cutL_eq, List.extract_eq_take_drop]
    rw [List.drop_take]
  · rename_i e hd
    split at he
    case h_2 => cases he
    rename_i te hte0
    have hte := hT e te hte0
    have run : ∀ (s : St) (a : Act) (ad : Option Addr) (len cap : Nat), len ≤ cap → a.eval x = .slice ad len cap → (∀ x ∈ o.op.operands.toList, ∀ u, ρ x = some u → VR s u (a.eval x)) → Obs (bndObs lo' hi' mx'' len) →
        (execOp a.eval o).run P s.w = .ok (.value (.slice (if hiN mx'' cap = loN lo' then ad else ad.map (·.add (loN lo' * te.size))) (hiN hi' len - loN lo') (hiN mx'' cap - loN lo'))) s.w ∧
        loN lo' ≤ hiN hi' len ∧ hiN hi' len ≤ len ∧ hiN hi' len ≤ hiN mx'' cap ∧ hiN mx'' cap ≤ cap := fun s a ad len cap hlc hx hop hob => by
      obtain ⟨b1, b2, b3⟩ := bounds s a hop
      obtain ⟨r1, r2⟩ := run_bounds (P := P) (w := s.w) (isS := true) hlc b1 b2 b3 hob
      refine ⟨?_, r2⟩
      unfold execOp
      rw [ho]
      simp only [Instr.sliceAt, Instr.slice, hti.underlying, hd, hx, r1, hte.sizeOf, Sem.run_bind, Result.andThen_ok, Sem.run_pure]
    have zero : ∀ (s : St) (a : Act) (ad : Option Addr) (len cap : Nat), isZero3 lo' hi' mx'' = true → len ≤ cap → a.eval x = .slice ad len cap → (∀ x ∈ o.op.operands.toList, ∀ u, ρ x = some u → VR s u (a.eval x)) →
        ∃ u, (execOp a.eval o).run P s.w = .ok (.value u) s.w ∧ VR s .hz u := fun s a ad len cap hz hlc hx hop => by
      obtain ⟨r1, _⟩ := run s a ad len cap hlc hx hop (obs_zero3 hz len)
      obtain ⟨z1, rfl, rfl, _⟩ := isZero3_eq hz
      rw [z1] at r1
      exact ⟨_, r1, .hz _⟩
    split at he
    · rename_i k rows hx
      split at he
      case h_2 => cases he
      rename_i hk
      have hk' : te.size = k := Nat.eq_of_beq_eq_true hk
      split at he
      · rename_i hz
        cases he
        refine Quiet1.does hnd fun s a hop => ?_
        have h1 := hop x mx' _ hx
        generalize hy : a.eval x = y at h1
        cases h1 with
        | c _ _ h1 =>
          cases h1 with
          | sl0 _ ad cap => exact zero s a ad 0 cap hz (Nat.zero_le _) hy hop
          | sl _ _ bl oo cap g g1 g2 => exact zero s a _ _ cap hz g2 hy hop
      · cases he
        refine Quiet1.does hnd fun s a hop => ?_
        have h1 := hop x mx' _ hx
        generalize hy : a.eval x = y at h1
        cases h1 with
        | c _ _ h1 =>
          cases h1 with
          | sl0 _ ad cap =>
            obtain ⟨r1, r2, r3, r4, r5⟩ := run s a ad 0 cap (Nat.zero_le _) hy hop hobs
            refine ⟨_, r1, .c _ _ ?_⟩
            have e0 : hiN hi' 0 - loN lo' = 0 := by omega
            have ec : cutL lo' hi' ([] : List (List C)) = [] := by rw [cutL_eq]; simp
            rw [e0]
            show SCR s (.sl k (cutL lo' hi' [])) _
            rw [ec]
            exact .sl0 _ _ _
          | sl _ _ bl oo cap g g1 g2 g3 g4 g5 =>
            obtain ⟨r1, r2, r3, r4, r5⟩ := run s a _ _ cap g2 hy hop hobs
            refine ⟨_, r1, .c _ _ ?_⟩
            by_cases hn : hiN hi' rows.length - loN lo' = 0
            · have ec : cutL lo' hi' rows = [] := by
                rw [cutL_eq]
                apply List.eq_nil_of_length_eq_zero
                simp; omega
              rw [hn]
              show SCR s (.sl k (cutL lo' hi' rows)) _
              rw [ec]
              exact .sl0 _ _ _
            · rw [if_neg (by omega)]
              simp only [Option.map_some, addr_add]
              have hcl : (cutL lo' hi' rows).length = hiN hi' rows.length - loN lo' := by rw [cutL_eq]; simp; omega
              have hget : ∀ i, i < (cutL lo' hi' rows).length → (cutL lo' hi' rows)[i]? = rows[loN lo' + i]? := fun i hi => by
                rw [cutL_eq, List.getElem?_drop, List.getElem?_take_of_lt (by omega)]
              rw [← hcl]
              refine .sl k _ bl (oo + loN lo' * te.size) _ (fun i j => g (loN lo' + i) j) g1 (by omega) (fun i hi => ?_) (fun i j hi hj => ?_) fun i hi j hj => ?_
              · have e1 := hget i hi
                rw [List.getElem?_eq_getElem hi, List.getElem?_eq_getElem (by omega)] at e1
                rw [Option.some.inj e1]
                exact g3 _ _
              · have := g4 (loN lo' + i) j (by omega) hj
                rw [Nat.add_mul, ← Nat.add_assoc] at this
                rw [hk']; exact this
              · have e1 := hget i hi
                rw [List.getElem?_eq_getElem hi, List.getElem?_eq_getElem (by omega)] at e1
                have e2 := Option.some.inj e1
                have : ∀ (L : List C) (hL : L = rows[loN lo' + i]'(by omega)) (hj : j < L.length), SCR s L[j] (g (loN lo' + i) j) := fun L hL hj => by subst hL; exact g5 _ _ _ hj
                exact this _ e2 hj
    · rename_i i off len hx
      split at he
      case h_2 => cases he
      rename_i ob hob
      split at he
      case h_2 => cases he
      rename_i k bb hbk
      split at he
      case h_2 => cases he
      rename_i hk
      have hk' : te.size = k := Nat.eq_of_beq_eq_true hk
      split at he
      · rename_i hz
        cases he
        exact Does.quiet hnd fun s f a hr hrd hop => by
          have h1 := hop x mx' _ hx
          have hf := hrd i (by simp)
          rw [hob] at hf
          obtain ⟨l, g1, g2⟩ := hr.obj i _ hf
          generalize hy : a.eval x = y at h1
          cases h1 with
          | hs _ _ _ cap l' k1 k2 k3 _ => exact zero s a _ _ cap hz k2 hy hop
          | hs0 => exact zero s a _ _ _ hz (Nat.le_refl _) hy hop
          | ds _ _ _ _ k1 => rw [g1] at k1; cases k1
      · cases he
        exact Does.quiet hnd fun s f a hr hrd hop => by
          have h1 := hop x mx' _ hx
          have hf := hrd i (by simp)
          rw [hob] at hf
          obtain ⟨l, g1, g2⟩ := hr.obj i _ hf
          obtain ⟨e1, _, _, e2⟩ := loc_of g2 hbk
          have hform : hsOf i off lo' hi' len = .hs i (off + loN lo') (hiN hi' len - loN lo') := by
            cases lo' <;> cases hi' <;> simp [hsOf, loN, hiN, addF_eq]
          generalize hy : a.eval x = y at h1
          cases h1 with
          | hs _ _ _ cap l' k1 k2 k3 k5 =>
            rw [g1] at k1
            cases k1
            obtain ⟨r1, r2, r3, r4, r5⟩ := run s a _ _ cap k2 hy hop hobs
            refine ⟨_, r1, ?_⟩
            show VR s (hsOf i off lo' hi' len) _
            rw [hform]
            by_cases hm : hiN mx'' cap = loN lo'
            · rw [if_pos hm]
              have z1 : hiN hi' len - loN lo' = 0 := by omega
              have z2 : hiN mx'' cap - loN lo' = 0 := by omega
              rw [z1, z2]
              exact .hs0 i _ _ l g1
            · rw [if_neg hm]
              have := VR.hs (s := s) i (off + loN lo') (hiN hi' len - loN lo') (hiN mx'' cap - loN lo') l g1 (by omega) (by omega) (by omega)
              have e3 : (l.base.map fun p => (⟨p.1, p.2 + off * l.k, none⟩ : Addr)).map (·.add (loN lo' * te.size)) = l.base.map fun p => ⟨p.1, p.2 + (off + loN lo') * l.k, none⟩ := by
                cases l.base with
                | none => rfl
                | some p => simp only [Option.map_some, addr_add, hk', e1, Nat.add_mul, Nat.add_assoc]
              rw [e3]; exact this
          | hs0 _ _ ad l' k1 =>
            obtain ⟨r1, r2, r3, r4, r5⟩ := run s a ad 0 0 (Nat.le_refl _) hy hop hobs
            refine ⟨_, r1, ?_⟩
            show VR s (hsOf i off lo' hi' 0) _
            rw [hform]
            have z1 : hiN hi' 0 - loN lo' = 0 := by omega
            have z2 : hiN mx'' 0 - loN lo' = 0 := by omega
            rw [z1, z2]
            exact .hs0 i _ _ l g1
          | ds _ _ _ _ k1 => rw [g1] at k1; cases k1
    · rename_i i hx
      split at he
      case h_2 => cases he
      rename_i ob hob
      split at he
      case h_2 => cases he
      rename_i k bb hbk
      split at he
      case h_2 => cases he
      rename_i hk
      have hk' : te.size = k := Nat.eq_of_beq_eq_true hk
      split at he
      · rename_i hz
        cases he
        exact Does.quiet hnd fun s f a hr hrd hop => by
          have h1 := hop x mx' _ hx
          have hf := hrd i (by simp)
          rw [hob] at hf
          obtain ⟨l, g1, g2⟩ := hr.obj i _ hf
          generalize hy : a.eval x = y at h1
          cases h1 with
          | hw _ cap l' k1 k2 k3 => exact zero s a _ _ cap hz k2 hy hop
          | hw0 => exact zero s a _ _ _ hz (Nat.le_refl _) hy hop
          | dw _ _ k1 => rw [g1] at k1; cases k1
      · cases he
        exact Does.quiet hnd fun s f a hr hrd hop => by
          have h1 := hop x mx' _ hx
          have hf := hrd i (by simp)
          rw [hob] at hf
          obtain ⟨l, g1, g2⟩ := hr.obj i _ hf
          obtain ⟨e1, e4, e5, e2⟩ := loc_of g2 hbk
          generalize hy : a.eval x = y at h1
          have fin : ∀ (ad : Option Addr) (cap : Nat), (ad = l.base.map (fun p => (⟨p.1, p.2, none⟩ : Addr)) ∧ cap ≤ l.cmax ∨ l.len = 0 ∧ cap = 0) → l.len ≤ cap → y = .slice ad l.len cap →
              ∃ u, (execOp a.eval o).run P s.w = .ok (.value u) s.w ∧ VR s (hwOf i lo' hi' (obLen ob)) u := fun ad cap hh hlc hye => by
            rw [← e4] at hobs
            obtain ⟨r1, r2, r3, r4, r5⟩ := run s a _ _ cap hlc (hy.trans hye) hop hobs
            refine ⟨_, r1, ?_⟩
            rw [← e4]
            by_cases hnn : lo' = none ∧ hi' = none
            · obtain ⟨rfl, rfl⟩ := hnn
              cases mx'' with
              | some c => exact hobs.1.elim
              | none =>
                rcases hh with ⟨rfl, hc⟩ | ⟨h0, hc0⟩
                · by_cases hc0 : cap = 0
                  · subst hc0
                    have hl0 : l.len = 0 := by omega
                    show VR s (.hw i) (.slice _ (l.len - 0) (0 - 0))
                    rw [hl0]
                    exact .hw0 i _ l g1 hl0
                  · rw [if_neg (show ¬ hiN none cap = loN none from hc0)]
                    have := VR.hw (s := s) i cap l g1 hlc hc
                    have e3 : (l.base.map fun p => (⟨p.1, p.2, none⟩ : Addr)).map (·.add (loN none * te.size)) = l.base.map fun p => ⟨p.1, p.2, none⟩ := by
                      cases l.base with
                      | none => rfl
                      | some p => simp [addr_add, loN]
                    rw [e3]; exact this
                · subst hc0
                  show VR s (.hw i) (.slice _ (l.len - 0) (0 - 0))
                  rw [h0]
                  exact .hw0 i _ l g1 h0
            · have hform : hwOf i lo' hi' l.len = .hs i (loN lo') (hiN hi' l.len - loN lo') := by
                cases lo' <;> cases hi' <;> simp [hwOf, loN, hiN] at hnn ⊢
              rw [hform]
              by_cases hm : hiN mx'' cap = loN lo'
              · rw [if_pos hm]
                have z1 : hiN hi' l.len - loN lo' = 0 := by omega
                have z2 : hiN mx'' cap - loN lo' = 0 := by omega
                rw [z1, z2]
                exact .hs0 i _ _ l g1
              · rcases hh with ⟨rfl, hc⟩ | ⟨h0, hc0⟩
                · rw [if_neg hm]
                  have := VR.hs (s := s) i (loN lo') (hiN hi' l.len - loN lo') (hiN mx'' cap - loN lo') l g1 (by omega) (by omega) (by omega)
                  have e3 : (l.base.map fun p => (⟨p.1, p.2, none⟩ : Addr)).map (·.add (loN lo' * te.size)) = l.base.map fun p => ⟨p.1, p.2 + loN lo' * l.k, none⟩ := by
                    cases l.base with
                    | none => rfl
                    | some p => simp only [Option.map_some, addr_add, hk', e1]
                  rw [e3]; exact this
                · omega
          cases h1 with
          | hw _ cap l' k1 k2 k3 => rw [g1] at k1; cases k1; exact fin _ cap (.inl ⟨rfl, k3⟩) k2 rfl
          | hw0 _ ad l' k1 k2 => rw [g1] at k1; cases k1; exact fin ad 0 (.inr ⟨k2, rfl⟩) (by omega) (by rw [k2])
          | dw _ _ k1 => rw [g1] at k1; cases k1
    · rename_i hx
      split at he
      case h_2 => cases he
      rename_i hz
      cases he
      refine Quiet1.does hnd fun s a hop => ?_
      have h1 := hop x mx' _ hx
      generalize hy : a.eval x = y at h1
      cases h1 with
      | hz ad => exact zero s a ad 0 0 hz (Nat.le_refl _) hy hop
    · rename_i hx
      split at he
      case h_2 => cases he
      rename_i hz
      cases he
      exact Quiet1.does hnd fun s a hop => zero s a none 0 0 hz (Nat.le_refl _) (hop x mx' _ hx).raw hop
    · cases he
  · cases he

/-! ### conversions -/
def byteRow (b : UInt8) : List C := [.v (.int .u8 b.toNat)]

def bytesF : List (List C) → Option (List UInt8)
  | [] => some []
  | [.v (.int .u8 (.ofNat n))] :: l => match Nat.blt n 256 with
    | true => match bytesF l with
      | some r => some (UInt8.ofNat n :: r)
      | none => none
    | false => none
  | _ => none
theorem bytesF_eq {rows : List (List C)} {l : List UInt8} (h : bytesF rows = some l) : rows = l.map byteRow := by
  induction rows generalizing l with
  | nil => simp [bytesF] at h; subst h; rfl
  | cons x rows ih =>
    unfold bytesF at h
    split at h
    · rename_i heq; cases heq
    · rename_i n l' heq
      cases heq
      split at h
      case h_2 => cases h
      rename_i hn
      split at h
      case h_2 => cases h
      rename_i r hr
      cases h
      have hn' : n < 256 := by simpa using hn
      have e : (n : Nat) % 256 = n := Nat.mod_eq_of_lt hn'
      simp only [List.map_cons, ← ih hr, byteRow, UInt8.toNat_ofNat', Nat.reducePow, e]
      rfl
    · cases h

/-- The bytes of closed rows: by an oracle, or reckoned. -/
def strAt (rows : List (List C)) (q : List Orc) : Option (List UInt8 × List Pr × List Orc) := match q with
  | .str l :: q' => some (l, [.no (rows = l.map byteRow)], q')
  | q => match bytesF rows with
    | some l => some (l, [], q)
    | none => none
theorem strAt_ok {rows : List (List C)} {q q' : List Orc} {l : List UInt8} {obs : List Pr} (h : strAt rows q = some (l, obs, q')) (ho : Obs obs) : rows = l.map byteRow := by
  unfold strAt at h
  split at h
  · cases h; exact ho.1
  · split at h
    · rename_i hn; cases h; exact bytesF_eq hn
    · cases h

def eConv (T : TT) (ρ : Operand → Option V) (src dst : TypeId) (x : Operand) (H : Nat → Option Ob) (nid : Nat) (q : List Orc) : Option Out :=
  match T src with
  | some ts => match T dst with
    | some td => match td.d with
      | .int k => match ρ x with
        | some (.c (.v (.int _ n))) => qv (ci k (k.wrap n)) [] q
        | _ => none
      | .string => match ts.d with
        | .string => match ρ x with
          | some (.c (.v (.string l))) => qv (.c (.v (.string l))) [] q
          | _ => none
        | .slice e => match T e with
          | some te => match te.d with
            | .int .u8 => match ρ x with
              | some (.c (.sl _ rows)) => match strAt rows q with
                | some (l, obs, q') => qv (cs l) obs q'
                | none => none
              | some (.hw i) => match H i with
                | some (.co _ rows) => match strAt rows q with
                  | some (l, obs, q') => some ⟨⟨cs l, [], [i], []⟩, obs, q'⟩
                  | none => none
                | _ => none
              | some (.hs i off len) => match H i with
                | some (.co _ rows) => match strAt ((rows.drop off).take len) q with
                  | some (l, obs, q') => some ⟨⟨cs l, [], [i], []⟩, Pr.of (len = l.length) :: obs, q'⟩
                  | none => none
                | _ => none
              | _ => none
            | _ => none
          | none => none
        | _ => none
      | .slice e => match ts.d with
        | .string => match T e with
          | some te => match te.d with
            | .int .u8 => match ρ x with
              | some (.c (.v (.string ⟨⟨l⟩⟩))) => some ⟨⟨.hw nid, [(nid, some (.co 1 (l.map byteRow)))], [], [nid]⟩, [], q⟩
              | _ => none
            | _ => none
          | none => none
        | _ => none
      | _ => none
    | none => none
  | none => none

theorem run_bytesLoop {w : World} (f : Value → ByteArray → Sem (ForInStep ByteArray)) (hf : ∀ (b : UInt8) (s : ByteArray), (f (.int .u8 b.toNat) s).run P w = .ok (.yield (s.push b)) w) (l : List UInt8) (s : ByteArray) :
    (forIn (rowArr (fun j => .int .u8 ((l.getD j 0).toNat)) l.length) s f : Sem ByteArray).run P w = .ok ⟨⟨s.data.toList ++ l⟩⟩ w := by
  rw [← Array.forIn_toList]
  have harr : (rowArr (fun j => .int .u8 ((l.getD j 0).toNat)) l.length).toList = l.map fun b => Value.int .u8 b.toNat := by
    apply List.ext_getElem
    · simp [rowArr]
    · intro n h1 h2
      simp only [List.length_map] at h2
      simp [rowArr, h2]
  rw [harr]
  clear harr
  induction l generalizing s with
  | nil => simp
  | cons b l ih =>
    rw [List.map_cons, List.forIn_cons]
    simp only [Sem.run_bind, hf, Result.andThen_ok]
    rw [ih]
    congr 1
    simp

theorem run_bytesToString {w : World} {b o n : Nat} {l : List UInt8} {cap : Nat} (hn : n = l.length) (h : ∀ j, j < l.length → w.cell? ⟨b, o + j, none⟩ = some (.int .u8 ((l.getD j 0).toNat))) :
    (Conv.bytesToString (.slice (some ⟨b, o, none⟩) n cap)).run P w = .ok (.string ⟨⟨l⟩⟩) w := by
  subst hn
  unfold Conv.bytesToString
  simp only [Sem.run_bind, run_loadCells h, Result.andThen_ok]
  rw [run_bytesLoop (P := P) (w := w) _ (fun b s => by simp)]
  simp

theorem run_stringToBytes {w : World} {e : TypeId} {l : List UInt8} : (Conv.stringToBytes e ⟨⟨l⟩⟩).run P w =
    .ok (.slice (some ⟨w.heap.size, 0, none⟩) l.length (Question.cut (.appendCap l.length 0 e) (w.tape w.drawn (.appendCap l.length 0 e))))
      { w with heap := w.heap.push (.cells ((⟨l⟩ : Array UInt8).map (fun (b : UInt8) => Value.int IntKind.u8 b.toNat) ++ Array.replicate (Question.cut (.appendCap l.length 0 e) (w.tape w.drawn (.appendCap l.length 0 e)) - l.length) (Value.int .u8 0)) e
        (Question.cut (.appendCap l.length 0 e) (w.tape w.drawn (.appendCap l.length 0 e)), Question.cut (.appendCap l.length 0 e) (w.tape w.drawn (.appendCap l.length 0 e)) + 1)), drawn := w.drawn + 1 } := by
  have hcap : l.length ≤ Question.cut (.appendCap l.length 0 e) (w.tape w.drawn (.appendCap l.length 0 e)) := by simp only [Question.cut]; omega
  unfold Conv.stringToBytes
  have hs : (⟨⟨l⟩⟩ : ByteArray).size = l.length := rfl
  simp only [hs, Sem.run_bind, run_choose, Question.forced, Bool.false_eq_true, if_false, Result.andThen_ok, newRow, run_newObj, Sem.run_pure]
  generalize Question.cut (.appendCap l.length 0 e) (w.tape w.drawn (.appendCap l.length 0 e)) = cap at *
  have hsz : ((⟨l⟩ : Array UInt8).map (fun (b : UInt8) => Value.int IntKind.u8 b.toNat) ++ Array.replicate (cap - l.length) (Value.int .u8 0)).size = cap := by simp; omega
  have hmark : (markStringish ⟨w.heap.size, 0, none⟩).run P ({ w with heap := w.heap.push (.cells ((⟨l⟩ : Array UInt8).map (fun (b : UInt8) => Value.int IntKind.u8 b.toNat) ++ Array.replicate (cap - l.length) (Value.int .u8 0)) e), drawn := w.drawn + 1 } : World) =
      .ok () { w with heap := w.heap.push (.cells ((⟨l⟩ : Array UInt8).map (fun (b : UInt8) => Value.int IntKind.u8 b.toNat) ++ Array.replicate (cap - l.length) (Value.int .u8 0)) e (cap, cap + 1)), drawn := w.drawn + 1 } := by
    generalize (⟨l⟩ : Array UInt8).map (fun (b : UInt8) => Value.int IntKind.u8 b.toNat) ++ Array.replicate (cap - l.length) (Value.int .u8 0) = cells at *
    unfold markStringish
    simp only [Sem.run_bind, run_shape, Result.andThen_ok]
    have hshape : ({ w with heap := w.heap.push (.cells cells e), drawn := w.drawn + 1 } : World).shape? w.heap.size = some (e, cap) := by
      simp [World.shape?, hsz]
    rw [hshape]
    simp only [run_freeze, World.freeze]
    rw [if_neg (by omega)]
    congr 2
    apply Array.ext_getElem?
    intro n
    rw [Array.getElem?_modify, Array.getElem?_push, Array.getElem?_push]
    by_cases hn : w.heap.size = n
    · subst hn; simp
    · rw [if_neg hn, if_neg (Ne.symm hn), if_neg (Ne.symm hn)]
  rw [hmark]
  rfl

theorem conv_run {ρ : Operand → Value} {o : Oper} {src dst : TypeId} {x : Operand} (ho : o.op = .convert src dst x) {w w' : World} {v : Value} (h : (convert src dst (ρ x)).run P w = .ok v w') :
    (execOp ρ o).run P w = .ok (.value v) w' := by
  unfold execOp
  rw [ho]
  simp [h]

theorem sound_conv {T : TT} (hT : TTok P T) {b : Frame} {o : Oper} {src dst : TypeId} {x : Operand} (ho : o.op = .convert src dst x) {ρ : Operand → Option V} {H : Nat → Option Ob} {nid : Nat} {q : List Orc} {out : Out}
    (he : eConv T ρ src dst x H nid q = some out) (hobs : Obs out.obs) : Does P b o ρ H out.r := by
  have hnd : ∀ d, o.op ≠ .defer d := fun d h => by rw [ho] at h; cases h
  have mx : x ∈ o.op.operands.toList := by rw [ho]; simp [Op.operands]
  unfold eConv at he
  split at he
  case h_2 => cases he
  rename_i ts hts0
  have hts := hT src ts hts0
  split at he
  case h_2 => cases he
  rename_i td htd0
  have htd := hT dst td htd0
  split at he
  · rename_i k hd
    split at he
    case h_2 => cases he
    rename_i k' n hx
    cases he
    refine Quiet1.does hnd fun s a hop => ?_
    have h1 := (hop x mx _ hx).raw
    refine ⟨_, conv_run ho ?_, .c _ _ (.v _)⟩
    rw [h1]
    simp only [convert, hts.underlying, htd.underlying, hd, Sem.run_bind, Result.andThen_ok]
    cases ts.d <;> rfl
  · rename_i hd
    split at he
    · rename_i hds
      split at he
      case h_2 => cases he
      rename_i l hx
      cases he
      refine Quiet1.does hnd fun s a hop => ?_
      have h1 := (hop x mx _ hx).raw
      refine ⟨_, conv_run ho ?_, .c _ _ (.v _)⟩
      rw [h1]
      simp only [convert, hts.underlying, htd.underlying, hd, hds, Sem.run_bind, Result.andThen_ok]
      rfl
    · rename_i e hds
      split at he
      case h_2 => cases he
      rename_i te hte0
      have hte := hT e te hte0
      split at he
      case h_2 => cases he
      rename_i hu8
      have run : ∀ (l : List UInt8) (s : St) (a : Act) (ad : Option Addr) (n c : Nat), a.eval x = .slice ad n c → (Conv.bytesToString (.slice ad n c)).run P s.w = .ok (.string ⟨⟨l⟩⟩) s.w → (execOp a.eval o).run P s.w = .ok (.value (.string ⟨⟨l⟩⟩)) s.w := fun l s a ad n c hx hr => by
        refine conv_run ho ?_
        rw [hx]
        simp only [convert, hts.underlying, htd.underlying, hd, hds, hte.underlying, hu8, Sem.run_bind, Result.andThen_ok, hr]
      have rowcell : ∀ {imm : Nat → Prop} {w : World} {u : Value} {c : UInt8} {L : List C} (hL : L = byteRow c) (h0 : 0 < L.length), CR imm w L[0] u → u = .int .u8 c.toNat := fun {imm w u c L} hL h0 h => by
        subst hL
        simp only [byteRow, List.getElem_cons_zero] at h
        cases h; rfl
      split at he
      · rename_i k rows hx
        split at he
        case h_2 => cases he
        rename_i l obs q' hq
        cases he
        have hrows := strAt_ok hq hobs
        have run := run l
        refine Quiet1.does hnd fun s a hop => ?_
        have h1 := hop x mx _ hx
        generalize hy : a.eval x = y at h1
        cases h1 with
        | c _ _ h1 =>
          cases h1 with
          | sl0 _ ad cap =>
            have hl : l = [] := by cases l with
              | nil => rfl
              | cons => simp at hrows
            refine ⟨_, run s a ad 0 cap hy ?_, .c _ _ (.v _)⟩
            subst hl
            cases ad with
            | none => rfl
            | some ad => simp [Conv.bytesToString, loadCells, loadCellsFrom]; rfl
          | sl _ _ bl oo cap g g1 g2 g3 g4 g5 =>
            have hlen : rows.length = l.length := by rw [hrows]; simp
            refine ⟨_, run s a _ _ cap hy (run_bytesToString hlen fun j hj => ?_), .c _ _ (.v _)⟩
            have hk1 : k = 1 := by
              have := g3 j (by omega)
              subst hrows
              simp [byteRow] at this
              exact this.symm
            have hj' : j < rows.length := by omega
            have c1 := (g4 j 0 hj' (by omega)).1
            rw [hk1, Nat.mul_one, Nat.add_zero] at c1
            rw [c1]
            have hrj : rows[j] = byteRow l[j] := by subst hrows; simp
            have h0 : 0 < rows[j].length := by rw [hrj]; simp [byteRow]
            have := rowcell hrj h0 (g5 j hj' 0 h0)
            rw [this]
            simp [hj]
      · rename_i i hx
        split at he
        case h_2 => cases he
        rename_i k rows hob
        split at he
        case h_2 => cases he
        rename_i l obs q' hq
        cases he
        have hrows := strAt_ok hq hobs
        have run := run l
        exact Does.quiet hnd fun s f a hr hrd hop => by
          have h1 := hop x mx _ hx
          have hf := hrd i (by simp)
          rw [hob] at hf
          obtain ⟨lo, g1, g2⟩ := hr.obj i _ hf
          have hlen : rows.length = l.length := by rw [hrows]; simp
          have nilcase : ∀ (ad : Option Addr) (cap : Nat), l = [] → a.eval x = .slice ad 0 cap → ∃ u, (execOp a.eval o).run P s.w = .ok (.value u) s.w ∧ VR s (cs l) u := fun ad cap hl hy => by
            refine ⟨_, run s a ad 0 cap hy ?_, .c _ _ (.v _)⟩
            subst hl
            cases ad with
            | none => rfl
            | some ad => simp [Conv.bytesToString, loadCells, loadCellsFrom]; rfl
          generalize hy : a.eval x = y at h1
          cases g2 with
          | co0 _ _ h =>
            have hl : l = [] := List.eq_nil_of_length_eq_zero (by subst h; simpa using hlen.symm)
            cases h1 with
            | hw _ cap l' k1 => rw [g1] at k1; cases k1; exact nilcase _ cap hl hy
            | hw0 => exact nilcase _ _ hl hy
            | dw _ _ k1 => rw [g1] at k1; cases k1
          | co _ _ bl oo cells tt fz cmax c1 c2 c3 c4 c5 c6 =>
            cases h1 with
            | hw _ cap l' k1 k2 k3 =>
              rw [g1] at k1; cases k1
              refine ⟨_, run s a _ _ cap hy (run_bytesToString (b := bl) (o := oo) hlen fun j hj => ?_), .c _ _ (.v _)⟩
              have hk1 : k = 1 := by
                have := c5 j (by omega)
                subst hrows
                simp [byteRow] at this
                exact this.symm
              have hj' : j < rows.length := by omega
              have hsz : oo + j < cells.size := by subst hk1; simp at c3; omega
              rw [cell_of_heap c1]
              have hrj : rows[j] = byteRow l[j] := by subst hrows; simp
              have h0 : 0 < rows[j].length := by rw [hrj]; simp [byteRow]
              have := rowcell hrj h0 (c6 j hj' 0 h0 (by subst hk1; simpa using hsz))
              subst hk1
              simp only [Nat.mul_one, Nat.add_zero] at this
              rw [Array.getElem?_eq_getElem hsz, this]
              simp [hj]
            | hw0 _ _ l' k1 k2 =>
              rw [g1] at k1; cases k1
              exact nilcase _ _ (List.eq_nil_of_length_eq_zero (by rw [← hlen]; exact k2)) hy
            | dw _ _ k1 => rw [g1] at k1; cases k1
      · rename_i i off len hx
        split at he
        case h_2 => cases he
        rename_i k rows hob
        split at he
        case h_2 => cases he
        rename_i l obs q' hq
        cases he
        obtain ⟨hll, hobs'⟩ := hobs
        replace hll : len = l.length := hll
        have hrows := strAt_ok hq hobs'
        have run := run l
        exact Does.quiet hnd fun s f a hr hrd hop => by
          have h1 := hop x mx _ hx
          have hf := hrd i (by simp)
          rw [hob] at hf
          obtain ⟨lo, g1, g2⟩ := hr.obj i _ hf
          have hlen : ((rows.drop off).take len).length = l.length := by rw [hrows]; simp
          rw [List.length_take, List.length_drop] at hlen
          have nilcase : ∀ (ad : Option Addr) (n cap : Nat), l = [] → n = 0 → a.eval x = .slice ad n cap → ∃ u, (execOp a.eval o).run P s.w = .ok (.value u) s.w ∧ VR s (cs l) u := fun ad n cap hl hn hy => by
            subst hn
            refine ⟨_, run s a ad 0 cap hy ?_, .c _ _ (.v _)⟩
            subst hl
            cases ad with
            | none => rfl
            | some ad => simp [Conv.bytesToString, loadCells, loadCellsFrom]; rfl
          generalize hy : a.eval x = y at h1
          cases g2 with
          | co0 _ _ h =>
            have hl : l = [] := List.eq_nil_of_length_eq_zero (by subst h; simp at hlen; omega)
            cases h1 with
            | hs _ _ _ cap l' k1 => exact nilcase _ _ cap hl (by rw [hll, hl]; rfl) hy
            | hs0 => exact nilcase _ _ _ hl rfl hy
            | ds _ _ _ _ k1 => rw [g1] at k1; cases k1
          | co _ _ bl oo cells tt fz cmax c1 c2 c3 c4 c5 c6 =>
            cases h1 with
            | hs _ _ _ cap l' k1 k2 k3 _ =>
              rw [g1] at k1; cases k1
              refine ⟨_, run s a _ _ cap hy (run_bytesToString (b := bl) (o := oo + off * k) hll fun j hj => ?_), .c _ _ (.v _)⟩
              have hj' : off + j < rows.length := by omega
              have hrj : rows[off + j] = byteRow l[j] := by
                have e1 : ((rows.drop off).take len)[j]? = (l.map byteRow)[j]? := by rw [hrows]
                rw [List.getElem?_take_of_lt (by omega), List.getElem?_drop, List.getElem?_eq_getElem hj', List.getElem?_map, List.getElem?_eq_getElem hj] at e1
                exact Option.some.inj e1
              have hk1 : k = 1 := by
                have := c5 (off + j) hj'
                rw [hrj] at this
                simpa [byteRow] using this.symm
              have hsz : oo + off * k + j < cells.size := by subst hk1; simp at c3 ⊢; omega
              rw [cell_of_heap c1]
              have h0 : 0 < rows[off + j].length := by rw [hrj]; simp [byteRow]
              have := rowcell hrj h0 (c6 (off + j) hj' 0 h0 (by subst hk1; simp at hsz ⊢; omega))
              subst hk1
              simp only [Nat.mul_one, Nat.add_zero] at this hsz ⊢
              rw [Array.getElem?_eq_getElem hsz]
              have e : oo + (off + j) = oo + off + j := by omega
              simp only [e] at this
              rw [this]
              simp [hj]
            | hs0 => exact nilcase _ _ _ (List.eq_nil_of_length_eq_zero (by omega)) rfl hy
            | ds _ _ _ _ k1 => rw [g1] at k1; cases k1
      · cases he
    · cases he
  · rename_i e hd
    split at he
    case h_2 => cases he
    rename_i hds
    split at he
    case h_2 => cases he
    rename_i te hte0
    have hte := hT e te hte0
    split at he
    case h_2 => cases he
    rename_i hu8
    split at he
    case h_2 => cases he
    rename_i l hx
    cases he
    refine Does.of_run hnd fun s f a hr _ hnew hop => ?_
    have h1 := (hop x mx _ hx).raw
    have hf := hnew nid (by simp)
    let cap := Question.cut (.appendCap l.length 0 e) (s.w.tape s.w.drawn (.appendCap l.length 0 e))
    have hcap : l.length ≤ cap := by simp only [cap, Question.cut]; omega
    let cells : Array Value := (⟨l⟩ : Array UInt8).map (fun (b : UInt8) => Value.int IntKind.u8 b.toNat) ++ Array.replicate (cap - l.length) (.int .u8 0)
    have hsz : cells.size = cap := by simp [cells]; omega
    let w' : World := { s.w with heap := s.w.heap.push (.cells cells e (cap, cap + 1)), drawn := s.w.drawn + 1 }
    have hrun : (execOp a.eval o).run P s.w = .ok (.value (.slice (some ⟨s.w.heap.size, 0, none⟩) l.length cap)) w' := by
      refine conv_run ho ?_
      rw [h1]
      simp only [convert, hts.underlying, htd.underlying, hd, hds, hte.underlying, hu8, Sem.run_bind, Result.andThen_ok]
      exact run_stringToBytes
    let lc : Loc := ⟨some (s.w.heap.size, 0), 1, cap, (l.map byteRow).length⟩
    have hl : ∀ b x, lc.base = some (b, x) → b = s.w.heap.size := fun b x h => by simp [lc] at h; exact h.1.symm
    have hext := ext_new (s := s) (i := nid) (w' := w') (l := lc) hf rfl rfl rfl rfl hl
    refine ⟨_, ⟨upd s.μ nid (.live lc), s.vis, w'⟩, hrun, hext, ?_, ?_, free_new⟩
    · refine hr_new hr hf rfl hext hl ?_
      refine .co 1 (l.map byteRow) s.w.heap.size 0 cells e (cap, cap + 1) cap (by simp [w']) ⟨⟨Nat.le_succ _, fun j hj h => by rw [hsz] at hj; omega⟩, fun j hj => by simp only [cells, Array.getElem_append]; split <;> simp [Value.oneCell']⟩ (by omega) (by simpa using hcap) (fun i hi => by simp [byteRow]) fun i hi j hj hc => ?_
      simp only [List.length_map] at hi
      have hj0 : j = 0 := by simp [byteRow] at hj; exact hj
      subst hj0
      have hce : cells[0 + i * 1 + 0] = .int .u8 (l[i].toNat) := by simp [cells, hi]
      rw [hce]
      simp only [List.getElem_map, byteRow, List.getElem_cons_zero]
      exact .v _
    · have := VR.hw (s := ⟨upd s.μ nid (.live lc), s.vis, w'⟩) nid cap lc (upd_same _ _ _) (by simp [lc, hcap]) (Nat.le_refl _)
      simpa [lc] using this
  · cases he

end Go.Lift
