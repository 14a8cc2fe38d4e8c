/- Addresses, lengths, cuts at data level. -/
import Derived.Test.YtdmpifnbdifhbaaDrL5
namespace Go.Lift
variable {P : Program}

/-! ### fieldAddr -/
def eField (T : TT) (ρ : Operand → Option V) (t : TypeId) (x : Operand) (n : Nat) (H : Nat → Option Ob) (q : List Orc) : Option Out :=
  match T t with
  | some ti => match ti.d with
    | .struct ⟨fs⟩ => match nth fs n with
      | some fd => match T fd.type with
        | some ⟨_, _ + 1, _, _, _⟩ => match ρ x with
          | some (.hp i r j) => match H i with
            | some _ => some ⟨⟨.hp i r (addF j fd.offset), [], [i], []⟩, [], q⟩
            | none => none
          | some (.c (.va row j)) => qv (.c (.va row (addF j fd.offset))) [] q
          | _ => none
        | _ => none
      | none => none
    | _ => none
  | none => none

theorem sound_field {T : TT} (hT : TTok P T) {b : Frame} {o : Oper} {t : TypeId} {x : Operand} {n : Nat} (ho : o.op = .fieldAddr t x n) {ρ : Operand → Option V} {H : Nat → Option Ob} {q : List Orc} {out : Out}
    (he : eField T ρ t x n H q = some out) : Does P b o ρ H out.r := by
  have hnd : ∀ d, o.op ≠ .defer d := fun d h => by rw [ho] at h; cases h
  have mx : x ∈ o.op.operands.toList := by rw [ho]; simp [Op.operands]
  unfold eField at he
  split at he
  case h_2 => cases he
  rename_i ti hti0
  have hti := hT t ti hti0
  split at he
  case h_2 => cases he
  rename_i fs hfs
  split at he
  case h_2 => cases he
  rename_i fd hfd
  split at he
  case h_2 => cases he
  rename_i d sz by_ ze zq hft
  have hft' := hT _ _ hft
  have key : ∀ (s : St) (bl oo j : Nat) (a : Act), a.eval x = .pointer (some ⟨bl, oo + j, none⟩) → (execOp a.eval o).run P s.w = .ok (.value (.pointer (some ⟨bl, oo + addF j fd.offset, none⟩))) s.w := fun s bl oo j a hx => by
    unfold execOp
    rw [ho]
    have hsz : (sizeOf fd.type).run P s.w = .ok (sz + 1) s.w := hft'.sizeOf
    have hfd' : (⟨fs⟩ : Array Field)[n]? = some fd := by rw [nth_eq] at hfd; simpa using hfd
    simp only [Instr.fieldAt, hti.underlying, hfs, hfd', hx, Instr.sureAddr, fieldPlace, hsz, Sem.run_bind, Result.andThen_ok, Sem.run_pure, Sem.run_ite, addr_add]
    simp [addF_eq, Nat.add_assoc]
  split at he
  · rename_i i r j hx
    split at he
    · rename_i ob hob
      cases he
      exact Does.quiet hnd fun s f a hr hrd hop => by
        have h1 := hop x mx _ hx
        have hf := hrd i (by simp)
        rw [hob] at hf
        obtain ⟨l, h2, _⟩ := hr.obj i _ hf
        generalize hy : a.eval x = y at h1
        cases h1 with
        | hp _ _ _ l' bl oo g1 g2 =>
          refine ⟨_, key s bl (oo + r * l'.k) j a (by rw [hy]), ?_⟩
          exact .hp i r _ l' bl oo g1 g2
        | dp _ _ _ _ hd => rw [h2] at hd; cases hd
    · cases he
  · rename_i row j hx
    cases he
    refine Quiet1.does hnd fun s a hop => ?_
    have h1 := hop x mx _ hx
    generalize hy : a.eval x = y at h1
    cases h1 with
    | c _ _ h1 =>
      cases h1 with
      | va _ _ bl oo g g1 g2 g3 =>
        exact ⟨_, key s bl oo j a (by rw [hy]), .c _ _ (.va row _ bl oo g g1 g2 g3)⟩
  · cases he

/-! ### field of a struct's value -/
def eFieldV (T : TT) (ρ : Operand → Option V) (t : TypeId) (x : Operand) (n : Nat) (q : List Orc) : Option Out :=
  match T t with
  | some ti => match ti.d with
    | .struct ⟨fs⟩ => match nth fs n with
      | some fd => match T fd.type with
        | some tf => match ρ x with
          | some (.c (.ag l)) => match loadRowC tf l fd.offset with
            | some c => qv (.c c) [] q
            | none => none
          | some (.ag l) => match loadRow tf l fd.offset with
            | some c => qv c [] q
            | none => none
          | _ => none
        | none => none
      | none => none
    | _ => none
  | none => none

theorem run_part {t : TypeId} {ti : TI} (hti : TIok P t ti) {w : World} {cs : Array Value} {off : Nat} (h : off + (if aggD ti.d then ti.size else 1) ≤ cs.size) :
    (part t cs off).run P w = .ok (if aggD ti.d then .agg (cs.extract off (off + ti.size)) else cs.getD off undef) w := by
  unfold part
  simp only [Sem.run_bind, hti.isAgg, Result.andThen_ok]
  cases ha : aggD ti.d with
  | true => simp [hti.sizeOf]
  | false =>
    rw [ha] at h
    simp only [Bool.false_eq_true, if_false] at h ⊢
    have : off < cs.size := by omega
    simp [this]

theorem sound_fieldV {T : TT} (hT : TTok P T) {b : Frame} {o : Oper} {t : TypeId} {x : Operand} {n : Nat} (ho : o.op = .field t x n) {ρ : Operand → Option V} {H : Nat → Option Ob} {q : List Orc} {out : Out}
    (he : eFieldV T ρ t x n q = some out) : Does P b o ρ H out.r := by
  have hnd : ∀ d, o.op ≠ .defer d := fun d h => by rw [ho] at h; cases h
  have mx : x ∈ o.op.operands.toList := by rw [ho]; simp [Op.operands]
  unfold eFieldV at he
  split at he
  case h_2 => cases he
  rename_i ti hti0
  have hti := hT t ti hti0
  split at he
  case h_2 => cases he
  rename_i fs hfs
  split at he
  case h_2 => cases he
  rename_i fd hfd
  split at he
  case h_2 => cases he
  rename_i tf hft
  have hft' := hT _ _ hft
  have key : ∀ (s : St) (cs : Array Value) (a : Act), a.eval x = .agg cs → fd.offset + (if aggD tf.d then tf.size else 1) ≤ cs.size →
      (execOp a.eval o).run P s.w = .ok (.value (if aggD tf.d then .agg (cs.extract fd.offset (fd.offset + tf.size)) else cs.getD fd.offset undef)) s.w := fun s cs a hx hsz => by
    unfold execOp
    rw [ho]
    have hfd' : (⟨fs⟩ : Array Field)[n]? = some fd := by rw [nth_eq] at hfd; simpa using hfd
    simp only [Instr.field, hti.underlying, hfs, hfd', hx, asAgg, Sem.run_bind, Result.andThen_ok, Sem.run_pure, run_part hft' hsz]
  split at he
  · rename_i l hx
    split at he
    case h_2 => cases he
    rename_i c hc
    cases he
    refine Quiet1.does hnd fun s a hop => ?_
    have h1 := hop x mx _ hx
    generalize hy : a.eval x = y at h1
    cases h1 with
    | c _ _ h1 =>
      cases h1 with
      | ag _ cs g1 g0 g2 =>
        unfold loadRowC at hc
        split at hc
        · rename_i ha
          split at hc
          · rename_i l' hl'
            cases hc
            obtain ⟨k1, k2, k3⟩ := segF_eq hl'
            by_cases hz : tf.size = 0
            · have hl0 : l' = [] := List.eq_nil_of_length_eq_zero (by omega)

              refine ⟨.agg (cs.extract fd.offset (fd.offset + tf.size)), ?_, .c _ _ (.ag _ _ (by subst hl0; simp [hz]; omega) (fun j h => by simp [hz] at h; omega) fun j h => by subst hl0; simp at h)⟩
              unfold execOp
              rw [ho]
              have hfd' : (⟨fs⟩ : Array Field)[n]? = some fd := by rw [nth_eq] at hfd; simpa using hfd
              simp [Instr.field, hti.underlying, hfs, hfd', hy, asAgg, part, hft'.isAgg, ha, hft'.sizeOf]
            · have hle : fd.offset + tf.size ≤ l.length := by omega
              refine ⟨_, key s cs a hy (by rw [ha]; simp; omega), ?_⟩
              rw [ha, if_pos rfl]
              refine .c _ _ (.ag _ _ (by simp; omega) (fun j hj => by rw [Array.getElem_extract]; exact g0 _ _) fun j hj hj' => ?_)
              have hj2 : fd.offset + j < l.length := by omega
              have e := k3 j (by omega)
              rw [List.getElem?_eq_getElem hj, List.getElem?_eq_getElem hj2] at e
              rw [Option.some.inj e]
              simp only [Array.getElem_extract]
              exact g2 _ hj2 (by omega)
          · cases hc
        · rename_i ha
          rw [nth_eq] at hc
          obtain ⟨hj, hu⟩ := List.getElem?_eq_some_iff.1 hc
          have hj' : fd.offset < cs.size := by omega
          refine ⟨_, key s cs a hy (by rw [ha]; simp; omega), ?_⟩
          rw [ha]
          simp only [Bool.false_eq_true, if_false]
          rw [← hu]
          have := g2 fd.offset hj hj'
          simpa [Array.getD_eq_getD_getElem?, hj'] using VR.c _ _ this
  · rename_i l hx
    split at he
    case h_2 => cases he
    rename_i c hc
    cases he
    refine Quiet1.does hnd fun s a hop => ?_
    have h1 := hop x mx _ hx
    generalize hy : a.eval x = y at h1
    cases h1 with
    | ag _ cs g1 g0 g2 =>
        unfold loadRow at hc
        split at hc
        · rename_i ha
          split at hc
          · rename_i l' hl'
            cases hc
            obtain ⟨k1, k2, k3⟩ := segF_eq hl'
            by_cases hz : tf.size = 0
            · have hl0 : l' = [] := List.eq_nil_of_length_eq_zero (by omega)
              refine ⟨.agg (cs.extract fd.offset (fd.offset + tf.size)), ?_, VR.mkAg (by subst hl0; simp [hz]; omega) (fun j h => by simp [hz] at h; omega) fun j h => by subst hl0; simp at h⟩
              unfold execOp
              rw [ho]
              have hfd' : (⟨fs⟩ : Array Field)[n]? = some fd := by rw [nth_eq] at hfd; simpa using hfd
              simp [Instr.field, hti.underlying, hfs, hfd', hy, asAgg, part, hft'.isAgg, ha, hft'.sizeOf]
            · have hle : fd.offset + tf.size ≤ l.length := by omega
              refine ⟨_, key s cs a hy (by rw [ha]; simp; omega), ?_⟩
              rw [ha, if_pos rfl]
              refine VR.mkAg (by simp; omega) (fun j hj => by rw [Array.getElem_extract]; exact g0 _ _) fun j hj hj' => ?_
              have hj2 : fd.offset + j < l.length := by omega
              have e := k3 j (by omega)
              rw [List.getElem?_eq_getElem hj, List.getElem?_eq_getElem hj2] at e
              rw [Option.some.inj e]
              simp only [Array.getElem_extract]
              exact g2 _ hj2 (by omega)
          · cases hc
        · rename_i ha
          split at hc
          · rename_i u hu0
            cases hc
            rw [nth_eq] at hu0
            obtain ⟨hj, hu⟩ := List.getElem?_eq_some_iff.1 hu0
            have hj' : fd.offset < cs.size := by omega
            refine ⟨_, key s cs a hy (by rw [ha]; simp; omega), ?_⟩
            rw [ha]
            simp only [Bool.false_eq_true, if_false]
            rw [← hu]
            have := g2 fd.offset hj hj'
            simpa [Array.getD_eq_getD_getElem?, hj'] using this
          · cases hc
  · cases he

/-! ### indexAddr -/
def obK : Ob → Option (Nat × Bool)
  | .co k _ => some (k, true)
  | .vo k _ => some (k, false)
  | _ => none

def obLen : Ob → Nat
  | .co _ rows => rows.length
  | .vo _ rows => rows.length
  | _ => 0


def eIdx (T : TT) (ρ : Operand → Option V) (t : TypeId) (x ix : Operand) (H : Nat → Option Ob) (q : List Orc) : Option Out :=
  match T t with
  | some ti => match ti.d with
    | .slice e => match T e with
      | some te => match ρ ix with
        | some (.c (.v (.int _ n))) => match ρ x with
          | some (.c (.sl k rows)) => match rowAt rows n.toNat q with
            | some (row, obs, q') => match eqN te.size k with
              | true => qv (.c (.va row 0)) (Pr.of (0 ≤ n) :: obs) q'
              | false => none
            | none => none
          | some (.hs i off len) => match H i with
            | some ob => match obK ob with
              | some (k, _) => match eqN te.size k with
                | true => some ⟨⟨.hp i (addF off n.toNat) 0, [], [i], []⟩, [0 ≤ n, n < (len : Int)], q⟩
                | false => none
              | none => none
            | none => none
          | some (.hw i) => match H i with
            | some ob => match obK ob with
              | some (k, _) => match eqN te.size k with
                | true => some ⟨⟨.hp i n.toNat 0, [], [i], []⟩, [0 ≤ n, n < (obLen ob : Int)], q⟩
                | false => none
              | none => none
            | none => none
          | _ => none
        | _ => none
      | none => none
    | _ => none
  | none => none

theorem loc_of {s : St} {ob : Ob} {l : Loc} (h : OR s ob l) {k : Nat} {b : Bool} (hk : obK ob = some (k, b)) : l.k = k ∧ l.len = obLen ob ∧ l.len ≤ l.cmax ∧ (l.base = none → l.cmax = 0) := by
  cases h with
  | bx => cases hk
  | co0 _ _ h => cases hk; subst h; exact ⟨rfl, rfl, Nat.le_refl _, fun _ => rfl⟩
  | co _ _ _ _ _ _ _ _ _ _ _ h => cases hk; exact ⟨rfl, rfl, h, fun h => by cases h⟩
  | vo _ _ _ _ _ _ _ _ _ _ _ h => cases hk; exact ⟨rfl, rfl, h, fun h => by cases h⟩
  | ot => cases hk
  | lp => cases hk

theorem sound_idx {T : TT} (hT : TTok P T) {b : Frame} {o : Oper} {t : TypeId} {x ix : Operand} (ho : o.op = .indexAddr t x ix) {ρ : Operand → Option V} {H : Nat → Option Ob} {q : List Orc} {out : Out}
    (he : eIdx T ρ t x ix H q = some out) (hobs : Obs out.obs) : Does P b o ρ H out.r := by
  have hnd : ∀ d, o.op ≠ .defer d := fun d h => by rw [ho] at h; cases h
  have mx : x ∈ o.op.operands.toList := by rw [ho]; simp [Op.operands]
  have mi : ix ∈ o.op.operands.toList := by rw [ho]; simp [Op.operands]
  unfold eIdx at he
  split at he
  case h_2 => cases he
  rename_i ti hti0
  have hti := hT t ti hti0
  split at he
  case h_2 => cases he
  rename_i e hd
  split at he
  case h_2 => cases he
  rename_i te hte0
  have hte := hT e te hte0
  split at he
  case h_2 => cases he
  rename_i kd n hix
  have key : ∀ (s : St) (ad : Addr) (len cap : Nat) (a : Act), a.eval x = .slice (some ad) len cap → a.eval ix = .int kd n → 0 ≤ n → n < (len : Int) →
      (execOp a.eval o).run P s.w = .ok (.value (.pointer (some (ad.add (n.toNat * te.size))))) s.w := fun s ad len cap a hx hi h0 h1 => by
    unfold execOp
    rw [ho]
    simp [Instr.indexAt, hti.underlying, hd, hx, hi, asIntOf, h0, h1, hte.sizeOf]
  split at he
  · rename_i k rows hx
    split at he
    case h_2 => cases he
    rename_i row obs q' hq
    split at he
    case h_2 => cases he
    rename_i hk
    cases he
    obtain ⟨h0, hobs'⟩ := hobs
    have hrow := rowAt_ok hq hobs'
    replace h0 : 0 ≤ n := h0
    have hk' : te.size = k := Nat.eq_of_beq_eq_true hk
    obtain ⟨hrl, hre⟩ := List.getElem?_eq_some_iff.1 hrow
    refine Quiet1.does hnd fun s a hop => ?_
    have h1 := hop x mx _ hx
    have h2 := (hop ix mi _ hix).raw
    generalize hy : a.eval x = y at h1
    cases h1 with
    | c _ _ h1 =>
      cases h1 with
      | sl0 => simp at hrl
      | sl _ _ bl oo cap g g1 g2 g3 g4 g5 =>
        refine ⟨_, key s _ _ _ a hy h2 h0 (by omega), ?_⟩
        rw [addr_add, hk']
        have hrk : row.length = k := by rw [← hre]; exact g3 _ hrl
        refine .c _ _ (.va row 0 bl (oo + n.toNat * k) (fun j => g n.toNat j) g1 (fun j hj => g4 _ _ hrl (by omega)) fun j hj => ?_)
        subst hre
        exact g5 _ hrl j hj
  · rename_i i off len hx
    split at he
    case h_2 => cases he
    rename_i ob hob
    split at he
    case h_2 => cases he
    rename_i k bb hbk
    split at he
    case h_2 => cases he
    rename_i hk
    cases he
    obtain ⟨h0, hlt, _⟩ := hobs
    have hk' : te.size = k := Nat.eq_of_beq_eq_true hk
    exact Does.quiet hnd fun s f a hr hrd hop => by
      have h1 := hop x mx _ hx
      have h2 := (hop ix mi _ hix).raw
      have hf := hrd i (by simp)
      rw [hob] at hf
      obtain ⟨l, g1, g2⟩ := hr.obj i _ hf
      obtain ⟨e1, _, _, e2⟩ := loc_of g2 hbk
      generalize hy : a.eval x = y at h1
      cases h1 with
      | hs _ _ _ cap l' k1 k2 k3 _ =>
        rw [g1] at k1
        cases k1
        cases hb : l.base with
        | none => have := e2 hb; omega
        | some p =>
          obtain ⟨bl, oo⟩ := p
          refine ⟨_, key s ⟨bl, oo + off * l.k, none⟩ len cap a (by rw [hy, hb]; rfl) h2 h0 hlt, ?_⟩
          rw [addr_add, hk', addF_eq]
          have := VR.hp (s := s) i (off + n.toNat) 0 l bl oo g1 hb
          rw [e1] at this ⊢
          rw [Nat.add_mul, Nat.add_zero] at this
          rw [Nat.add_assoc]
          exact this
      | hs0 => omega
      | ds _ _ _ _ k1 => rw [g1] at k1; cases k1
  · rename_i i hx
    split at he
    case h_2 => cases he
    rename_i ob hob
    split at he
    case h_2 => cases he
    rename_i k bb hbk
    split at he
    case h_2 => cases he
    rename_i hk
    cases he
    obtain ⟨h0, hlt, _⟩ := hobs
    have hk' : te.size = k := Nat.eq_of_beq_eq_true hk
    exact Does.quiet hnd fun s f a hr hrd hop => by
      have h1 := hop x mx _ hx
      have h2 := (hop ix mi _ hix).raw
      have hf := hrd i (by simp)
      rw [hob] at hf
      obtain ⟨l, g1, g2⟩ := hr.obj i _ hf
      obtain ⟨e1, e3, _, e2⟩ := loc_of g2 hbk
      generalize hy : a.eval x = y at h1
      cases h1 with
      | hw _ cap l' k1 k2 k3 =>
        rw [g1] at k1
        cases k1
        cases hb : l.base with
        | none => have := e2 hb; omega
        | some p =>
          obtain ⟨bl, oo⟩ := p
          refine ⟨_, key s ⟨bl, oo, none⟩ l.len cap a (by rw [hy, hb]; rfl) h2 h0 (by omega), ?_⟩
          rw [addr_add, hk']
          have := VR.hp (s := s) i n.toNat 0 l bl oo g1 hb
          rw [e1, Nat.add_zero] at this
          exact this
      | hw0 _ _ l' k1 k2 => rw [g1] at k1; cases k1; omega
      | dw _ _ k1 => rw [g1] at k1; cases k1
  · cases he

/-! ### index into a string -/
def eIndex (T : TT) (ρ : Operand → Option V) (t : TypeId) (x ix : Operand) (q : List Orc) : Option Out :=
  match T t with
  | some ti => match ti.d with
    | .string => match ρ ix with
      | some (.c (.v (.int _ n))) => match ρ x with
        | some (.c (.v (.string ⟨⟨l⟩⟩))) => qv (ci .u8 ((l.getD n.toNat 0).toNat)) [0 ≤ n, n < (l.length : Int)] q
        | _ => none
      | _ => none
    | _ => none
  | none => none

theorem sound_index {T : TT} (hT : TTok P T) {b : Frame} {o : Oper} {t : TypeId} {x ix : Operand} (ho : o.op = .index t x ix) {ρ : Operand → Option V} {H : Nat → Option Ob} {q : List Orc} {out : Out}
    (he : eIndex T ρ t x ix q = some out) (hobs : Obs out.obs) : Does P b o ρ H out.r := by
  have hnd : ∀ d, o.op ≠ .defer d := fun d h => by rw [ho] at h; cases h
  have mx : x ∈ o.op.operands.toList := by rw [ho]; simp [Op.operands]
  have mi : ix ∈ o.op.operands.toList := by rw [ho]; simp [Op.operands]
  unfold eIndex at he
  split at he
  case h_2 => cases he
  rename_i ti hti0
  have hti := hT t ti hti0
  split at he
  case h_2 => cases he
  rename_i hd
  split at he
  case h_2 => cases he
  rename_i kd n hix
  split at he
  case h_2 => cases he
  rename_i l hx
  cases he
  obtain ⟨h0, h1, _⟩ := hobs
  simp only [Pr.of] at h0 h1
  refine Quiet1.does hnd fun s a hop => ?_
  have g1 := (hop x mx _ hx).raw
  have g2 := (hop ix mi _ hix).raw
  refine ⟨_, ?_, .c _ _ (.v _)⟩
  unfold execOp
  rw [ho]
  have hn : n.toNat < l.length := by omega
  have hg : (⟨⟨l⟩⟩ : ByteArray)[n.toNat]? = some l[n.toNat] := by
    have : n.toNat < (⟨⟨l⟩⟩ : ByteArray).size := hn
    rw [getElem?_pos (⟨⟨l⟩⟩ : ByteArray) n.toNat this]
    rfl
  simp [Instr.index, hti.underlying, hd, g1, g2, asIntOf, h0, hg, hn, List.getD_eq_getElem?_getD]

/-! ### len -/
def eLen (T : TT) (ρ : Operand → Option V) (t : TypeId) (x : Operand) (H : Nat → Option Ob) (q : List Orc) : Option Out :=
  match T t with
  | some ti => match ti.d with
    | .string => match ρ x with
      | some (.c (.v (.string ⟨⟨l⟩⟩))) => qv (ci .i64 (l.length : Nat)) [] q
      | _ => none
    | .slice _ => match ρ x with
      | some (.c (.sl _ rows)) => qv (ci .i64 (rows.length : Nat)) [] q
      | some (.c (.v (.slice _ n _))) => qv (ci .i64 n) [] q
      | some (.hs i _ len) => match H i with
        | some _ => some ⟨⟨ci .i64 len, [], [i], []⟩, [], q⟩
        | none => none
      | some (.hw i) => match H i with
        | some ob => match obK ob with
          | some _ => some ⟨⟨ci .i64 (obLen ob : Nat), [], [i], []⟩, [], q⟩
          | none => none
        | none => none
      | some .hz => qv (ci .i64 0) [] q
      | _ => none
    | _ => none
  | none => none

theorem sound_len {T : TT} (hT : TTok P T) {b : Frame} {o : Oper} {t : TypeId} {x : Operand} {tys : Array TypeId} (ho : o.op = .call { callee := .builtin .len, args := #[x], argTypes := tys }) (ht : tys[0]? = some t)
    {ρ : Operand → Option V} {H : Nat → Option Ob} {q : List Orc} {out : Out} (he : eLen T ρ t x H q = some out) : Does P b o ρ H out.r := by
  have hnd : ∀ d, o.op ≠ .defer d := fun d h => by rw [ho] at h; cases h
  have mx : x ∈ o.op.operands.toList := by rw [ho]; simp [Op.operands, Call.operands]
  have kstr : ∀ (s : St) (ti : TI) (a : Act) (l : List UInt8), TIok P t ti → ti.d = .string → a.eval x = .string ⟨⟨l⟩⟩ → (execOp a.eval o).run P s.w = .ok (.value (.int .i64 (l.length : Nat))) s.w := fun s ti a l hti hd hx => by
    unfold execOp
    rw [ho]
    simp [resolve, invoke, builtin, Builtin.len_, ht, hx, hti.underlying, hd, goInt]
    rfl
  have ksl : ∀ (s : St) (ti : TI) (a : Act) (e : TypeId) (ad : Option Addr) (n c : Nat), TIok P t ti → ti.d = .slice e → a.eval x = .slice ad n c → (execOp a.eval o).run P s.w = .ok (.value (.int .i64 n)) s.w := fun s ti a e ad n c hti hd hx => by
    unfold execOp
    rw [ho]
    simp [resolve, invoke, builtin, Builtin.len_, ht, hx, hti.underlying, hd, goInt]
  unfold eLen at he
  split at he
  case h_2 => cases he
  rename_i ti hti0
  have hti := hT t ti hti0
  split at he
  · rename_i hd
    split at he
    case h_2 => cases he
    rename_i l hx
    cases he
    exact Quiet1.does hnd fun s a hop => ⟨_, kstr s ti a l hti hd (hop x mx _ hx).raw, .c _ _ (.v _)⟩
  · rename_i e hd
    split at he
    · rename_i k rows hx
      cases he
      refine Quiet1.does hnd fun s a hop => ?_
      have h1 := hop x mx _ hx
      generalize hy : a.eval x = y at h1
      cases h1 with
      | c _ _ h1 =>
        cases h1 with
        | sl0 => exact ⟨_, ksl s ti a e _ _ _ hti hd hy, .c _ _ (.v _)⟩
        | sl => exact ⟨_, ksl s ti a e _ _ _ hti hd hy, .c _ _ (.v _)⟩
    · rename_i ad n c hx
      cases he
      exact Quiet1.does hnd fun s a hop => ⟨_, ksl s ti a e _ _ _ hti hd (hop x mx _ hx).raw, .c _ _ (.v _)⟩
    · rename_i i off len hx
      split at he
      case h_2 => cases he
      rename_i ob hob
      cases he
      exact Does.quiet hnd fun s f a hr hrd hop => by
        have h1 := hop x mx _ hx
        have hf := hrd i (by simp)
        rw [hob] at hf
        obtain ⟨l, g1, g2⟩ := hr.obj i _ hf
        generalize hy : a.eval x = y at h1
        cases h1 with
        | hs => exact ⟨_, ksl s ti a e _ _ _ hti hd hy, .c _ _ (.v _)⟩
        | hs0 => exact ⟨_, ksl s ti a e _ _ _ hti hd hy, .c _ _ (.v _)⟩
        | ds _ _ _ _ k1 => rw [g1] at k1; cases k1
    · rename_i i hx
      split at he
      case h_2 => cases he
      rename_i ob hob
      split at he
      case h_2 => cases he
      rename_i p hp
      cases he
      exact Does.quiet hnd fun s f a hr hrd hop => by
        have h1 := hop x mx _ hx
        have hf := hrd i (by simp)
        rw [hob] at hf
        obtain ⟨l, g1, g2⟩ := hr.obj i _ hf
        obtain ⟨_, e3, _, _⟩ := loc_of (k := p.1) (b := p.2) g2 hp
        generalize hy : a.eval x = y at h1
        cases h1 with
        | hw _ _ l' k1 => rw [g1] at k1; cases k1; refine ⟨_, ksl s ti a e _ _ _ hti hd hy, ?_⟩; rw [e3]; exact .c _ _ (.v _)
        | hw0 _ _ l' k1 k2 => rw [g1] at k1; cases k1; refine ⟨_, ksl s ti a e _ _ _ hti hd hy, ?_⟩; rw [← e3, k2]; exact .c _ _ (.v _)
        | dw _ _ k1 => rw [g1] at k1; cases k1
    · rename_i hx
      cases he
      refine Quiet1.does hnd fun s a hop => ?_
      have h1 := hop x mx _ hx
      generalize hy : a.eval x = y at h1
      cases h1 with
      | hz => exact ⟨_, ksl s ti a e _ _ _ hti hd hy, .c _ _ (.v _)⟩
    · cases he
  · cases he

end Go.Lift
