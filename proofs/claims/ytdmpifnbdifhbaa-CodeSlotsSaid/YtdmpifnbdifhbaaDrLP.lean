/- A store of a value with objects into closed rows. -/
import Derived.Test.YtdmpifnbdifhbaaDrLO
import Derived.Test.YtdmpifnbdifhbaaDrLN
namespace Go.Lift
variable {P : Program}

def upOb : Ob → Option Ob
  | .co k (r :: rows) => match upR (r :: rows) with
    | some R => some (.vo k R)
    | none => none
  | _ => none

theorem OR.up {s : St} {o o' : Ob} {l : Loc} (h : OR s o l) (hu : upOb o = some o') : OR s o' l := by
  cases h with
  | co0 k rows h => subst h; cases hu
  | co k rows b o cs t fz cmax h1 h2 h3 h4 h5 h6 =>
    cases rows with
    | nil => cases hu
    | cons r rows =>
      simp only [upOb] at hu
      split at hu
      case h_2 => cases hu
      rename_i R hR
      cases hu
      have e := upR_eq hR
      have hl : R.length = (r :: rows).length := by rw [e]; simp
      rw [← hl]
      refine .vo k R b o cs t fz cmax h1 h2 h3 (by rw [hl]; exact h4) (fun i hi => ?_) fun i hi j hj hc => ?_
      · subst e
        simp only [List.getElem_map, List.length_map]
        exact h5 i (by simpa using hi)
      · subst e
        have hi' : i < (r :: rows).length := by rw [List.length_map] at hi; exact hi
        have hj' : j < ((r :: rows)[i]).length := by rw [List.getElem_map, List.length_map] at hj; exact hj
        have := VR.c _ _ (h6 i hi' j hj' hc)
        simp only [List.getElem_map]
        exact this
  | bx => cases hu
  | vo => cases hu
  | ot => cases hu
  | lp => cases hu

def setOb (H : Nat → Option Ob) (i : Nat) (o : Ob) : Nat → Option Ob := fun n => match eqN n i with
  | true => some o
  | false => H n

theorem HR.up {s : St} {f : Nat → Option Ob} (h : HR s f) {i : Nat} {o o' : Ob} (hi : f i = some o) (hu : upOb o = some o') : HR s (setOb f i o') where
  obj j x hx := by
    unfold setOb at hx
    split at hx
    · rename_i he
      cases hx
      have := Nat.eq_of_beq_eq_true he
      subst this
      obtain ⟨l, h1, h2⟩ := h.obj j o hi
      exact ⟨l, h1, h2.up hu⟩
    · exact h.obj j x hx
  non j l hl := by
    unfold setOb
    split
    · exact ⟨_, rfl⟩
    · exact h.non j l hl
  lt := h.lt
  own := h.own
  fut := h.fut
  sep := h.sep

def eStoreU (T : TT) (ρ : Operand → Option V) (t : TypeId) (a x : Operand) (H : Nat → Option Ob) (q : List Orc) : Option Out :=
  match ρ a with
  | some (.hp i _ _) => match H i with
    | some o => match upOb o with
      | some o' => match eStore T ρ t a x (setOb H i o') q with
        | some ⟨⟨v, [(n, some o2)], [m], []⟩, ob, q'⟩ => match eqN n i with
          | true => match eqN m i with
            | true => some ⟨⟨v, [(n, some o2)], [m], []⟩, ob, q'⟩
            | false => none
          | false => none
        | _ => none
      | none => none
    | none => none
  | _ => none

theorem sound_storeU {T : TT} (hT : TTok P T) {b : Frame} {o : Oper} {t : TypeId} {a x : Operand} (ho : o.op = .store t a x) {ρ : Operand → Option V} {H : Nat → Option Ob} {q : List Orc} {out : Out}
    (he : eStoreU T ρ t a x H q = some out) (hobs : Obs out.obs) : Does P b o ρ H out.r := by
  unfold eStoreU at he
  split at he
  case h_2 => cases he
  rename_i i _ _ _
  split at he
  case h_2 => cases he
  rename_i oi hoi
  split at he
  case h_2 => cases he
  rename_i o' ho'
  split at he
  case h_2 => cases he
  rename_i v n o2 m ob q' hst
  split at he
  case h_2 => cases he
  rename_i hn
  split at he
  case h_2 => cases he
  rename_i hm
  cases he
  have hn := Nat.eq_of_beq_eq_true hn
  have hm := Nat.eq_of_beq_eq_true hm
  subst hn hm
  have hd := sound_store (P := P) hT ho hst hobs (b := b)
  intro s f ac hr hrd hnew hop ops i0 rest k cs hi0 hw
  have hf : f m = some oi := by rw [hrd m (by simp)]; exact hoi
  obtain ⟨v1, s', g1, g2, g3, g4, g5⟩ := hd s (setOb f m o') ac (hr.up hf ho') (fun j hj => by
    have : j = m := by simpa using hj
    subst this
    simp [setOb, eqN]) hnew hop ops i0 rest k cs hi0 hw
  refine ⟨v1, s', g1, g2, ?_, g4, g5⟩
  have : upf (setOb f m o') [(m, some o2)] = upf f [(m, some o2)] := by
    rw [upf_one, upf_one]
    funext j
    by_cases hj : j = m
    · simp [hj]
    · have : eqN j m = false := by
        cases he : eqN j m with
        | false => rfl
        | true => exact absurd (Nat.eq_of_beq_eq_true he) hj
      simp [setOb, hj, this]
  rw [← this]
  exact g3

end Go.Lift
