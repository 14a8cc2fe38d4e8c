/- More operations: marked bytes; structs that are compared. -/
import Derived.Test.YtdmpifnbdifhbaaDrLF
import Derived.Laws.StructEq
namespace Go.Lift
variable {P : Program}

/-- []byte(b) of bytes that a string was turned into: the block is marked. -/
def eMark (T : TT) (ρ : Operand → Option V) (src dst : TypeId) (x : Operand) (H : Nat → Option Ob) (q : List Orc) : Option Out :=
  match eqN src dst with
  | true => match T dst with
    | some td => match td.d with
      | .slice e => match T e with
        | some te => match te.d with
          | .int .u8 => match ρ x with
            | some (.hw i) => match H i with
              | some (.co k (r :: rows)) => some ⟨⟨.hw i, [(i, some (.co k (r :: rows)))], [i], []⟩, [], q⟩
              | _ => none
            | _ => none
          | _ => none
        | none => none
      | _ => none
    | none => none
  | false => none

theorem Clear.mark {fz : Nat × Nat} {cs : Array Value} (h : Clear fz cs) : Clear (if fz.1 == fz.2 then (cs.size, cs.size + 1) else (min fz.1 cs.size, max fz.2 (cs.size + 1))) cs := by
  obtain ⟨lo, hi⟩ := fz
  obtain ⟨⟨h1, h2⟩, h3⟩ := h
  simp only at h1 h2 ⊢
  by_cases he : lo = hi
  · rw [if_pos (by simpa using he)]
    exact ⟨⟨Nat.le_succ _, fun j hj h => by simp only at h; omega⟩, h3⟩
  · rw [if_neg (by simpa using he)]
    have hlo : cs.size ≤ lo := by
      rcases Nat.lt_or_ge lo cs.size with h | h
      · exact absurd ⟨Nat.le_refl _, by omega⟩ (h2 lo h)
      · exact h
    exact ⟨⟨by simp only; omega, fun j hj h => by simp only at h; omega⟩, h3⟩

theorem sound_mark {T : TT} (hT : TTok P T) {b : Frame} {o : Oper} {src dst : TypeId} {x : Operand} (ho : o.op = .convert src dst x) {ρ : Operand → Option V} {H : Nat → Option Ob} {q : List Orc} {out : Out}
    (he : eMark T ρ src dst x H q = some out) : Does P b o ρ H out.r := by
  have hnd : ∀ d, o.op ≠ .defer d := fun d h => by rw [ho] at h; cases h
  have mx : x ∈ o.op.operands.toList := by rw [ho]; simp [Op.operands]
  unfold eMark at he
  split at he
  case h_2 => cases he
  rename_i hsd
  have hsd := Nat.eq_of_beq_eq_true hsd
  subst hsd
  split at he
  case h_2 => cases he
  rename_i td htd0
  have htd := hT src td htd0
  split at he
  case h_2 => cases he
  rename_i e hd
  split at he
  case h_2 => cases he
  rename_i te hte0
  have hte := hT e te hte0
  split at he
  case h_2 => cases he
  rename_i hu8
  split at he
  case h_2 => cases he
  rename_i i hx
  split at he
  case h_2 => cases he
  rename_i k r rows hob
  cases he
  refine Does.of_run hnd fun s f a hr hrd hnew hop => ?_
  have h1 := hop x mx _ hx
  have hf := hrd i (by simp)
  rw [hob] at hf
  obtain ⟨lo, g1, g2⟩ := hr.obj i _ hf
  cases g2 with
  | co0 _ _ h => cases h
  | co _ _ bl oo cells tt fz cmax c1 c2 c3 c4 c5 c6 =>
    obtain ⟨len, cap, hy⟩ : ∃ len cap, a.eval x = .slice (some ⟨bl, oo, none⟩) len cap := by
      generalize a.eval x = y at h1
      cases h1 with
      | hw _ cap l' k1 => rw [g1] at k1; cases k1; exact ⟨_, _, rfl⟩
      | hw0 _ _ l' k1 k2 => rw [g1] at k1; cases k1; simp at k2
      | dw _ _ k1 => rw [g1] at k1; cases k1
    have hrun : (markStringish ⟨bl, oo, none⟩).run P s.w = .ok () (s.w.freeze ⟨bl, cells.size, none⟩ 1) := by
      unfold markStringish
      have hshape : s.w.shape? bl = some (tt, cells.size) := by simp [World.shape?, c1]
      simp only [Sem.run_bind, run_shape, Result.andThen_ok, hshape, run_freeze]
    have hlt : bl < s.w.heap.size := (Array.getElem?_eq_some_iff.1 c1).1
    have hhp : (s.w.freeze ⟨bl, cells.size, none⟩ 1).heap = s.w.heap.modify bl fun
        | .cells c elem (lo, hi) => .cells c elem (if lo == hi then (cells.size, cells.size + 1) else (min lo cells.size, max hi (cells.size + 1)))
        | o => o := by
      simp only [World.freeze]
      rw [if_neg (by omega)]
      rfl
    have hb : (s.w.freeze ⟨bl, cells.size, none⟩ 1).heap[bl]? = some (.cells cells tt (if fz.1 == fz.2 then (cells.size, cells.size + 1) else (min fz.1 cells.size, max fz.2 (cells.size + 1)))) := by
      rw [hhp, Array.getElem?_modify, if_pos rfl, c1]
      rfl
    have ho' : ∀ c, c ≠ bl → (s.w.freeze ⟨bl, cells.size, none⟩ 1).heap[c]? = s.w.heap[c]? := fun c hc => by
      rw [hhp, Array.getElem?_modify, if_neg (Ne.symm hc)]
    have hsz : (s.w.freeze ⟨bl, cells.size, none⟩ 1).heap.size = s.w.heap.size := by rw [hhp, Array.size_modify]
    have hw : (s.w.freeze ⟨bl, cells.size, none⟩ 1).tape = s.w.tape ∧ (s.w.freeze ⟨bl, cells.size, none⟩ 1).os = s.w.os ∧ (s.w.freeze ⟨bl, cells.size, none⟩ 1).output = s.w.output := by
      simp only [World.freeze]
      rw [if_neg (by omega)]
      exact ⟨rfl, rfl, rfl⟩
    have hext := ext_turn (w' := s.w.freeze ⟨bl, cells.size, none⟩ 1) g1 (show (⟨some (bl, oo), k, cmax, (r :: rows).length⟩ : Loc).base = some (bl, oo) from rfl) ho' hsz hw.1 hw.2.1 hw.2.2
    refine ⟨a.eval x, ⟨s.μ, s.vis, s.w.freeze ⟨bl, cells.size, none⟩ 1⟩, ?_, hext, ?_, h1.mono hext, fun i h _ => h⟩
    · refine conv_run ho ?_
      rw [hy]
      simp only [convert, htd.underlying, hd, hte.underlying, hu8, Sem.run_bind, Result.andThen_ok, hrun, Sem.run_pure, beq_self_eq_true]
    · refine hr_turn hr g1 rfl ho' hsz hext ?_
      exact OR.co (s := ⟨s.μ, s.vis, s.w.freeze ⟨bl, cells.size, none⟩ 1⟩) k (r :: rows) bl oo cells tt _ cmax hb c2.mark c3 c4 c5 fun i hi j hj hc => SCR.mono hext (c6 i hi j hj hc)

/-! ### Structs -/
def eqC (d : TypeDesc) (x y : C) : Option Bool := match d with
  | .int _ => match x with
    | .v (.int k a) => match y with
      | .v (.int k' b) => match ikEq k k' with
        | true => some (a == b)
        | false => none
      | _ => none
    | _ => none
  | .bool => match x with
    | .v (.bool a) => match y with
      | .v (.bool b) => some (a == b)
      | _ => none
    | _ => none
  | .string => match x with
    | .v (.string ⟨⟨a⟩⟩) => match y with
      | .v (.string ⟨⟨b⟩⟩) => some (a == b)
      | _ => none
    | _ => none
  | _ => none

def eqFs (T : TT) : List Field → List C → List C → Option Bool
  | [], _, _ => some true
  | f :: fs, l, r => match T f.type with
    | some ti => match nth l f.offset with
      | some x => match nth r f.offset with
        | some y => match eqC ti.d x y with
          | some b => match f.name == "_" with
            | false => match eqFs T fs l r with
              | some b' => some (b && b')
              | none => none
            | true => none
          | none => none
        | none => none
      | none => none
    | none => none

/-- Two structs of numbers, truths and texts. -/
def eEqS (P : Program) (T : TT) (ρ : Operand → Option V) (op : BinOp) (t : TypeId) (x y : Operand) (q : List Orc) : Option Out :=
  match T t with
  | some ti => match ti.d with
    | .struct ⟨fs⟩ => match ti.eq with
      | true => match ρ x with
        | some (.c (.ag l)) => match ρ y with
          | some (.c (.ag r)) => match eqFs T fs l r with
            | some b => match op with
              | .eql => qv (cb b) [] q
              | .neq => qv (cb (!b)) [] q
              | _ => none
            | none => none
          | _ => none
        | _ => none
      | false => none
    | _ => none
  | none => none

theorem eqC_run {t : TypeId} {ti : TI} (ht : TIok P t ti) {x y : C} {b : Bool} (h : eqC ti.d x y = some b) {imm : Nat → Prop} {w w2 : World} {u v : Value} (hu : CR imm w2 x u) (hv : CR imm w2 y v) (d : Nat) :
    (Op.equalIn (d + 1) t u v).run P w = .ok b w ∧ aggD ti.d = false := by
  unfold eqC at h
  split at h
  · rename_i kk hd
    split at h
    case h_2 => cases h
    rename_i k a
    split at h
    case h_2 => cases h
    rename_i k' a'
    split at h
    case h_2 => cases h
    rename_i hk
    cases h
    have hk : k = k' := by simpa [ikEq] using hk
    subst hk
    cases hu; cases hv
    exact ⟨run_equalIn_int _ _ _ _ _ _ _ (by rw [ht.und, hd]), by rw [hd]; rfl⟩
  · rename_i hd
    split at h
    case h_2 => cases h
    split at h
    case h_2 => cases h
    cases h
    cases hu; cases hv
    exact ⟨run_equalIn_bool _ _ _ _ _ (by rw [ht.und, hd]), by rw [hd]; rfl⟩
  · rename_i hd
    split at h
    case h_2 => cases h
    split at h
    case h_2 => cases h
    cases h
    cases hu; cases hv
    refine ⟨?_, by rw [hd]; rfl⟩
    rw [run_equalIn_string _ _ _ _ _ (by rw [ht.und, hd]), toList_mk, toList_mk]
  · cases h

theorem eqFs_run {T : TT} (hT : TTok P T) {w : World} {imm : Nat → Prop} {w2 : World} {xs ys : Array Value} {l r : List C} (hl : l.length = xs.size) (hr : r.length = ys.size)
    (hx : ∀ j (h : j < l.length) (h' : j < xs.size), CR imm w2 l[j] xs[j]) (hy : ∀ j (h : j < r.length) (h' : j < ys.size), CR imm w2 r[j] ys[j]) (d : Nat) :
    ∀ {fs : List Field} {b : Bool}, eqFs T fs l r = some b → (Op.eqFields (d + 1) xs ys fs).run P w = .ok b w := by
  intro fs
  induction fs with
  | nil => intro b h; simp only [eqFs, Option.some.injEq] at h; subst h; rfl
  | cons f fs ih =>
    intro b h
    simp only [eqFs] at h
    split at h
    case h_2 => cases h
    rename_i ti hti
    split at h
    case h_2 => cases h
    rename_i x hxn
    split at h
    case h_2 => cases h
    rename_i y hyn
    split at h
    case h_2 => cases h
    rename_i b1 hb1
    split at h
    case h_2 => cases h
    rename_i hname
    split at h
    case h_2 => cases h
    rename_i b2 hb2
    cases h
    rw [nth_eq] at hxn hyn
    obtain ⟨hx1, hx2⟩ := List.getElem?_eq_some_iff.1 hxn
    obtain ⟨hy1, hy2⟩ := List.getElem?_eq_some_iff.1 hyn
    have g1 := hx f.offset hx1 (by omega)
    have g2 := hy f.offset hy1 (by omega)
    rw [hx2] at g1
    rw [hy2] at g2
    have ht := hT f.type ti hti
    obtain ⟨k1, k2⟩ := eqC_run (w := w) ht hb1 g1 g2 d
    have hp : ∀ (zs : Array Value) (hz : f.offset < zs.size), (part f.type zs f.offset).run P w = .ok zs[f.offset] w := fun zs hz => by
      unfold part
      simp [ht.isAgg, k2, hz]
    have hne : f.name ≠ "_" := by simpa using hname
    simp only [Op.eqFields]
    rw [if_pos hne]
    simp only [Sem.run_bind, hp xs (by omega), hp ys (by omega), k1, Result.andThen_ok]
    cases b1 with
    | true => simp [ih hb2]
    | false => simp

theorem sound_eqS {T : TT} (hT : TTok P T) {b : Frame} {o : Oper} {op : BinOp} {t yt : TypeId} {x y : Operand} (ho : o.op = .binOp op t x y yt) {ρ : Operand → Option V} {H : Nat → Option Ob} {q : List Orc} {out : Out}
    (he : eEqS P T ρ op t x y q = some out) : Does P b o ρ H out.r := by
  have hnd : ∀ d, o.op ≠ .defer d := fun d h => by rw [ho] at h; cases h
  have mx : x ∈ o.op.operands.toList := by rw [ho]; simp [Op.operands]
  have my : y ∈ o.op.operands.toList := by rw [ho]; simp [Op.operands]
  unfold eEqS at he
  split at he
  case h_2 => cases he
  rename_i ti hti0
  have hti := hT t ti hti0
  split at he
  case h_2 => cases he
  rename_i fs hd
  split at he
  case h_2 => cases he
  rename_i hP
  replace hP := hti.cmp hP
  split at he
  case h_2 => cases he
  rename_i l hx
  split at he
  case h_2 => cases he
  rename_i r hy
  split at he
  case h_2 => cases he
  rename_i bb hbb
  have key : ∀ (s : St) (a : Act), (∀ x ∈ o.op.operands.toList, ∀ u, ρ x = some u → VR s u (a.eval x)) → ∃ xs ys, a.eval x = .agg xs ∧ a.eval y = .agg ys ∧ (Op.equalIn 10000 t (.agg xs) (.agg ys)).run P s.w = .ok bb s.w := fun s a hop => by
    have h1 := hop x mx _ hx
    have h2 := hop y my _ hy
    generalize a.eval x = u at h1 ⊢
    generalize a.eval y = v at h2 ⊢
    cases h1 with
    | c _ _ h1 =>
      cases h1 with
      | ag _ xs p1 p2 p3 =>
        cases h2 with
        | c _ _ h2 =>
          cases h2 with
          | ag _ ys q1 q2 q3 =>
            refine ⟨xs, ys, rfl, rfl, ?_⟩
            have hfo : P.fieldsOf t = ⟨fs⟩ := by simp [Program.fieldsOf, hti.und, hd]
            rw [run_equalIn_struct _ 9999 t xs ys (by rw [hti.und, hd, hfo]) hP.1, hfo]
            exact eqFs_run hT p1 q1 p3 q3 9998 hbb
  split at he
  · cases he
    refine Quiet1.does hnd fun s a hop => ?_
    obtain ⟨xs, ys, k1, k2, k3⟩ := key s a hop
    refine ⟨.bool bb, ?_, .c _ _ (.v _)⟩
    unfold execOp
    rw [ho]
    simp [k1, k2, run_eqGuard_agg _ _ _ _ _ _ _ hP.2, run_eql_struct, k3]
  · cases he
    refine Quiet1.does hnd fun s a hop => ?_
    obtain ⟨xs, ys, k1, k2, k3⟩ := key s a hop
    refine ⟨.bool (!bb), ?_, .c _ _ (.v _)⟩
    unfold execOp
    rw [ho]
    simp [k1, k2, run_eqGuard_agg _ _ _ _ _ _ _ hP.2, run_neq_struct, k3]
  · cases he

end Go.Lift
