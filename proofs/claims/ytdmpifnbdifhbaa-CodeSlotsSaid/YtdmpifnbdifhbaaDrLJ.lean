/- Where a frame stands; how it goes on. -/
import Derived.Test.YtdmpifnbdifhbaaDrLI
import Derived.Calls
import Derived.RangeFuncRecord
namespace Go.Lift
variable {P : Program}

/-- What is deferred: the mark of a range over a function. -/
inductive DV where
  | mark (i : Nat)

def DR (s : St) : List DV → List Deferred → Prop
  | [], [] => True
  | .mark i :: l, d :: r => (∃ b, d = { target := .collected b, args := #[] } ∧ ((∃ lc, s.μ i = .live lc ∧ lc.base = some (b, 0)) ∨ s.μ i = .dead)) ∧ DR s l r
  | _, _ => False

theorem DR.mono {s s' : St} (he : Ext s s') : ∀ {l : List DV} {r : List Deferred}, DR s l r → DR s' l r := by
  intro l
  induction l with
  | nil => intro r h; cases r <;> first | trivial | exact h.elim
  | cons x l ih =>
    intro r h
    cases x with
    | mark i =>
      cases r with
      | nil => exact h.elim
      | cons d r =>
        obtain ⟨⟨b, h1, h2⟩, h3⟩ := h
        refine ⟨⟨b, h1, ?_⟩, ih h3⟩
        rcases h2 with ⟨lc, h4, h5⟩ | h4
        · rcases he.live i lc h4 with h6 | h6
          · exact .inl ⟨lc, h6, h5⟩
          · exact .inr h6
        · exact .inr (he.dead i h4)

structure Now (e : Env) (h : Heap) (N : Nat) (ds : List DV) (a : Act) (s : St) : Prop where
  env : ∀ t v, lk e t = some v → VR s v (a.tmps.getD t undef)
  hl : HL s h
  size : a.tmps.size = N
  defers : DR s ds a.defers

/-- From here the frame comes to 'R'. -/
def Wp (P : Program) (b : Frame) (N : Nat) (s0 : St) (R : Frame → St → Prop) (todo : List Item) (ds : List DV) (e : Env) (h : Heap) : Prop :=
  ∀ a s, Now e h N ds a s → Ext s0 s → ∀ cs, ∃ fr s', Steps P (lone (b.atR a todo) cs s.w) (lone fr cs s'.w) ∧ Ext s0 s' ∧ R fr s'

section
variable {b : Frame} {N : Nat} {s0 : St} {R : Frame → St → Prop} {k : List Item} {ds : List DV} {e : Env} {h : Heap}

theorem Wp.step {todo todo' : List Item} (hs : ∀ a s cs, Now e h N ds a s → Steps P (lone (b.atR a todo) cs s.w) (lone (b.atR a todo') cs s.w)) (hw : Wp P b N s0 R todo' ds e h) : Wp P b N s0 R todo ds e h := by
  intro a s hn he cs
  obtain ⟨fr, s', h1, h2⟩ := hw a s hn he cs
  exact ⟨fr, s', (hs a s cs hn).trans h1, h2⟩

theorem Wp.skip (hw : Wp P b N s0 R k ds e h) : Wp P b N s0 R (.code .skip :: k) ds e h := .step (fun _ _ _ _ => .one stepR_skip) hw
theorem Wp.label {l : Nat} (hw : Wp P b N s0 R k ds e h) : Wp P b N s0 R (.code (.label l) :: k) ds e h := .step (fun _ _ _ _ => .one stepR_label) hw
theorem Wp.inBlock {id : Nat} (hw : Wp P b N s0 R k ds e h) : Wp P b N s0 R (.inBlock id :: k) ds e h := .step (fun _ _ _ _ => .one stepR_inBlock) hw
theorem Wp.seq {x y : Code} (hw : Wp P b N s0 R (.code x :: .code y :: k) ds e h) : Wp P b N s0 R (.code (.seq x y) :: k) ds e h := .step (fun _ _ _ _ => .one stepR_seq) hw
theorem Wp.block {id : Nat} {c : Code} (hw : Wp P b N s0 R (.code c :: .inBlock id :: k) ds e h) : Wp P b N s0 R (.code (.block id c) :: k) ds e h := .step (fun _ _ _ _ => .one stepR_block) hw
theorem Wp.loop {c : Code} (hw : Wp P b N s0 R (.code c :: .inLoop c :: k) ds e h) : Wp P b N s0 R (.code (.loop c) :: k) ds e h := .step (fun _ _ _ _ => .one stepR_loop) hw
theorem Wp.inLoop {c : Code} (hw : Wp P b N s0 R (.code c :: .inLoop c :: k) ds e h) : Wp P b N s0 R (.inLoop c :: k) ds e h := .step (fun _ _ _ _ => .one stepR_inLoop) hw
theorem stepR_scope {b : Frame} {a : Act} {k : List Item} {cs : List Frame} {w : World} {c : Code} : step P (lone (b.atR a (.code (.scope c) :: k)) cs w) = .next (lone (b.atR a (.code c :: .inScope c :: k)) cs w) :=
  step_lone_go (by simp [stepG, stepG.exec, Frame.atR])
theorem stepR_inScope {b : Frame} {a : Act} {k : List Item} {cs : List Frame} {w : World} {c : Code} : step P (lone (b.atR a (.inScope c :: k)) cs w) = .next (lone (b.atR a k) cs w) :=
  step_lone_go (by simp [stepG, stepG.exec, Frame.atR])
theorem Wp.scope {c : Code} (hw : Wp P b N s0 R (.code c :: .inScope c :: k) ds e h) : Wp P b N s0 R (.code (.scope c) :: k) ds e h := .step (fun _ _ _ _ => .one stepR_scope) hw
theorem Wp.inScope {c : Code} (hw : Wp P b N s0 R k ds e h) : Wp P b N s0 R (.inScope c :: k) ds e h := .step (fun _ _ _ _ => .one stepR_inScope) hw
theorem Wp.exit {id : Nat} {k' : List Item} (hx : exitTo id k = some k') (hw : Wp P b N s0 R k' ds e h) : Wp P b N s0 R (.code (.exit id) :: k) ds e h := .step (fun _ _ _ _ => .one (stepR_exit hx)) hw
theorem Wp.goto {l : Nat} {k' : List Item} (hx : gotoIn l k = some k') (hw : Wp P b N s0 R k' ds e h) : Wp P b N s0 R (.code (.goto l) :: k) ds e h := .step (fun _ _ _ _ => .one (stepR_goto hx)) hw

theorem Wp.cond {c : Operand} {x y : Code} {t : Bool} (hc : evalF (lk e) c = some (cb t)) (h1 : t = true → Wp P b N s0 R (.code x :: k) ds e h) (h2 : t = false → Wp P b N s0 R (.code y :: k) ds e h) :
    Wp P b N s0 R (.code (.cond c x y) :: k) ds e h := by
  have hb : ∀ a s, Now e h N ds a s → a.eval c = .bool t := fun a s hn => (evalF_ok (fun u _ hu => hn.env u _ hu) hc).raw
  cases t with
  | true => exact .step (fun a s cs hn => .one (by rw [stepR_cond (hb a s hn)]; rfl)) (h1 rfl)
  | false => exact .step (fun a s cs hn => .one (by rw [stepR_cond (hb a s hn)]; rfl)) (h2 rfl)

/-- Less is known. -/
theorem Wp.env {e' : Env} (hsub : ∀ t v, lk e' t = some v → lk e t = some v) (hw : Wp P b N s0 R k ds e' h) : Wp P b N s0 R k ds e h :=
  fun a s hn he cs => hw a s ⟨fun t v hv => hn.env t v (hsub t v hv), hn.hl, hn.size, hn.defers⟩ he cs

theorem sig_none {ρ κ : Type} (wr : Nat → ρ → Option κ) (σ : ρ → κ) (n : Nat) (r : ρ) : sig wr σ (fun _ => false) n r = σ r := by
  induction n with
  | zero => rfl
  | succ n ih => simp [sig, ih]

theorem Wp.region {T : TT} (hT : TTok P T) {K : KT} (hK : KOk P K) (hm : P.follows .mixedOrders = true) {id : Nat} {ops : Array Oper} {draw : Bool} {q : List Orc} {lits gs : List Nat} {m : Nat} {dec : Option (List Bool)} {fin : Fin}
    (hr : runT ⟨P, T, K, ops.toList, N, gs⟩ ops.toList m e h q dec lits = some fin) (hobs : Obs fin.obs) (hsafe : (match draw with | true => safeB ops.toList fin.tr | false => true) = true)
    (hw : Wp P b N s0 R k ds fin.env fin.heap) : Wp P b N s0 R (.code (.region id ops draw) :: k) ds e h := by
  intro a s hn he cs
  obtain ⟨g1, g2, g3, g4, g5, g6, g7⟩ := runT_ok (b := b) (e0 := lk e) (H0 := look h) (trA := fin.tr) (pre := []) (trp := []) hT hK hr rfl rfl rfl rfl rfl hobs
  have ht : TextOK P b ops (fun j => (nth fin.tr j).join) (lk e) (look h) N := ⟨fun j o ho => g1 j o (Nat.zero_le _) ho, fun i j ri rj x _ _ hij hri hrj hx => g6 i j ri rj x (Nat.zero_le _) (Nat.zero_le _) hij hri hrj hx⟩
  have hinv : ∀ d, RInv ops (fun j => (nth fin.tr j).join) (lk e) (look h) N a.defers s (fun _ => false) a ⟨s.μ, s.vis, { s.w with drawn := d }⟩ := fun d => by
    have hx : Ext s ⟨s.μ, s.vis, { s.w with drawn := d }⟩ := ext_same rfl rfl rfl rfl
    refine ⟨fun t v hv => ?_, ?_, fun j r _ _ hjr x hx => hn.hl.out x (g5 j r (Nat.zero_le _) hjr x hx).1 (g5 j r (Nat.zero_le _) hjr x hx).2.2, hn.size, rfl, hx, fun i hi _ => hi⟩
    · rw [sig_none] at hv
      exact (hn.env t v hv).mono hx
    · have : sig (wrO fun j => (nth fin.tr j).join) (look h) (fun _ => false) ops.size = look h := funext fun x => sig_none _ _ _ _
      rw [this]
      exact hr_same hn.hl.hr hx rfl rfl
  have hend : ∃ a' s', Steps P (lone (b.atR a (.code (.region id ops draw) :: k)) cs s.w) (lone (b.atR a' k) cs s'.w) ∧ RInv ops (fun j => (nth fin.tr j).join) (lk e) (look h) N a.defers s (fun _ => true) a' s' := by
    cases draw with
    | false => exact region_plain ht (hinv s.w.drawn)
    | true => exact region_draw hm ht (safeB_ok hsafe) hinv
  obtain ⟨a', s', h1, hi⟩ := hend
  have hn' : Now fin.env fin.heap N ds a' s' := by
    refine ⟨fun t v hv => hi.env t v (by rw [g2]; exact hv), ⟨by rw [← g3]; exact hi.hr, fun i hl h1000 => ?_, fun i h1000 => hi.ext.dead i (hn.hl.high i h1000)⟩, hi.size, by rw [hi.defers]; exact hn.defers.mono hi.ext⟩
    refine hi.free i (hn.hl.out i (Nat.le_trans g4 hl) h1000) fun j r _ hjr hx => ?_
    have := (g5 j r (Nat.zero_le _) hjr i hx).2.1
    omega
  obtain ⟨fr, s2, h2, h3⟩ := hw a' s' hn' (he.trans hi.ext) cs
  exact ⟨fr, s2, h1.trans h2, h3⟩

/-! ### A function's end -/
/-- The function returns so. -/
def Ends (P : Program) (f : FuncId) (Q : V → Heap → Prop) (fr : Frame) (s : St) : Prop :=
  fr.fn = f ∧ ∃ r v h, fr.leaving P s.w (.returned r) ∧ HL s h ∧ VR s v r ∧ Q v h

/-- What the results are. -/
def resV (T : TT) (e : Env) (H : Nat → Option Ob) : List ResultVar → Option (List V)
  | [] => some []
  | .tmp t :: l => match lk e t with
    | some v => match resV T e H l with
      | some r => some (v :: r)
      | none => none
    | none => none
  | .cell a t :: l => match T t with
    | some ti => match lk e a with
      | some (.hp i 0 j) => match H i with
        | some (.bx cells) => match loadRow ti cells j with
          | some v => match resV T e H l with
            | some r => some (v :: r)
            | none => none
          | none => none
        | _ => none
      | _ => none
    | none => none

def resO (T : TT) (e : Env) (H : Nat → Option Ob) (rs : List ResultVar) : Option V := match resV T e H rs with
  | some [v] => some v
  | some l => some (.tp l)
  | none => none

def resM (tmps : Array Value) : ResultVar → Sem Value
  | .tmp t => pure (tmps.getD t undef)
  | .cell a t => do loadVar t (← asAddr (tmps.getD a undef))

theorem results_eq (fn : Func) (tmps : Array Value) : results fn tmps = (do let vs ← fn.results.mapM (resM tmps); pure (if h : vs.size = 1 then vs[0] else .tuple vs)) := by
  unfold results
  congr 1

theorem resV_run {T : TT} (hT : TTok P T) {e : Env} {s : St} {h : Heap} (hl : HL s h) {tmps : Array Value} (he : ∀ t v, lk e t = some v → VR s v (tmps.getD t undef)) : ∀ {rs : List ResultVar} {l : List V}, resV T e (look h) rs = some l → ∃ vs : List Value, l.length = vs.length ∧
    (∀ j (h : j < l.length) (h' : j < vs.length), VR s l[j] vs[j]) ∧
    (rs.mapM (resM tmps)).run P s.w = .ok vs s.w := by
  intro rs
  induction rs with
  | nil => intro l h; simp [resV] at h; subst h; exact ⟨[], rfl, fun j h => by simp at h, by simp⟩
  | cons x rs ih =>
    intro l h
    cases x with
    | cell a t =>
      simp only [resV] at h
      split at h
      case h_2 => cases h
      rename_i ti hti
      split at h
      case h_2 => cases h
      rename_i i j hv
      split at h
      case h_2 => cases h
      rename_i cells hob
      split at h
      case h_2 => cases h
      rename_i v hld
      split at h
      case h_2 => cases h
      rename_i r hr
      cases h
      obtain ⟨vs, h1, h2, h3⟩ := ih hr
      obtain ⟨l, b, cs, ty, fz, g1, g2, g3, g4, g5, g6, g7⟩ := bx_at hl.hr hob rfl (he a _ hv)
      obtain ⟨y, k1, k2⟩ := loadRow_ok (hT t ti hti) (b := b) (o := 0) (g := fun n => cs.getD n undef) (s := s) (cells := cells) (fun n hn => by
        have hlt : n < cs.size := by omega
        rw [cell_of_heap g4]
        simp [hlt, g5.2 n hlt]) (fun n hn => by
        have hlt : n < cs.size := by omega
        have e8 : cs.getD n undef = cs[n] := by simp [Array.getD_eq_getD_getElem?, hlt]
        rw [e8]; exact g7 n hn hlt) hld
      refine ⟨y :: vs, by simp [h1], fun j h h' => ?_, ?_⟩
      · cases j with
        | zero => exact k2
        | succ j => simpa using h2 j (by simpa using h) (by simpa using h')
      · rw [Nat.zero_add] at k1
        have ha : (asAddr (tmps.getD a undef)).run P s.w = .ok ⟨b, j, none⟩ s.w := by rw [g3]; rfl
        simp only [List.mapM_cons, Sem.run_bind, resM, Sem.run_pure, ha, k1, h3, Result.andThen_ok]
    | tmp t =>
      simp only [resV] at h
      split at h
      case h_2 => cases h
      rename_i v hv
      split at h
      case h_2 => cases h
      rename_i r hr
      cases h
      obtain ⟨vs, h1, h2, h3⟩ := ih hr
      refine ⟨tmps.getD t undef :: vs, by simp [h1], fun j h h' => ?_, ?_⟩
      · cases j with
        | zero => exact he t v hv
        | succ j => simpa using h2 j (by simpa using h) (by simpa using h')
      · simp only [List.mapM_cons, Sem.run_bind, resM, Sem.run_pure, h3, Result.andThen_ok]

theorem res_run {T : TT} (hT : TTok P T) {e : Env} {s : St} {h : Heap} (hl : HL s h) {tmps : Array Value} (he : ∀ t v, lk e t = some v → VR s v (tmps.getD t undef)) {fn : Func} {v : V} (h : resO T e (look h) fn.results.toList = some v) :
    ∃ r, (results fn tmps).run P s.w = .ok r s.w ∧ VR s v r := by
  have key : ∀ l, resV T e (look _) fn.results.toList = some l → ∃ vs : List Value, l.length = vs.length ∧ (∀ j (h : j < l.length) (h' : j < vs.length), VR s l[j] vs[j]) ∧
      (results fn tmps).run P s.w = .ok (if h : vs.toArray.size = 1 then vs.toArray[0] else .tuple vs.toArray) s.w := fun l hl' => by
    obtain ⟨vs, h1, h2, h3⟩ := resV_run (P := P) hT hl he hl'
    refine ⟨vs, h1, h2, ?_⟩
    rw [results_eq, Array.mapM_eq_mapM_toList]
    simp only [Sem.run_bind, Sem.run_pure, Sem.run_map, h3, Result.andThen_ok]
  unfold resO at h
  split at h
  · rename_i v' hl
    cases h
    obtain ⟨vs, h1, h2, h3⟩ := key _ hl
    cases vs with
    | nil => simp at h1
    | cons x vs =>
      cases vs with
      | cons y vs => simp at h1
      | nil => exact ⟨x, by rw [h3]; simp, h2 0 (by simp) (by simp)⟩
  · rename_i l hne hl
    cases h
    obtain ⟨vs, h1, h2, h3⟩ := key _ hl
    have h1' : vs.toArray.size ≠ 1 := fun hh => by
      simp at hh
      rw [hh] at h1
      match l, h1 with
      | [x], _ => exact hne x rfl
    exact ⟨_, by rw [h3, dif_neg h1'], .tp _ _ (by simpa using h1) fun j h h' => by simpa using h2 j h (by simpa using h')⟩
  · cases h

/-- Objects that are wanted no more are dropped; what they held is closed from here on. -/
def idsF : Nat → List Nat → Bool
  | 0, _ => true
  | _ + 1, [] => false
  | n + 1, l => match nth l n with
    | some i => match eqN i n with
      | true => idsF n l
      | false => false
    | none => false

theorem idsF_eq {m : Nat} {l : List Nat} (h : idsF m l = true) : ∀ i, i < m → l[i]? = some i := by
  induction m with
  | zero => intro i hi; omega
  | succ n ih =>
    cases l with
    | nil => cases h
    | cons x l =>
      simp only [idsF] at h
      split at h
      case h_2 => cases h
      rename_i y hy
      split at h
      case h_2 => cases h
      rename_i he
      have := eqN_iff.1 he
      subst this
      intro i hi
      by_cases hin : i < y
      · exact ih h i hin
      · have : i = y := by omega
        subst this
        rw [← nth_eq]; exact hy

/-- The environment as one sees it who has these objects alone. -/
def smE (n : Nat) (sel : List Nat) (H : Nat → Option Ob) (keep : List Nat) (e : Env) : Option LEnv := match keep with
  | [] => some []
  | t :: l => match lk e t with
    | some v => match sm n sel H v with
      | some v' => match smE n sel H l e with
        | some r => some ((t, some v') :: r)
        | none => none
      | none => none
    | none => none

theorem smE_eq {n : Nat} {sel : List Nat} {H : Nat → Option Ob} {e : Env} : ∀ {keep : List Nat} {r : LEnv}, smE n sel H keep e = some r → ∀ t v', lkL r t = some v' → ∃ v, lk e t = some v ∧ sm n sel H v = some v' := by
  intro keep
  induction keep with
  | nil => intro r h t v' hv; simp [smE] at h; subst h; cases hv
  | cons x l ih =>
    intro r h t v' hv
    simp only [smE] at h
    split at h
    case h_2 => cases h
    rename_i v hv1
    split at h
    case h_2 => cases h
    rename_i v2 hv2
    split at h
    case h_2 => cases h
    rename_i r' hr
    cases h
    simp only [lkL] at hv
    split at hv
    · rename_i hx
      have := eqN_iff.1 hx
      subst this
      cases hv
      exact ⟨v, hv1, hv2⟩
    · exact ih hr t v' hv

def objs : Heap → Nat → Option Ob := look

theorem ext_sel {s s' : St} {sel : List Nat} {m : Nat} (he : Ext s s') (hm : ∀ i, m ≤ i → i < 1000 → s.μ i = .free) (hlen : sel.length < 500) (hid : ∀ i, i < m → sel[i]? = some i) : Ext s (s'.sel sel s'.vis) where
  live i l hl := by
    by_cases hi : i < m
    · rw [sel_at (hid i hi)]
      exact he.live i l hl
    · have h2 : ¬ i < 1000 := fun h => by rw [hm i (by omega) h] at hl; cases hl
      refine .inr ?_
      simp only [St.sel]
      rw [List.getElem?_eq_none (by omega)]
      simp [h2]
  dead i hd := by
    by_cases hi : i < m
    · rw [sel_at (hid i hi)]
      exact he.dead i hd
    · have h2 : ¬ i < 1000 := fun h => by rw [hm i (by omega) h] at hd; cases hd
      simp only [St.sel]
      rw [List.getElem?_eq_none (by omega)]
      simp [h2]
  keep b hb hn := by
    obtain ⟨h1, h2⟩ := he.keep b hb hn
    exact ⟨fun h3 => by
      obtain ⟨i, l, o, _, h4, h5⟩ := St.sel_own h3
      exact h1 ⟨i, l, o, h4, h5⟩, h2⟩
  vis := he.vis
  size := he.size
  tape := he.tape
  os := he.os
  output := he.output

/-- How the selected objects look. -/
def selH (n : Nat) (sel : List Nat) (h : Heap) : List Nat → Option Heap := smH n sel (look h)

theorem drop_ok {s : St} {h h' : Heap} {sel : List Nat} {n m : Nat} (hl : HL s h) (hr : selH n sel h sel = some h') (hlen : idOf sel = some m) (hl30 : ∃ x, sucT m = some x) (hnd : nodupF sel = true) :
    HL (s.sel sel s.vis) h' ∧ ∀ {v v' : V} {x : Value}, VR s v x → sm n sel (look h) v = some v' → VR (s.sel sel s.vis) v' x := by
  have hlt : sel.length < 500 := by rw [← idOf_eq hlen]; obtain ⟨x, hx⟩ := hl30; exact sucT_lt hx
  have hsp : Spoken s s.vis := fun _ h _ => h
  have hcv : (∀ i, look h i = none) ∨ ((∀ b, s.vis b → s.vis b) ∧ ∀ i ob, look h i = some ob → look h i = some ob) := .inr ⟨fun _ h => h, fun _ _ h => h⟩
  obtain ⟨g1, g2⟩ := smH_eq hr
  exact ⟨smH_ok (H := look h) hl.hr hsp (fun i l b o _ h1 h2 => hl.hr.own i l b o h1 h2) hl.hr.fut hlt hnd hcv ⟨g2, g1⟩, fun hv hs => sm_ok hl.hr hsp hlt hcv n hv hs⟩

theorem len30 {sel : List Nat} {n : Nat} (hlen : idOf sel = some n) (hl30 : ∃ x, sucT n = some x) : sel.length < 500 := by
  rw [← idOf_eq hlen]; obtain ⟨x, hx⟩ := hl30; exact sucT_lt hx

def dsM (sel : List Nat) : List DV → Option (List DV)
  | [] => some []
  | .mark i :: l => match posOf sel i with
    | some p => match dsM sel l with
      | some r => some (.mark p :: r)
      | none => none
    | none => none

theorem dsM_ok {s : St} {sel : List Nat} {vis : Nat → Prop} : ∀ {l l' : List DV} {r : List Deferred}, DR s l r → dsM sel l = some l' → DR (s.sel sel vis) l' r := by
  intro l
  induction l with
  | nil => intro l' r h hm; simp [dsM] at hm; subst hm; cases r <;> first | trivial | exact h.elim
  | cons x l ih =>
    intro l' r h hm
    cases x with
    | mark i =>
      simp only [dsM] at hm
      split at hm
      case h_2 => cases hm
      rename_i p hp
      split at hm
      case h_2 => cases hm
      rename_i l2 hl2
      cases hm
      cases r with
      | nil => exact h.elim
      | cons d r =>
        obtain ⟨⟨b, h1, h2⟩, h3⟩ := h
        refine ⟨⟨b, h1, ?_⟩, ih h3 hl2⟩
        rw [sel_at (posOf_eq hp)]
        exact h2

theorem Wp.drop {sel keep : List Nat} {h' : Heap} {e' : LEnv} {ds' : List DV} {n m0 : Nat} (hm0 : ∀ i, m0 ≤ i → i < 1000 → s0.μ i = .free) (hids : idsF m0 sel = true) (hr : selH 9 sel h sel = some h') (hlen : idOf sel = some n) (hl30 : ∃ x, sucT n = some x)
    (hnd : nodupF sel = true) (henv : smE 9 sel (look h) keep e = some e') (hds : dsM sel ds = some ds') (hw : Wp P b N s0 R k ds' (ofL e') h') : Wp P b N s0 R k ds e h := by
  intro a s hn he cs
  obtain ⟨h1, h2⟩ := drop_ok hn.hl hr hlen hl30 hnd
  exact hw a (s.sel sel s.vis) ⟨fun t v' hv => by
    obtain ⟨v, g1, g2⟩ := smE_eq henv t v' (ofL_lk hv)
    exact h2 (hn.env t v g1) g2, h1, hn.size, dsM_ok hn.defers hds⟩ (ext_sel he hm0 (len30 hlen hl30) (idsF_eq hids)) cs

theorem Wp.dropM {sel : List Nat} {h' : Heap} {e' : Env} {ds' : List DV} {n m0 : Nat} (hm0 : ∀ i, m0 ≤ i → i < 1000 → s0.μ i = .free) (hids : idsF m0 sel = true) (hr : selH 9 sel h sel = some h') (hlen : idOf sel = some n) (hl30 : ∃ x, sucT n = some x)
    (hnd : nodupF sel = true) (henv : envM (sm 9 sel (look h)) e = some e') (hds : dsM sel ds = some ds') (hw : Wp P b N s0 R k ds' e' h') : Wp P b N s0 R k ds e h := by
  intro a s hn he cs
  obtain ⟨h1, h2⟩ := drop_ok hn.hl hr hlen hl30 hnd
  exact hw a (s.sel sel s.vis) ⟨fun t v' hv => by
    obtain ⟨v, g1, g2⟩ := envM_eq henv t v' hv
    exact h2 (hn.env t v g1) g2, h1, hn.size, dsM_ok hn.defers hds⟩ (ext_sel he hm0 (len30 hlen hl30) (idsF_eq hids)) cs

/-! ### An object's block is turned into another kind -/
theorem putObj_hl {s : St} {h h' : Heap} {i b : Nat} {lc : Loc} {ob : Ob} {o : Obj} (hl : HL s h) (hi : s.μ i = .live lc) (hb : lc.base = some (b, 0)) (hp : putH h i (some ob) = some h')
    (hor : ∀ s', s'.w.heap[b]? = some o → s'.μ = s.μ → Ext s s' → OR s' ob lc) : Ext s ⟨s.μ, s.vis, s.w.putObj b o⟩ ∧ HL ⟨s.μ, s.vis, s.w.putObj b o⟩ h' := by
  have hblt := hl.hr.lt i lc b 0 hi hb
  have he : Ext s ⟨s.μ, s.vis, s.w.putObj b o⟩ := ext_turn hi hb (fun c hc => World.putObj_heap_other hc) (by simp) rfl rfl rfl
  refine ⟨he, ?_, fun j hj => hl.out j (Nat.le_trans (putH_len hp) hj), hl.high⟩
  have : look h' = upf (look h) [(i, some ob)] := by
    rw [upf_one]
    funext j
    exact putH_eq hp j
  rw [this]
  exact hr_turn hl.hr hi hb (fun c hc => World.putObj_heap_other hc) (by simp) he (hor _ (World.putObj_heap_same hblt) rfl he)

/-- The marks are taken. -/
def unmark : List DV → Heap → Option Heap
  | [], h => some h
  | .mark i :: l, h => match look h i with
    | some (.ot (.deferred (some []))) => match putH h i (some (.ot (.deferred none))) with
      | some h' => unmark l h'
      | none => none
    | _ => none

theorem unmark_ok {todo : List Item} {cs : List Frame} : ∀ {ds : List DV} {h h1 : Heap} {a : Act} {s : St}, Now e h N ds a s → unmark ds h = some h1 →
    ∃ s1, Steps P (lone { b.atR a todo with mode := .returning } cs s.w) (lone { b.atR ⟨a.tmps, []⟩ todo with mode := .returning } cs s1.w) ∧ Now e h1 N [] ⟨a.tmps, []⟩ s1 ∧ Ext s s1 := by
  intro ds
  induction ds with
  | nil =>
    intro h h1 a s hn hu
    simp only [unmark, Option.some.injEq] at hu
    subst hu
    obtain ⟨tm, df⟩ := a
    have hd := hn.defers
    cases df with
    | cons => exact hd.elim
    | nil => exact ⟨s, .refl _ _, hn, Ext.refl s⟩
  | cons x ds ih =>
    intro h h1 a s hn hu
    cases x with
    | mark i =>
      simp only [unmark] at hu
      split at hu
      case h_2 => cases hu
      rename_i hob
      split at hu
      case h_2 => cases hu
      rename_i h2 hh2
      obtain ⟨tm, df⟩ := a
      have hd := hn.defers
      cases df with
      | nil => exact hd.elim
      | cons d df =>
        obtain ⟨⟨bl, hd1, hd2⟩, hd3⟩ := hd
        obtain ⟨lc, g1, g2⟩ := hn.hl.hr.obj i _ hob
        cases g2 with
        | ot _ b' _ g3 g4 =>
          have hbl : bl = b' := by
            rcases hd2 with ⟨lc', k1, k2⟩ | k1
            · rw [g1] at k1
              cases k1
              rw [g3] at k2
              simp at k2
              exact k2.symm
            · rw [g1] at k1; cases k1
          subst hbl
          obtain ⟨hx, hl2⟩ := putObj_hl (o := .deferred none) hn.hl g1 g3 hh2 fun s' k1 _ _ => .ot _ bl _ g3 k1
          obtain ⟨s1, k1, k2, k3⟩ := ih (a := ⟨tm, df⟩) (s := ⟨s.μ, s.vis, s.w.putObj bl (.deferred none)⟩) ⟨fun t v hv => (hn.env t v hv).mono hx, hl2, hn.size, hd3.mono hx⟩ hu
          refine ⟨s1, .head (step_collected (r := bl) (d := d) (ds := df) (calls := []) (w' := s.w.putObj bl (.deferred none)) (by simp) rfl (by rw [hd1]) (run_takeDeferred g4)) ?_, k2, hx.trans k3⟩
          exact k1

theorem Wp.ret {T : TT} (hT : TTok P T) {f : FuncId} {Q : V → Heap → Prop} {fn : Func} (hfn : P.funcs[f]? = some fn) (hb : b.fn = f ∧ b.roundOf = none ∧ b.kind = .normal) {sel : List Nat} {h1 h' : Heap} {v v' : V} {n m0 : Nat} (hm0 : ∀ i, m0 ≤ i → i < 1000 → s0.μ i = .free)
    (hum : unmark ds h = some h1) (hv : resO T e (look h1) fn.results.toList = some v) (hids : idsF m0 sel = true) (hr : selH 9 sel h1 sel = some h') (hlen : idOf sel = some n) (hl30 : ∃ x, sucT n = some x)
    (hnd : nodupF sel = true) (hv' : sm 9 sel (look h1) v = some v') (hq : Q v' h') (hend : k = [] ∨ ∃ k', k = .code .ret :: k') : Wp P b N s0 (Ends P f Q) k ds e h := by
  intro a s hn he cs
  obtain ⟨s1, hs1, hn1, he1⟩ := unmark_ok (P := P) (b := b) (todo := k) (cs := cs) hn hum
  obtain ⟨h1, h2⟩ := drop_ok hn1.hl hr hlen hl30 hnd
  obtain ⟨r, hr1, hr2⟩ := res_run (P := P) hT hn1.hl hn1.env hv
  refine ⟨{ b.atR ⟨a.tmps, []⟩ k with mode := .returning }, s1.sel sel s1.vis, ?_, ext_sel (he.trans he1) hm0 (len30 hlen hl30) (idsF_eq hids), hb.1, r, v', h', ⟨rfl, rfl, hb.2.2, fn, by show P.funcs[b.fn]? = _; rw [hb.1]; exact hfn, hr1⟩, h1, h2 hr2 hv', hq⟩
  rcases hend with rfl | ⟨k', rfl⟩
  · exact .head (stepR_end hb.2.1) hs1
  · exact .head (stepR_ret hb.2.1) hs1

end

/-! ### A function's beginning -/
def frameOf (f : FuncId) : Frame := { fn := f, tmps := #[], todo := [], defers := [], mode := .run, kind := .normal }

def envL : Nat → List V → LEnv
  | _, [] => []
  | n, v :: l => (n, some v) :: envL (n + 1) l
def envOf (n : Nat) (l : List V) : Env := ofL (envL n l)

theorem envL_eq {n : Nat} {l : List V} {t : Nat} {v : V} (h : lkL (envL n l) t = some v) : ∃ j, t = n + j ∧ l[j]? = some v := by
  induction l generalizing n with
  | nil => cases h
  | cons x l ih =>
    simp only [envL, lkL] at h
    split at h
    · rename_i he
      have := eqN_iff.1 he
      subst this
      cases h
      exact ⟨0, by simp, rfl⟩
    · obtain ⟨j, h1, h2⟩ := ih h
      exact ⟨j + 1, by omega, by simpa using h2⟩
theorem envOf_eq {n : Nat} {l : List V} {t : Nat} {v : V} (h : lk (envOf n l) t = some v) : ∃ j, t = n + j ∧ l[j]? = some v := envL_eq (ofL_lk h)

theorem DCalls.of_wp {f : FuncId} {fn : Func} {code : Code} {args : List V} {m : Nat} {h : Heap} {Q : V → Heap → Prop} (hent : Enters P f) (hfn : P.funcs[f]? = some fn) (hbody : fn.body = some code) (hsz : args.length ≤ fn.ntmps)
    (hw : ∀ s0, (∀ i, m ≤ i → i < 1000 → s0.μ i = .free) → Wp P (frameOf f) fn.ntmps s0 (Ends P f Q) [.code code] [] (envOf 0 args) h) : DCalls P f args m h Q := by
  refine ⟨hent, fun s cargs hl hv c cs => ?_⟩
  have hfr : Frame.enter P f cargs .normal = (frameOf f).atR ⟨cargs ++ Array.replicate (fn.ntmps - cargs.size) undef, []⟩ [.code code] := by
    simp [Frame.enter, Frame.atR, frameOf, hfn, hbody]
  obtain ⟨fr, s', h1, h2, h3, r, v, h', h4, h5, h6, h7⟩ := hw (s.park m) (fun i h1 h2 => by simp only [St.park]; rw [if_neg (by omega), if_pos h2]) ⟨cargs ++ Array.replicate (fn.ntmps - cargs.size) undef, []⟩ s ⟨fun t v hv' => by
      obtain ⟨j, e1, e2⟩ := envOf_eq hv'
      have e1' : t = j := by omega
      subst e1'
      obtain ⟨hj, e3⟩ := List.getElem?_eq_some_iff.1 e2
      have hj' : t < cargs.size := by rw [← hv.1]; exact hj
      have := hv.2 t hj hj'
      rw [e3] at this
      have e4 : (cargs ++ Array.replicate (fn.ntmps - cargs.size) undef).getD t undef = cargs[t] := by
        rw [Array.getD_eq_getD_getElem?, Array.getElem?_append_left hj', Array.getElem?_eq_getElem hj']; rfl
      rw [e4]; exact this, hl, by have := hv.1; simp; omega, trivial⟩ (ext_park hl.high) (c :: cs)
  refine ⟨r, v, s', h', ?_, h2, h5, h6, h7⟩
  rw [hfr]
  exact h1.trans (.one (step_leave_returned h4))

/-! ### Types of a program -/
def ttOf (P : Program) (t : Nat) : Option TI := match P.info? t, P.underlying t with
  | some i, some d => match i.zero with
    | some z => some ⟨d, i.size, i.bytes, z, !(P.stoodInHeld t || P.eqGuardType P.depth t)⟩
    | none => none
  | _, _ => none

def TT.of (tt : List (Option TI)) : TT := fun t => lk (triOf tt) t

theorem TT.ok {tt : List (Option TI)} (h : (List.range tt.length).map (ttOf P) = tt) : TTok P (TT.of tt) := by
  intro t ti ht
  have hx := triOf_eq ht
  have hlt := (List.getElem?_eq_some_iff.1 hx).1
  rw [← h] at hx
  simp [hlt] at hx
  unfold ttOf at hx
  split at hx
  case h_2 => cases hx
  rename_i i d hi hd
  split at hx
  case h_2 => cases hx
  rename_i z hz
  cases hx
  exact ⟨hd, ⟨i, hi, rfl, rfl, hz⟩, fun h => by simpa using h⟩

end Go.Lift
