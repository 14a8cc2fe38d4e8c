/- The quiet operations at data level. -/
import Derived.Test.YtdmpifnbdifhbaaDrL4
namespace Go.Lift
variable {P : Program}

/-- What a quiet operation owes: out of its operands' values, its own. -/
def Quiet1 (P : Program) (o : Oper) (ρ : Operand → Option V) (v : V) : Prop :=
  ∀ (s : St) (a : Act), (∀ x ∈ o.op.operands.toList, ∀ u, ρ x = some u → VR s u (a.eval x)) → ∃ u, (execOp a.eval o).run P s.w = .ok (.value u) s.w ∧ VR s v u

theorem Quiet1.does {b : Frame} {o : Oper} {ρ : Operand → Option V} {H : Nat → Option Ob} {v : V} (hnd : ∀ c, o.op ≠ .defer c) (h : Quiet1 P o ρ v) : Does P b o ρ H ⟨v, [], [], []⟩ :=
  Does.quiet hnd fun s _ a _ _ hop => h s a hop

/-! ### move, assign, pick, nilCheck, makeFunc, extract -/
def eMove (ρ : Operand → Option V) (x : Operand) (q : List Orc) : Option Out :=
  match ρ x with
  | some v => qv v [] q
  | none => none

theorem sound_move {b : Frame} {o : Oper} {x : Operand} (ho : o.op = .move x ∨ o.op = .assign x) {ρ : Operand → Option V} {H : Nat → Option Ob} {q : List Orc} {out : Out}
    (he : eMove ρ x q = some out) : Does P b o ρ H out.r := by
  unfold eMove at he
  split at he
  · rename_i v hv
    cases he
    refine Quiet1.does (fun c h => by rcases ho with ho | ho <;> rw [ho] at h <;> cases h) fun s a hop => ⟨a.eval x, ?_, hop x (by rcases ho with ho | ho <;> rw [ho] <;> simp [Op.operands]) v hv⟩
    rcases ho with ho | ho <;> (unfold execOp; rw [ho]; rfl)
  · cases he

def ePick (ρ : Operand → Option V) (c x y : Operand) (q : List Orc) : Option Out :=
  match ρ c with
  | some (.c (.v (.bool true))) => eMove ρ x q
  | some (.c (.v (.bool false))) => eMove ρ y q
  | _ => none

theorem VR.raw {s : St} {x y : Value} (h : VR s (.c (.v x)) y) : y = x := by
  cases h with
  | c _ _ h => cases h; rfl

theorem sound_pick {b : Frame} {o : Oper} {c x y : Operand} (ho : o.op = .pick c x y) {ρ : Operand → Option V} {H : Nat → Option Ob} {q : List Orc} {out : Out}
    (he : ePick ρ c x y q = some out) : Does P b o ρ H out.r := by
  have hnd : ∀ d, o.op ≠ .defer d := fun d h => by rw [ho] at h; cases h
  have key : ∀ (z : Operand) (t : Bool) (v : V), z ∈ o.op.operands.toList → ρ c = some (.c (.v (.bool t))) → (if t then x else y) = z → ρ z = some v → Quiet1 P o ρ v := fun z t v hz hc ht hv s a hop => by
    have h1 := (hop c (by rw [ho]; simp [Op.operands]) _ hc).raw
    refine ⟨a.eval z, ?_, hop z hz v hv⟩
    unfold execOp
    rw [ho]
    cases t <;> simp at ht <;> subst ht <;> simp [h1, asBool]
  unfold ePick eMove at he
  split at he
  · rename_i hc
    split at he
    · rename_i v hv; cases he; exact (key x true v (by rw [ho]; simp [Op.operands]) hc rfl hv).does hnd
    · cases he
  · rename_i hc
    split at he
    · rename_i v hv; cases he; exact (key y false v (by rw [ho]; simp [Op.operands]) hc rfl hv).does hnd
    · cases he
  · cases he

def eNil (ρ : Operand → Option V) (x : Operand) (H : Nat → Option Ob) (q : List Orc) : Option Out :=
  match ρ x with
  | some (.hp i r j) => match H i with
    | some _ => some ⟨⟨.hp i r j, [], [i], []⟩, [], q⟩
    | none => none
  | some (.c (.va row j)) => qv (.c (.va row j)) [] q
  | _ => none

theorem sound_nil {b : Frame} {o : Oper} {x : Operand} (ho : o.op = .nilCheck x) {ρ : Operand → Option V} {H : Nat → Option Ob} {q : List Orc} {out : Out}
    (he : eNil ρ x H q = some out) : Does P b o ρ H out.r := by
  have hnd : ∀ d, o.op ≠ .defer d := fun d h => by rw [ho] at h; cases h
  have key : ∀ (s : St) (v : V) (y : Value), VR s v y → (∃ ad, y = .pointer (some ad)) → ∀ {a : Act}, a.eval x = y → (execOp a.eval o).run P s.w = .ok (.value y) s.w := fun s v y hv hy {a} ha => by
    obtain ⟨ad, rfl⟩ := hy
    unfold execOp
    rw [ho]
    simp [ha]
  unfold eNil at he
  split at he
  · rename_i i r j hx
    split at he
    · rename_i ob hob
      cases he
      exact Does.quiet hnd fun s f a hr hrd hop => by
        have h1 := hop x (by rw [ho]; simp [Op.operands]) _ hx
        have hf := hrd i (by simp)
        rw [hob] at hf
        obtain ⟨l, h2, _⟩ := hr.obj i _ hf
        refine ⟨_, key s _ _ h1 ?_ rfl, h1⟩
        generalize a.eval x = y at h1
        cases h1 with
        | hp => exact ⟨_, rfl⟩
        | dp _ _ _ _ hd => rw [h2] at hd; cases hd
    · cases he
  · rename_i row j hx
    cases he
    refine Quiet1.does hnd fun s a hop => ?_
    have h1 := hop x (by rw [ho]; simp [Op.operands]) _ hx
    refine ⟨_, key s _ _ h1 ?_ rfl, h1⟩
    obtain ⟨b, o, g, h, _⟩ := va_at h1
    exact ⟨_, h⟩
  · cases he

def evalL (ρ : Operand → Option V) : List Operand → Option (List V)
  | [] => some []
  | x :: l => match ρ x with
    | some v => match evalL ρ l with
      | some r => some (v :: r)
      | none => none
    | none => none

theorem evalL_ok {ρ : Operand → Option V} {s : St} {a : Act} {l : List Operand} {r : List V} (h : evalL ρ l = some r) (hop : ∀ x ∈ l, ∀ u, ρ x = some u → VR s u (a.eval x)) :
    VRs s r (l.map a.eval).toArray := by
  induction l generalizing r with
  | nil => simp [evalL] at h; subst h; exact ⟨rfl, fun j h => by simp at h⟩
  | cons x l ih =>
    simp only [evalL] at h
    split at h
    · rename_i v hv
      split at h
      · rename_i r' hr
        cases h
        have := ih hr fun y hy => hop y (List.mem_cons_of_mem _ hy)
        refine ⟨by have := this.1; simp at this ⊢; exact this, fun j h1 h2 => ?_⟩
        cases j with
        | zero => exact hop x (List.mem_cons_self ..) v hv
        | succ j =>
          have := this.2 j (by simpa using h1) (by simpa using h2)
          simpa using this
      · cases h
    · cases h

/-- A function's value out of what it holds. -/
def mkFn (f : Fn) (l r : List V) : V := match allC l with
  | some l' => match allC r with
    | some r' => .c (.fn f l' r')
    | none => .fn f l r
  | none => .fn f l r

theorem VR.mkFn {s : St} {f : Fn} {l r : List V} {fs cs : Array Value} (h1 : l.length = fs.size) (h2 : r.length = cs.size) (h3 : ∀ j (h : j < l.length) (h' : j < fs.size), VR s l[j] fs[j])
    (h4 : ∀ j (h : j < r.length) (h' : j < cs.size), VR s r[j] cs[j]) : VR s (mkFn f l r) (.func f fs cs) := by
  unfold Lift.mkFn
  split
  · rename_i l' hl
    split
    · rename_i r' hr
      have e1 := allC_eq hl
      have e2 := allC_eq hr
      subst e1; subst e2
      refine .c _ _ (.fn f l' r' fs cs (by simpa using h1) (by simpa using h2) (fun j h h' => ?_) fun j h h' => ?_)
      · have := h3 j (by simpa using h) h'
        simp only [List.getElem_map] at this
        cases this with
        | c _ _ h => exact h
      · have := h4 j (by simpa using h) h'
        simp only [List.getElem_map] at this
        cases this with
        | c _ _ h => exact h
    · exact .fn _ _ _ _ _ h1 h2 h3 h4
  · exact .fn _ _ _ _ _ h1 h2 h3 h4

def eFunc (ρ : Operand → Option V) (f : Fn) (first caps : Array Operand) (q : List Orc) : Option Out :=
  match evalL ρ first.toList with
  | some l => match evalL ρ caps.toList with
    | some r => qv (mkFn f l r) [] q
    | none => none
  | none => none

theorem sound_func {b : Frame} {o : Oper} {f : Fn} {first caps : Array Operand} (ho : o.op = .makeFunc f first caps) {ρ : Operand → Option V} {H : Nat → Option Ob} {q : List Orc} {out : Out}
    (he : eFunc ρ f first caps q = some out) : Does P b o ρ H out.r := by
  unfold eFunc at he
  split at he
  · rename_i l hl
    split at he
    · rename_i r hr
      cases he
      refine Quiet1.does (fun c h => by rw [ho] at h; cases h) fun s a hop => ?_
      have h1 := evalL_ok hl fun x hx => hop x (by rw [ho]; simp only [Op.operands, Array.toList_append, List.mem_append]; exact .inl hx)
      have h2 := evalL_ok hr fun x hx => hop x (by rw [ho]; simp only [Op.operands, Array.toList_append, List.mem_append]; exact .inr hx)
      refine ⟨.func f (first.map a.eval) (caps.map a.eval), by unfold execOp; rw [ho]; simp [Instr.makeFunc], ?_⟩
      have e1 : (List.map a.eval first.toList).toArray = first.map a.eval := by rw [← Array.toList_map]
      have e2 : (List.map a.eval caps.toList).toArray = caps.map a.eval := by rw [← Array.toList_map]
      rw [e1] at h1
      rw [e2] at h2
      exact VR.mkFn h1.1 h2.1 h1.2 h2.2
    · cases he
  · cases he

def eExtract (ρ : Operand → Option V) (x : Operand) (n : Nat) (q : List Orc) : Option Out :=
  match ρ x with
  | some (.tp l) => match nth l n with
    | some v => qv v [] q
    | none => none
  | _ => none

theorem sound_extract {b : Frame} {o : Oper} {x : Operand} {n : Nat} (ho : o.op = .extract x n) {ρ : Operand → Option V} {H : Nat → Option Ob} {q : List Orc} {out : Out}
    (he : eExtract ρ x n q = some out) : Does P b o ρ H out.r := by
  unfold eExtract at he
  split at he
  · rename_i l hx
    split at he
    · rename_i v hv
      cases he
      refine Quiet1.does (fun c h => by rw [ho] at h; cases h) fun s a hop => ?_
      have h1 := hop x (by rw [ho]; simp [Op.operands]) _ hx
      generalize hy : a.eval x = y at h1
      rw [nth_eq] at hv
      obtain ⟨hn, hv⟩ := List.getElem?_eq_some_iff.1 hv
      cases h1 with
      | tp _ cs h2 h3 =>
        have hn' : n < cs.size := by omega
        refine ⟨cs[n], by unfold execOp; rw [ho]; simp [Instr.extract, hy, hn'], ?_⟩
        rw [← hv]
        exact h3 n hn hn'
    · cases he
  · cases he

/-! ### numbers, strings, bools -/
def ci (k : IntKind) (n : Int) : V := .c (.v (.int k n))
def cb (b : Bool) : V := .c (.v (.bool b))
def cs (l : List UInt8) : V := .c (.v (.string ⟨⟨l⟩⟩))

def ikEq (a b : IntKind) : Bool := decide (a = b)

def binInt (op : BinOp) (k : IntKind) (a b : Int) : Option (Value × List Pr) :=
  match op with
  | .add => some (.int k (k.wrap (a + b)), [])
  | .sub => some (.int k (k.wrap (a - b)), [])
  | .mul => some (.int k (k.wrap (a * b)), [])
  | .quo => some (.int k (k.wrap (a.tdiv b)), [b ≠ 0])
  | .rem => some (.int k (a.tmod b), [b ≠ 0])
  | .and => some (.int k (k.wrap (BitVec.ofInt k.bits a &&& BitVec.ofInt k.bits b).toNat), [])
  | .or => some (.int k (k.wrap (BitVec.ofInt k.bits a ||| BitVec.ofInt k.bits b).toNat), [])
  | .xor => some (.int k (k.wrap (BitVec.ofInt k.bits a ^^^ BitVec.ofInt k.bits b).toNat), [])
  | .andNot => some (.int k (k.wrap (BitVec.ofInt k.bits a &&& ~~~ BitVec.ofInt k.bits b).toNat), [])
  | .eql => some (.bool (a == b), [])
  | .neq => some (.bool (a != b), [])
  | .lss => some (.bool (decide (a < b)), [])
  | .leq => some (.bool (decide (a ≤ b)), [])
  | .gtr => some (.bool (decide (a > b)), [])
  | .geq => some (.bool (decide (a ≥ b)), [])
  | .shl => some (.int k (k.wrap (a * 2 ^ (min b.toNat k.bits))), [0 ≤ b])
  | .shr => some (.int k (a.fdiv (2 ^ (min b.toNat k.bits))), [0 ≤ b])

def isShift : BinOp → Bool
  | .shl | .shr => true
  | _ => false

def binStr (op : BinOp) (a b : List UInt8) : Option (Value × List Pr) :=
  match op with
  | .add => some (.string ⟨⟨a ++ b⟩⟩, [((a.length + b.length : Nat) : Int) ≤ 9223372036854775807])
  | .eql => some (.bool (a == b), [])
  | .neq => some (.bool (!(a == b)), [])
  | _ => none

def eBin (T : TT) (ρ : Operand → Option V) (op : BinOp) (t : TypeId) (x y : Operand) (q : List Orc) : Option Out :=
  match ρ x with
  | some (.c (.v (.int k a))) => match ρ y with
    | some (.c (.v (.int k' b))) =>
      match isShift op || ikEq k k' with
      | true => match binInt op k a b with
        | some (v, obs) => qv (.c (.v v)) obs q
        | none => none
      | false => none
    | _ => none
  | some (.c (.v (.string ⟨⟨a⟩⟩))) => match ρ y with
    | some (.c (.v (.string ⟨⟨b⟩⟩))) => match binStr op a b with
      | some (v, obs) => qv (.c (.v v)) obs q
      | none => none
    | _ => none
  | some (.c (.v (.bool a))) => match ρ y with
    | some (.c (.v (.bool b))) => match T t with
      | some ti => match ti.d with
        | .bool => match op with
          | .eql => qv (cb (a == b)) [] q
          | .neq => qv (cb (!(a == b))) [] q
          | _ => none
        | _ => none
      | none => none
    | _ => none
  | _ => none

theorem toList_mk (a : List UInt8) : (⟨⟨a⟩⟩ : ByteArray).toList = a := by
  have : ∀ (n i : Nat) (r : List UInt8), a.length - i = n → ByteArray.toList.loop ⟨⟨a⟩⟩ i r = r.reverse ++ a.drop i := by
    intro n
    induction n with
    | zero =>
      intro i r h
      unfold ByteArray.toList.loop
      rw [if_neg (by show ¬ i < a.length; omega), List.drop_eq_nil_of_le (by omega), List.append_nil]
    | succ n ih =>
      intro i r h
      unfold ByteArray.toList.loop
      rw [if_pos (by show i < a.length; omega), ih (i + 1) _ (by omega)]
      have hi : i < a.length := by omega
      rw [List.drop_eq_getElem_cons hi]
      have : ByteArray.get! ⟨⟨a⟩⟩ i = a[i] := by
        show (⟨a⟩ : Array UInt8)[i]! = a[i]
        simp [hi]
      rw [this]
      simp
  unfold ByteArray.toList
  rw [this a.length 0 [] (by omega)]
  simp

theorem sound_bin {T : TT} (hT : TTok P T) {b : Frame} {o : Oper} {op : BinOp} {t yt : TypeId} {x y : Operand} (ho : o.op = .binOp op t x y yt) {ρ : Operand → Option V} {H : Nat → Option Ob} {q : List Orc} {out : Out}
    (he : eBin T ρ op t x y q = some out) (hobs : Obs out.obs) : Does P b o ρ H out.r := by
  have hnd : ∀ d, o.op ≠ .defer d := fun d h => by rw [ho] at h; cases h
  have mx : x ∈ o.op.operands.toList := by rw [ho]; simp [Op.operands]
  have my : y ∈ o.op.operands.toList := by rw [ho]; simp [Op.operands]
  have key : ∀ (u v r : Value), ρ x = some (.c (.v u)) → ρ y = some (.c (.v v)) → (∀ w, (eqGuard op t x y u v).run P w = .ok () w) → (∀ w, (binOp op t u v).run P w = .ok r w) → Does P b o ρ H ⟨.c (.v r), [], [], []⟩ := fun u v r h1 h2 hg h3 =>
    Quiet1.does hnd fun s a hop => by
      have g1 := (hop x mx _ h1).raw
      have g2 := (hop y my _ h2).raw
      refine ⟨r, ?_, .c _ _ (.v _)⟩
      unfold execOp
      rw [ho]
      simp [g1, g2, hg, h3]
  unfold eBin at he
  split at he
  · rename_i k a hx
    split at he
    · rename_i k' b' hy
      split at he
      · rename_i hk
        split at he
        · rename_i v obs hv
          cases he
          refine key _ _ _ hx hy (fun w => by unfold eqGuard; cases op <;> rfl) fun w => ?_
          have hkk : isShift op = false → k = k' := fun h => by rw [h] at hk; simpa [ikEq] using hk
          cases op <;> simp only [binInt, Option.some.injEq, Prod.mk.injEq] at hv <;> obtain ⟨rfl, rfl⟩ := hv <;>
            first
              | (have := hkk rfl; subst this; simp [binOp, Op.intArith]; done)
              | (have := hkk rfl; subst this; simp [binOp, Op.intCmp]; done)
              | (have := hkk rfl; subst this; simp [binOp, Op.intBits]; done)
              | (have := hkk rfl; subst this; have h0 : b' ≠ 0 := hobs.1; simp [binOp, Op.intDiv, h0]; done)
              | (have h0 : ¬ b' < 0 := by have : 0 ≤ b' := hobs.1; omega
                 simp [binOp, Op.shift, h0])
        · cases he
      · cases he
    · cases he
  · rename_i a hx
    split at he
    · rename_i b' hy
      split at he
      · rename_i v obs hv
        cases he
        refine key _ _ _ hx hy (fun w => by unfold eqGuard; cases op <;> rfl) fun w => ?_
        cases op <;> simp only [binStr, Option.some.injEq, Prod.mk.injEq, reduceCtorEq] at hv <;> obtain ⟨rfl, rfl⟩ := hv
        · have h0 : ((a.length + b'.length : Nat) : Int) ≤ 9223372036854775807 := hobs.1
          have hn : ¬ (((⟨⟨a⟩⟩ : ByteArray).size + (⟨⟨b'⟩⟩ : ByteArray).size : Nat) : Int) > IntKind.i64.max := by
            show ¬ ((a.length + b'.length : Nat) : Int) > 9223372036854775807
            omega
          simp only [binOp, Op.stringOp]
          rw [if_neg hn]
          simp only [Sem.run_pure, Result.ok.injEq, and_true, Value.string.injEq]
          apply ByteArray.ext
          simp
        · simp [binOp, Op.stringOp, toList_mk]
        · simp [binOp, Op.stringOp, toList_mk]
      · cases he
    · cases he
  · rename_i a hx
    split at he
    · rename_i b' hy
      split at he
      · rename_i ti hti0
        have hti := hT t ti hti0
        split at he
        · rename_i hd
          have he' : ∀ (x y : Bool) (w : World), (Op.equal t (.bool x) (.bool y)).run P w = .ok (x == y) w := fun x y w => by
            show (Op.equalIn (9999 + 1) t (.bool x) (.bool y)).run P w = _
            generalize 9999 = n
            unfold Op.equalIn
            simp [hti.underlying, hd]
          split at he
          · cases he
            refine key _ _ _ hx hy (fun w => by unfold eqGuard; rfl) fun w => ?_
            simp [binOp, he']
          · cases he
            refine key _ _ _ hx hy (fun w => by unfold eqGuard; rfl) fun w => ?_
            simp [binOp, he']
          · cases he
        · cases he
      · cases he
    · cases he
  · cases he

def eUn (ρ : Operand → Option V) (op : UnOp) (x : Operand) (q : List Orc) : Option Out :=
  match ρ x with
  | some (.c (.v (.int k a))) => match op with
    | .neg => qv (ci k (k.wrap (0 - a))) [] q
    | _ => none
  | some (.c (.v (.bool a))) => match op with
    | .not => qv (cb (!a)) [] q
    | _ => none
  | _ => none

theorem sound_un {b : Frame} {o : Oper} {op : UnOp} {t : TypeId} {x : Operand} (ho : o.op = .unOp op t x) {ρ : Operand → Option V} {H : Nat → Option Ob} {q : List Orc} {out : Out}
    (he : eUn ρ op x q = some out) : Does P b o ρ H out.r := by
  have hnd : ∀ d, o.op ≠ .defer d := fun d h => by rw [ho] at h; cases h
  have mx : x ∈ o.op.operands.toList := by rw [ho]; simp [Op.operands]
  have key : ∀ (u r : Value), ρ x = some (.c (.v u)) → (∀ w, (Op.unary op u).run P w = .ok r w) → Does P b o ρ H ⟨.c (.v r), [], [], []⟩ := fun u r h1 h3 =>
    Quiet1.does hnd fun s a hop => by
      have g1 := (hop x mx _ h1).raw
      refine ⟨r, ?_, .c _ _ (.v _)⟩
      unfold execOp
      rw [ho]
      simp [g1, h3]
  unfold eUn at he
  split at he
  · rename_i k a hx
    split at he
    · cases he; exact key _ _ hx fun w => by simp [Op.unary, Op.intArith]
    · cases he
  · rename_i a hx
    split at he
    · cases he; exact key _ _ hx fun w => by simp [Op.unary]
    · cases he
  · cases he

end Go.Lift
