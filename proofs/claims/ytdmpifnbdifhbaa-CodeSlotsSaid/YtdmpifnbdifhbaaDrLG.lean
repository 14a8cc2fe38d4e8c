/- Every operation. -/
import Derived.Test.YtdmpifnbdifhbaaDrLP
namespace Go.Lift
variable {P : Program}

def isSrc (T : TT) (t : TypeId) : Bool := match T t with
  | some ti => match ti.d with
    | .slice _ => true
    | .string => true
    | _ => false
  | none => false

theorem isSrc_eq {T : TT} {t : TypeId} (h : isSrc T t = true) : ∃ ti, T t = some ti ∧ ((∃ e', ti.d = .slice e') ∨ ti.d = .string) := by
  unfold isSrc at h
  split at h
  case h_2 => cases h
  rename_i ti hti
  split at h
  · rename_i e he; exact ⟨ti, hti, .inl ⟨e, he⟩⟩
  · rename_i he; exact ⟨ti, hti, .inr he⟩
  · cases h

/-- What an operation comes to. -/
def opE (P : Program) (T : TT) (K : KT) (op : Op) (ρ : Operand → Option V) (H : Nat → Option Ob) (nid : Nat) (q : List Orc) : Option Out :=
  match op with
  | .move x => eMove ρ x q
  | .assign x => eMove ρ x q
  | .pick c x y => ePick ρ c x y q
  | .nilCheck x => eNil ρ x H q
  | .makeFunc f first caps => eFunc ρ f first caps q
  | .extract x n => eExtract ρ x n q
  | .binOp op t x y _ => match eBin T ρ op t x y q with
    | some out => some out
    | none => eEqS P T ρ op t x y q
  | .unOp op _ x => eUn ρ op x q
  | .load t x => eLoad T t ρ x H q
  | .fieldAddr t x n => eField T ρ t x n H q
  | .field t x n => eFieldV T ρ t x n q
  | .indexAddr t x ix => eIdx T ρ t x ix H q
  | .index t x ix => eIndex T ρ t x ix q
  | .box _ x => eBox ρ x nid q
  | .alloc t => eAlloc T t nid q
  | .store t a x => match eStore T ρ t a x H q with
    | some out => some out
    | none => eStoreU T ρ t a x H q
  | .slice t x lo hi mx => eSlice T ρ t x lo hi mx H q
  | .convert src dst x => match eConv T ρ src dst x H nid q with
    | some out => some out
    | none => eMark T ρ src dst x H q
  | .build t parts => eBuild T ρ t parts q
  | .buildSlice t len parts => eBuildSlice T ρ t len parts nid q
  | .call { callee := .value f, args := args, argTypes := _ } => eCall P K ρ f args.toList H nid q
  | .call { callee := .builtin .len, args := ⟨[x]⟩, argTypes := ⟨t :: _⟩ } => eLen T ρ t x H q
  | .call { callee := .builtin .append, args := ⟨[x, y]⟩, argTypes := ⟨[t, tx]⟩ } => match isSrc T tx with
    | true => match eAppend T ρ t x y H nid q with
      | some out => some out
      | none => eAppendV T ρ t x y H nid q
    | false => none
  | .call { callee := .builtin .min, args := ⟨[x, y]⟩, argTypes := _ } => eMin ρ x y q
  | .call { callee := .builtin .max, args := ⟨[x, y]⟩, argTypes := _ } => eMax ρ x y q
  | _ => none

theorem sound_op {T : TT} (hT : TTok P T) {K : KT} (hK : KOk P K) {b : Frame} {o : Oper} {ρ : Operand → Option V} {H : Nat → Option Ob} {nid : Nat} {q : List Orc} {out : Out}
    (he : opE P T K o.op ρ H nid q = some out) (hobs : Obs out.obs) : Does P b o ρ H out.r := by
  unfold opE at he
  split at he
  · rename_i h; exact sound_move (.inl h) he
  · rename_i h; exact sound_move (.inr h) he
  · rename_i h; exact sound_pick h he
  · rename_i h; exact sound_nil h he
  · rename_i h; exact sound_func h he
  · rename_i h; exact sound_extract h he
  · rename_i h
    split at he
    · rename_i hb; cases he; exact sound_bin hT h hb hobs
    · exact sound_eqS hT h he
  · rename_i h; exact sound_un h he
  · rename_i h; exact sound_load hT h he hobs
  · rename_i h; exact sound_field hT h he
  · rename_i h; exact sound_fieldV hT h he
  · rename_i h; exact sound_idx hT h he hobs
  · rename_i h; exact sound_index hT h he hobs
  · rename_i h; exact sound_box h he
  · rename_i h; exact sound_alloc hT h he
  · rename_i h
    split at he
    · rename_i hb; cases he; exact sound_store hT h hb hobs
    · exact sound_storeU hT h he hobs
  · rename_i h; exact sound_slice hT h he hobs
  · rename_i h
    split at he
    · rename_i hb; cases he; exact sound_conv hT h hb hobs
    · exact sound_mark hT h he
  · rename_i h; exact sound_build hT h he
  · rename_i h; exact sound_buildSlice hT h he
  · rename_i h; exact sound_call hK h he hobs
  · rename_i h; exact sound_len hT h rfl he
  · rename_i h
    split at he
    · rename_i hs
      obtain ⟨ti, h1, h2⟩ := isSrc_eq hs
      split at he
      · rename_i hb; cases he; exact sound_append hT h h1 h2 hb hobs
      · exact sound_appendV hT h h1 h2 he hobs
    · cases he
  · rename_i h; exact sound_min h he
  · rename_i h; exact sound_max h he
  · cases he

end Go.Lift
