/- A part of the proof of CodeSlots: contracts of functions of the program, at data level. -/
import Derived.Test.YtdmpifnbdifhbaaDrT22e
namespace Go.Lift.T22
open Go.Proofs

/-! ### The closures of right -/
theorem f36 (x2 x4 x7 : C) (gl is : List (List C)) (cs : List Code') (slots result : Int) (x : Inst) (hl : cs.length < 2 ^ 62) :
    DCalls Try.prog 36 [.c (.ag (eInst x)), .c (.va [.sl 4 gl, .sl 5 (cs.map eCode), x2, .v (.int .i64 slots), x4, .v (.int .i64 result), .sl 4 is, x7] 0)] 0 [] fun v h' => v = cb (!instP gl.length is.length cs slots result x) ∧ h' = [] := by
  have h37 : DApp Try.prog (.c (.v (.func (.func 37) #[] #[]))) (a37 x2 x4 x7 gl is cs slots result x) 0 [] fun v1 _ => v1 = cb (instP gl.length is.length cs slots result x) := DApp.func ((f37 x2 x4 x7 gl is cs slots result x hl).mono fun _ _ h => h.1)
  exact DCalls.ofB hT hK3 hM (fun args w => Try.call36 args w) Try.func36 30 [.fn 37 (cb (instP gl.length is.length cs slots result x))] [DApp Try.prog (.c (.v (.func (.func 37) #[] #[]))) (a37 x2 x4 x7 gl is cs slots result x) 0 [] fun v1 _ => v1 = cb (instP gl.length is.length cs slots result x)] (by kernel_rfl) ⟨h37, trivial⟩

def R4 : FuncId → List V → Option V
  | 40, [.c (.ag [_, _, _, _, _, _, .sl 4 l, _]), .c (.ag [.v (.int .i64 a), .v (.int .i64 b), .v (.int .i64 c)])] => some (cb (padP l.length ⟨a, b, c⟩))
  | f, a => R3 f a
def K4 : KT := ⟨R4, noFull⟩
theorem hK4 : KOk Try.prog K4 := by
  refine ⟨fun f args v h => ?_, fun _ _ _ _ _ _ h => by cases h⟩
  replace h : R4 f args = some v := h
  unfold R4 at h
  split at h
  · cases h; exact (f40 _ _ _ _ _ _ _ _ ⟨_, _, _⟩).mono fun _ _ h => h.1
  · exact hK3.1 _ _ _ h

theorem f39 (x0 x1 x2 x3 x4 x5 x7 : C) (l : List (List C)) (p : Pad) : DCalls Try.prog 39 [.c (.ag (ePad p)), .c (.va [x0, x1, x2, x3, x4, x5, .sl 4 l, x7] 0)] 0 [] fun v h' => v = cb (!padP l.length p) ∧ h' = [] := by
  exact DCalls.ofB hT hK4 hM (fun args w => Try.call39 args w) Try.func39 30 [] [] (by kernel_rfl) trivial

/-! ### right -/
instance : Inhabited Inst := ⟨⟨0, 0, 0, 0⟩⟩
def lastOp (is : List Inst) : Int := (is.getD (is.length - 1) default).op
def codeP (gl : Nat) (cs : List Code') (c : Code') : Bool :=
  mux (!withinP c.slots 1 4095) false <| mux (!withinP c.params 0 c.slots) false <| mux (!withinP c.result 1 64) false <| mux (!withinP (c.insts.length : Nat) 1 1048576) false <| mux (decide ((c.pads.length : Nat) > (1048576 : Int))) false <|
  mux (c.insts.any fun x => !instP gl c.insts.length cs c.slots c.result x) false <| mux (c.pads.any fun p => !padP c.insts.length p) false <|
  mux3 (lastOp c.insts == 16) (lastOp c.insts == 22) (lastOp c.insts == 23) true false

theorem row_at {α : Type} [Inhabited α] {l : List α} {e : α → List C} {i : Int} (h0 : 0 ≤ i) (h1 : i < (l.length : Nat)) : (l.map e)[i.toNat]? = some (e (l.getD i.toNat default)) := by
  have h3 : i.toNat < l.length := by omega
  simp [h3]

theorem f22 (m : C) (gl : List (List C)) (cs : List Code') (c : Code') (hl : cs.length < 2 ^ 62) (hi : c.insts.length < 2 ^ 62) (hp : c.pads.length < 2 ^ 62) :
    DCalls Try.prog 22 [.c (.ag [.sl 4 gl, .sl 5 (cs.map eCode), m, .v (.int .i64 c.slots), .v (.int .i64 c.params), .v (.int .i64 c.result), .sl 4 (c.insts.map eInst), .sl 3 (c.pads.map ePad)])] 0 [] fun v h' => v = cb (codeP gl.length cs c) ∧ h' = [] := by
  refine DCalls.of_wp (fun args w => Try.call22 args w) Try.func22 (code := _) rfl (Nat.le_of_ble_eq_true rfl) fun s0 hs0 => ?_
  have h35 : DApp Try.prog (.c (.v (.func (.func 35) #[] #[]))) [.c (.sl 4 (c.insts.map eInst)), .c (.fn (.func 36) [] [.va [.sl 4 gl, .sl 5 (cs.map eCode), m, .v (.int .i64 c.slots), .v (.int .i64 c.params), .v (.int .i64 c.result), .sl 4 (c.insts.map eInst), .sl 3 (c.pads.map ePad)] 0])] 0 [] fun v1 _ => v1 = cb (c.insts.any fun x => !instP gl.length c.insts.length cs c.slots c.result x) :=
    DApp.func ((f35 c.insts _ (fun x => !instP gl.length c.insts.length cs c.slots c.result x) hi fun x _ => DApp.cloC ((f36 m (.v (.int .i64 c.params)) (.sl 3 (c.pads.map ePad)) gl (c.insts.map eInst) cs c.slots c.result x hl).mono fun _ _ h => by simpa using h.1)).mono fun _ _ h => h.1)
  have h38 : DApp Try.prog (.c (.v (.func (.func 38) #[] #[]))) [.c (.sl 3 (c.pads.map ePad)), .c (.fn (.func 39) [] [.va [.sl 4 gl, .sl 5 (cs.map eCode), m, .v (.int .i64 c.slots), .v (.int .i64 c.params), .v (.int .i64 c.result), .sl 4 (c.insts.map eInst), .sl 3 (c.pads.map ePad)] 0])] 0 [] fun v1 _ => v1 = cb (c.pads.any fun p => !padP c.insts.length p) :=
    DApp.func ((f38 c.pads _ (fun p => !padP c.insts.length p) hp fun p _ => DApp.cloC ((f39 (.sl 4 gl) (.sl 5 (cs.map eCode)) m (.v (.int .i64 c.slots)) (.v (.int .i64 c.params)) (.v (.int .i64 c.result)) (.sl 3 (c.pads.map ePad)) (c.insts.map eInst) p).mono fun _ _ h => by simpa using h.1)).mono fun _ _ h => h.1)
  refine Wp.run hT hK4 hM 200 (q := [.row (eInst (c.insts.getD (IntKind.i64.wrap (((c.insts.map eInst).length : Nat) - 1)).toNat default)), .fn 35 (cb (c.insts.any fun x => !instP gl.length c.insts.length cs c.slots c.result x)), .fn 38 (cb (c.pads.any fun p => !padP c.insts.length p))]) (lits := []) rfl rfl ?_
  have hlen : (c.insts.map eInst).length = c.insts.length := List.length_map ..
  have hlenp : (c.pads.map ePad).length = c.pads.length := List.length_map ..
  have hlast : withinP ((c.insts.map eInst).length : Nat) 1 1048576 = true → 0 ≤ IntKind.i64.wrap (((c.insts.map eInst).length : Nat) - 1) ∧ (c.insts.map eInst)[(IntKind.i64.wrap (((c.insts.map eInst).length : Nat) - 1)).toNat]? = some (eInst (c.insts.getD (IntKind.i64.wrap (((c.insts.map eInst).length : Nat) - 1)).toNat default)) ∧
      c.insts.getD (IntKind.i64.wrap (((c.insts.map eInst).length : Nat) - 1)).toNat default = c.insts.getD (c.insts.length - 1) default := fun h => by
    simp only [withinP, Bool.and_eq_true, decide_eq_true_eq, hlen] at h ⊢
    have e : IntKind.i64.wrap ((c.insts.length : Nat) - 1) = ((c.insts.length - 1 : Nat) : Int) := by rw [IntKind.wrap_i64]; omega
    rw [e]
    exact ⟨by omega, row_at (by omega) (by omega), by simp⟩
  repeat' first
    | exact Wp.retW hT Try.func22 hs0 [] rfl rfl ⟨by
        clear h35 h38 hs0
        simp only [hlen, hlenp, Bool.not_eq_false', Bool.not_eq_true'] at *
        first
          | (simp only [codeP, mux, Bool.not_false, Bool.not_true, cb, *]; done)
          | (have h3 := (hlast ‹_›).2.2
             simp only [h3] at *
             simp only [codeP, mux, mux3, lastOp, Bool.not_false, Bool.not_true, cb, *]), rfl⟩
    | refine ⟨fun _ => ?_, fun _ => ?_⟩
    | refine ⟨⟨h35, trivial⟩, ?_⟩
    | refine ⟨⟨h35, h38, trivial⟩, ?_⟩
    | refine ⟨⟨(hlast (by simpa using ‹(!withinP ((c.insts.map eInst).length : Nat) 1 1048576) = false›)).1, (hlast (by simpa using ‹(!withinP ((c.insts.map eInst).length : Nat) 1 1048576) = false›)).2.1, trivial⟩, ?_⟩
    | fail
end Go.Lift.T22
