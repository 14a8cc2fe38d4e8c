/- A part of the proof of CodeSlots: contracts of functions of the program, at data level. -/
import Derived.Test.YtdmpifnbdifhbaaDrT22d
import Derived.Test.YtdmpifnbdifhbaaDrLQ
import Derived.KernelRfl
namespace Go.Lift.T22
open Go.Proofs

def R3 : FuncId → List V → Option V
  | 49, [.c (.ag [_, _, _, .v (.int .i64 slots), _, _, _, _]), .c (.sl 1 [[.v (.int .i64 a)]])] => some (cb (slotP slots [a]))
  | 49, [.c (.ag [_, _, _, .v (.int .i64 slots), _, _, _, _]), .c (.sl 1 [[.v (.int .i64 a)], [.v (.int .i64 b)]])] => some (cb (slotP slots [a, b]))
  | 49, [.c (.ag [_, _, _, .v (.int .i64 slots), _, _, _, _]), .c (.sl 1 [[.v (.int .i64 a)], [.v (.int .i64 b)], [.v (.int .i64 c)]])] => some (cb (slotP slots [a, b, c]))
  | f, a => R2 f a
def K3 : KT := ⟨R3, noFull⟩
theorem hK3 : KOk Try.prog K3 := by
  refine ⟨fun f args v h => ?_, fun _ _ _ _ _ _ h => by cases h⟩
  replace h : R3 f args = some v := h
  unfold R3 at h
  split at h
  · cases h; exact (f49 _ _ _ _ _ _ _ _ [_] (by simp)).mono fun _ _ h => h.1
  · cases h; exact (f49 _ _ _ _ _ _ _ _ [_, _] (by simp)).mono fun _ _ h => h.1
  · cases h; exact (f49 _ _ _ _ _ _ _ _ [_, _, _] (by simp)).mono fun _ _ h => h.1
  · exact hK2.1 _ _ _ h

def mux (c a b : Bool) : Bool := match c with
  | true => a
  | false => b
def mux2 (c d a b : Bool) : Bool := mux c a (mux d a b)
def mux3 (c d e a b : Bool) : Bool := mux c a (mux d a (mux e a b))

def instP (gl nI : Nat) (cs : List Code') (slots result : Int) (x : Inst) : Bool :=
  mux (x.op == 1) (slotP slots [x.a] && x.c == 0) <|
  mux3 (x.op == 2) (x.op == 3) (x.op == 4) (slotP slots [x.a, x.b, x.c]) <|
  mux2 (x.op == 5) (x.op == 6) (withinP x.c 1 64 && (rowP slots x.a x.c && rowP slots x.b x.c)) <|
  mux3 (x.op == 7) (x.op == 8) (x.op == 9) (withinP x.c 1 64 && (rowP slots x.a x.c && slotP slots [x.b])) <|
  mux (x.op == 10) (slotP slots [x.a, x.b] && x.c == 0) <|
  mux (x.op == 11) (slotP slots [x.a, x.b] && withinP x.c 0 4094) <|
  mux (x.op == 12) (slotP slots [x.a] && (withinP x.b 1 64 && x.c == 0)) <|
  mux (x.op == 14) (slotP slots [x.a] && (withinP x.b 0 (wr ((gl : Nat) - 1)) && x.c == 0)) <|
  mux (x.op == 17) (slotP slots [x.a] && (withinP x.b 0 (wr ((nI : Nat) - 1)) && x.c == 0)) <|
  mux (x.op == 18) (slotP slots [x.a] && withinP x.c 0 (wr ((nI : Nat) - 1))) <|
  mux2 (x.op == 20) (x.op == 21) (callP cs slots x) <|
  mux2 (x.b != 0) (x.c != 0) false <|
  mux2 (x.op == 13) (x.op == 15) (slotP slots [x.a]) <|
  mux (x.op == 16) (withinP x.a 0 (wr ((nI : Nat) - 1))) <|
  mux2 (x.op == 19) (x.op == 23) (x.a == 0) <|
  mux (x.op == 22) (withinP result 1 64 && rowP slots x.a result) false

abbrev a37 (x2 x4 x7 : C) (gl is : List (List C)) (cs : List Code') (slots result : Int) (x : Inst) : List V := [.c (.ag [.sl 4 gl, .sl 5 (cs.map eCode), x2, .v (.int .i64 slots), x4, .v (.int .i64 result), .sl 4 is, x7]), .c (.ag (eInst x))]
noncomputable abbrev t37 (x2 x4 x7 : C) (gl is : List (List C)) (cs : List Code') (slots result : Int) (x : Inst) : Option Tq := treeF Try.prog T K3 Try.f37 200 (a37 x2 x4 x7 gl is cs slots result x) [.fn 53 (cb (callP cs slots x))]

theorem f37 (x2 x4 x7 : C) (gl is : List (List C)) (cs : List Code') (slots result : Int) (x : Inst) (hl : cs.length < 2 ^ 62) :
    DCalls Try.prog 37 (a37 x2 x4 x7 gl is cs slots result x) 0 [] fun v h' => v = cb (instP gl.length is.length cs slots result x) ∧ h' = [] := by
  have h53 : DApp Try.prog (.c (.v (.func (.func 53) #[] #[]))) (a37 x2 x4 x7 gl is cs slots result x) 0 [] fun v1 _ => v1 = cb (callP cs slots x) := DApp.func ((f53 _ _ _ _ _ _ cs slots x hl).mono fun _ _ h => h.1)
  exact DCalls.ofB hT hK3 hM (fun args w => Try.call37 args w) Try.func37 200 [.fn 53 (cb (callP cs slots x))] [DApp Try.prog (.c (.v (.func (.func 53) #[] #[]))) (a37 x2 x4 x7 gl is cs slots result x) 0 [] fun v1 _ => v1 = cb (callP cs slots x), DApp Try.prog (.c (.v (.func (.func 53) #[] #[]))) (a37 x2 x4 x7 gl is cs slots result x) 0 [] fun v1 _ => v1 = cb (callP cs slots x)] (by kernel_rfl) ⟨h53, h53, trivial⟩
end Go.Lift.T22
