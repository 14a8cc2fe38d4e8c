/- A part of the proof of CodeSlots: contracts of functions of the program, at data level. -/
import Derived.Test.YtdmpifnbdifhbaaDrT22h
namespace Go.Lift.T22
open Go.Proofs

/-! ### The reference -/
def rowR (first many slots : Int) : Bool := decide (0 ≤ first) && (decide (first < slots) && decide (wr (first + many) ≤ slots))

theorem f56 (x lo hi : Int) : DCalls Try.prog 56 [ci .i64 x, ci .i64 lo, ci .i64 hi] 0 [] fun v h' => v = cb (withinP x lo hi) ∧ h' = [] := by
  exact DCalls.ofB hT hK0 hM (fun args w => Try.call56 args w) Try.func56 60 [] [] (by kernel_rfl) trivial
theorem f55 (a b c : Int) : DCalls Try.prog 55 [ci .i64 a, ci .i64 b, ci .i64 c] 0 [] fun v h' => v = cb (rowR a b c) ∧ h' = [] := by
  exact DCalls.ofB hT hK0 hM (fun args w => Try.call55 args w) Try.func55 60 [] [] (by kernel_rfl) trivial

def R5 : FuncId → List V → Option V
  | 55, [.c (.v (.int .i64 x)), .c (.v (.int .i64 lo)), .c (.v (.int .i64 hi))] => some (cb (rowR x lo hi))
  | 56, [.c (.v (.int .i64 x)), .c (.v (.int .i64 lo)), .c (.v (.int .i64 hi))] => some (cb (withinP x lo hi))
  | _, _ => none
def K5 : KT := ⟨R5, noFull⟩
theorem hK5 : KOk Try.prog K5 := by
  refine ⟨fun f args v h => ?_, fun _ _ _ _ _ _ h => by cases h⟩
  replace h : R5 f args = some v := h
  unfold R5 at h
  split at h
  · cases h; exact (f55 _ _ _).mono fun _ _ h => h.1
  · cases h; exact (f56 _ _ _).mono fun _ _ h => h.1
  · cases h

/-- A call's numbers, as the reference looks at them. -/
def callR (cs : List Code') (c : Code') (x : Inst) (result : Int) (r : Code') : Bool :=
  mux (r.params == 0) (mux (withinP x.b 0 (wr (c.slots - 1))) (withinP result 1 64 && rowR x.c result c.slots) (mux (decide (r.params > 0)) (mux (decide (r.params ≤ c.slots)) (mux (rowR x.b r.params c.slots) (withinP result 1 64 && rowR x.c result c.slots) false) false) false))
    (mux (decide (r.params > 0)) (mux (decide (r.params ≤ c.slots)) (mux (rowR x.b r.params c.slots) (withinP result 1 64 && rowR x.c result c.slots) false) false) false)
def callR2 (cs : List Code') (c : Code') (x : Inst) (r : Code') : Bool :=
  mux (!withinP x.a 0 (wr (((cs.map eCode).length : Nat) - 1))) false <| mux (x.op == 21) (callR cs c x 1 r) (callR cs c x r.result r)

def instR (gs : List Glue) (cs : List Code') (c : Code') (x : Inst) (r : Code') : Bool :=
  mux (x.op == 1) (rowR x.a 1 c.slots && x.c == 0) <|
  mux3 (x.op == 2) (x.op == 3) (x.op == 4) (rowR x.a 1 c.slots && (rowR x.b 1 c.slots && rowR x.c 1 c.slots)) <|
  mux2 (x.op == 5) (x.op == 6) (withinP x.c 1 64 && (rowR x.a x.c c.slots && rowR x.b x.c c.slots)) <|
  mux3 (x.op == 7) (x.op == 8) (x.op == 9) (withinP x.c 1 64 && (rowR x.a x.c c.slots && rowR x.b 1 c.slots)) <|
  mux (x.op == 10) (rowR x.a 1 c.slots && (rowR x.b 1 c.slots && x.c == 0)) <|
  mux (x.op == 11) (rowR x.a 1 c.slots && (rowR x.b 1 c.slots && withinP x.c 0 4094)) <|
  mux (x.op == 12) (rowR x.a 1 c.slots && (withinP x.b 1 64 && x.c == 0)) <|
  mux2 (x.op == 13) (x.op == 15) (rowR x.a 1 c.slots && (x.b == 0 && x.c == 0)) <|
  mux (x.op == 14) (rowR x.a 1 c.slots && (withinP x.b 0 (wr (((gs.map eGlue).length : Nat) - 1)) && x.c == 0)) <|
  mux (x.op == 16) (withinP x.a 0 (wr (((c.insts.map eInst).length : Nat) - 1)) && (x.b == 0 && x.c == 0)) <|
  mux (x.op == 17) (rowR x.a 1 c.slots && (withinP x.b 0 (wr (((c.insts.map eInst).length : Nat) - 1)) && x.c == 0)) <|
  mux (x.op == 18) (rowR x.a 1 c.slots && withinP x.c 0 (wr (((c.insts.map eInst).length : Nat) - 1))) <|
  mux2 (x.op == 19) (x.op == 23) (x.a == 0 && (x.b == 0 && x.c == 0)) <|
  mux2 (x.op == 20) (x.op == 21) (callR2 cs c x r) <|
  mux (x.op == 22) (withinP c.result 1 64 && (rowR x.a c.result c.slots && (x.b == 0 && x.c == 0))) false

set_option maxRecDepth 20000 in
theorem f41 (y : C) (gs : List Glue) (cs : List Code') (c : Code') (x : Inst) (hl : cs.length < 2 ^ 62) :
    DCalls Try.prog 41 [.c (.ag [.sl 4 (gs.map eGlue), .sl 5 (cs.map eCode), y]), .c (.ag (eCode c)), .c (.ag (eInst x))] 0 [] fun v h' => v = cb (instR gs cs c x (codeAt cs x.a)) ∧ h' = [] := by
  have h1 : (!withinP x.a 0 (IntKind.i64.wrap (((cs.map eCode).length : Nat) - 1))) = false → 0 ≤ x.a := fun h => (codeAt_row hl (by simpa [wr] using h)).1
  have h2 : (!withinP x.a 0 (IntKind.i64.wrap (((cs.map eCode).length : Nat) - 1))) = false → (cs.map eCode)[x.a.toNat]? = some (eCode (codeAt cs x.a)) := fun h => (codeAt_row hl (by simpa [wr] using h)).2
  generalize codeAt cs x.a = r at *
  exact DCalls.ofBK hT hK5 hM (fun args w => Try.call41 args w) Try.func41 1 300 [.row (eCode r)]
    [(!withinP x.a 0 (IntKind.i64.wrap (((cs.map eCode).length : Nat) - 1))) = false → 0 ≤ x.a, (!withinP x.a 0 (IntKind.i64.wrap (((cs.map eCode).length : Nat) - 1))) = false → (cs.map eCode)[x.a.toNat]? = some (eCode r),
     (!withinP x.a 0 (IntKind.i64.wrap (((cs.map eCode).length : Nat) - 1))) = false → 0 ≤ x.a, (!withinP x.a 0 (IntKind.i64.wrap (((cs.map eCode).length : Nat) - 1))) = false → (cs.map eCode)[x.a.toNat]? = some (eCode r)] (by kernel_rfl) ⟨h1, h2, h1, h2, trivial⟩
end Go.Lift.T22
