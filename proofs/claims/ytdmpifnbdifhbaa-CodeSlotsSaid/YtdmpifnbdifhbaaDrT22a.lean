/- A part of the proof of CodeSlots: contracts of functions of the program, at data level. -/
import Derived.Test.YtdmpifnbdifhbaaDrT22
import Derived.KernelRfl

namespace Go.Lift.T22
open Go.Proofs

def K0 : KT := ⟨fun _ _ => none, noFull⟩
theorem hK0 : KOk Try.prog K0 := ⟨fun _ _ _ h => (by cases h), fun _ _ _ _ _ _ h => (by cases h)⟩

def withinP (x lo hi : Int) : Bool := decide (lo ≤ x) && decide (x ≤ hi)

theorem f20 (x lo hi : Int) : DCalls Try.prog 20 [ci .i64 x, ci .i64 lo, ci .i64 hi] 0 [] fun v h' => v = cb (withinP x lo hi) ∧ h' = [] := by
  exact DCalls.ofB hT hK0 hM (fun args w => Try.call20 args w) Try.func20 60 [] [] (by kernel_rfl) trivial

theorem f50 (x lo hi : Int) : DCalls Try.prog 50 [ci .i64 x, ci .i64 lo, ci .i64 hi] 0 [] fun v h' => v = cb (withinP x lo hi) ∧ h' = [] := by
  exact DCalls.ofB hT hK0 hM (fun args w => Try.call50 args w) Try.func50 60 [] [] (by kernel_rfl) trivial

def R1 : FuncId → List V → Option V
  | 20, [.c (.v (.int .i64 x)), .c (.v (.int .i64 lo)), .c (.v (.int .i64 hi))] => some (cb (withinP x lo hi))
  | 50, [.c (.v (.int .i64 x)), .c (.v (.int .i64 lo)), .c (.v (.int .i64 hi))] => some (cb (withinP x lo hi))
  | _, _ => none
def K1 : KT := ⟨R1, noFull⟩
theorem hK1 : KOk Try.prog K1 := by
  refine ⟨fun f args v h => ?_, fun _ _ _ _ _ _ h => by cases h⟩
  replace h : R1 f args = some v := h
  unfold R1 at h
  split at h
  · cases h; exact (f20 _ _ _).mono fun _ _ h => h.1
  · cases h; exact (f50 _ _ _).mono fun _ _ h => h.1
  · cases h

def wr (n : Int) : Int := IntKind.i64.wrap n
def rowP (slots first many : Int) : Bool := withinP first 0 (wr (slots - 1)) && decide (many ≤ wr (slots - first))

theorem f51 (x0 x1 x2 x4 x5 x6 x7 : C) (slots first many : Int) : DCalls Try.prog 51 [.c (.ag [x0, x1, x2, .v (.int .i64 slots), x4, x5, x6, x7]), ci .i64 first, ci .i64 many] 0 [] fun v h' => v = cb (rowP slots first many) ∧ h' = [] := by
  exact DCalls.ofB hT hK1 hM (fun args w => Try.call51 args w) Try.func51 60 [] [] (by kernel_rfl) trivial

theorem f52 (x0 x1 x2 x3 x4 x5 x7 : C) (l : List (List C)) (n : Int) : DCalls Try.prog 52 [.c (.ag [x0, x1, x2, x3, x4, x5, .sl 4 l, x7]), ci .i64 n] 0 [] fun v h' => v = cb (withinP n 0 (wr ((l.length : Nat) - 1))) ∧ h' = [] := by
  exact DCalls.ofB hT hK1 hM (fun args w => Try.call52 args w) Try.func52 60 [] [] (by kernel_rfl) trivial
end Go.Lift.T22
