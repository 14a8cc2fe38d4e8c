/- A part of the proof of CodeSlots: contracts of functions of the program, at data level. -/
import Derived.Test.YtdmpifnbdifhbaaDrT22b
namespace Go.Lift.T22
open Go.Proofs

def R2 : FuncId → List V → Option V
  | 51, [.c (.ag [_, _, _, .v (.int .i64 slots), _, _, _, _]), .c (.v (.int .i64 first)), .c (.v (.int .i64 many))] => some (cb (rowP slots first many))
  | 52, [.c (.ag [_, _, _, _, _, _, .sl 4 l, _]), .c (.v (.int .i64 n))] => some (cb (withinP n 0 (wr ((l.length : Nat) - 1))))
  | f, a => R1 f a
def K2 : KT := ⟨R2, noFull⟩
theorem hK2 : KOk Try.prog K2 := by
  refine ⟨fun f args v h => ?_, fun _ _ _ _ _ _ h => by cases h⟩
  replace h : R2 f args = some v := h
  unfold R2 at h
  split at h
  · cases h; exact (f51 ..).mono fun _ _ h => h.1
  · cases h; exact (f52 ..).mono fun _ _ h => h.1
  · exact hK1.1 _ _ _ h

theorem f59 (x0 x1 x2 x4 x5 x6 x7 : C) (slots n : Int) : DCalls Try.prog 59 [ci .i64 n, .c (.va [x0, x1, x2, .v (.int .i64 slots), x4, x5, x6, x7] 0)] 0 [] fun v h' => v = cb (!rowP slots n 1) ∧ h' = [] := by
  exact DCalls.ofB hT hK2 hM (fun args w => Try.call59 args w) Try.func59 60 [] [] (by kernel_rfl) trivial

def slotP (slots : Int) (ns : List Int) : Bool := !(ns.any fun n => !rowP slots n 1)

theorem f49 (x0 x1 x2 x4 x5 x6 x7 : C) (slots : Int) (ns : List Int) (hlen : ns.length < 2 ^ 62) :
    DCalls Try.prog 49 [.c (.ag [x0, x1, x2, .v (.int .i64 slots), x4, x5, x6, x7]), .c (.sl 1 (ns.map eInt))] 0 [] fun v h' => v = cb (slotP slots ns) ∧ h' = [] := by
  refine DCalls.of_wp (fun args w => Try.call49 args w) Try.func49 (code := _) rfl (Nat.le_of_ble_eq_true rfl) fun s0 hs0 => ?_
  refine Wp.run hT hK2 hM 30 (q := [.lend [0] (cb (ns.any fun n => !rowP slots n 1))]) (lits := []) rfl rfl ⟨⟨?_, trivial⟩, ?_⟩
  · exact DApp.func ((f58 ns _ (fun n => !rowP slots n 1) hlen fun n _ => DApp.cloC ((f59 x0 x1 x2 x4 x5 x6 x7 slots n).mono fun _ _ h => h.1)).mono fun _ _ h => h.1)
  · exact Wp.retW hT Try.func49 hs0 [] rfl rfl ⟨rfl, rfl⟩

end Go.Lift.T22
