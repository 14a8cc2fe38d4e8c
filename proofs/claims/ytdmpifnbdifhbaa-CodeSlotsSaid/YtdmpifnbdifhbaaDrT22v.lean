/- A part of the proof of CodeSlots: contracts of functions of the program, at data level. -/
import Derived.Test.YtdmpifnbdifhbaaDrT22m
import Derived.Test.YtdmpifnbdifhbaaDrLU
import Derived.Test.YtdmpifnbdifhbaaDrT22u
namespace Go.Lift.T22
open Go.Proofs

/-- The items from a region on. -/
def findA : Code → Nat → List Item → Option (List Item)
  | .region id ops d, n, k => match eqN id n with
    | true => some (.code (.region id ops d) :: k)
    | false => none
  | .seq a b, n, k => match findA a n (.code b :: k) with
    | some x => some x
    | none => findA b n k
  | _, _, _ => none
def regK (fn : Func) (n : Nat) : List Item := match fn.body with
  | some c => match findA c n [] with
    | some k => k
    | none => []
  | none => []

def slM (c : Code') (more : Int) : Int := IntKind.i64.wrap (c.slots + IntKind.i64.wrap more)
def rowS (c : Code') (s : Int) : List C := [cI s, cI c.params, cI c.result, .sl 4 (c.insts.map eInst), .sl 3 (c.pads.map ePad)]
def rowI (c : Code') (k : Int) : List C := [cI c.slots, cI c.params, cI c.result, .sl 4 (c.insts.map eInst ++ [[cI k, cI 0, cI 0, cI 0]]), .sl 3 (c.pads.map ePad)]
def cAt (cs : List Code') (n : Nat) : Code' := cs.getD n default
def argX (gs : List Glue) (cs : List Code') (mn : Int) (n : Nat) (row : List C) : List V := [.c (.ag [.sl 4 (gs.map eGlue), .sl 5 ((cs.map eCode).set n row), cI mn])]
def rightD (args : List V) (b : Bool) : Prop := DApp Try.prog (.c (.v (.func (.func 9) #[] #[]))) args 0 [] fun v1 _ => v1 = cb b
def E4 (more n : Int) : LEnv := [(2, some (ci .u8 more)), (3, some (.hp 0 0 0)), (7, some (ci .i64 n))]

def L4 (gs : List Glue) (cs : List Code') (mn more : Int) (b1 b2 b3 : Bool) (n : Nat) : List Prop :=
  [(cs.map eCode).length * 72 ≤ 140737488355328, 0 ≤ (n : Int), (n : Int) < (cs.length : Nat), 0 ≤ (n : Int), (n : Int) < (cs.length : Nat),
   rightD (argX gs cs mn n (rowS (cAt cs n) (slM (cAt cs n) more))) b1, 0 ≤ (n : Int), (n : Int) < (cs.length : Nat), (b1 != decide (slM (cAt cs n) more ≤ 4095)) = false,
   0 ≤ (n : Int), 0 ≤ (n : Int), (n : Int) < (cs.length : Nat), 0 ≤ (n : Int), ((cAt cs n).insts.map eInst).length * 32 ≤ 140737488355328, ((cAt cs n).insts.map eInst ++ [[cI 23, cI 0, cI 0, cI 0]]).length * 32 ≤ 140737488355328, 0 ≤ (n : Int), (n : Int) < (cs.length : Nat),
   rightD (argX gs cs mn n (rowI (cAt cs n) 23)) b2, 0 ≤ (n : Int), (b2 != decide ((((cAt cs n).insts.map eInst).length : Nat) < (1048576 : Int))) = false,
   0 ≤ (n : Int), ((cAt cs n).insts.map eInst).length * 32 ≤ 140737488355328, ((cAt cs n).insts.map eInst ++ [[cI 19, cI 0, cI 0, cI 0]]).length * 32 ≤ 140737488355328, 0 ≤ (n : Int), (n : Int) < (cs.length : Nat),
   rightD (argX gs cs mn n (rowI (cAt cs n) 19)) b3]

def Seg4 (gs : List Glue) (cs : List Code') (mn more : Int) (b1 b2 b3 : Bool) (n : Nat) : Prop :=
  Lift.segO Try.prog T K5 Try.f4.ntmps Try.f4.results.toList 0 0 300 [] [] [] (regK Try.f4 6) (ofL (E4 more n)) (H9 ⟨gs, cs, mn⟩) [.lend [2] (cb b1), .br false, .lend [2, 7] (cb b2), .br false, .lend [2, 11] (cb b3)] = some ⟨false, List.replicate 1 (cb (!b3), []), L4 gs cs mn more b1 b2 b3 n, []⟩
end Go.Lift.T22
