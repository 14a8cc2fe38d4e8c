/- A part of the proof of CodeSlots: contracts of functions of the program, at data level. -/
import Derived.Test.YtdmpifnbdifhbaaDrT22f
namespace Go.Lift.T22
open Go.Proofs

instance : Inhabited Glue := ⟨⟨0, 0, 0, []⟩⟩
instance : Inhabited Part := ⟨⟨0, 0⟩⟩
instance : Inhabited Pad := ⟨⟨0, 0, 0⟩⟩
def gAt (gs : List Glue) (i : Int) : Glue := gs.getD i.toNat default
def restP (gs : List Glue) (k : Int) (g : Glue) (p : Part) : Bool :=
  decide (p.glue < k) && (withinP (gAt gs p.glue).slots 1 64 && withinP p.at_ 0 (IntKind.i64.wrap (g.slots - (gAt gs p.glue).slots)))
def part2P (gs : List Glue) (k : Int) (g : Glue) (p : Part) : Bool :=
  mux (!withinP p.glue 0 (IntKind.i64.wrap (((gs.map eGlue).length : Nat) - 1))) false <| mux (g.kind == 1) (p.at_ == 0) <| mux (g.kind == 3) (mux (p.at_ != 1) false (restP gs k g p)) (restP gs k g p)
def partP (gs : List Glue) (k : Int) (g : Glue) (p : Part) : Bool :=
  mux (g.kind == 3) (mux (p.at_ == 0 && (p.glue == -1 && true)) true (part2P gs k g p)) (part2P gs k g p)

theorem within_row {α : Type} [Inhabited α] {l : List α} {e : α → List C} {i : Int} (hl : l.length < 2 ^ 62) (h : withinP i 0 (wr (((l.map e).length : Nat) - 1)) = true) : 0 ≤ i ∧ (l.map e)[i.toNat]? = some (e (l.getD i.toNat default)) := by
  simp only [withinP, Bool.and_eq_true, decide_eq_true_eq, wr, IntKind.wrap_i64, List.length_map] at h
  exact ⟨h.1, row_at h.1 (by omega)⟩

set_option maxRecDepth 20000 in
theorem f34 (x y : C) (gs : List Glue) (k : Int) (g : Glue) (p : Part) (hl : gs.length < 2 ^ 62) :
    DCalls Try.prog 34 [.c (.ag [.sl 4 (gs.map eGlue), x, y]), ci .i64 k, .c (.ag (eGlue g)), .c (.ag (ePart p))] 0 [] fun v h' => v = cb (partP gs k g p) ∧ h' = [] := by
  refine DCalls.of_wp (fun args w => Try.call34 args w) Try.func34 (code := _) rfl (Nat.le_of_ble_eq_true rfl) fun s0 hs0 => ?_
  refine Wp.run hT hK4 hM 200 (q := [.row (eGlue (gAt gs p.glue))]) (lits := []) rfl rfl ?_
  have hw : (!withinP p.glue 0 (wr (((gs.map eGlue).length : Nat) - 1))) = false → 0 ≤ p.glue ∧ (gs.map eGlue)[p.glue.toNat]? = some (eGlue (gAt gs p.glue)) := fun h => within_row hl (by simpa using h)
  repeat' first
    | exact Wp.retW hT Try.func34 hs0 [] rfl rfl ⟨by
        clear hs0 hw
        first
          | (simp only [partP, part2P, restP, mux, Bool.true_and, Bool.false_and, cb, *]; done)
          | simp_all [partP, part2P, restP, mux, cb], rfl⟩
    | refine ⟨fun _ => ?_, fun _ => ?_⟩
    | refine ⟨⟨(hw ‹_›).1, (hw ‹_›).2, trivial⟩, ?_⟩
    | fail

theorem f33 (x y : C) (gs : List Glue) (k : Int) (g : Glue) (p : Part) (hl : gs.length < 2 ^ 62) :
    DCalls Try.prog 33 [.c (.ag (ePart p)), .c (.va [.sl 4 (gs.map eGlue), x, y] 0), .c (.va [.v (.int .i64 k)] 0), .c (.va (eGlue g) 0)] 0 [] fun v h' => v = cb (!partP gs k g p) ∧ h' = [] := by
  have h34 : DApp Try.prog (.c (.v (.func (.func 34) #[] #[]))) [.c (.ag [.sl 4 (gs.map eGlue), x, y]), ci .i64 k, .c (.ag (eGlue g)), .c (.ag (ePart p))] 0 [] fun v1 _ => v1 = cb (partP gs k g p) := DApp.func ((f34 x y gs k g p hl).mono fun _ _ h => h.1)
  exact DCalls.ofB hT hK4 hM (fun args w => Try.call33 args w) Try.func33 30 [.fn 34 (cb (partP gs k g p))] [DApp Try.prog (.c (.v (.func (.func 34) #[] #[]))) [.c (.ag [.sl 4 (gs.map eGlue), x, y]), ci .i64 k, .c (.ag (eGlue g)), .c (.ag (ePart p))] 0 [] fun v1 _ => v1 = cb (partP gs k g p)] (by kernel_rfl) ⟨h34, trivial⟩

def glueP (gs : List Glue) (k : Int) (g : Glue) : Bool :=
  mux (!withinP g.slots 1 64) false <| mux (!withinP g.hook (-1) 15) false <| mux (decide ((g.parts.length : Nat) > (16 : Int))) false <|
  (mux (g.kind == 0) (g.hook == -1 && ((g.parts.length : Nat) : Int) == 0) <| mux (g.kind == 1) (g.hook == -1 && (((g.parts.length : Nat) : Int) == 1 && g.slots == 1)) <| mux (g.kind == 2) true <| mux (g.kind == 3) (g.hook == -1 && decide ((g.parts.length : Nat) > (0 : Int))) false) &&
  !(g.parts.any fun p => !partP gs k g p)

set_option maxRecDepth 20000 in
theorem f21 (x y : C) (gs : List Glue) (k : Int) (h0 : 0 ≤ k) (h1 : k < (gs.length : Nat)) (hl : gs.length < 2 ^ 62) (hp : (gAt gs k).parts.length < 2 ^ 62) :
    DCalls Try.prog 21 [.c (.ag [.sl 4 (gs.map eGlue), x, y]), ci .i64 k] 0 [] fun v h' => v = cb (glueP gs k (gAt gs k)) ∧ h' = [] := by
  have h32 : DApp Try.prog (.c (.v (.func (.func 32) #[] #[]))) [.c (.sl 2 ((gAt gs k).parts.map ePart)), .c (.fn (.func 33) [] [.va [.sl 4 (gs.map eGlue), x, y] 0, .va [.v (.int .i64 k)] 0, .va (eGlue (gAt gs k)) 0])] 0 [] fun v1 _ => v1 = cb ((gAt gs k).parts.any fun p => !partP gs k (gAt gs k) p) :=
    DApp.func ((f32 (gAt gs k).parts _ (fun p => !partP gs k (gAt gs k) p) hp fun p _ => DApp.cloC ((f33 x y gs k (gAt gs k) p hl).mono fun _ _ h => by simpa using h.1)).mono fun _ _ h => h.1)
  refine DCalls.of_wp (fun args w => Try.call21 args w) Try.func21 (code := _) rfl (Nat.le_of_ble_eq_true rfl) fun s0 hs0 => ?_
  have hrow : (gs.map eGlue)[k.toNat]? = some (eGlue (gAt gs k)) := row_at h0 h1
  generalize hg : gAt gs k = g at *
  refine Wp.run hT hK4 hM 200 (q := [.row (eGlue g), .fn 32 (cb (g.parts.any fun p => !partP gs k g p))]) (lits := []) rfl rfl ?_
  refine ⟨⟨h0, hrow, trivial⟩, ?_⟩
  have hlen : (g.parts.map ePart).length = g.parts.length := List.length_map ..
  repeat' first
    | exact Wp.retW hT Try.func21 hs0 [] rfl rfl ⟨by
        clear hs0 h32 hrow
        simp only [hlen] at *
        clear hlen
        simp only [glueP, mux, Bool.true_and, Bool.false_and, cb, *]
        try rfl, rfl⟩
    | refine ⟨fun _ => ?_, fun _ => ?_⟩
    | refine ⟨⟨h32, trivial⟩, ?_⟩
    | fail
end Go.Lift.T22
