/- A part of the proof of CodeSlots: contracts of functions of the program, at data level. -/
import Derived.Test.YtdmpifnbdifhbaaDrT22i
import Derived.Test.YtdmpifnbdifhbaaDrLR
namespace Go.Lift.T22
open Go.Proofs

/-! ### The reference's glue -/
def restG (gs : List Glue) (k : Int) (g : Glue) (p : Part) (r : Glue) : Bool :=
  mux (decide (p.glue < 0)) false <| mux (decide (p.glue ≥ ((gs.map eGlue).length : Nat))) false <| mux (g.kind == 1) (mux (p.at_ != 0) false true) <|
  mux (decide (p.glue ≥ k)) false <| mux (decide (r.slots < 1)) false <| mux (decide (r.slots > 64)) false <| mux (decide (p.at_ < 0)) false <| mux (decide (p.at_ > 64)) false <|
  mux (decide (IntKind.i64.wrap (p.at_ + r.slots) > g.slots)) false <| mux (g.kind == 3) (mux (p.at_ != 1) false true) true
/-- A part of a glue, as the reference looks at it. -/
def partR (gs : List Glue) (k : Int) (g : Glue) (p : Part) (r : Glue) : Bool :=
  mux (g.kind == 3) (mux (p.glue == -1) (mux (p.at_ == 0) true (restG gs k g p r)) (restG gs k g p r)) (restG gs k g p r)
def headR (g : Glue) : Bool :=
  mux (decide (g.slots < 1)) false <| mux (decide (g.slots > 64)) false <| mux (decide (g.hook < -1)) false <| mux (decide (g.hook > 15)) false <| mux (decide (((g.parts.map ePart).length : Nat) > (16 : Int))) false <|
  mux (g.kind != 2) (mux (g.hook != -1) false true) true
def endR (g : Glue) : Bool :=
  mux (g.kind == 0) (((g.parts.map ePart).length : Nat) == (0 : Int)) <| mux (g.kind == 1) (mux (g.slots == 1) (((g.parts.map ePart).length : Nat) == (1 : Int)) false) <| mux (g.kind == 2) true <|
  mux (g.kind == 3) (decide (((g.parts.map ePart).length : Nat) > (0 : Int))) false
def glueR (gs : List Glue) (k : Int) (g : Glue) : Bool := headR g && ((g.parts.all fun p => partR gs k g p (gAt gs p.glue)) && endR g)

def H23 (m : Image) (g : Glue) : Heap := [some (.bx ((eImage m).map .c)), some (.bx ((eGlue g).map .c))]
def E23 (k : Int) (i : Int) : LEnv := [(1, some (ci .i64 k)), (2, some (.hp 0 0 0)), (5, some (.hp 1 0 0)), (6, some (ci .i64 i))]

def pathP (gs : List Glue) (g : Glue) (p : Part) (X : Prop) : Prop := (g.kind == 1) = false → decide (p.glue ≥ ((gs.map eGlue).length : Nat)) = false → decide (p.glue < 0) = false → X

theorem f23 (m : Image) (k : Int) (h0 : 0 ≤ k) (h1 : k < (m.glues.length : Nat)) (hm : m.Ok) :
    DCalls Try.prog 23 [.c (.ag (eImage m)), ci .i64 k] 0 [] fun v h' => v = cb (glueR m.glues k (gAt m.glues k)) ∧ h' = [] := by
  have hrow : (m.glues.map eGlue)[k.toNat]? = some (eGlue (gAt m.glues k)) := row_at h0 h1
  have hmem : gAt m.glues k ∈ m.glues := by
    have : k.toNat < m.glues.length := by omega
    simp [gAt, this]
  have hpl := hm.pt _ hmem
  generalize gAt m.glues k = g at *
  have lp : (g.parts.map ePart).length = g.parts.length := List.length_map ..
  refine DCalls.of_seg (fun args w => Try.call23 args w) Try.func23 (by kernel_rfl) fun s0 hs0 => ?_
  refine Wp.seg hT hK5 hM Try.func23 hs0 0 300 [0, 1] [1, 2, 5, 6] [.row (eGlue g)] 6 2 (headR g) [0 ≤ k, (m.glues.map eGlue)[k.toNat]? = some (eGlue g)] (K' := loopK Try.f23 0) (E23 k 0) (H23 m g) (cb false) [] (by kernel_rfl) ⟨h0, hrow, trivial⟩ (fun hh => ?_) (fun hh => ⟨by simp [glueR, hh], rfl⟩)
  refine Wp.loopS (loopK Try.f23 0) (by kernel_rfl) (fun i => g.parts.length - i) (fun i => E23 k (i : Nat)) (fun _ => H23 m g) (fun i => i ≤ g.parts.length ∧ (g.parts.take i).all (fun p => partR m.glues k g p (gAt m.glues p.glue)) = true) ?_ 0 ⟨Nat.zero_le _, rfl⟩
  intro i ⟨hi, hall⟩ ih
  by_cases hlt : i < g.parts.length
  · have hrp : (g.parts.map ePart)[(i : Int).toNat]? = some (ePart g.parts[i]) := by simp [hlt]
    have hpath : ∀ p : Part, pathP m.glues g p (0 ≤ p.glue) ∧ pathP m.glues g p ((m.glues.map eGlue)[p.glue.toNat]? = some (eGlue (gAt m.glues p.glue))) := fun p => by
      refine ⟨fun _ h2 h3 => by simpa using h3, fun _ h2 h3 => row_at (by simpa using h3) (by simpa using h2)⟩
    generalize hp : g.parts[i] = p at hrp
    refine Wp.seg hT hK5 hM Try.func23 hs0 3 300 [0, 1] [1, 2, 5, 6] [.br true, .row (ePart p), .row (eGlue (gAt m.glues p.glue))] 30 10 (partR m.glues k g p (gAt m.glues p.glue))
      [decide ((i : Int) < ((g.parts.map ePart).length : Nat)) = true, 0 ≤ (i : Int), (g.parts.map ePart)[(i : Int).toNat]? = some (ePart p),
       pathP m.glues g p (0 ≤ p.glue), pathP m.glues g p ((m.glues.map eGlue)[p.glue.toNat]? = some (eGlue (gAt m.glues p.glue))),
       pathP m.glues g p (0 ≤ p.glue), pathP m.glues g p ((m.glues.map eGlue)[p.glue.toNat]? = some (eGlue (gAt m.glues p.glue))),
       pathP m.glues g p (0 ≤ p.glue), pathP m.glues g p ((m.glues.map eGlue)[p.glue.toNat]? = some (eGlue (gAt m.glues p.glue)))]
      (K' := inLK (loopK Try.f23 0)) (E23 k (IntKind.i64.wrap ((i : Int) + 1))) (H23 m g) (cb false) [] (by kernel_rfl)
      ⟨by simp [lp, hlt], by omega, hrp, (hpath p).1, (hpath p).2, (hpath p).1, (hpath p).2, (hpath p).1, (hpath p).2, trivial⟩ (fun hg => ?_) (fun hg => ⟨?_, rfl⟩)
    · have e : IntKind.i64.wrap ((i : Int) + 1) = ((i + 1 : Nat) : Int) := by rw [IntKind.wrap_i64]; omega
      rw [e]
      exact ih (i + 1) ⟨hlt, by rw [List.take_succ_eq_append_getElem hlt, List.all_append, hall, hp]; simp [hg]⟩ (by omega)
    · have : (g.parts.all fun p => partR m.glues k g p (gAt m.glues p.glue)) = false := by
        rw [Bool.eq_false_iff, ne_eq, List.all_eq_true]
        intro h; have := h _ (List.getElem_mem hlt); rw [hp, hg] at this; cases this
      simp [glueR, this]
  · have hi' : i = g.parts.length := by omega
    subst hi'
    rw [List.take_length] at hall
    exact Wp.segB hT hK5 hM Try.func23 hs0 0 300 [.br false] (endR g) [decide (((g.parts.length : Nat) : Int) < ((g.parts.map ePart).length : Nat)) = false] (by kernel_rfl) ⟨by simp [lp], trivial⟩ ⟨by simp [glueR, hh, hall], rfl⟩
end Go.Lift.T22
