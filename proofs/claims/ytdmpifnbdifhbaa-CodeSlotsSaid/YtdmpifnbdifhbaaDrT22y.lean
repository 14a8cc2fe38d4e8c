/- A part of the proof of CodeSlots: contracts of functions of the program, at data level. -/
import Derived.Test.YtdmpifnbdifhbaaDrT22x
import Derived.Test.YtdmpifnbdifhbaaDrA22b
import Derived.Test.YtdmpifnbdifhbaaDrLV
import Derived.Test.YtdmpifnbdifhbaaRows
namespace Go.Lift.T22
open Go.Proofs Go.ChangeShapes Go.WideShapes Go.ChangeAt Go.RowKit

/-! ### Reading an image -/
def I64 (c : C) : Prop := ∃ n, c = .v (.int .i64 n) ∧ IntKind.i64.min ≤ n ∧ n ≤ IntKind.i64.max
theorem cells72 : Try.prog.cellsOf 72 = 2 := by kernel_rfl
theorem bytes72 : Try.prog.bytesOf 72 = 16 := by kernel_rfl
theorem cells47 : Try.prog.cellsOf 47 = 4 := by kernel_rfl
theorem bytes47 : Try.prog.bytesOf 47 = 48 := by kernel_rfl
theorem cells37 : Try.prog.cellsOf 37 = 4 := by kernel_rfl
theorem bytes37 : Try.prog.bytesOf 37 = 32 := by kernel_rfl
theorem cells60 : Try.prog.cellsOf 60 = 3 := by kernel_rfl
theorem bytes60 : Try.prog.bytesOf 60 = 24 := by kernel_rfl
theorem cells35 : Try.prog.cellsOf 35 = 5 := by kernel_rfl
theorem bytes35 : Try.prog.bytesOf 35 = 72 := by kernel_rfl
theorem cells25 : Try.prog.cellsOf 25 = 3 := by kernel_rfl
theorem c1_2 : Try.prog.cellsOf 2 = 1 := by kernel_rfl
theorem c1_3 : Try.prog.cellsOf 3 = 1 := by kernel_rfl
theorem c1_22 : Try.prog.cellsOf 22 = 1 := by kernel_rfl
theorem c1_23 : Try.prog.cellsOf 23 = 1 := by kernel_rfl
theorem c1_45 : Try.prog.cellsOf 45 = 1 := by kernel_rfl
theorem c1_32 : Try.prog.cellsOf 32 = 1 := by kernel_rfl
theorem c1_33 : Try.prog.cellsOf 33 = 1 := by kernel_rfl

variable {W : World}
theorem all2_cons {G : C → Prop} {Gs : List (C → Prop)} {r : List C} (h : All2 (G :: Gs) r) : ∃ c r', r = c :: r' ∧ G c ∧ All2 Gs r' := by
  cases r with
  | nil => exact h.elim
  | cons c r' => exact ⟨c, r', rfl, h.1, h.2⟩
theorem all2_nil {r : List C} (h : All2 [] r) : r = [] := by
  cases r with
  | nil => rfl
  | cons c r' => exact h.elim
theorem rdMono {P : Program} {t k : Nat} {G G' : List C → Prop} (h : RdR P W t k G) (hg : ∀ r, G r → G' r) : RdR P W t k G' := fun H enc fuel cs d ps h1 h2 => by
  obtain ⟨row, a, b, c, g⟩ := h H enc fuel cs d ps h1 h2
  exact ⟨row, a, b, c, hg _ g⟩
theorem rdI3 : Rd1 Try.prog W 3 I64 := rd_int Try.underlying3
theorem rdI2 : Rd1 Try.prog W 2 I64 := rd_int Try.underlying2
theorem rdPart : RdR Try.prog W 72 2 fun r => ∃ p : Part, r = ePart p ∧ True :=
  rdMono (rd_struct (Gs := [I64, I64]) Try.underlying72 cells72 rfl ⟨rfl, c1_3, rdI3, rfl, c1_3, rdI3, trivial⟩) fun r h => by
    obtain ⟨_, _, rfl, ⟨a, rfl, _⟩, ha1⟩ := all2_cons h
    obtain ⟨_, _, rfl, ⟨b, rfl, _⟩, ha2⟩ := all2_cons ha1
    cases all2_nil ha2
    exact ⟨⟨a, b⟩, rfl, trivial⟩
theorem rdInst : RdR Try.prog W 37 4 fun r => ∃ p : Inst, r = eInst p ∧ True :=
  rdMono (rd_struct (Gs := [I64, I64, I64, I64]) Try.underlying37 cells37 rfl ⟨rfl, c1_3, rdI3, rfl, c1_2, rdI2, rfl, c1_2, rdI2, rfl, c1_2, rdI2, trivial⟩) fun r h => by
    obtain ⟨_, _, rfl, ⟨a, rfl, _⟩, ha1⟩ := all2_cons h
    obtain ⟨_, _, rfl, ⟨b, rfl, _⟩, ha2⟩ := all2_cons ha1
    obtain ⟨_, _, rfl, ⟨c, rfl, _⟩, ha3⟩ := all2_cons ha2
    obtain ⟨_, _, rfl, ⟨d, rfl, _⟩, ha4⟩ := all2_cons ha3
    cases all2_nil ha4
    exact ⟨⟨a, b, c, d⟩, rfl, trivial⟩
theorem rdPad : RdR Try.prog W 60 3 fun r => ∃ p : Pad, r = ePad p ∧ True :=
  rdMono (rd_struct (Gs := [I64, I64, I64]) Try.underlying60 cells60 rfl ⟨rfl, c1_3, rdI3, rfl, c1_3, rdI3, rfl, c1_3, rdI3, trivial⟩) fun r h => by
    obtain ⟨_, _, rfl, ⟨a, rfl, _⟩, ha1⟩ := all2_cons h
    obtain ⟨_, _, rfl, ⟨b, rfl, _⟩, ha2⟩ := all2_cons ha1
    obtain ⟨_, _, rfl, ⟨c, rfl, _⟩, ha3⟩ := all2_cons ha2
    cases all2_nil ha3
    exact ⟨⟨a, b, c⟩, rfl, trivial⟩
theorem reach48 {n b : Nat} (hb : 1 ≤ b) (h : n * b ≤ reachBytes) : n < 2 ^ 48 := by
  have h1 : n * 1 ≤ n * b := Nat.mul_le_mul_left _ hb
  have h2 := reachBytes_lt
  omega
theorem rdGlue : RdR Try.prog W 47 4 fun r => ∃ g : Glue, r = eGlue g ∧ g.parts.length < 2 ^ 48 :=
  rdMono (rd_struct (Gs := [I64, I64, I64, _]) Try.underlying47 cells47 rfl ⟨rfl, c1_3, rdI3, rfl, c1_3, rdI3, rfl, c1_3, rdI3, rfl, c1_45, rd_slice Try.underlying45 cells72 (by omega) bytes72 rdPart, trivial⟩) fun r h => by
    obtain ⟨_, _, rfl, ⟨a, rfl, _⟩, ha1⟩ := all2_cons h
    obtain ⟨_, _, rfl, ⟨b, rfl, _⟩, ha2⟩ := all2_cons ha1
    obtain ⟨_, _, rfl, ⟨c, rfl, _⟩, ha3⟩ := all2_cons ha2
    obtain ⟨_, _, rfl, ⟨rows, rfl, h1, h2⟩, ha4⟩ := all2_cons ha3
    cases all2_nil ha4
    obtain ⟨l, rfl, _⟩ := map_of_rows h1
    exact ⟨⟨a, b, c, l⟩, rfl, reach48 (b := 16) (by decide) (by simpa using h2)⟩
theorem rdCode : RdR Try.prog W 35 5 fun r => ∃ c : Code', r = eCode c ∧ c.insts.length < 2 ^ 48 ∧ c.pads.length < 2 ^ 48 :=
  rdMono (rd_struct (Gs := [I64, I64, I64, _, _]) Try.underlying35 cells35 rfl ⟨rfl, c1_3, rdI3, rfl, c1_3, rdI3, rfl, c1_3, rdI3, rfl, c1_32, rd_slice Try.underlying32 cells37 (by omega) bytes37 rdInst, rfl, c1_33, rd_slice Try.underlying33 cells60 (by omega) bytes60 rdPad, trivial⟩) fun r h => by
    obtain ⟨_, _, rfl, ⟨a, rfl, _⟩, ha1⟩ := all2_cons h
    obtain ⟨_, _, rfl, ⟨b, rfl, _⟩, ha2⟩ := all2_cons ha1
    obtain ⟨_, _, rfl, ⟨c, rfl, _⟩, ha3⟩ := all2_cons ha2
    obtain ⟨_, _, rfl, ⟨r1, rfl, h1, h2⟩, ha4⟩ := all2_cons ha3
    obtain ⟨_, _, rfl, ⟨r2, rfl, h3, h4⟩, ha5⟩ := all2_cons ha4
    cases all2_nil ha5
    obtain ⟨l, rfl, _⟩ := map_of_rows h1
    obtain ⟨l2, rfl, _⟩ := map_of_rows h3
    exact ⟨⟨a, b, c, l, l2⟩, rfl, reach48 (b := 32) (by decide) (by simpa using h2), reach48 (b := 24) (by decide) (by simpa using h4)⟩
theorem rdImage : RdR Try.prog W 25 3 fun r => ∃ m : Image, r = eImage m ∧ m.Ok :=
  rdMono (rd_struct (Gs := [_, _, I64]) Try.underlying25 cells25 rfl ⟨rfl, c1_22, rd_slice Try.underlying22 cells47 (by omega) bytes47 rdGlue, rfl, c1_23, rd_slice Try.underlying23 cells35 (by omega) bytes35 rdCode, rfl, c1_3, rdI3, trivial⟩) fun r h => by
    obtain ⟨_, _, rfl, ⟨r1, rfl, h1, h2⟩, ha1⟩ := all2_cons h
    obtain ⟨_, _, rfl, ⟨r2, rfl, h3, h4⟩, ha2⟩ := all2_cons ha1
    obtain ⟨_, _, rfl, ⟨a, rfl, _⟩, ha3⟩ := all2_cons ha2
    cases all2_nil ha3
    obtain ⟨l, rfl, k1⟩ := map_of_rows h1
    obtain ⟨l2, rfl, k2⟩ := map_of_rows h3
    exact ⟨⟨l, l2, a⟩, rfl, reach48 (b := 48) (by decide) (by simpa using h2), k1, reach48 (b := 72) (by decide) (by simpa using h4), fun c hc => (k2 c hc).1, fun c hc => (k2 c hc).2⟩

/-- An image that reads is closed data. -/
theorem image_vr {H : Type} {enc : TypeId × Value → H} {cs : Array Value} {d : DataW H} {p : List MemPlace} (h : DataW.Trod enc Try.prog W 0 (fun _ => true) true 25 (.agg cs) d p) (hw : ∀ x ∈ d.weights Try.prog 25, x ≤ reachBytes) :
    ∃ m : Image, m.Ok ∧ VR (st0 W) (.c (.ag (eImage m))) (.agg cs) := by
  obtain ⟨fuel, hf⟩ := h
  have hcl : (Value.agg cs).cells.toList = cs.toList := rfl
  rw [hcl] at hf
  obtain ⟨row, r1, r2, r3, m, rfl, hm⟩ := rdImage H enc fuel _ d p hf hw
  refine ⟨m, hm, immW_st0 (.ag _ _ ?_ (fun j hj => ?_) fun j h1 h2 => ?_)⟩
  · have : cs.toList.length = 3 := r2
    rw [r1]; simpa using this.symm
  · have := (r3 j (by rw [r1, ← r2]; simpa using hj) (by simpa using hj)).2
    simpa using this
  · have := (r3 j h1 (by simpa using h2)).1
    simpa using this
end Go.Lift.T22
