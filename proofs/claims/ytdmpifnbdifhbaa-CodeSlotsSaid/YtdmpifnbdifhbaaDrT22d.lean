/- A part of the proof of CodeSlots: contracts of functions of the program, at data level. -/
import Derived.Test.YtdmpifnbdifhbaaDrT22c
namespace Go.Lift.T22
open Go.Proofs

def padP (insts : Nat) (p : Pad) : Bool := withinP p.from_ 0 (wr (p.to - 1)) && (decide (p.to ≤ (insts : Int)) && withinP p.pad 0 (wr ((insts : Nat) - 1)))

theorem f40 (x0 x1 x2 x3 x4 x5 x7 : C) (l : List (List C)) (p : Pad) : DCalls Try.prog 40 [.c (.ag [x0, x1, x2, x3, x4, x5, .sl 4 l, x7]), .c (.ag (ePad p))] 0 [] fun v h' => v = cb (padP l.length p) ∧ h' = [] := by
  exact DCalls.ofB hT hK2 hM (fun args w => Try.call40 args w) Try.func40 60 [] [] (by kernel_rfl) trivial

instance : Inhabited Code' := ⟨⟨0, 0, 0, [], []⟩⟩
def codeAt (cs : List Code') (i : Int) : Code' := cs.getD i.toNat default
def callP (cs : List Code') (slots : Int) (x : Inst) : Bool := withinP x.a 0 (wr ((cs.length : Nat) - 1)) &&
  (withinP (codeAt cs x.a).params 0 slots && (rowP slots x.b (codeAt cs x.a).params && (withinP (if x.op == 21 then 1 else (codeAt cs x.a).result) 1 64 && rowP slots x.c (if x.op == 21 then 1 else (codeAt cs x.a).result))))

theorem codeAt_row {cs : List Code'} {i : Int} (hl : cs.length < 2 ^ 62) (h : withinP i 0 (wr (((cs.map eCode).length : Nat) - 1)) = true) : 0 ≤ i ∧ (cs.map eCode)[i.toNat]? = some (eCode (codeAt cs i)) := by
  simp only [withinP, Bool.and_eq_true, decide_eq_true_eq, wr, IntKind.wrap_i64, List.length_map] at h
  obtain ⟨h1, h2⟩ := h
  have h3 : i.toNat < cs.length := by omega
  refine ⟨h1, ?_⟩
  simp [codeAt, h3]

theorem f53 (x0 x2 x4 x5 x6 x7 : C) (cs : List Code') (slots : Int) (x : Inst) (hl : cs.length < 2 ^ 62) :
    DCalls Try.prog 53 [.c (.ag [x0, .sl 5 (cs.map eCode), x2, .v (.int .i64 slots), x4, x5, x6, x7]), .c (.ag (eInst x))] 0 [] fun v h' => v = cb (callP cs slots x) ∧ h' = [] := by
  refine DCalls.of_wp (fun args w => Try.call53 args w) Try.func53 (code := _) rfl (Nat.le_of_ble_eq_true rfl) fun s0 hs0 => ?_
  refine Wp.run hT hK2 hM 60 (q := [.row (eCode (codeAt cs x.a))]) (lits := []) rfl rfl ?_
  refine ⟨fun h => ?_, fun h => ?_⟩
  · have h' : withinP x.a 0 (wr ((cs.length : Nat) - 1)) = false := by simpa [wr] using h
    exact Wp.retW hT Try.func53 hs0 [] rfl rfl ⟨by simp only [callP, h']; rfl, rfl⟩
  · have h' : withinP x.a 0 (wr (((cs.map eCode).length : Nat) - 1)) = true := by simpa [wr] using h
    have h2 : withinP x.a 0 (wr ((cs.length : Nat) - 1)) = true := by simpa using h'
    obtain ⟨g1, g2⟩ := codeAt_row hl h'
    refine ⟨⟨g1, g2, trivial⟩, ?_⟩
    repeat' first
      | exact Wp.retW hT Try.func53 hs0 [] rfl rfl ⟨by simp only [callP, h2, *, if_true, Bool.false_eq_true, if_false]; rfl, rfl⟩
      | refine ⟨fun _ => ?_, fun _ => ?_⟩
      | refine ⟨⟨by assumption, trivial⟩, ?_⟩
      | refine ⟨⟨by assumption, by assumption, trivial⟩, ?_⟩
      | refine ⟨⟨by assumption, by assumption, by assumption, trivial⟩, ?_⟩
end Go.Lift.T22
