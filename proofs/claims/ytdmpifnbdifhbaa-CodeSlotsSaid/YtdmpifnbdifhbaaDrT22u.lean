/- A part of the proof of CodeSlots: contracts of functions of the program, at data level. -/
import Derived.Test.YtdmpifnbdifhbaaDrT22k
namespace Go.Lift.T22
open Go.Proofs

/-! ### Right, as slots and instructions come: plain law -/
theorem mux_mono {c a b a' b' : Bool} (h1 : a = true → a' = true) (h2 : b = true → b' = true) : mux c a b = true → mux c a' b' = true := by cases c <;> simpa [mux]
theorem mux2_mono {c d a b a' b' : Bool} (h1 : a = true → a' = true) (h2 : b = true → b' = true) : mux2 c d a b = true → mux2 c d a' b' = true := mux_mono h1 (mux_mono h1 h2)
theorem mux3_mono {c d e a b a' b' : Bool} (h1 : a = true → a' = true) (h2 : b = true → b' = true) : mux3 c d e a b = true → mux3 c d e a' b' = true := mux_mono h1 (mux_mono h1 (mux_mono h1 h2))
theorem and_mono {a b a' b' : Bool} (h1 : a = true → a' = true) (h2 : b = true → b' = true) : (a && b) = true → (a' && b') = true := by
  simp only [Bool.and_eq_true]; exact fun h => ⟨h1 h.1, h2 h.2⟩
theorem idm {a : Bool} : a = true → a = true := id

theorem row_mono {s s' f m : Int} (h1 : 1 ≤ s) (h2 : s ≤ s') (h3 : s' ≤ 4095) : rowP s f m = true → rowP s' f m = true := by
  simp only [rowP, withinP, wr, IntKind.wrap_i64, Bool.and_eq_true, decide_eq_true_eq]
  omega
theorem slot_mono {s s' : Int} {ns : List Int} (h1 : 1 ≤ s) (h2 : s ≤ s') (h3 : s' ≤ 4095) : slotP s ns = true → slotP s' ns = true := by
  simp only [slotP, Bool.not_eq_true', List.any_eq_false, Bool.not_eq_true, Bool.not_eq_false]
  intro h n hn
  have := row_mono (f := n) (m := 1) h1 h2 h3 (by simpa using h n hn)
  simpa using this
theorem pl_mono {a : Int} {n n' : Nat} (h1 : n ≤ n') (h2 : n' ≤ 2 ^ 40) : withinP a 0 (wr ((n : Nat) - 1)) = true → withinP a 0 (wr ((n' : Nat) - 1)) = true := by
  simp only [withinP, wr, IntKind.wrap_i64, Bool.and_eq_true, decide_eq_true_eq]
  omega
theorem call_mono {s s' : Int} {cs : List Code'} {x : Inst} (h1 : 1 ≤ s) (h2 : s ≤ s') (h3 : s' ≤ 4095) : callP cs s x = true → callP cs s' x = true := by
  refine and_mono idm (and_mono ?_ (and_mono (row_mono h1 h2 h3) (and_mono idm (row_mono h1 h2 h3))))
  simp only [withinP, Bool.and_eq_true, decide_eq_true_eq]
  omega
theorem inst_mono {gl n n' : Nat} {cs : List Code'} {s s' r : Int} {x : Inst} (h1 : 1 ≤ s) (h2 : s ≤ s') (h3 : s' ≤ 4095) (h4 : n ≤ n') (h5 : n' ≤ 2 ^ 40) : instP gl n cs s r x = true → instP gl n' cs s' r x = true := by
  have hr : ∀ {f m : Int}, rowP s f m = true → rowP s' f m = true := row_mono h1 h2 h3
  have hs : ∀ {ns : List Int}, slotP s ns = true → slotP s' ns = true := slot_mono h1 h2 h3
  have hp : ∀ {a : Int}, withinP a 0 (wr ((n : Nat) - 1)) = true → withinP a 0 (wr ((n' : Nat) - 1)) = true := pl_mono h4 h5
  unfold instP
  exact mux_mono (and_mono hs idm) <| mux3_mono hs <| mux2_mono (and_mono idm (and_mono hr hr)) <| mux3_mono (and_mono idm (and_mono hr hs)) <| mux_mono (and_mono hs idm) <| mux_mono (and_mono hs idm) <|
    mux_mono (and_mono hs idm) <| mux_mono (and_mono hs idm) <| mux_mono (and_mono hs (and_mono hp idm)) <| mux_mono (and_mono hs hp) <| mux2_mono (call_mono h1 h2 h3) <| mux2_mono idm <| mux2_mono hs <| mux_mono hp <| mux2_mono idm <| mux_mono (and_mono idm hr) idm
theorem pad_mono {n n' : Nat} {p : Pad} (h4 : n ≤ n') (h5 : n' ≤ 2 ^ 40) : padP n p = true → padP n' p = true := by
  refine and_mono idm (and_mono ?_ (pl_mono h4 h5))
  simp only [decide_eq_true_eq]; omega

/-- What 'codeP' says, spelt out. -/
theorem codeP_iff {gl : Nat} {cs : List Code'} {c : Code'} : codeP gl cs c = true ↔ withinP c.slots 1 4095 = true ∧ withinP c.params 0 c.slots = true ∧ withinP c.result 1 64 = true ∧ withinP (c.insts.length : Nat) 1 1048576 = true ∧ ¬((c.pads.length : Nat) > (1048576 : Int)) ∧
    (∀ x ∈ c.insts, instP gl c.insts.length cs c.slots c.result x = true) ∧ (∀ p ∈ c.pads, padP c.insts.length p = true) ∧ mux3 (lastOp c.insts == 16) (lastOp c.insts == 22) (lastOp c.insts == 23) true false = true := by
  unfold codeP
  simp only [mux_f, Bool.and_eq_true, Bool.not_eq_true', Bool.not_eq_false', Bool.not_not, decide_eq_false_iff_not, List.any_eq_false, Bool.not_eq_true, Bool.not_eq_false]

theorem slots_law {gl : Nat} {cs : List Code'} {c : Code'} {s' : Int} (h : codeP gl cs c = true) (h1 : c.slots ≤ s') : codeP gl cs { c with slots := s' } = decide (s' ≤ 4095) := by
  obtain ⟨a1, a2, a3, a4, a5, a6, a7, a8⟩ := codeP_iff.1 h
  have b1 : 1 ≤ c.slots ∧ c.slots ≤ 4095 := by simpa [withinP] using a1
  have b2 : 0 ≤ c.params ∧ c.params ≤ c.slots := by simpa [withinP] using a2
  have b4 : c.insts.length ≤ 1048576 := by
    have : (1 : Int) ≤ (c.insts.length : Nat) ∧ ((c.insts.length : Nat) : Int) ≤ 1048576 := by simpa [withinP] using a4
    omega
  by_cases hs : s' ≤ 4095
  · rw [decide_eq_true hs]
    refine codeP_iff.2 ⟨?_, ?_, a3, a4, a5, fun x hx => inst_mono b1.1 h1 hs (Nat.le_refl _) (by show c.insts.length ≤ _; omega) (a6 x hx), a7, a8⟩
    · simp [withinP]; omega
    · simp [withinP]; omega
  · rw [decide_eq_false hs, Bool.eq_false_iff]
    intro h2
    have := (codeP_iff.1 h2).1
    simp [withinP] at this
    omega

theorem lastOp_app (l : List Inst) (x : Inst) : lastOp (l ++ [x]) = x.op := by simp [lastOp]
theorem inst23 (gl n : Nat) (cs : List Code') (s r : Int) : instP gl n cs s r ⟨23, 0, 0, 0⟩ = true := rfl

theorem insts_law {gl : Nat} {cs : List Code'} {c : Code'} (h : codeP gl cs c = true) : codeP gl cs { c with insts := c.insts ++ [⟨23, 0, 0, 0⟩] } = decide (((c.insts.length : Nat) : Int) < 1048576) := by
  obtain ⟨a1, a2, a3, a4, a5, a6, a7, a8⟩ := codeP_iff.1 h
  have b1 : 1 ≤ c.slots ∧ c.slots ≤ 4095 := by simpa [withinP] using a1
  have b4 : c.insts.length ≤ 1048576 := by
    have : (1 : Int) ≤ (c.insts.length : Nat) ∧ ((c.insts.length : Nat) : Int) ≤ 1048576 := by simpa [withinP] using a4
    omega
  have hl : (c.insts ++ [(⟨23, 0, 0, 0⟩ : Inst)]).length = c.insts.length + 1 := by simp
  by_cases hs : ((c.insts.length : Nat) : Int) < 1048576
  · rw [decide_eq_true hs]
    refine codeP_iff.2 ⟨a1, a2, a3, ?_, a5, fun x hx => ?_, fun p hp => pad_mono (by show _ ≤ (c.insts ++ _).length; omega) (by show (c.insts ++ _).length ≤ _; omega) (a7 p hp), ?_⟩
    · show withinP (((c.insts ++ [(⟨23, 0, 0, 0⟩ : Inst)]).length : Nat) : Int) 1 1048576 = true
      rw [hl]; simp [withinP]; omega
    · rcases List.mem_append.1 hx with hx | hx
      · exact inst_mono b1.1 (Int.le_refl _) b1.2 (by show _ ≤ (c.insts ++ _).length; omega) (by show (c.insts ++ _).length ≤ _; omega) (a6 x hx)
      · have : x = ⟨23, 0, 0, 0⟩ := by simpa using hx
        rw [this]; exact inst23 ..
    · show mux3 (lastOp (c.insts ++ [_]) == 16) (lastOp (c.insts ++ [_]) == 22) (lastOp (c.insts ++ [_]) == 23) true false = true
      rw [lastOp_app]; rfl
  · rw [decide_eq_false hs, Bool.eq_false_iff]
    intro h2
    have := (codeP_iff.1 h2).2.2.2.1
    replace this : withinP (((c.insts ++ [(⟨23, 0, 0, 0⟩ : Inst)]).length : Nat) : Int) 1 1048576 = true := this
    rw [hl] at this
    simp [withinP] at this
    omega

theorem check_law {gl : Nat} {cs : List Code'} {c : Code'} : codeP gl cs { c with insts := c.insts ++ [⟨19, 0, 0, 0⟩] } = false := by
  rw [Bool.eq_false_iff]
  intro h
  have := (codeP_iff.1 h).2.2.2.2.2.2.2
  replace this : mux3 (lastOp (c.insts ++ [(⟨19, 0, 0, 0⟩ : Inst)]) == 16) (lastOp (c.insts ++ [(⟨19, 0, 0, 0⟩ : Inst)]) == 22) (lastOp (c.insts ++ [(⟨19, 0, 0, 0⟩ : Inst)]) == 23) true false = true := this
  rw [lastOp_app] at this
  cases this

/-- What 'rightP' says, spelt out. -/
theorem rightP_iff {m : Image} : rightP m = true ↔ ¬((m.glues.length : Nat) > (512 : Int)) ∧ withinP (m.codes.length : Nat) 1 16 = true ∧ withinP m.main 0 (wr ((m.codes.length : Nat) - 1)) = true ∧ gluesP m.glues = true ∧ (∀ c ∈ m.codes, codeP m.glues.length m.codes c = true) ∧
    (codeAt m.codes m.main).params = 0 ∧ (codeAt m.codes m.main).result = 1 := by
  unfold rightP
  simp only [mux_f, Bool.and_eq_true, Bool.not_eq_true', Bool.not_eq_false', Bool.not_not, decide_eq_false_iff_not, List.any_eq_false, Bool.not_eq_true, Bool.not_eq_false, beq_iff_eq]

theorem codeAt_set {cs : List Code'} {n : Nat} {c' : Code'} (hn : n < cs.length) (i : Int) (hp : c'.params = (cs[n]).params) (hr : c'.result = (cs[n]).result) :
    (codeAt (cs.set n c') i).params = (codeAt cs i).params ∧ (codeAt (cs.set n c') i).result = (codeAt cs i).result := by
  unfold codeAt
  by_cases h : i.toNat < cs.length
  · by_cases he : n = i.toNat
    · subst he; simp [hp, hr, h]
    · simp [List.getD_eq_getElem?_getD, List.getElem?_set, he]
  · have : cs.length ≤ i.toNat := by omega
    simp [List.getD_eq_getElem?_getD, this]

theorem callP_set {cs : List Code'} {n : Nat} {c' : Code'} (hn : n < cs.length) (hp : c'.params = (cs[n]).params) (hr : c'.result = (cs[n]).result) (s : Int) (x : Inst) : callP (cs.set n c') s x = callP cs s x := by
  obtain ⟨h1, h2⟩ := codeAt_set hn x.a hp hr
  simp only [callP, h1, h2, List.length_set]
theorem codeP_set {gl : Nat} {cs : List Code'} {n : Nat} {c' : Code'} (hn : n < cs.length) (hp : c'.params = (cs[n]).params) (hr : c'.result = (cs[n]).result) (c : Code') : codeP gl (cs.set n c') c = codeP gl cs c := by
  have : ∀ x, instP gl c.insts.length (cs.set n c') c.slots c.result x = instP gl c.insts.length cs c.slots c.result x := fun x => by simp only [instP, callP_set hn hp hr]
  simp only [codeP, this]

theorem right_set {gs : List Glue} {cs : List Code'} {mn : Int} {n : Nat} {c' : Code'} (h : rightP ⟨gs, cs, mn⟩ = true) (hn : n < cs.length) (hp : c'.params = (cs[n]).params) (hr : c'.result = (cs[n]).result) :
    rightP ⟨gs, cs.set n c', mn⟩ = codeP gs.length cs c' := by
  obtain ⟨a1, a2, a3, a4, a5, a6, a7⟩ := rightP_iff.1 h
  obtain ⟨k1, k2⟩ := codeAt_set hn mn hp hr
  rw [Bool.eq_iff_iff, rightP_iff]
  simp only [List.length_set, k1, k2, codeP_set hn hp hr]
  constructor
  · intro hh
    exact hh.2.2.2.2.1 c' (List.mem_set hn _)
  · intro hc
    refine ⟨a1, a2, a3, a4, fun c hc' => ?_, a6, a7⟩
    rcases List.mem_or_eq_of_mem_set hc' with h1 | h1
    · exact a5 c h1
    · rw [h1]; exact hc
end Go.Lift.T22
