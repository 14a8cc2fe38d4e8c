/- A part of the proof of CodeSlots: contracts of functions of the program, at data level. -/
import Derived.Test.YtdmpifnbdifhbaaDrT22j
namespace Go.Lift.T22
open Go.Proofs

theorem mux_cond (c a b : Bool) : mux c a b = if c then a else b := by cases c <;> rfl
theorem mux_nt (b : Bool) : mux (!b) false true = b := by cases b <;> rfl
theorem mux_f (c x : Bool) : mux c false x = (!c && x) := by cases c <;> rfl
theorem wrap_i {i n : Nat} (h : i < n) (hn : n < 2 ^ 62) : IntKind.i64.wrap ((i : Int) + 1) = ((i + 1 : Nat) : Int) := by rw [IntKind.wrap_i64]; omega

/-! ### The reference's code -/
def headC (c : Code') : Bool :=
  mux (decide (c.slots < 1)) false <| mux (decide (c.slots > 4095)) false <| mux (decide (c.params < 0)) false <| mux (decide (c.params > c.slots)) false <| mux (decide (c.result < 1)) false <| mux (decide (c.result > 64)) false <|
  mux (decide (((c.insts.map eInst).length : Nat) < (1 : Int))) false <| mux (decide (((c.insts.map eInst).length : Nat) > (1048576 : Int))) false <| mux (decide (((c.pads.map ePad).length : Nat) > (1048576 : Int))) false true
def padR (c : Code') (p : Pad) : Bool :=
  mux (decide (p.from_ < 0)) false <| mux (decide (p.from_ ≥ p.to)) false <| mux (decide (p.to > ((c.insts.map eInst).length : Nat))) false <| mux (decide (p.pad < 0)) false <| mux (decide (p.pad ≥ ((c.insts.map eInst).length : Nat))) false true
def lastR (r : Inst) : Bool := mux (r.op == 16) true <| mux (r.op == 22) true (r.op == 23)
def lastI (c : Code') : Inst := c.insts.getD (IntKind.i64.wrap (((c.insts.map eInst).length : Nat) - 1)).toNat default
def codeR (m : Image) (c : Code') : Bool :=
  headC c && ((c.insts.all fun x => instR m.glues m.codes c x (codeAt m.codes x.a)) && ((c.pads.all fun p => padR c p) && lastR (lastI c)))

def H24 (m : Image) (c : Code') : Heap := [some (.bx ((eImage m).map .c)), some (.bx ((eCode c).map .c))]
def E24 (c : Code') (i : Int) : LEnv := [(2, some (.hp 0 0 0)), (3, some (.hp 1 0 0)), (5, some (ci .i64 ((c.insts.map eInst).length : Nat))), (6, some (ci .i64 i))]
def F24 (c : Code') (i : Int) : LEnv := [(2, some (.hp 0 0 0)), (3, some (.hp 1 0 0)), (5, some (ci .i64 ((c.insts.map eInst).length : Nat))), (7, some (ci .i64 i))]

theorem f24 (m : Image) (c : Code') (hm : m.codes.length < 2 ^ 48) (hi : c.insts.length < 2 ^ 48) (hp : c.pads.length < 2 ^ 48) :
    DCalls Try.prog 24 [.c (.ag (eImage m)), .c (.ag (eCode c))] 0 [] fun v h' => v = cb (codeR m c) ∧ h' = [] := by
  have li : (c.insts.map eInst).length = c.insts.length := List.length_map ..
  have lp : (c.pads.map ePad).length = c.pads.length := List.length_map ..
  refine DCalls.of_seg (fun args w => Try.call24 args w) Try.func24 (by kernel_rfl) fun s0 hs0 => ?_
  refine Wp.seg hT hK5 hM Try.func24 hs0 0 300 [0, 1] [2, 3, 5, 6] [] 9 1 (headC c) [] (K' := loopK Try.f24 0) (E24 c 0) (H24 m c) (cb false) [] (by kernel_rfl) trivial (fun hh => ?_) (fun hh => ⟨by simp [codeR, hh], rfl⟩)
  refine Wp.loopS (loopK Try.f24 0) (by kernel_rfl) (fun i => c.insts.length - i) (fun i => E24 c (i : Nat)) (fun _ => H24 m c) (fun i => i ≤ c.insts.length ∧ (c.insts.take i).all (fun x => instR m.glues m.codes c x (codeAt m.codes x.a)) = true) ?_ 0 ⟨Nat.zero_le _, rfl⟩
  intro i ⟨hi', hall⟩ ih
  by_cases hlt : i < c.insts.length
  · have hrow : (c.insts.map eInst)[(i : Int).toNat]? = some (eInst c.insts[i]) := by simp [hlt]
    have h41 := (f41 (cI m.main) m.glues m.codes c c.insts[i] (by omega)).mono fun _ _ h => h.1
    generalize hx : c.insts[i] = x at *
    refine Wp.seg hT hK5 hM Try.func24 hs0 0 300 [0, 1] [2, 3, 5, 6] [.br true, .row (eInst x), .fn 41 (cb (instR m.glues m.codes c x (codeAt m.codes x.a)))] 1 1 (mux (!instR m.glues m.codes c x (codeAt m.codes x.a)) false true)
      [decide ((i : Int) < ((c.insts.map eInst).length : Nat)) = true, 0 ≤ (i : Int), (c.insts.map eInst)[(i : Int).toNat]? = some (eInst x), DApp Try.prog (.c (.v (.func (.func 41) #[] #[]))) [.c (.ag (eImage m)), .c (.ag (eCode c)), .c (.ag (eInst x))] 0 [] fun v1 _ => v1 = cb (instR m.glues m.codes c x (codeAt m.codes x.a))]
      (K' := inLK (loopK Try.f24 0)) (E24 c (IntKind.i64.wrap ((i : Int) + 1))) (H24 m c) (cb false) [] (by kernel_rfl) ⟨by simp [li, hlt], by omega, hrow, DApp.func h41, trivial⟩ (fun hg => ?_) (fun hg => ⟨?_, rfl⟩)
    · rw [wrap_i hlt (by omega)]
      have hg' : instR m.glues m.codes c x (codeAt m.codes x.a) = true := by simpa [mux_nt] using hg
      exact ih (i + 1) ⟨hlt, by rw [List.take_succ_eq_append_getElem hlt, List.all_append, hall, hx]; simp [hg']⟩ (by omega)
    · have hg' : instR m.glues m.codes c x (codeAt m.codes x.a) = false := by simpa [mux_nt] using hg
      have : (c.insts.all fun x => instR m.glues m.codes c x (codeAt m.codes x.a)) = false := by
        rw [Bool.eq_false_iff, ne_eq, List.all_eq_true]
        intro h; have := h _ (List.getElem_mem hlt); rw [hx, hg'] at this; cases this
      simp [codeR, this]
  · have hi2 : i = c.insts.length := by omega
    subst hi2
    rw [List.take_length] at hall
    clear ih
    refine Wp.seg hT hK5 hM Try.func24 hs0 0 300 [0, 1] [2, 3, 5, 7] [.br false] 0 1 true [decide (((c.insts.length : Nat) : Int) < ((c.insts.map eInst).length : Nat)) = false] (K' := loopK Try.f24 1) (F24 c 0) (H24 m c) (cb false) [] (by kernel_rfl) ⟨by simp [li], trivial⟩ (fun _ => ?_) (fun h => by cases h)
    refine Wp.loopS (loopK Try.f24 1) (by kernel_rfl) (fun i => c.pads.length - i) (fun i => F24 c (i : Nat)) (fun _ => H24 m c) (fun i => i ≤ c.pads.length ∧ (c.pads.take i).all (fun p => padR c p) = true) ?_ 0 ⟨Nat.zero_le _, rfl⟩
    intro i ⟨hi', hall2⟩ ih
    by_cases hlt : i < c.pads.length
    · have hrow : (c.pads.map ePad)[(i : Int).toNat]? = some (ePad c.pads[i]) := by simp [hlt]
      generalize hx : c.pads[i] = p at *
      refine Wp.seg hT hK5 hM Try.func24 hs0 0 300 [0, 1] [2, 3, 5, 7] [.br true, .row (ePad p)] 5 1 (padR c p)
        [decide ((i : Int) < ((c.pads.map ePad).length : Nat)) = true, 0 ≤ (i : Int), (c.pads.map ePad)[(i : Int).toNat]? = some (ePad p)]
        (K' := inLK (loopK Try.f24 1)) (F24 c (IntKind.i64.wrap ((i : Int) + 1))) (H24 m c) (cb false) [] (by kernel_rfl) ⟨by simp [lp, hlt], by omega, hrow, trivial⟩ (fun hg => ?_) (fun hg => ⟨?_, rfl⟩)
      · rw [wrap_i hlt (by omega)]
        exact ih (i + 1) ⟨hlt, by rw [List.take_succ_eq_append_getElem hlt, List.all_append, hall2, hx]; simp [hg]⟩ (by omega)
      · have : (c.pads.all fun p => padR c p) = false := by
          rw [Bool.eq_false_iff, ne_eq, List.all_eq_true]
          intro h; have := h _ (List.getElem_mem hlt); rw [hx, hg] at this; cases this
        simp [codeR, this]
    · have hi2 : i = c.pads.length := by omega
      subst hi2
      rw [List.take_length] at hall2
      have h1 : (1 : Int) ≤ c.insts.length := by
        have h : decide (((c.insts.map eInst).length : Nat) < (1 : Int)) = false := by
          simp only [headC, mux_f, Bool.and_eq_true, Bool.not_eq_true'] at hh
          exact hh.2.2.2.2.2.2.1
        rw [li] at h; simpa using h
      have hw : IntKind.i64.wrap (((c.insts.map eInst).length : Nat) - 1) = ((c.insts.length - 1 : Nat) : Int) := by rw [li, IntKind.wrap_i64]; omega
      exact Wp.segB hT hK5 hM Try.func24 hs0 0 300 [.br false, .row (eInst (lastI c))] (lastR (lastI c)) [decide (((c.pads.length : Nat) : Int) < ((c.pads.map ePad).length : Nat)) = false, 0 ≤ IntKind.i64.wrap (((c.insts.map eInst).length : Nat) - 1), (c.insts.map eInst)[(IntKind.i64.wrap (((c.insts.map eInst).length : Nat) - 1)).toNat]? = some (eInst (lastI c))]
        (by kernel_rfl) ⟨by simp [lp], by rw [hw]; omega, row_at (by rw [hw]; omega) (by rw [hw]; omega), trivial⟩ ⟨by simp [codeR, hh, hall, hall2], rfl⟩

/-! ### The reference's Right -/
def headI (m : Image) : Bool :=
  mux (decide (((m.glues.map eGlue).length : Nat) > (512 : Int))) false <| mux (decide (((m.codes.map eCode).length : Nat) < (1 : Int))) false <| mux (decide (((m.codes.map eCode).length : Nat) > (16 : Int))) false <|
  mux (decide (m.main < 0)) false <| mux (decide (m.main ≥ ((m.codes.map eCode).length : Nat))) false true
def gluesR (gs : List Glue) : Bool := (List.range gs.length).all fun k => glueR gs k (gAt gs k)
def rightR (m : Image) : Bool := headI m && (gluesR m.glues && ((m.codes.all fun c => codeR m c) && mux ((codeAt m.codes m.main).params == 0) ((codeAt m.codes m.main).result == 1) false))

def E10 (i : Int) : LEnv := [(1, some (.hp 0 0 0)), (3, some (ci .i64 i))]
def F10 (i : Int) : LEnv := [(1, some (.hp 0 0 0)), (4, some (ci .i64 i))]

theorem f10 (m : Image) (hm : m.Ok) : DCalls Try.prog 10 [.c (.ag (eImage m))] 0 [] fun v h' => v = cb (rightR m) ∧ h' = [] := by
  have lg : (m.glues.map eGlue).length = m.glues.length := List.length_map ..
  have lc : (m.codes.map eCode).length = m.codes.length := List.length_map ..
  obtain ⟨h1, h2, h3, h4, h5⟩ := id hm
  refine DCalls.of_seg (fun args w => Try.call10 args w) Try.func10 (by kernel_rfl) fun s0 hs0 => ?_
  refine Wp.seg hT hK5 hM Try.func10 hs0 0 300 [0] [1, 3] [] 5 1 (headI m) [] (K' := loopK Try.f10 0) (E10 0) (H9 m) (cb false) [] (by kernel_rfl) trivial (fun hh => ?_) (fun hh => ⟨by simp [rightR, hh], rfl⟩)
  refine Wp.loopS (loopK Try.f10 0) (by kernel_rfl) (fun i => m.glues.length - i) (fun i => E10 (i : Nat)) (fun _ => H9 m) (fun i => i ≤ m.glues.length ∧ (List.range i).all (fun k => glueR m.glues k (gAt m.glues k)) = true) ?_ 0 ⟨Nat.zero_le _, rfl⟩
  intro i ⟨hi', hall⟩ ih
  by_cases hlt : i < m.glues.length
  · have h23 := (f23 m i (by omega) (by omega) hm).mono fun _ _ h => h.1
    refine Wp.seg hT hK5 hM Try.func10 hs0 0 300 [0] [1, 3] [.br true, .fn 23 (cb (glueR m.glues i (gAt m.glues i)))] 1 1 (mux (!glueR m.glues i (gAt m.glues i)) false true)
      [decide ((i : Int) < ((m.glues.map eGlue).length : Nat)) = true, DApp Try.prog (.c (.v (.func (.func 23) #[] #[]))) [.c (.ag (eImage m)), ci .i64 (i : Nat)] 0 [] fun v1 _ => v1 = cb (glueR m.glues i (gAt m.glues i))]
      (K' := inLK (loopK Try.f10 0)) (E10 (IntKind.i64.wrap ((i : Int) + 1))) (H9 m) (cb false) [] (by kernel_rfl) ⟨by simp [lg, hlt], DApp.func h23, trivial⟩ (fun hg => ?_) (fun hg => ⟨?_, rfl⟩)
    · rw [wrap_i hlt (by omega)]
      have hg' : glueR m.glues i (gAt m.glues i) = true := by simpa [mux_nt] using hg
      exact ih (i + 1) ⟨hlt, by rw [List.range_succ, List.all_append, hall]; simp [hg']⟩ (by omega)
    · have hg' : glueR m.glues i (gAt m.glues i) = false := by simpa [mux_nt] using hg
      have : gluesR m.glues = false := by
        rw [gluesR, Bool.eq_false_iff, ne_eq, List.all_eq_true]
        intro h; have := h i (by simpa using hlt); rw [hg'] at this; cases this
      simp [rightR, this]
  · have hi2 : i = m.glues.length := by omega
    subst hi2
    have hall : gluesR m.glues = true := hall
    clear ih
    refine Wp.seg hT hK5 hM Try.func10 hs0 0 300 [0] [1, 4] [.br false] 0 1 true [decide (((m.glues.length : Nat) : Int) < ((m.glues.map eGlue).length : Nat)) = false] (K' := loopK Try.f10 1) (F10 0) (H9 m) (cb false) [] (by kernel_rfl) ⟨by simp [lg], trivial⟩ (fun _ => ?_) (fun h => by cases h)
    refine Wp.loopS (loopK Try.f10 1) (by kernel_rfl) (fun i => m.codes.length - i) (fun i => F10 (i : Nat)) (fun _ => H9 m) (fun i => i ≤ m.codes.length ∧ (m.codes.take i).all (fun c => codeR m c) = true) ?_ 0 ⟨Nat.zero_le _, rfl⟩
    intro i ⟨hi', hall2⟩ ih
    by_cases hlt : i < m.codes.length
    · have hrow : (m.codes.map eCode)[(i : Int).toNat]? = some (eCode m.codes[i]) := by simp [hlt]
      have hmem := List.getElem_mem hlt
      have h24 := (f24 m m.codes[i] h3 (h4 _ hmem) (h5 _ hmem)).mono fun _ _ h => h.1
      generalize hx : m.codes[i] = c at *
      refine Wp.seg hT hK5 hM Try.func10 hs0 0 300 [0] [1, 4] [.br true, .row (eCode c), .fn 24 (cb (codeR m c))] 1 1 (mux (!codeR m c) false true)
        [decide ((i : Int) < ((m.codes.map eCode).length : Nat)) = true, 0 ≤ (i : Int), (m.codes.map eCode)[(i : Int).toNat]? = some (eCode c), DApp Try.prog (.c (.v (.func (.func 24) #[] #[]))) [.c (.ag (eImage m)), .c (.ag (eCode c))] 0 [] fun v1 _ => v1 = cb (codeR m c)]
        (K' := inLK (loopK Try.f10 1)) (F10 (IntKind.i64.wrap ((i : Int) + 1))) (H9 m) (cb false) [] (by kernel_rfl) ⟨by simp [lc, hlt], by omega, hrow, DApp.func h24, trivial⟩ (fun hg => ?_) (fun hg => ⟨?_, rfl⟩)
      · rw [wrap_i hlt (by omega)]
        have hg' : codeR m c = true := by simpa [mux_nt] using hg
        exact ih (i + 1) ⟨hlt, by rw [List.take_succ_eq_append_getElem hlt, List.all_append, hall2, hx]; simp [hg']⟩ (by omega)
      · have hg' : codeR m c = false := by simpa [mux_nt] using hg
        have : (m.codes.all fun c => codeR m c) = false := by
          rw [Bool.eq_false_iff, ne_eq, List.all_eq_true]
          intro h; have := h _ (List.getElem_mem hlt); rw [hx, hg'] at this; cases this
        simp [rightR, this]
    · have hi2 : i = m.codes.length := by omega
      subst hi2
      rw [List.take_length] at hall2
      have hb : 0 ≤ m.main ∧ m.main < (m.codes.length : Nat) := by
        simp only [headI, mux_f, lc, Bool.and_eq_true, Bool.not_eq_true'] at hh
        have a1 := hh.2.2.2.1
        have a2 := hh.2.2.2.2.1
        simp only [decide_eq_false_iff_not] at a1 a2
        omega
      exact Wp.segB hT hK5 hM Try.func10 hs0 0 300 [.br false, .row (eCode (codeAt m.codes m.main)), .row (eCode (codeAt m.codes m.main))] (mux ((codeAt m.codes m.main).params == 0) ((codeAt m.codes m.main).result == 1) false)
        [decide (((m.codes.length : Nat) : Int) < ((m.codes.map eCode).length : Nat)) = false, 0 ≤ m.main, (m.codes.map eCode)[m.main.toNat]? = some (eCode (codeAt m.codes m.main)), 0 ≤ m.main, (m.codes.map eCode)[m.main.toNat]? = some (eCode (codeAt m.codes m.main)), 0 ≤ m.main, (m.codes.map eCode)[m.main.toNat]? = some (eCode (codeAt m.codes m.main))]
        (by kernel_rfl) ⟨by simp [lc], hb.1, row_at hb.1 hb.2, hb.1, row_at hb.1 hb.2, hb.1, row_at hb.1 hb.2, trivial⟩ ⟨by simp [rightR, hh, hall, hall2], rfl⟩
end Go.Lift.T22
