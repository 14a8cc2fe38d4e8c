/- A part of the proof of CodeSlots: contracts of functions of the program, at data level. -/
import Derived.Test.YtdmpifnbdifhbaaDrT22l
namespace Go.Lift.T22
open Go.Proofs

/-! ### The reference's number -/
def posR (n : Int) : Int := IntKind.u64.wrap (IntKind.u64.wrap n * 2)
def negR (n : Int) : Int := IntKind.u64.wrap (IntKind.u64.wrap (IntKind.u64.wrap (IntKind.i64.wrap (0 - IntKind.i64.wrap (n + 1))) * 2) + 1)
theorem posR_eq {n : Int} (h1 : 0 ≤ n) (h2 : n < 2 ^ 63) : posR n = (zz n : Int) := by
  unfold posR; rw [w64, w64, zz, if_pos h1]; omega
theorem negR_eq {n : Int} (h1 : -(2 ^ 63) ≤ n) (h2 : n < 0) : negR n = (zz n : Int) := by
  unfold negR
  have e : IntKind.i64.wrap (0 - IntKind.i64.wrap (n + 1)) = -n - 1 := by rw [IntKind.wrap_i64, IntKind.wrap_i64]; omega
  rw [e, w64, w64, w64, zz, if_neg (by omega)]; omega

def E19 (x : List (List C) × Nat) : LEnv := [(3, some (ci .u64 (x.2 : Int))), (4, some (.hw 0))]

theorem f19 (n : Int) (h1 : -(2 ^ 63) ≤ n) (h2 : n < 2 ^ 63) :
    DCalls Try.prog 19 [ci .i64 n] 0 [] fun v h' => v = .hw 0 ∧ h' = [some (.co 1 (dz n))] := by
  have hz := zz_lt h1 h2
  refine DCalls.of_seg (fun args w => Try.call19 args w) Try.func19 (by kernel_rfl) fun s0 hs0 => ?_
  have main : Wp Try.prog (frameOf 19) Try.f19.ntmps s0 (Ends Try.prog 19 fun v h' => v = .hw 0 ∧ h' = [some (.co 1 (dz n))]) (loopK Try.f19 0) [] (ofL (E19 ([], zz n))) (H17 ([], zz n)) := by
    refine Wp.loopS (loopK Try.f19 0) (by kernel_rfl) (fun x => x.2) E19 H17 (fun x => x.2 < 2 ^ 64 ∧ x.1 ++ rws (dg x.2) = dz n) ?_ ([], zz n) ⟨hz, rfl⟩
    intro ⟨S, u⟩ ⟨hu, hS⟩ ih
    have hlen : S.length + (dg u).length ≤ 10 := by
      have e := congrArg List.length hS
      simp only [List.length_append, rws, dz, List.length_map] at e
      have := dg_10 hz
      omega
    have hp := dg_pos u
    by_cases hlt : u < 128
    · refine Wp.segF hT hK5 hM Try.func19 hs0 0 300 [2] [.br false] 1 [decide ((u : Int) ≥ 128) = false, (S ++ [[C.v (.int .u8 (IntKind.u8.wrap (u : Int)))]]).length * 1 ≤ 140737488355328] (.hw 0) [some (.co 1 (S ++ [[C.v (.int .u8 (IntKind.u8.wrap (u : Int)))]]))] (by kernel_rfl)
        ⟨by simp; omega, by simp; omega, trivial⟩ ⟨rfl, ?_⟩
      rw [u8_eq hlt, ← hS, dg_lt hlt]; rfl
    · refine Wp.segO hT hK5 hM Try.func19 hs0 0 300 [] [2] [3, 4] [.br true] 0 1 true [decide ((u : Int) ≥ 128) = true, (128 : Int) ≠ 0, (S ++ [[C.v (.int .u8 (lowR (u : Int)))]]).length * 1 ≤ 140737488355328, (128 : Int) ≠ 0] (K' := inLK (loopK Try.f19 0)) [(3, some (ci .u64 (IntKind.u64.wrap ((u : Int).tdiv 128)))), (4, some (.hw 0))] [some (.co 1 (S ++ [[C.v (.int .u8 (lowR (u : Int)))]]))] (cb false) [] (by kernel_rfl)
        ⟨by simp; omega, by omega, by simp; omega, by omega, trivial⟩ (fun _ => ?_) (fun h => by cases h)
      have e : IntKind.u64.wrap ((u : Int).tdiv 128) = ((u / 128 : Nat) : Int) := by rw [tdiv_eq, w64]; omega
      rw [lowR_eq, e]
      exact ih (S ++ [by1 (u % 128 + 128)], u / 128) ⟨by omega, by rw [← hS, dg_ge hlt]; simp [rws]⟩ (by show u / 128 < u; omega)
  by_cases hn : n < 0
  · refine Wp.segO hT hK5 hM Try.func19 hs0 0 300 [] [0] [3, 4] [.br true] 0 1 true [decide (n < 0) = true] (K' := loopK Try.f19 0) [(3, some (ci .u64 (negR n))), (4, some (.hw 0))] [some (.co 1 [])] (cb false) [] (by kernel_rfl) ⟨by simpa using hn, trivial⟩ (fun _ => ?_) (fun h => by cases h)
    rw [negR_eq h1 hn]
    exact main
  · refine Wp.segO hT hK5 hM Try.func19 hs0 0 300 [] [0] [3, 4] [.br false] 0 1 true [decide (n < 0) = false] (K' := loopK Try.f19 0) [(3, some (ci .u64 (posR n))), (4, some (.hw 0))] [some (.co 1 [])] (cb false) [] (by kernel_rfl) ⟨by simpa using hn, trivial⟩ (fun _ => ?_) (fun h => by cases h)
    rw [posR_eq (by omega) h2]
    exact main

/-! ### SameBytes, of the same bytes -/
def E11 (R : List (List C)) (i : Int) : LEnv := [(0, some (.c (.sl 1 R))), (1, some (.c (.sl 1 R))), (5, some (ci .i64 i))]
theorem f11 (l : List Nat) (hl : l.length < 2 ^ 62) : DCalls Try.prog 11 [.c (.sl 1 (rws l)), .c (.sl 1 (rws l))] 0 [] fun v h' => v = cb true ∧ h' = [] := by
  have ll : (rws l).length = l.length := List.length_map ..
  have hrow : ∀ i : Nat, (h : i < l.length) → (rws l)[(i : Int).toNat]? = some (by1 l[i]) := fun i h => by simp [rws, h]
  generalize hR : rws l = R at *
  refine DCalls.of_seg (fun args w => Try.call11 args w) Try.func11 (by kernel_rfl) fun s0 hs0 => ?_
  refine Wp.segO hT hK5 hM Try.func11 hs0 0 300 [] [] [0, 1, 5] [.br false] 0 1 true [((R.length : Nat) != ((R.length : Nat) : Int)) = false] (K' := loopK Try.f11 0) (E11 R 0) [] (cb false) [] (by kernel_rfl) ⟨by simp, trivial⟩ (fun _ => ?_) (fun h => by cases h)
  refine Wp.loopS (loopK Try.f11 0) (by kernel_rfl) (fun i => l.length - i) (fun i => E11 R (i : Nat)) (fun _ => []) (fun i => i ≤ l.length) ?_ 0 (Nat.zero_le _)
  intro i hi ih
  by_cases hlt : i < l.length
  · have hr := hrow i hlt
    generalize l[i] = a at hr
    refine Wp.segO hT hK5 hM Try.func11 hs0 0 300 [] [] [0, 1, 5] [.br true, .row (by1 a), .row (by1 a), .br false] 0 1 true [decide ((i : Int) < (R.length : Nat)) = true, 0 ≤ (i : Int), R[(i : Int).toNat]? = some (by1 a), 0 ≤ (i : Int), R[(i : Int).toNat]? = some (by1 a), ((a : Int) != (a : Int)) = false]
      (K' := inLK (loopK Try.f11 0)) (E11 R (IntKind.i64.wrap ((i : Int) + 1))) [] (cb false) [] (by kernel_rfl) ⟨by simp [ll, hlt], by omega, hr, by omega, hr, by simp, trivial⟩ (fun _ => ?_) (fun h => by cases h)
    rw [wrap_i hlt hl]
    exact ih (i + 1) hlt (by omega)
  · have hi2 : i = l.length := by omega
    subst hi2
    exact Wp.segF hT hK5 hM Try.func11 hs0 0 300 [] [.br false] 1 [decide (((l.length : Nat) : Int) < (R.length : Nat)) = false] (cb true) [] (by kernel_rfl) ⟨by simp [ll], trivial⟩ ⟨rfl, rfl⟩

/-! ### Great -/
def nG (m : Image) (i : Nat) : Nat := m.glues.length + m.codes.length + ((m.glues.take i).map fun g => g.parts.length).sum
def nC (m : Image) (i : Nat) : Nat := nG m m.glues.length + ((m.codes.take i).map fun c => c.insts.length + c.pads.length).sum
def tot (m : Image) : Nat := nC m m.codes.length
def greatP (m : Image) : Bool := decide (m.glues.length + m.codes.length > 200) || decide (tot m > 5000)

theorem sum_le {α : Type} (l : List α) (f : α → Nat) (B : Nat) (h : ∀ x ∈ l, f x ≤ B) : (l.map f).sum ≤ l.length * B := by
  induction l with
  | nil => simp
  | cons x l ih =>
    have h1 := ih fun y hy => h y (List.mem_cons_of_mem _ hy)
    have h2 := h x (List.mem_cons_self ..)
    simp only [List.map_cons, List.sum_cons, List.length_cons, Nat.add_mul, Nat.one_mul]
    omega
theorem nG_succ {m : Image} {i : Nat} (h : i < m.glues.length) : nG m (i + 1) = nG m i + m.glues[i].parts.length := by
  simp only [nG, List.take_succ_eq_append_getElem h, List.map_append, List.sum_append, List.map_cons, List.map_nil, List.sum_cons, List.sum_nil]; omega
theorem nC_succ {m : Image} {i : Nat} (h : i < m.codes.length) : nC m (i + 1) = nC m i + (m.codes[i].insts.length + m.codes[i].pads.length) := by
  simp only [nC, List.take_succ_eq_append_getElem h, List.map_append, List.sum_append, List.map_cons, List.map_nil, List.sum_cons, List.sum_nil]; omega
theorem nG_le {m : Image} (hm : m.Ok) (i : Nat) : nG m i ≤ m.glues.length + m.codes.length + m.glues.length * 2 ^ 48 := by
  have := sum_le (m.glues.take i) (fun g => g.parts.length) (2 ^ 48) fun g hg => by have := hm.pt g (List.mem_of_mem_take hg); omega
  have h2 : (m.glues.take i).length * 2 ^ 48 ≤ m.glues.length * 2 ^ 48 := Nat.mul_le_mul_right _ (by simp; omega)
  simp only [nG]; omega
theorem nC_le {m : Image} (hm : m.Ok) (i : Nat) : nC m i ≤ m.glues.length + m.codes.length + m.glues.length * 2 ^ 48 + m.codes.length * 2 ^ 49 := by
  have := sum_le (m.codes.take i) (fun c => c.insts.length + c.pads.length) (2 ^ 49) fun g hg => by
    have h1 := hm.is g (List.mem_of_mem_take hg)
    have h2 := hm.pd g (List.mem_of_mem_take hg)
    omega
  have h2 : (m.codes.take i).length * 2 ^ 49 ≤ m.codes.length * 2 ^ 49 := Nat.mul_le_mul_right _ (by simp; omega)
  have := nG_le hm m.glues.length
  simp only [nC]; omega

theorem wrap1 {a b x : Nat} (h : b = a + x) (hb : b < 2 ^ 62) : IntKind.i64.wrap ((a : Int) + (x : Nat)) = (b : Int) := by rw [IntKind.wrap_i64]; omega
theorem wrap2 {a b x y : Nat} (h : b = a + (x + y)) (hb : b < 2 ^ 62) : IntKind.i64.wrap ((a : Int) + IntKind.i64.wrap ((x : Nat) + (y : Nat))) = (b : Int) := by rw [IntKind.wrap_i64, IntKind.wrap_i64]; omega
theorem nG_small {m : Image} (hm : m.Ok) (h : ¬m.glues.length + m.codes.length > 200) (i : Nat) : nG m i < 2 ^ 62 := by
  have h1 := nG_le hm i
  have h2 : m.glues.length * 2 ^ 48 ≤ 200 * 2 ^ 48 := Nat.mul_le_mul_right _ (by omega)
  generalize nG m i = a at *
  omega
theorem nC_small {m : Image} (hm : m.Ok) (h : ¬m.glues.length + m.codes.length > 200) (i : Nat) : nC m i < 2 ^ 62 := by
  have h1 := nC_le hm i
  have h2 : m.glues.length * 2 ^ 48 ≤ 200 * 2 ^ 48 := Nat.mul_le_mul_right _ (by omega)
  have h3 : m.codes.length * 2 ^ 49 ≤ 200 * 2 ^ 49 := Nat.mul_le_mul_right _ (by omega)
  generalize nC m i = a at *
  omega
def E6 (n i : Int) : LEnv := [(1, some (.hp 0 0 0)), (3, some (ci .i64 n)), (4, some (ci .i64 i))]
def F6 (n i : Int) : LEnv := [(1, some (.hp 0 0 0)), (3, some (ci .i64 n)), (5, some (ci .i64 i))]

theorem f6 (m : Image) (hm : m.Ok) : DCalls Try.prog 6 [.c (.ag (eImage m))] 0 [] fun v h' => v = cb (greatP m) ∧ h' = [] := by
  have lg : (m.glues.map eGlue).length = m.glues.length := List.length_map ..
  have lc : (m.codes.map eCode).length = m.codes.length := List.length_map ..
  have lp : ∀ g : Glue, (g.parts.map ePart).length = g.parts.length := fun _ => List.length_map ..
  have li : ∀ g : Code', (g.insts.map eInst).length = g.insts.length := fun _ => List.length_map ..
  have ld : ∀ g : Code', (g.pads.map ePad).length = g.pads.length := fun _ => List.length_map ..
  obtain ⟨h1, h2, h3, h4, h5⟩ := id hm
  refine DCalls.of_seg (fun args w => Try.call6 args w) Try.func6 (by kernel_rfl) fun s0 hs0 => ?_
  by_cases hbig : m.glues.length + m.codes.length > 200
  · exact Wp.segF hT hK5 hM Try.func6 hs0 0 300 [] [.br true] 1 [decide (IntKind.i64.wrap (((m.glues.map eGlue).length : Nat) + ((m.codes.map eCode).length : Nat)) > 200) = true] (cb true) [] (by kernel_rfl)
      ⟨by rw [lg, lc, IntKind.wrap_i64]; simp; omega, trivial⟩ ⟨by simp [greatP, hbig], rfl⟩
  refine Wp.segO hT hK5 hM Try.func6 hs0 0 300 [] [0] [1, 3, 4] [.br false] 0 1 true [decide (IntKind.i64.wrap (((m.glues.map eGlue).length : Nat) + ((m.codes.map eCode).length : Nat)) > 200) = false] (K' := loopK Try.f6 0) (E6 (IntKind.i64.wrap (((m.glues.map eGlue).length : Nat) + ((m.codes.map eCode).length : Nat))) 0) (H9 m) (cb false) [] (by kernel_rfl)
    ⟨by rw [lg, lc, IntKind.wrap_i64]; simp; omega, trivial⟩ (fun _ => ?_) (fun h => by cases h)
  have e0 : IntKind.i64.wrap (((m.glues.map eGlue).length : Nat) + ((m.codes.map eCode).length : Nat)) = ((nG m 0 : Nat) : Int) := by rw [lg, lc]; exact wrap1 (by simp [nG]) (by simpa using nG_small hm hbig 0)
  rw [e0]
  refine Wp.loopS (loopK Try.f6 0) (by kernel_rfl) (fun i => m.glues.length - i) (fun i => E6 (nG m i : Nat) (i : Nat)) (fun _ => H9 m) (fun i => i ≤ m.glues.length) ?_ 0 (Nat.zero_le _)
  intro i hi ih
  by_cases hlt : i < m.glues.length
  · have hrow : (m.glues.map eGlue)[(i : Int).toNat]? = some (eGlue m.glues[i]) := by simp [hlt]
    have hs := nG_succ hlt
    have hb := nG_small hm hbig (i + 1)
    have hgl := h2 _ (List.getElem_mem hlt)
    generalize m.glues[i] = g at *
    refine Wp.segO hT hK5 hM Try.func6 hs0 0 300 [] [0] [1, 3, 4] [.br true, .row (eGlue g)] 0 1 true [decide ((i : Int) < ((m.glues.map eGlue).length : Nat)) = true, 0 ≤ (i : Int), (m.glues.map eGlue)[(i : Int).toNat]? = some (eGlue g)]
      (K' := inLK (loopK Try.f6 0)) (E6 (IntKind.i64.wrap ((nG m i : Nat) + ((g.parts.map ePart).length : Nat))) (IntKind.i64.wrap ((i : Int) + 1))) (H9 m) (cb false) [] (by kernel_rfl) ⟨by simp [lg, hlt], by omega, hrow, trivial⟩ (fun _ => ?_) (fun h => by cases h)
    have e : IntKind.i64.wrap (((nG m i : Nat) : Int) + ((g.parts.map ePart).length : Nat)) = ((nG m (i + 1) : Nat) : Int) := by rw [lp]; exact wrap1 hs hb
    rw [wrap_i hlt (by omega), e]
    exact ih (i + 1) hlt (by omega)
  · have hi2 : i = m.glues.length := by omega
    subst hi2
    clear ih
    refine Wp.segO hT hK5 hM Try.func6 hs0 0 300 [] [0] [1, 3, 5] [.br false] 0 1 true [decide (((m.glues.length : Nat) : Int) < ((m.glues.map eGlue).length : Nat)) = false] (K' := loopK Try.f6 1) (F6 (nG m m.glues.length : Nat) 0) (H9 m) (cb false) [] (by kernel_rfl) ⟨by simp [lg], trivial⟩ (fun _ => ?_) (fun h => by cases h)
    have e0 : nG m m.glues.length = nC m 0 := by rw [nC, List.take_zero]; rfl
    rw [e0]
    refine Wp.loopS (loopK Try.f6 1) (by kernel_rfl) (fun i => m.codes.length - i) (fun i => F6 (nC m i : Nat) (i : Nat)) (fun _ => H9 m) (fun i => i ≤ m.codes.length) ?_ 0 (Nat.zero_le _)
    intro i hi ih
    by_cases hlt : i < m.codes.length
    · have hrow : (m.codes.map eCode)[(i : Int).toNat]? = some (eCode m.codes[i]) := by simp [hlt]
      have hs := nC_succ hlt
      have hb := nC_small hm hbig (i + 1)
      have hgl := h4 _ (List.getElem_mem hlt)
      have hgl2 := h5 _ (List.getElem_mem hlt)
      generalize m.codes[i] = g at *
      refine Wp.segO hT hK5 hM Try.func6 hs0 0 300 [] [0] [1, 3, 5] [.br true, .row (eCode g), .row (eCode g)] 0 1 true [decide ((i : Int) < ((m.codes.map eCode).length : Nat)) = true, 0 ≤ (i : Int), (m.codes.map eCode)[(i : Int).toNat]? = some (eCode g), 0 ≤ (i : Int), (m.codes.map eCode)[(i : Int).toNat]? = some (eCode g)]
        (K' := inLK (loopK Try.f6 1)) (F6 (IntKind.i64.wrap ((nC m i : Nat) + IntKind.i64.wrap (((g.insts.map eInst).length : Nat) + ((g.pads.map ePad).length : Nat)))) (IntKind.i64.wrap ((i : Int) + 1))) (H9 m) (cb false) [] (by kernel_rfl) ⟨by simp [lc, hlt], by omega, hrow, by omega, hrow, trivial⟩ (fun _ => ?_) (fun h => by cases h)
      have e : IntKind.i64.wrap (((nC m i : Nat) : Int) + IntKind.i64.wrap (((g.insts.map eInst).length : Nat) + ((g.pads.map ePad).length : Nat))) = ((nC m (i + 1) : Nat) : Int) := by rw [li, ld]; exact wrap2 hs hb
      rw [wrap_i hlt (by omega), e]
      exact ih (i + 1) hlt (by omega)
    · have hi2 : i = m.codes.length := by omega
      subst hi2
      refine Wp.segF hT hK5 hM Try.func6 hs0 0 300 [] [.br false] 1 [decide (((m.codes.length : Nat) : Int) < ((m.codes.map eCode).length : Nat)) = false] (cb (decide (((nC m m.codes.length : Nat) : Int) > 5000))) [] (by kernel_rfl) ⟨by simp [lc], trivial⟩ ⟨?_, rfl⟩
      have : ((nC m m.codes.length : Nat) : Int) > 5000 ↔ tot m > 5000 := by unfold tot; omega
      simp [greatP, hbig, this]
end Go.Lift.T22
