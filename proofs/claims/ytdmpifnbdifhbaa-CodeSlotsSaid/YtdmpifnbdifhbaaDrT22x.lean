/- A part of the proof of CodeSlots: contracts of functions of the program, at data level. -/
import Derived.Test.YtdmpifnbdifhbaaDrT22w
namespace Go.Lift.T22
open Go.Proofs

/-! ### CodeSlots -/
theorem rowS_eq (c : Code') (s : Int) : rowS c s = eCode { c with slots := s } := rfl
theorem rowI_eq (c : Code') (k : Int) : rowI c k = eCode { c with insts := c.insts ++ [⟨k, 0, 0, 0⟩] } := by
  simp only [rowI, eCode, List.map_append]; rfl
theorem argX_eq (gs : List Glue) (cs : List Code') (mn : Int) (n : Nat) (c : Code') : argX gs cs mn n (eCode c) = [.c (.ag (eImage ⟨gs, cs.set n c, mn⟩))] := by
  simp only [argX, eImage, List.map_set]

theorem Ok.set {gs : List Glue} {cs : List Code'} {mn : Int} (hm : Image.Ok ⟨gs, cs, mn⟩) {n : Nat} {c : Code'} (h1 : c.insts.length < 2 ^ 48) (h2 : c.pads.length < 2 ^ 48) : Image.Ok ⟨gs, cs.set n c, mn⟩ := by
  obtain ⟨a1, a2, a3, a4, a5⟩ := hm
  refine ⟨a1, a2, by simpa using a3, fun x hx => ?_, fun x hx => ?_⟩
  · rcases List.mem_or_eq_of_mem_set hx with h | h
    · exact a4 x h
    · rw [h]; exact h1
  · rcases List.mem_or_eq_of_mem_set hx with h | h
    · exact a5 x h
    · rw [h]; exact h2

theorem rightD_of {gs : List Glue} {cs : List Code'} {mn : Int} {n : Nat} {c : Code'} {row : List C} (hr : row = eCode c) (hm : Image.Ok ⟨gs, cs.set n c, mn⟩) : rightD (argX gs cs mn n row) (rightP ⟨gs, cs.set n c, mn⟩) := by
  rw [hr, rightD, argX_eq]
  exact DApp.func ((f9 _ hm).mono fun _ _ h => h.1)

theorem f4 (m : Image) (hm : m.Ok) (h5 : DCalls Try.prog 5 [] 0 [] fun v h' => v = cb true ∧ h' = []) (k more : Int) (hk : 0 ≤ k ∧ k < 256) (hmore : 0 ≤ more ∧ more < 256) :
    ∀ s0 : St, (∀ i, 0 ≤ i → i < 1000 → s0.μ i = .free) → Wp Try.prog (frameOf 4) Try.f4.ntmps s0 (Ends Try.prog 4 fun v h' => v = cb true ∧ h' = []) (bodyK Try.f4) [] (envOf 0 [.c (.ag (eImage m)), ci .u8 k, ci .u8 more]) [] := by
  intro s0 hs0
  have h5 := h5.mono fun _ _ h => h.1
  have h6 := (f6 m hm).mono fun _ _ h => h.1
  have h9 := (f9 m hm).mono fun _ _ h => h.1
  by_cases hg : greatP m = true
  · rw [hg] at h6
    exact Wp.segC hT hK5 hM Try.func4 hs0 0 300 [true] [] [] [] [.lend [] (cb true), .br false, .lend [] (cb true), .br true, .fn 9 (cb false)] 1 0 false
      [DApp Try.prog (.c (.v (.func (.func 5) #[] #[]))) [] 0 [] fun v1 _ => v1 = cb true, (!true) = false, true = true, DApp Try.prog (.c (.v (.func (.func 6) #[] #[]))) [.c (.ag (eImage m))] 0 [] fun v1 _ => v1 = cb true]
      (K' := []) [] [] (cb true) [] (by kernel_rfl) ⟨DApp.func h5, rfl, rfl, DApp.func h6, trivial⟩ (fun h => by cases h) fun _ => ⟨rfl, rfl⟩
  have hg : greatP m = false := by simpa using hg
  rw [hg] at h6
  by_cases hr : rightP m = false
  · rw [hr] at h9
    exact Wp.segC hT hK5 hM Try.func4 hs0 0 300 [false] [] [] [] [.lend [] (cb true), .br false, .lend [] (cb false), .lend [] (cb false), .br true] 1 0 false
      [DApp Try.prog (.c (.v (.func (.func 5) #[] #[]))) [] 0 [] fun v1 _ => v1 = cb true, (!true) = false, false = false, DApp Try.prog (.c (.v (.func (.func 6) #[] #[]))) [.c (.ag (eImage m))] 0 [] fun v1 _ => v1 = cb false, DApp Try.prog (.c (.v (.func (.func 9) #[] #[]))) [.c (.ag (eImage m))] 0 [] fun v1 _ => v1 = cb false, true = true]
      (K' := []) [] [] (cb true) [] (by kernel_rfl) ⟨DApp.func h5, rfl, rfl, DApp.func h6, DApp.func h9, rfl, trivial⟩ (fun h => by cases h) fun _ => ⟨rfl, rfl⟩
  have hr : rightP m = true := by simpa using hr
  rw [hr] at h9
  obtain ⟨gs, cs, mn⟩ := m
  have hl : 1 ≤ cs.length ∧ cs.length ≤ 16 := by
    have := (rightP_iff.1 hr).2.1
    simp [withinP] at this
    omega
  have lc : (cs.map eCode).length = cs.length := List.length_map ..
  refine Wp.segC hT hK5 hM Try.func4 hs0 0 300 [false] [] [0] [1, 2, 3] [.lend [] (cb true), .br false, .lend [] (cb false), .lend [] (cb true), .br false, .stop] 0 1 true
    [DApp Try.prog (.c (.v (.func (.func 5) #[] #[]))) [] 0 [] fun v1 _ => v1 = cb true, (!true) = false, false = false, DApp Try.prog (.c (.v (.func (.func 6) #[] #[]))) [.c (.ag (eImage ⟨gs, cs, mn⟩))] 0 [] fun v1 _ => v1 = cb false, DApp Try.prog (.c (.v (.func (.func 9) #[] #[]))) [.c (.ag (eImage ⟨gs, cs, mn⟩))] 0 [] fun v1 _ => v1 = cb true, (!true) = false]
    (K' := regK Try.f4 5) [(1, some (ci .u8 k)), (2, some (ci .u8 more)), (3, some (.hp 0 0 0))] (H9 ⟨gs, cs, mn⟩) (cb false) [] (by kernel_rfl) ⟨DApp.func h5, rfl, rfl, DApp.func h6, DApp.func h9, rfl, trivial⟩ (fun _ => ?_) (fun h => by cases h)
  refine Wp.segO hT hK5 hM Try.func4 hs0 0 2 [] [0] [2, 3, 7] [] 0 1 true [(((cs.map eCode).length : Nat) : Int) ≠ 0]
    (K' := regK Try.f4 6) (E4 more ((IntKind.i64.wrap k).tmod ((cs.map eCode).length : Nat))) (H9 ⟨gs, cs, mn⟩) (cb false) [] (by kernel_rfl) ⟨by rw [lc]; omega, trivial⟩ (fun _ => ?_) (fun h => by cases h)
  have hkk : IntKind.i64.wrap k = k := by rw [IntKind.wrap_i64]; omega
  have hn : (IntKind.i64.wrap k).tmod ((cs.map eCode).length : Nat) = ((k.toNat % cs.length : Nat) : Int) := by
    rw [hkk, lc, Int.tmod_eq_emod_of_nonneg hk.1, Int.natCast_emod, Int.toNat_of_nonneg hk.1]
  rw [hn]
  have hlt : k.toNat % cs.length < cs.length := Nat.mod_lt _ (by omega)
  generalize k.toNat % cs.length = n at hlt
  have hc : cAt cs n = cs[n] := by simp [cAt, hlt]
  have hmem := List.getElem_mem hlt
  have hR := (rightP_iff.1 hr).2.2.2.2.1 _ hmem
  have hI := hm.is _ hmem
  have hP := hm.pd _ hmem
  have b1 := (codeP_iff.1 hR).1
  have b4 := (codeP_iff.1 hR).2.2.2.1
  have e1 : 1 ≤ (cs[n]).slots ∧ (cs[n]).slots ≤ 4095 := by simpa [withinP] using b1
  have e4 : (cs[n]).insts.length ≤ 1048576 := by
    have : (1 : Int) ≤ ((cs[n]).insts.length : Nat) ∧ (((cs[n]).insts.length : Nat) : Int) ≤ 1048576 := by simpa [withinP] using b4
    omega
  have esl : slM cs[n] more = (cs[n]).slots + more := by rw [slM, IntKind.wrap_i64, IntKind.wrap_i64]; omega
  have hlen : ∀ x : Inst, ((cs[n]).insts ++ [x]).length < 2 ^ 48 := fun x => by simp; omega
  have m1 : Image.Ok ⟨gs, cs.set n { cs[n] with slots := slM cs[n] more }, mn⟩ := Ok.set hm hI hP
  have m2 : Image.Ok ⟨gs, cs.set n { cs[n] with insts := (cs[n]).insts ++ [⟨23, 0, 0, 0⟩] }, mn⟩ := Ok.set hm (hlen _) hP
  have m3 : Image.Ok ⟨gs, cs.set n { cs[n] with insts := (cs[n]).insts ++ [⟨19, 0, 0, 0⟩] }, mn⟩ := Ok.set hm (hlen _) hP
  have r1 : rightP ⟨gs, cs.set n { cs[n] with slots := slM cs[n] more }, mn⟩ = decide (slM cs[n] more ≤ 4095) := by
    rw [right_set (c' := { cs[n] with slots := slM cs[n] more }) hr hlt rfl rfl]; exact slots_law hR (by omega)
  have r2 : rightP ⟨gs, cs.set n { cs[n] with insts := (cs[n]).insts ++ [⟨23, 0, 0, 0⟩] }, mn⟩ = decide ((((cs[n]).insts.length : Nat) : Int) < 1048576) := by
    rw [right_set (c' := { cs[n] with insts := (cs[n]).insts ++ [⟨23, 0, 0, 0⟩] }) hr hlt rfl rfl]; exact insts_law hR
  have r3 : rightP ⟨gs, cs.set n { cs[n] with insts := (cs[n]).insts ++ [⟨19, 0, 0, 0⟩] }, mn⟩ = false := by
    rw [right_set (c' := { cs[n] with insts := (cs[n]).insts ++ [⟨19, 0, 0, 0⟩] }) hr hlt rfl rfl]; exact check_law
  have d1 := rightD_of (rowS_eq _ _) m1
  have d2 := rightD_of (rowI_eq _ 23) m2
  have d3 := rightD_of (rowI_eq _ 19) m3
  rw [r1] at d1
  rw [r2] at d2
  rw [r3] at d3
  have hseg := seg4 gs mn more (decide (slM cs[n] more ≤ 4095)) (decide ((((cs[n]).insts.length : Nat) : Int) < 1048576)) false n cs hlt hl.2
  have li : ((cs[n]).insts.map eInst).length = (cs[n]).insts.length := List.length_map ..
  refine Wp.segF hT hK5 hM Try.func4 hs0 0 300 [] _ 1 _ (cb (!false)) [] hseg ?_ ⟨rfl, rfl⟩
  unfold L4
  rw [hc]
  have q0 : (0 : Int) ≤ (n : Int) := by omega
  have q1 : (n : Int) < (cs.length : Nat) := by omega
  have q2 : ((cs[n]).insts.map eInst).length * 32 ≤ 140737488355328 := by rw [li]; omega
  have q3 : ∀ r : List C, ((cs[n]).insts.map eInst ++ [r]).length * 32 ≤ 140737488355328 := fun r => by rw [List.length_append, li]; simp; omega
  exact ⟨by rw [lc]; omega, q0, q1, q0, q1, d1, q0, q1, by simp, q0, q0, q1, q0, q2, q3 _, q0, q1, d2, q0, by rw [li]; simp, q0, q2, q3 _, q0, q1, d3, trivial⟩
end Go.Lift.T22
