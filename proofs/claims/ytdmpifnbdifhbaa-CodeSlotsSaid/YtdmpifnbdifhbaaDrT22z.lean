/- CodeSlots of droguelaw22: whatever the input, the law answers true, and the input reads as it did. No condition. -/
import Derived.Test.YtdmpifnbdifhbaaDrT22y
namespace Go.Proofs.Ytdmpifnbdifhbaa
open Go.ChangeShapes Go.WideShapes Go.ChangeAt Go.RowKit Go.Lift Go.Lift.T22

theorem Try.own : ownKnob Try.prog.godebug = none := by kernel_rfl
theorem Try.laidOut : laidOutB Try.prog = true := by kernel_rfl

set_option maxRecDepth 100000 in
theorem slots_lifted (os : Os) (started : os.Started) (H : Type) (enc : TypeId × Value → H) :
    ReturnsInHanded {} Try.checked os 4 .any (Rows.codeSlotsSpec.pre6 enc Try.prog Try.f4 Rows.codeSlotsRow.domain false) (Rows.codeSlotsSpec.post enc Try.prog Try.f4 false true false false) := by
  refine returnsInHanded_of_change_sized (C := Try.checked) Try.own started (by kernel_rfl) Try.func4
    (ChangeSpec.witness6 (enc := enc) (C := Try.checked) false ⟨#[], #[.agg #[.slice none 0 0, .slice none 0 0, .int .i64 0], .int .u8 0, .int .u8 0], []⟩ 8 (by kernel_rfl) (by kernel_rfl) (by kernel_rfl) (by kernel_rfl)) ?_
  intro W base args ds gs before hval0 hW hcnd hsz0 _
  have hval : ∀ (j : Nat) t v, Try.f4.params[j]? = some t → args[j]? = some v → Value.okWide Try.prog W .any base t v := hval0
  have hsz : (DataW.weightsEach Try.prog (Try.f4.params.toList ++ Rows.codeSlotsSpec.plain.varTypes Try.prog) (ds ++ gs)).all (· ≤ reachBytes) = true := hsz0
  have hW' := hW
  obtain ⟨p, q, hA0, hV, rfl, hfz, hnd⟩ := hW
  have hA : DataW.TrodAll enc Try.prog W 0 (fun _ => true) true Try.f4.params.toList args.toList ds p := hA0
  rw [Try.params4] at hA hval hsz
  obtain ⟨v0, v1, v2, d0, d1, d2, p0, p1, p2, rfl, rfl, rfl, h0, h1, h2⟩ := trodAll_three hA
  obtain ⟨rfl, rfl⟩ := trodVars_none hV
  have hv0 := hval 0 25 v0 rfl rfl
  obtain ⟨k, rfl, rfl, rfl, wk⟩ := open_int Try.underlying5 (hval 1 5 v1 rfl rfl) h1
  obtain ⟨more, rfl, rfl, rfl, wm⟩ := open_int Try.underlying5 (hval 2 5 v2 rfl rfl) h2
  clear hA0 hval0
  simp only [List.append_nil] at hW'
  have hcs : ∃ cs, v0 = .agg cs := by
    unfold Value.okWide at hv0
    rw [Try.underlying25] at hv0
    obtain ⟨cs, h, _⟩ := hv0
    exact ⟨cs, h⟩
  obtain ⟨cs, rfl⟩ := hcs
  have hw0 : ∀ x ∈ d0.weights Try.prog 25, x ≤ reachBytes := fun x hx => by
    have := List.all_eq_true.1 hsz x (by
      show x ∈ d0.weights Try.prog 25 ++ _
      exact List.mem_append_left _ hx)
    simpa using this
  obtain ⟨m, hm, hvr⟩ := image_vr h0 hw0
  have rk : 0 ≤ k ∧ k < 256 := by
    simp only [Lit.wf, Bool.and_eq_true, decide_eq_true_eq] at wk
    have e1 : IntKind.u8.min = 0 := rfl
    have e2 : IntKind.u8.max = 255 := rfl
    omega
  have rm : 0 ≤ more ∧ more < 256 := by
    simp only [Lit.wf, Bool.and_eq_true, decide_eq_true_eq] at wm
    have e1 : IntKind.u8.min = 0 := rfl
    have e2 : IntKind.u8.max = 255 := rfl
    omega
  refine (Calls.of_wp Try.func4 (args := [.c (.ag (eImage m)), ci .u8 k, ci .u8 more]) (by kernel_rfl) (f4 m hm alive22 k more rk rm) ⟨rfl, fun j hj hj' => ?_⟩).mono fun e W' hh => ?_
  · match j, hj, hj' with
    | 0, _, _ => exact hvr
    | 1, _, _ => exact .c _ _ (.v _)
    | 2, _, _ => exact .c _ _ (.v _)
  obtain ⟨r, v, s', h', rfl, rfl, g1, ⟨rfl, _⟩, hb⟩ := hh
  have er : r = .bool true := by
    cases g1 with
    | c _ _ g => cases g with
      | v => rfl
  subst er
  have hlt : ∀ x ∈ p0, x.block < W.heap.size := fun x hx => hW'.lt x (by simp [hx])
  have harg0 : DataW.Trod enc Try.prog s'.w 0 (fun b => decide (b < W.heap.size)) true 25 (.agg cs) d0 p0 :=
    Below.trod Try.laidOut (by kernel_rfl) (of_decide_eq_true (by kernel_rfl)) h0 hb hlt
  refine ⟨_, rfl, _, _, _, [], _, [], hW', ?_, trodAll_mk3 harg0 (shut_int Try.underlying5 wk) (shut_int Try.underlying5 wm), rfl, hb.frame _, fun h => by cases h⟩
  exact trodAll_mk1 (shut_bool Try.underlying4 _)

/-- CodeSlots: the law answers true, whatever the input. -/
theorem codeSlots_holds : Rows.CodeSlotsSaid :=
  OpenClaim.holds_of_wide 4 Try.f4 rfl rfl rfl rfl rfl rfl rfl ⟨rfl, rfl, rfl, rfl, rfl⟩ rfl rfl rfl rfl rfl (by kernel_rfl) Try.func4 (by kernel_rfl)
    (of_decide_eq_true (by kernel_rfl)) (by unfold Func.isWrapper; rw [if_neg (of_decide_eq_false (by kernel_rfl))]; exact ⟨rfl, rfl⟩)
    (fun os started H enc _ => slots_lifted os started H enc)

#print axioms codeSlots_holds
end Go.Proofs.Ytdmpifnbdifhbaa
