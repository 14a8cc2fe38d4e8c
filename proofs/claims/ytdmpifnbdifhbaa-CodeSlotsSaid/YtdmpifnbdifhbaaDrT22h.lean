/- A part of the proof of CodeSlots: contracts of functions of the program, at data level. -/
import Derived.Test.YtdmpifnbdifhbaaDrT22g
namespace Go.Lift.T22
open Go.Proofs

/-- The sizes are those of memory. -/
structure Image.Ok (m : Image) : Prop where
  gl : m.glues.length < 2 ^ 48
  pt : ∀ g ∈ m.glues, g.parts.length < 2 ^ 48
  cd : m.codes.length < 2 ^ 48
  is : ∀ c ∈ m.codes, c.insts.length < 2 ^ 48
  pd : ∀ c ∈ m.codes, c.pads.length < 2 ^ 48

def gluesP (gs : List Glue) : Bool := (List.range gs.length).all fun k => glueP gs k (gAt gs k)
def rightP (m : Image) : Bool :=
  mux (decide ((m.glues.length : Nat) > (512 : Int))) false <| mux (!withinP (m.codes.length : Nat) 1 16) false <| mux (!withinP m.main 0 (wr ((m.codes.length : Nat) - 1))) false <|
  mux (!gluesP m.glues) false <| mux (m.codes.any fun c => !codeP m.glues.length m.codes c) false <| ((codeAt m.codes m.main).params == 0 && (codeAt m.codes m.main).result == 1)

def H9 (m : Image) : Heap := [some (.bx ((eImage m).map .c))]
def E9 (m : Image) (i : Nat) : LEnv := [(1, some (.hp 0 0 0)), (30, some (ci .i64 ((m.glues.map eGlue).length : Nat))), (31, some (ci .i64 (i : Nat)))]
def F9 (m : Image) (i : Nat) : LEnv := [(1, some (.hp 0 0 0)), (40, some (.c (.sl 5 (m.codes.map eCode)))), (41, some (ci .i64 ((m.codes.map eCode).length : Nat))), (42, some (ci .i64 (i : Nat)))]

set_option maxRecDepth 20000 in
theorem f9 (m : Image) (hm : m.Ok) : DCalls Try.prog 9 [.c (.ag (eImage m))] 0 [] fun v h' => v = cb (rightP m) ∧ h' = [] := by
  refine DCalls.of_wp (fun args w => Try.call9 args w) Try.func9 (code := _) rfl (Nat.le_of_ble_eq_true rfl) fun s0 hs0 => ?_
  obtain ⟨h1, h2, h3, h4, h5⟩ := hm
  have lg : (m.glues.map eGlue).length = m.glues.length := List.length_map ..
  have lc : (m.codes.map eCode).length = m.codes.length := List.length_map ..
  refine Wp.run hT hK4 hM 200 (q := []) (lits := []) rfl rfl ?_
  refine ⟨fun x => ?_, fun x1 => ⟨fun x => ?_, fun x2 => ⟨fun x => ?_, fun x3 => ?_⟩⟩⟩
  · exact Wp.retW hT Try.func9 hs0 [] rfl rfl ⟨by simp only [lg, lc] at *; simp only [rightP, mux, cb, *], rfl⟩
  · exact Wp.retW hT Try.func9 hs0 [] rfl rfl ⟨by simp only [lg, lc] at *; simp only [rightP, mux, cb, *], rfl⟩
  · exact Wp.retW hT Try.func9 hs0 [] rfl rfl ⟨by simp only [lg, lc] at *; simp only [rightP, mux, cb, wr, *], rfl⟩
  have hb1 : withinP ((m.codes.length : Nat) : Int) 1 16 = true := by simpa [lc] using x2
  have hb2 : withinP m.main 0 (wr ((m.codes.length : Nat) - 1)) = true := by simpa [lc, wr] using x3
  have hb0 : decide ((m.glues.length : Nat) > (512 : Int)) = false := by simpa [lg] using x1
  have hR : rightP m = (mux (!gluesP m.glues) false <| mux (m.codes.any fun c => !codeP m.glues.length m.codes c) false <| ((codeAt m.codes m.main).params == 0 && (codeAt m.codes m.main).result == 1)) := by simp only [rightP, mux, hb0, hb1, hb2, Bool.not_true]
  clear x1 x2 x3
  refine Wp.loopI (fun i => m.glues.length - i) (E9 m) (fun _ => H9 m) (fun i => i ≤ m.glues.length ∧ (List.range i).all (fun k => glueP m.glues k (gAt m.glues k)) = true) 0 ⟨Nat.zero_le _, rfl⟩ ?_ rfl ?_
  · exact ⟨rfl, rfl, rfl, trivial⟩
  intro i ⟨hi, hall⟩ ih
  by_cases hlt : i < m.glues.length
  · have h21 : DApp Try.prog (.c (.v (.func (.func 21) #[] #[]))) [.c (.ag (eImage m)), ci .i64 (i : Nat)] 0 [] fun v1 _ => v1 = cb (glueP m.glues i (gAt m.glues i)) :=
      DApp.func ((f21 _ _ m.glues i (by omega) (by omega) (by omega) (by
        have : gAt m.glues i ∈ m.glues := by simp [gAt, hlt]
        have := h2 _ this; omega)).mono fun _ _ h => h.1)
    cases hp : glueP m.glues i (gAt m.glues i) with
    | true =>
      refine Wp.run hT hK4 hM 60 (q := [.br true, .br false, .fn 21 (cb (glueP m.glues i (gAt m.glues i)))]) (lits := []) rfl rfl ⟨⟨by simp [lg, hlt], trivial⟩, ⟨h21, trivial⟩, ⟨by rw [hp]; rfl, trivial⟩, ?_⟩
      exact Wp.sub (ih (i + 1) ⟨hlt, by rw [List.range_succ, List.all_append, hall]; simp [hp]⟩ (by omega)) ⟨rfl, rfl, wrap_succ (by omega), trivial⟩
    | false =>
      refine Wp.run hT hK4 hM 60 (q := [.br true, .br true, .fn 21 (cb (glueP m.glues i (gAt m.glues i)))]) (lits := []) rfl rfl ⟨⟨by simp [lg, hlt], trivial⟩, ⟨h21, trivial⟩, ⟨by rw [hp]; rfl, trivial⟩, ?_⟩
      have hg : gluesP m.glues = false := by
        simp only [gluesP, Bool.eq_false_iff, ne_eq, List.all_eq_true, List.mem_range]
        intro h; have := h i hlt; rw [hp] at this; cases this
      exact Wp.retW hT Try.func9 hs0 [] rfl rfl ⟨by rw [hR, hg]; rfl, rfl⟩
  · have hi' : i = m.glues.length := by omega
    subst hi'
    have hg : gluesP m.glues = true := hall
    have hR2 : rightP m = (mux (m.codes.any fun c => !codeP m.glues.length m.codes c) false <| ((codeAt m.codes m.main).params == 0 && (codeAt m.codes m.main).result == 1)) := by rw [hR, hg]; rfl
    clear hR ih hall hi hlt
    refine Wp.run hT hK4 hM 60 (q := [.br false]) (lits := []) rfl rfl ⟨⟨by simp [lg], trivial⟩, ?_⟩
    refine Wp.loopI (fun i => m.codes.length - i) (F9 m) (fun _ => H9 m) (fun i => i ≤ m.codes.length ∧ (m.codes.take i).any (fun c => !codeP m.glues.length m.codes c) = false) 0 ⟨Nat.zero_le _, rfl⟩ ?_ rfl ?_
    · exact ⟨rfl, rfl, rfl, rfl, trivial⟩
    intro i ⟨hi, hall⟩ ih
    by_cases hlt : i < m.codes.length
    · have hc : m.codes[i] ∈ m.codes := List.getElem_mem hlt
      have h22 : DApp Try.prog (.c (.v (.func (.func 22) #[] #[]))) [.c (.ag (eImage m ++ eCode m.codes[i]))] 0 [] fun v1 _ => v1 = cb (codeP m.glues.length m.codes m.codes[i]) := by
        have := f22 (cI m.main) (m.glues.map eGlue) m.codes m.codes[i] (by omega) (by have := h4 _ hc; omega) (by have := h5 _ hc; omega)
        rw [lg] at this
        exact DApp.func (this.mono fun _ _ h => h.1)
      have hrow : (m.codes.map eCode)[i]? = some (eCode m.codes[i]) := by simp [hlt]
      cases hp : codeP m.glues.length m.codes m.codes[i] with
      | true =>
        refine Wp.run hT hK4 hM 60 (q := [.br true, .row (eCode m.codes[i]), .br false, .fn 22 (cb (codeP m.glues.length m.codes m.codes[i]))]) (lits := []) rfl rfl ⟨⟨by simp [lc, hlt], trivial⟩, ⟨by omega, by simpa using hrow, trivial⟩, ⟨h22, trivial⟩, ⟨by rw [hp]; rfl, trivial⟩, ?_⟩
        refine Wp.drop hs0 (sel := [0]) (keep := [1, 40, 41, 42]) rfl rfl rfl ⟨_, rfl⟩ rfl rfl rfl ?_
        exact Wp.sub (ih (i + 1) ⟨hlt, by rw [List.take_succ_eq_append_getElem hlt, List.any_append, hall]; simp [hp]⟩ (by omega)) ⟨rfl, rfl, rfl, wrap_succ (by omega), trivial⟩
      | false =>
        refine Wp.run hT hK4 hM 60 (q := [.br true, .row (eCode m.codes[i]), .br true, .fn 22 (cb (codeP m.glues.length m.codes m.codes[i]))]) (lits := []) rfl rfl ⟨⟨by simp [lc, hlt], trivial⟩, ⟨by omega, by simpa using hrow, trivial⟩, ⟨h22, trivial⟩, ⟨by rw [hp]; rfl, trivial⟩, ?_⟩
        have hg : (m.codes.any fun c => !codeP m.glues.length m.codes c) = true := by
          rw [List.any_eq_true]; exact ⟨_, hc, by rw [hp]; rfl⟩
        exact Wp.retW hT Try.func9 hs0 [] rfl rfl ⟨by rw [hR2, hg]; rfl, rfl⟩
    · have hi' : i = m.codes.length := by omega
      subst hi'
      rw [List.take_length] at hall
      rw [hall] at hR2
      have hrow := codeAt_row (cs := m.codes) (i := m.main) (by omega) (by rw [lc]; exact hb2)
      refine Wp.run hT hK4 hM 60 (q := [.br false, .row (eCode (codeAt m.codes m.main))]) (lits := []) rfl rfl ⟨⟨by simp [lc], trivial⟩, ⟨hrow.1, hrow.2, trivial⟩, fun x => ?_, fun x => ?_⟩
      · exact Wp.retW hT Try.func9 hs0 [] rfl rfl ⟨by rw [hR2]; simp only [mux, x, Bool.true_and]; rfl, rfl⟩
      · exact Wp.retW hT Try.func9 hs0 [] rfl rfl ⟨by rw [hR2]; simp only [mux, x, Bool.false_and]; rfl, rfl⟩
end Go.Lift.T22
