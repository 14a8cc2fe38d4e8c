/- A part of the proof of CodeSlots: contracts of functions of the program, at data level. -/
import Derived.Test.YtdmpifnbdifhbaaDrT22a
import Derived.Test.YtdmpifnbdifhbaaDrLL
import Derived.Laws.BitsLemmas
namespace Go.Lift.T22
open Go.Proofs

/-! ### The data -/
structure Part where
  at_ : Int
  glue : Int
structure Glue where
  kind : Int
  slots : Int
  hook : Int
  parts : List Part
structure Inst where
  op : Int
  a : Int
  b : Int
  c : Int
structure Pad where
  from_ : Int
  to : Int
  pad : Int
structure Code' where
  slots : Int
  params : Int
  result : Int
  insts : List Inst
  pads : List Pad
structure Image where
  glues : List Glue
  codes : List Code'
  main : Int

def cI (n : Int) : C := .v (.int .i64 n)
def eInt (n : Int) : List C := [cI n]
def ePart (p : Part) : List C := [cI p.at_, cI p.glue]
def eGlue (g : Glue) : List C := [cI g.kind, cI g.slots, cI g.hook, .sl 2 (g.parts.map ePart)]
def eInst (x : Inst) : List C := [cI x.op, cI x.a, cI x.b, cI x.c]
def ePad (p : Pad) : List C := [cI p.from_, cI p.to, cI p.pad]
def eCode (c : Code') : List C := [cI c.slots, cI c.params, cI c.result, .sl 4 (c.insts.map eInst), .sl 3 (c.pads.map ePad)]
def eImage (m : Image) : List C := [.sl 4 (m.glues.map eGlue), .sl 5 (m.codes.map eCode), cI m.main]

/-! ### Finding -/
section
variable {α : Type}
def findF (p : α → Bool) : List α → Option Nat
  | [] => none
  | n :: l => if p n then some 0 else (findF p l).map (· + 1)

theorem findF_any (p : α → Bool) (l : List α) : (findF p l).isSome = l.any p := by
  induction l with
  | nil => rfl
  | cons x l ih =>
    simp only [findF, List.any_cons]
    cases p x with
    | true => simp
    | false => simp [ih]

def idxOf (p : α → Bool) (l : List α) : Int := match findF p l with
  | some i => (i : Int)
  | none => -1

theorem idxOf_ge (p : α → Bool) (l : List α) : decide (idxOf p l ≥ 0) = l.any p := by
  rw [← findF_any]
  unfold idxOf
  cases findF p l with
  | some i => simp
  | none => rfl
end

theorem wrap_nat {n : Nat} (h : n < 2 ^ 63) : IntKind.i64.wrap ((n : Int)) = n := by
  have : (n : Int) < 2 ^ 63 := by exact_mod_cast h
  rw [IntKind.wrap_i64]
  omega

theorem wrap_succ {i : Nat} (h : i + 1 < 2 ^ 63) : some (ci .i64 (IntKind.i64.wrap ((i : Int) + 1))) = some (ci .i64 ((i + 1 : Nat) : Int)) := by
  rw [← wrap_nat h]
  rfl

def E46 (ns : List Int) (fc : C) (i : Nat) : LEnv := [(0, some (.c (.sl 1 (ns.map eInt)))), (1, some (.c fc)), (7, some (ci .i64 (ns.length : Nat))), (8, some (ci .i64 (i : Nat)))]

theorem f46 (ns : List Int) (fc : C) (p : Int → Bool) (hlen : ns.length < 2 ^ 62) (hp : ∀ n ∈ ns, DApp Try.prog (.c fc) [.c (cI n)] 0 [] (fun v _ => v = cb (p n))) :
    DCalls Try.prog 46 [.c (.sl 1 (ns.map eInt)), .c fc] 0 [] fun v h => v = ci .i64 (idxOf p ns) ∧ h = [] := by
  refine DCalls.of_wp (fun args w => Try.call46 args w) Try.func46 (code := _) rfl (Nat.le_of_ble_eq_true rfl) fun s0 hs0 => ?_
  refine Wp.run hT hK0 hM 30 (q := []) (lits := []) rfl rfl ?_
  refine Wp.loopI (fun i => ns.length - i) (E46 ns fc) (fun _ => []) (fun i => i ≤ ns.length ∧ findF p ns = (findF p (ns.drop i)).map (· + i)) 0 ⟨Nat.zero_le _, by simp⟩ ?_ rfl ?_
  · exact ⟨rfl, rfl, by simp [lk, eqN], rfl, trivial⟩
  · intro i ⟨hi, hf⟩ ih
    by_cases hlt : i < ns.length
    · have hrow : (ns.map eInt)[i]? = some (eInt ns[i]) := by simp [hlt]
      have hdrop : ns.drop i = ns[i] :: ns.drop (i + 1) := List.drop_eq_getElem_cons hlt
      cases hpi : p ns[i] with
      | true =>
        refine Wp.run hT hK0 hM 30 (q := [.br true, .row (eInt ns[i]), .lend [] (cb (p ns[i])), .br true]) (lits := []) rfl rfl ⟨⟨by simp [hlt], trivial⟩, ⟨by omega, by simpa using hrow, hp _ (List.getElem_mem hlt), trivial⟩, ⟨hpi, trivial⟩, ?_⟩
        refine Wp.retW hT Try.func46 hs0 [] rfl rfl ⟨?_, rfl⟩
        unfold idxOf
        rw [hf, hdrop]
        simp [findF, hpi]
        rfl
      | false =>
        refine Wp.run hT hK0 hM 30 (q := [.br true, .row (eInt ns[i]), .lend [] (cb (p ns[i])), .br false]) (lits := []) rfl rfl ⟨⟨by simp [hlt], trivial⟩, ⟨by omega, by simpa using hrow, hp _ (List.getElem_mem hlt), trivial⟩, ⟨hpi, trivial⟩, ?_⟩
        refine Wp.sub (ih (i + 1) ⟨hlt, ?_⟩ (by omega)) ?_
        · rw [hf, hdrop]
          simp only [findF, hpi]
          simp [Function.comp_def, Nat.add_comm, Nat.add_left_comm]
        · exact ⟨rfl, rfl, by simp [lk, eqN], wrap_succ (by omega), trivial⟩
    · refine Wp.run hT hK0 hM 30 (q := [.br false]) (lits := []) rfl rfl ⟨⟨by simp; omega, trivial⟩, ?_⟩
      refine Wp.retW hT Try.func46 hs0 [] rfl rfl ⟨?_, rfl⟩
      have : ns.drop i = [] := by simp; omega
      unfold idxOf
      rw [hf, this]
      rfl

theorem f30 (ns : List Int) (fc : C) (p : Int → Bool) (hlen : ns.length < 2 ^ 62) (hp : ∀ n ∈ ns, DApp Try.prog (.c fc) [.c (cI n)] 0 [] (fun v _ => v = cb (p n))) :
    DCalls Try.prog 30 [.c (.sl 1 (ns.map eInt)), .c fc] 0 [] fun v h => v = cb (ns.any p) ∧ h = [] := by
  refine DCalls.of_wp (fun args w => Try.call30 args w) Try.func30 (code := _) rfl (Nat.le_of_ble_eq_true rfl) fun s0 hs0 => ?_
  refine Wp.run hT hK0 hM 30 (q := [.lend [] (ci .i64 (idxOf p ns))]) (lits := []) rfl rfl ⟨⟨DApp.func ((f46 ns fc p hlen hp).mono fun _ _ h => h.1), trivial⟩, ?_⟩
  refine Wp.retW hT Try.func30 hs0 [] rfl rfl ⟨?_, rfl⟩
  rw [← idxOf_ge]
  rfl

def E47 (ns : List Part) (fc : C) (i : Nat) : LEnv := [(0, some (.c (.sl 2 (ns.map ePart)))), (1, some (.c fc)), (7, some (ci .i64 (ns.length : Nat))), (8, some (ci .i64 (i : Nat)))]

theorem f47 (ns : List Part) (fc : C) (p : Part → Bool) (hlen : ns.length < 2 ^ 62) (hp : ∀ n ∈ ns, DApp Try.prog (.c fc) [.c (.ag (ePart n))] 0 [] (fun v _ => v = cb (p n))) :
    DCalls Try.prog 47 [.c (.sl 2 (ns.map ePart)), .c fc] 0 [] fun v h => v = ci .i64 (idxOf p ns) ∧ h = [] := by
  refine DCalls.of_wp (fun args w => Try.call47 args w) Try.func47 (code := _) rfl (Nat.le_of_ble_eq_true rfl) fun s0 hs0 => ?_
  refine Wp.run hT hK0 hM 30 (q := []) (lits := []) rfl rfl ?_
  refine Wp.loopI (fun i => ns.length - i) (E47 ns fc) (fun _ => []) (fun i => i ≤ ns.length ∧ findF p ns = (findF p (ns.drop i)).map (· + i)) 0 ⟨Nat.zero_le _, by simp⟩ ?_ rfl ?_
  · exact ⟨rfl, rfl, by simp [lk, eqN], rfl, trivial⟩
  · intro i ⟨hi, hf⟩ ih
    by_cases hlt : i < ns.length
    · have hrow : (ns.map ePart)[i]? = some (ePart ns[i]) := by simp [hlt]
      have hdrop : ns.drop i = ns[i] :: ns.drop (i + 1) := List.drop_eq_getElem_cons hlt
      cases hpi : p ns[i] with
      | true =>
        refine Wp.run hT hK0 hM 30 (q := [.br true, .row (ePart ns[i]), .lend [] (cb (p ns[i])), .br true]) (lits := []) rfl rfl ⟨⟨by simp [hlt], trivial⟩, ⟨by omega, by simpa using hrow, hp _ (List.getElem_mem hlt), trivial⟩, ⟨hpi, trivial⟩, ?_⟩
        refine Wp.retW hT Try.func47 hs0 [] rfl rfl ⟨?_, rfl⟩
        unfold idxOf
        rw [hf, hdrop]
        simp [findF, hpi]
        rfl
      | false =>
        refine Wp.run hT hK0 hM 30 (q := [.br true, .row (ePart ns[i]), .lend [] (cb (p ns[i])), .br false]) (lits := []) rfl rfl ⟨⟨by simp [hlt], trivial⟩, ⟨by omega, by simpa using hrow, hp _ (List.getElem_mem hlt), trivial⟩, ⟨hpi, trivial⟩, ?_⟩
        refine Wp.sub (ih (i + 1) ⟨hlt, ?_⟩ (by omega)) ?_
        · rw [hf, hdrop]
          simp only [findF, hpi]
          simp [Function.comp_def, Nat.add_comm, Nat.add_left_comm]
        · exact ⟨rfl, rfl, by simp [lk, eqN], wrap_succ (by omega), trivial⟩
    · refine Wp.run hT hK0 hM 30 (q := [.br false]) (lits := []) rfl rfl ⟨⟨by simp; omega, trivial⟩, ?_⟩
      refine Wp.retW hT Try.func47 hs0 [] rfl rfl ⟨?_, rfl⟩
      have : ns.drop i = [] := by simp; omega
      unfold idxOf
      rw [hf, this]
      rfl

theorem f32 (ns : List Part) (fc : C) (p : Part → Bool) (hlen : ns.length < 2 ^ 62) (hp : ∀ n ∈ ns, DApp Try.prog (.c fc) [.c (.ag (ePart n))] 0 [] (fun v _ => v = cb (p n))) :
    DCalls Try.prog 32 [.c (.sl 2 (ns.map ePart)), .c fc] 0 [] fun v h => v = cb (ns.any p) ∧ h = [] := by
  refine DCalls.of_wp (fun args w => Try.call32 args w) Try.func32 (code := _) rfl (Nat.le_of_ble_eq_true rfl) fun s0 hs0 => ?_
  refine Wp.run hT hK0 hM 30 (q := [.lend [] (ci .i64 (idxOf p ns))]) (lits := []) rfl rfl ⟨⟨DApp.func ((f47 ns fc p hlen hp).mono fun _ _ h => h.1), trivial⟩, ?_⟩
  refine Wp.retW hT Try.func32 hs0 [] rfl rfl ⟨?_, rfl⟩
  rw [← idxOf_ge]
  rfl

def E48 (ns : List Inst) (fc : C) (i : Nat) : LEnv := [(0, some (.c (.sl 4 (ns.map eInst)))), (1, some (.c fc)), (7, some (ci .i64 (ns.length : Nat))), (8, some (ci .i64 (i : Nat)))]

theorem f48 (ns : List Inst) (fc : C) (p : Inst → Bool) (hlen : ns.length < 2 ^ 62) (hp : ∀ n ∈ ns, DApp Try.prog (.c fc) [.c (.ag (eInst n))] 0 [] (fun v _ => v = cb (p n))) :
    DCalls Try.prog 48 [.c (.sl 4 (ns.map eInst)), .c fc] 0 [] fun v h => v = ci .i64 (idxOf p ns) ∧ h = [] := by
  refine DCalls.of_wp (fun args w => Try.call48 args w) Try.func48 (code := _) rfl (Nat.le_of_ble_eq_true rfl) fun s0 hs0 => ?_
  refine Wp.run hT hK0 hM 30 (q := []) (lits := []) rfl rfl ?_
  refine Wp.loopI (fun i => ns.length - i) (E48 ns fc) (fun _ => []) (fun i => i ≤ ns.length ∧ findF p ns = (findF p (ns.drop i)).map (· + i)) 0 ⟨Nat.zero_le _, by simp⟩ ?_ rfl ?_
  · exact ⟨rfl, rfl, by simp [lk, eqN], rfl, trivial⟩
  · intro i ⟨hi, hf⟩ ih
    by_cases hlt : i < ns.length
    · have hrow : (ns.map eInst)[i]? = some (eInst ns[i]) := by simp [hlt]
      have hdrop : ns.drop i = ns[i] :: ns.drop (i + 1) := List.drop_eq_getElem_cons hlt
      cases hpi : p ns[i] with
      | true =>
        refine Wp.run hT hK0 hM 30 (q := [.br true, .row (eInst ns[i]), .lend [] (cb (p ns[i])), .br true]) (lits := []) rfl rfl ⟨⟨by simp [hlt], trivial⟩, ⟨by omega, by simpa using hrow, hp _ (List.getElem_mem hlt), trivial⟩, ⟨hpi, trivial⟩, ?_⟩
        refine Wp.retW hT Try.func48 hs0 [] rfl rfl ⟨?_, rfl⟩
        unfold idxOf
        rw [hf, hdrop]
        simp [findF, hpi]
        rfl
      | false =>
        refine Wp.run hT hK0 hM 30 (q := [.br true, .row (eInst ns[i]), .lend [] (cb (p ns[i])), .br false]) (lits := []) rfl rfl ⟨⟨by simp [hlt], trivial⟩, ⟨by omega, by simpa using hrow, hp _ (List.getElem_mem hlt), trivial⟩, ⟨hpi, trivial⟩, ?_⟩
        refine Wp.sub (ih (i + 1) ⟨hlt, ?_⟩ (by omega)) ?_
        · rw [hf, hdrop]
          simp only [findF, hpi]
          simp [Function.comp_def, Nat.add_comm, Nat.add_left_comm]
        · exact ⟨rfl, rfl, by simp [lk, eqN], wrap_succ (by omega), trivial⟩
    · refine Wp.run hT hK0 hM 30 (q := [.br false]) (lits := []) rfl rfl ⟨⟨by simp; omega, trivial⟩, ?_⟩
      refine Wp.retW hT Try.func48 hs0 [] rfl rfl ⟨?_, rfl⟩
      have : ns.drop i = [] := by simp; omega
      unfold idxOf
      rw [hf, this]
      rfl

theorem f35 (ns : List Inst) (fc : C) (p : Inst → Bool) (hlen : ns.length < 2 ^ 62) (hp : ∀ n ∈ ns, DApp Try.prog (.c fc) [.c (.ag (eInst n))] 0 [] (fun v _ => v = cb (p n))) :
    DCalls Try.prog 35 [.c (.sl 4 (ns.map eInst)), .c fc] 0 [] fun v h => v = cb (ns.any p) ∧ h = [] := by
  refine DCalls.of_wp (fun args w => Try.call35 args w) Try.func35 (code := _) rfl (Nat.le_of_ble_eq_true rfl) fun s0 hs0 => ?_
  refine Wp.run hT hK0 hM 30 (q := [.lend [] (ci .i64 (idxOf p ns))]) (lits := []) rfl rfl ⟨⟨DApp.func ((f48 ns fc p hlen hp).mono fun _ _ h => h.1), trivial⟩, ?_⟩
  refine Wp.retW hT Try.func35 hs0 [] rfl rfl ⟨?_, rfl⟩
  rw [← idxOf_ge]
  rfl

def E54 (ns : List Pad) (fc : C) (i : Nat) : LEnv := [(0, some (.c (.sl 3 (ns.map ePad)))), (1, some (.c fc)), (7, some (ci .i64 (ns.length : Nat))), (8, some (ci .i64 (i : Nat)))]

theorem f54 (ns : List Pad) (fc : C) (p : Pad → Bool) (hlen : ns.length < 2 ^ 62) (hp : ∀ n ∈ ns, DApp Try.prog (.c fc) [.c (.ag (ePad n))] 0 [] (fun v _ => v = cb (p n))) :
    DCalls Try.prog 54 [.c (.sl 3 (ns.map ePad)), .c fc] 0 [] fun v h => v = ci .i64 (idxOf p ns) ∧ h = [] := by
  refine DCalls.of_wp (fun args w => Try.call54 args w) Try.func54 (code := _) rfl (Nat.le_of_ble_eq_true rfl) fun s0 hs0 => ?_
  refine Wp.run hT hK0 hM 30 (q := []) (lits := []) rfl rfl ?_
  refine Wp.loopI (fun i => ns.length - i) (E54 ns fc) (fun _ => []) (fun i => i ≤ ns.length ∧ findF p ns = (findF p (ns.drop i)).map (· + i)) 0 ⟨Nat.zero_le _, by simp⟩ ?_ rfl ?_
  · exact ⟨rfl, rfl, by simp [lk, eqN], rfl, trivial⟩
  · intro i ⟨hi, hf⟩ ih
    by_cases hlt : i < ns.length
    · have hrow : (ns.map ePad)[i]? = some (ePad ns[i]) := by simp [hlt]
      have hdrop : ns.drop i = ns[i] :: ns.drop (i + 1) := List.drop_eq_getElem_cons hlt
      cases hpi : p ns[i] with
      | true =>
        refine Wp.run hT hK0 hM 30 (q := [.br true, .row (ePad ns[i]), .lend [] (cb (p ns[i])), .br true]) (lits := []) rfl rfl ⟨⟨by simp [hlt], trivial⟩, ⟨by omega, by simpa using hrow, hp _ (List.getElem_mem hlt), trivial⟩, ⟨hpi, trivial⟩, ?_⟩
        refine Wp.retW hT Try.func54 hs0 [] rfl rfl ⟨?_, rfl⟩
        unfold idxOf
        rw [hf, hdrop]
        simp [findF, hpi]
        rfl
      | false =>
        refine Wp.run hT hK0 hM 30 (q := [.br true, .row (ePad ns[i]), .lend [] (cb (p ns[i])), .br false]) (lits := []) rfl rfl ⟨⟨by simp [hlt], trivial⟩, ⟨by omega, by simpa using hrow, hp _ (List.getElem_mem hlt), trivial⟩, ⟨hpi, trivial⟩, ?_⟩
        refine Wp.sub (ih (i + 1) ⟨hlt, ?_⟩ (by omega)) ?_
        · rw [hf, hdrop]
          simp only [findF, hpi]
          simp [Function.comp_def, Nat.add_comm, Nat.add_left_comm]
        · exact ⟨rfl, rfl, by simp [lk, eqN], wrap_succ (by omega), trivial⟩
    · refine Wp.run hT hK0 hM 30 (q := [.br false]) (lits := []) rfl rfl ⟨⟨by simp; omega, trivial⟩, ?_⟩
      refine Wp.retW hT Try.func54 hs0 [] rfl rfl ⟨?_, rfl⟩
      have : ns.drop i = [] := by simp; omega
      unfold idxOf
      rw [hf, this]
      rfl

theorem f38 (ns : List Pad) (fc : C) (p : Pad → Bool) (hlen : ns.length < 2 ^ 62) (hp : ∀ n ∈ ns, DApp Try.prog (.c fc) [.c (.ag (ePad n))] 0 [] (fun v _ => v = cb (p n))) :
    DCalls Try.prog 38 [.c (.sl 3 (ns.map ePad)), .c fc] 0 [] fun v h => v = cb (ns.any p) ∧ h = [] := by
  refine DCalls.of_wp (fun args w => Try.call38 args w) Try.func38 (code := _) rfl (Nat.le_of_ble_eq_true rfl) fun s0 hs0 => ?_
  refine Wp.run hT hK0 hM 30 (q := [.lend [] (ci .i64 (idxOf p ns))]) (lits := []) rfl rfl ⟨⟨DApp.func ((f54 ns fc p hlen hp).mono fun _ _ h => h.1), trivial⟩, ?_⟩
  refine Wp.retW hT Try.func38 hs0 [] rfl rfl ⟨?_, rfl⟩
  rw [← idxOf_ge]
  rfl

def E60 (ns : List Int) (fc : C) (i : Nat) : LEnv := [(0, some (.c (.sl 1 (ns.map eInt)))), (1, some (.c fc)), (7, some (ci .i64 (ns.length : Nat))), (8, some (ci .i64 (i : Nat)))]

theorem f60 (ns : List Int) (fc : C) (p : Int → Bool) (hlen : ns.length < 2 ^ 62) (hp : ∀ n ∈ ns, DApp Try.prog (.c fc) [.c (cI n)] 0 [] (fun v _ => v = cb (p n))) :
    DCalls Try.prog 60 [.c (.sl 1 (ns.map eInt)), .c fc] 0 [] fun v h => v = ci .i64 (idxOf p ns) ∧ h = [] := by
  refine DCalls.of_wp (fun args w => Try.call60 args w) Try.func60 (code := _) rfl (Nat.le_of_ble_eq_true rfl) fun s0 hs0 => ?_
  refine Wp.run hT hK0 hM 30 (q := []) (lits := []) rfl rfl ?_
  refine Wp.loopI (fun i => ns.length - i) (E60 ns fc) (fun _ => []) (fun i => i ≤ ns.length ∧ findF p ns = (findF p (ns.drop i)).map (· + i)) 0 ⟨Nat.zero_le _, by simp⟩ ?_ rfl ?_
  · exact ⟨rfl, rfl, by simp [lk, eqN], rfl, trivial⟩
  · intro i ⟨hi, hf⟩ ih
    by_cases hlt : i < ns.length
    · have hrow : (ns.map eInt)[i]? = some (eInt ns[i]) := by simp [hlt]
      have hdrop : ns.drop i = ns[i] :: ns.drop (i + 1) := List.drop_eq_getElem_cons hlt
      cases hpi : p ns[i] with
      | true =>
        refine Wp.run hT hK0 hM 30 (q := [.br true, .row (eInt ns[i]), .lend [] (cb (p ns[i])), .br true]) (lits := []) rfl rfl ⟨⟨by simp [hlt], trivial⟩, ⟨by omega, by simpa using hrow, hp _ (List.getElem_mem hlt), trivial⟩, ⟨hpi, trivial⟩, ?_⟩
        refine Wp.retW hT Try.func60 hs0 [] rfl rfl ⟨?_, rfl⟩
        unfold idxOf
        rw [hf, hdrop]
        simp [findF, hpi]
        rfl
      | false =>
        refine Wp.run hT hK0 hM 30 (q := [.br true, .row (eInt ns[i]), .lend [] (cb (p ns[i])), .br false]) (lits := []) rfl rfl ⟨⟨by simp [hlt], trivial⟩, ⟨by omega, by simpa using hrow, hp _ (List.getElem_mem hlt), trivial⟩, ⟨hpi, trivial⟩, ?_⟩
        refine Wp.sub (ih (i + 1) ⟨hlt, ?_⟩ (by omega)) ?_
        · rw [hf, hdrop]
          simp only [findF, hpi]
          simp [Function.comp_def, Nat.add_comm, Nat.add_left_comm]
        · exact ⟨rfl, rfl, by simp [lk, eqN], wrap_succ (by omega), trivial⟩
    · refine Wp.run hT hK0 hM 30 (q := [.br false]) (lits := []) rfl rfl ⟨⟨by simp; omega, trivial⟩, ?_⟩
      refine Wp.retW hT Try.func60 hs0 [] rfl rfl ⟨?_, rfl⟩
      have : ns.drop i = [] := by simp; omega
      unfold idxOf
      rw [hf, this]
      rfl

theorem f58 (ns : List Int) (fc : C) (p : Int → Bool) (hlen : ns.length < 2 ^ 62) (hp : ∀ n ∈ ns, DApp Try.prog (.c fc) [.c (cI n)] 0 [] (fun v _ => v = cb (p n))) :
    DCalls Try.prog 58 [.c (.sl 1 (ns.map eInt)), .c fc] 0 [] fun v h => v = cb (ns.any p) ∧ h = [] := by
  refine DCalls.of_wp (fun args w => Try.call58 args w) Try.func58 (code := _) rfl (Nat.le_of_ble_eq_true rfl) fun s0 hs0 => ?_
  refine Wp.run hT hK0 hM 30 (q := [.lend [] (ci .i64 (idxOf p ns))]) (lits := []) rfl rfl ⟨⟨DApp.func ((f60 ns fc p hlen hp).mono fun _ _ h => h.1), trivial⟩, ?_⟩
  refine Wp.retW hT Try.func58 hs0 [] rfl rfl ⟨?_, rfl⟩
  rw [← idxOf_ge]
  rfl

end Go.Lift.T22
