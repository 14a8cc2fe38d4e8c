/- A part of the proof of CodeSlots: contracts of functions of the program, at data level. -/
import Derived.Test.YtdmpifnbdifhbaaDrT22k
import Derived.Test.YtdmpifnbdifhbaaDrLS
namespace Go.Lift.T22
open Go.Proofs

/-! ### A number's bytes: plain law -/
/-- The bytes of a natural number, seven bits each. -/
def dg (u : Nat) : List Nat := if h : u < 128 then [u] else (u % 128 + 128) :: dg (u / 128)
  termination_by u
/-- A number as a natural number. -/
def zz (n : Int) : Nat := if 0 ≤ n then (2 * n).toNat else (-2 * n - 1).toNat
def by1 (b : Nat) : List C := [.v (.int .u8 (b : Int))]
def rws (l : List Nat) : List (List C) := l.map by1
/-- A number's rows of bytes. -/
def dz (n : Int) : List (List C) := rws (dg (zz n))

theorem dg_lt {u : Nat} (h : u < 128) : dg u = [u] := by rw [dg, dif_pos h]
theorem dg_ge {u : Nat} (h : ¬u < 128) : dg u = (u % 128 + 128) :: dg (u / 128) := by rw [dg, dif_neg h]
theorem dg_len : ∀ (k u : Nat), u < 128 ^ (k + 1) → (dg u).length ≤ k + 1 := by
  intro k
  induction k with
  | zero => intro u h; rw [dg_lt (by simpa using h)]; simp
  | succ k ih =>
    intro u h
    by_cases hu : u < 128
    · rw [dg_lt hu]; simp
    · rw [dg_ge hu, List.length_cons]
      have : u / 128 < 128 ^ (k + 1) := Nat.div_lt_of_lt_mul (by rw [Nat.pow_succ] at h; omega)
      have := ih _ this
      omega
theorem dg_10 {u : Nat} (h : u < 2 ^ 64) : (dg u).length ≤ 10 := dg_len 9 u (by omega)
theorem zz_lt {n : Int} (h1 : -(2 ^ 63) ≤ n) (h2 : n < 2 ^ 63) : zz n < 2 ^ 64 := by unfold zz; split <;> omega
theorem dg_pos (u : Nat) : 1 ≤ (dg u).length := by
  by_cases hu : u < 128
  · rw [dg_lt hu]; simp
  · rw [dg_ge hu]; simp

def lowB (u : Int) : Int := IntKind.u8.wrap ((BitVec.ofInt IntKind.u8.bits (IntKind.u8.wrap u) ||| BitVec.ofInt IntKind.u8.bits 128).toNat : Int)
def lowR (u : Int) : Int := IntKind.u8.wrap (IntKind.u8.wrap (u.tmod 128) + 128)
def zzB (n : Int) : Int := IntKind.u64.wrap ((BitVec.ofInt IntKind.u64.bits (IntKind.u64.wrap (IntKind.u64.wrap n * 2)) ^^^ BitVec.ofInt IntKind.u64.bits (IntKind.u64.wrap (n.fdiv 9223372036854775808))).toNat : Int)

theorem w8 (x : Int) : IntKind.u8.wrap x = x % 256 := rfl
theorem w64 (x : Int) : IntKind.u64.wrap x = x % 18446744073709551616 := rfl
set_option maxRecDepth 20000 in
theorem lowB_nat : ∀ b : _root_.Fin 256, ((BitVec.ofNat 8 b.val ||| 128#8).toNat) = b.val % 128 + 128 := by decide
theorem lowB_eq (u : Nat) : lowB u = ((u % 128 + 128 : Nat) : Int) := by
  unfold lowB
  have e1 : IntKind.u8.wrap (u : Int) = ((u % 256 : Nat) : Int) := by rw [w8]; omega
  have e2 := lowB_nat ⟨u % 256, Nat.mod_lt _ (by omega)⟩
  have hb : IntKind.u8.bits = 8 := rfl
  have e3 : BitVec.ofInt 8 ((u % 256 : Nat) : Int) = BitVec.ofNat 8 (u % 256) := BitVec.ofInt_natCast ..
  have e4 : BitVec.ofInt 8 128 = 128#8 := rfl
  rw [e1, hb, e3, e4, w8]
  have e2 : (BitVec.ofNat 8 (u % 256) ||| 128#8).toNat = u % 256 % 128 + 128 := e2
  rw [e2]
  omega
theorem lowR_eq (u : Nat) : lowR u = ((u % 128 + 128 : Nat) : Int) := by
  unfold lowR
  rw [w8, w8, Int.tmod_eq_emod_of_nonneg (by omega)]
  omega
theorem u8_eq {u : Nat} (h : u < 128) : IntKind.u8.wrap (u : Int) = (u : Int) := by rw [w8]; omega
theorem fdiv_eq (u : Nat) : (u : Int).fdiv 128 = ((u / 128 : Nat) : Int) := by
  rw [Int.fdiv_eq_ediv_of_nonneg _ (by omega)]; omega
theorem tdiv_eq (u : Nat) : (u : Int).tdiv 128 = ((u / 128 : Nat) : Int) := by
  rw [Int.tdiv_eq_ediv_of_nonneg (by omega)]; omega

theorem zzB_eq {n : Int} (h1 : -(2 ^ 63) ≤ n) (h2 : n < 2 ^ 63) : zzB n = (zz n : Int) := by
  unfold zzB
  have hb : IntKind.u64.bits = 64 := rfl
  rw [hb]
  by_cases h : 0 ≤ n
  · have e1 : IntKind.u64.wrap (n.fdiv 9223372036854775808) = 0 := by
      rw [Int.fdiv_eq_ediv_of_nonneg _ (by omega), w64]; omega
    have e2 : IntKind.u64.wrap (IntKind.u64.wrap n * 2) = ((2 * n).toNat : Int) := by rw [w64, w64]; omega
    have e3 : BitVec.ofInt 64 ((2 * n).toNat : Int) = BitVec.ofNat 64 (2 * n).toNat := BitVec.ofInt_natCast ..
    have e4 : BitVec.ofInt 64 0 = 0#64 := rfl
    rw [e1, e2, e3, e4, BitVec.xor_zero, BitVec.toNat_ofNat, w64, zz, if_pos h]
    omega
  · have e1 : IntKind.u64.wrap (n.fdiv 9223372036854775808) = 18446744073709551615 := by
      rw [Int.fdiv_eq_ediv_of_nonneg _ (by omega), w64]; omega
    have e2 : IntKind.u64.wrap (IntKind.u64.wrap n * 2) = ((2 * n + 18446744073709551616).toNat : Int) := by rw [w64, w64]; omega
    have e3 : BitVec.ofInt 64 ((2 * n + 18446744073709551616).toNat : Int) = BitVec.ofNat 64 (2 * n + 18446744073709551616).toNat := BitVec.ofInt_natCast ..
    have e4 : BitVec.ofInt 64 18446744073709551615 = BitVec.allOnes 64 := by decide
    rw [e1, e2, e3, e4, BitVec.xor_allOnes, BitVec.toNat_not, BitVec.toNat_ofNat, w64, zz, if_neg h]
    omega

/-! ### digits -/
def E17 (x : List (List C) × Nat) : LEnv := [(0, some (.hw 0)), (5, some (ci .u64 (x.2 : Int)))]
def H17 (x : List (List C) × Nat) : Heap := [some (.co 1 x.1)]

theorem f17 (R : List (List C)) (n : Int) (h1 : -(2 ^ 63) ≤ n) (h2 : n < 2 ^ 63) (hR : R.length < 2 ^ 46) :
    DCalls Try.prog 17 [.hw 0, ci .i64 n] 0 [some (.co 1 R)] fun v h' => v = .hw 0 ∧ h' = [some (.co 1 (R ++ dz n))] := by
  have hz := zz_lt h1 h2
  refine DCalls.of_seg (fun args w => Try.call17 args w) Try.func17 (by kernel_rfl) fun s0 hs0 => ?_
  refine Wp.segO hT hK5 hM Try.func17 hs0 0 300 [] [0] [0, 5] [] 0 1 true [(0 : Int) ≤ 1, (0 : Int) ≤ 63] (K' := loopK Try.f17 0) [(0, some (.hw 0)), (5, some (ci .u64 (zzB n)))] [some (.co 1 R)] (cb false) [] (by kernel_rfl) ⟨by omega, by omega, trivial⟩ (fun _ => ?_) (fun h => by cases h)
  rw [zzB_eq h1 h2]
  refine Wp.loopS (loopK Try.f17 0) (by kernel_rfl) (fun x => x.2) E17 H17 (fun x => x.2 < 2 ^ 64 ∧ x.1 ++ rws (dg x.2) = R ++ dz n) ?_ (R, zz n) ⟨hz, rfl⟩
  intro ⟨S, u⟩ ⟨hu, hS⟩ ih
  have hlen : S.length + (dg u).length ≤ R.length + 10 := by
    have e := congrArg List.length hS
    simp only [List.length_append, rws, dz, List.length_map] at e
    have := dg_10 hz
    omega
  have hp := dg_pos u
  by_cases hlt : u < 128
  · refine Wp.segF hT hK5 hM Try.func17 hs0 0 300 [2] [.br false] 1 [decide ((u : Int) ≥ 128) = false, (S ++ [[C.v (.int .u8 (IntKind.u8.wrap (u : Int)))]]).length * 1 ≤ 140737488355328] (.hw 0) [some (.co 1 (S ++ [[C.v (.int .u8 (IntKind.u8.wrap (u : Int)))]]))] (by kernel_rfl)
      ⟨by simp; omega, by simp; omega, trivial⟩ ⟨rfl, ?_⟩
    rw [u8_eq hlt, ← hS, dg_lt hlt]; rfl
  · refine Wp.segO hT hK5 hM Try.func17 hs0 0 300 [] [2] [0, 5] [.br true] 0 1 true [decide ((u : Int) ≥ 128) = true, (S ++ [[C.v (.int .u8 (lowB (u : Int)))]]).length * 1 ≤ 140737488355328, (0 : Int) ≤ 7] (K' := inLK (loopK Try.f17 0)) [(0, some (.hw 0)), (5, some (ci .u64 ((u : Int).fdiv 128)))] [some (.co 1 (S ++ [[C.v (.int .u8 (lowB (u : Int)))]]))] (cb false) [] (by kernel_rfl)
      ⟨by simp; omega, by simp; omega, by omega, trivial⟩ (fun _ => ?_) (fun h => by cases h)
    rw [lowB_eq, fdiv_eq]
    exact ih (S ++ [by1 (u % 128 + 128)], u / 128) ⟨by omega, by rw [← hS, dg_ge hlt]; simp [rws]⟩ (by show u / 128 < u; omega)
end Go.Lift.T22
