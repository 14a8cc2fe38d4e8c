/- Whatever order a region draws: it ends as in the text's order. -/
import Derived.Test.YtdmpifnbdifhbaaDrL1
namespace Go.Lift
variable {P : Program} {b : Frame} {ops : Array Oper} {tr : Nat → Option Res} {e0 : Nat → Option V} {H0 : Nat → Option Ob} {N : Nat} {ds : List Deferred} {s0 : St}

theorem RInv.congr {D E : Nat → Bool} {a : Act} {s : St} (h : RInv ops tr e0 H0 N ds s0 D a s) (hDE : ∀ i, i < ops.size → D i = E i) : RInv ops tr e0 H0 N ds s0 E a s where
  env t v hv := h.env t v (by rw [← hv]; exact sig_congr _ _ fun i hi _ => hDE i hi)
  hr := by
    have : sig (wrO tr) H0 E ops.size = sig (wrO tr) H0 D ops.size := funext fun x => sig_congr _ _ fun i hi _ => (hDE i hi).symm
    rw [this]; exact h.hr
  fresh j r hj hE := h.fresh j r hj (by rw [hDE j hj]; exact hE)
  size := h.size
  defers := h.defers
  ext := h.ext
  free := h.free

theorem run_prefix (ht : TextOK P b ops tr e0 H0 N) (k : List Item) (cs : List Frame) : ∀ (m j : Nat) (a : Act) (s : St), j + m = ops.size → RInv ops tr e0 H0 N ds s0 (fun i => decide (i < j)) a s →
    ∃ a' s', Steps P (lone (b.atR a (.inRegion ops (List.range' j m) :: k)) cs s.w) (lone (b.atR a' k) cs s'.w) ∧ RInv ops tr e0 H0 N ds s0 (fun _ => true) a' s' := by
  intro m
  induction m with
  | zero =>
    intro j a s hj hi
    exact ⟨a, s, .one stepR_region_end, hi.congr fun i h => by simp; omega⟩
  | succ m ih =>
    intro j a s hj hi
    obtain ⟨a1, s1, h1, i1⟩ := hi.step ht (j := j) (by omega) (by simp) (fun i _ _ _ => rfl) (List.range' (j + 1) m) k cs
    obtain ⟨a2, s2, h2, i2⟩ := ih (j + 1) a1 s1 (by omega) (i1.congr fun i _ => by
      by_cases h : i = j
      · subst h; simp
      · have : (i == j) = false := by simpa using h
        simp [this]; omega)
    exact ⟨a2, s2, h1.trans h2, i2⟩

theorem region_plain (ht : TextOK P b ops tr e0 H0 N) {id : Nat} {k : List Item} {cs : List Frame} {a : Act} {s : St} (hi : RInv ops tr e0 H0 N ds s0 (fun _ => false) a s) :
    ∃ a' s', Steps P (lone (b.atR a (.code (.region id ops false) :: k)) cs s.w) (lone (b.atR a' k) cs s'.w) ∧ RInv ops tr e0 H0 N ds s0 (fun _ => true) a' s' := by
  obtain ⟨a', s', h, i⟩ := run_prefix ht k cs ops.size 0 a s (by simp) (hi.congr fun i _ => by simp)
  exact ⟨a', s', .head stepR_region (by rw [List.range_eq_range']; exact h), i⟩

/-! ### Draws -/
def Closed (ops : Array Oper) (D : Nat → Bool) : Prop := ∀ j o, ops[j]? = some o → D j = true → ∀ e ∈ o.after, Region.binds .any e = true → D e.on = true
def Anc (ops : Array Oper) (i j : Nat) : Prop := ∀ D, Closed ops D → (∀ o, ops[j]? = some o → ∀ e ∈ o.after, Region.binds .any e = true → D e.on = true) → D i = true

/-- Whoever writes what another one uses is ordered with it; edges lead back. -/
structure Safe (ops : Array Oper) (tr : Nat → Option Res) : Prop where
  back : ∀ j o, ops[j]? = some o → ∀ e ∈ o.after, Region.binds .any e = true → e.on < j
  ord : ∀ i j, i < ops.size → j < ops.size → clash ops tr i j → (i < j → Anc ops i j) ∧ (j < i → Anc ops j i)

theorem all_of_not_ready (hs : Safe ops tr) {listed : Array Bool} (hsz : listed.size = ops.size) (h : Region.ready .any ops listed = []) : ∀ i, i < ops.size → listed.getD i false = true := by
  intro i
  induction i using Nat.strongRecOn with
  | ind i ih =>
    intro hi
    by_cases hl : listed.getD i false = true
    · exact hl
    · exfalso
      have : i ∈ Region.ready .any ops listed := by
        rw [mem_ready]
        refine ⟨?_, ops[i], Array.getElem?_eq_getElem hi, fun e he hb => ?_⟩
        · have hlt : i < listed.size := by omega
          simp [hlt] at hl ⊢; exact hl
        · have := hs.back i _ (Array.getElem?_eq_getElem hi) e he hb
          exact ih e.on this (by omega)
      rw [h] at this
      cases this

def left (n : Nat) (listed : Array Bool) : Nat := (List.range n).countP fun i => !listed.getD i false

theorem left_set {n j : Nat} {listed : Array Bool} (hj : j < n) (hsz : listed.size = n) (h : listed.getD j false = false) : left n (listed.setIfInBounds j true) + 1 = left n listed := by
  unfold left
  have key : ∀ m, m ≤ n → (List.range m).countP (fun i => !(listed.setIfInBounds j true).getD i false) + (if j < m then 1 else 0) = (List.range m).countP fun i => !listed.getD i false := by
    intro m
    induction m with
    | zero => intro _; simp
    | succ m ih =>
      intro hm
      have := ih (by omega)
      rw [List.range_succ, List.countP_append, List.countP_append]
      by_cases hjm : m = j
      · subst hjm
        have e1 : (listed.setIfInBounds m true).getD m false = true := by
          have : m < listed.size := by omega
          simp [this]
        simp only [List.countP_cons, List.countP_nil, e1, h]
        rw [if_neg (show ¬ m < m from by omega)] at this
        rw [if_pos (show m < m + 1 from by omega)]
        simp only [Bool.not_true, Bool.not_false, if_true, Bool.false_eq_true, if_false]
        omega
      · have e1 : (listed.setIfInBounds j true).getD m false = listed.getD m false := getD_set_ne false (Ne.symm hjm)
        simp only [List.countP_cons, List.countP_nil, e1]
        by_cases hlt : j < m
        · rw [if_pos hlt] at this
          rw [if_pos (show j < m + 1 from by omega)]
          omega
        · rw [if_neg hlt] at this
          rw [if_neg (show ¬ j < m + 1 from by omega)]
          omega
  have := key n (Nat.le_refl _)
  rw [if_pos hj] at this
  exact this

theorem run_lin (ht : TextOK P b ops tr e0 H0 N) (hs : Safe ops tr) (k : List Item) (cs : List Frame) : ∀ (fuel t : Nat) (listed : Array Bool) (a : Act) (s : St), listed.size = ops.size → left ops.size listed ≤ fuel →
    Closed ops (fun i => listed.getD i false) → RInv ops tr e0 H0 N ds s0 (fun i => listed.getD i false) a s →
    ∃ a' s', Steps P (lone (b.atR a (.inRegion ops (Region.linearise.go .any ops fuel t listed []) :: k)) cs s.w) (lone (b.atR a' k) cs s'.w) ∧ RInv ops tr e0 H0 N ds s0 (fun _ => true) a' s' := by
  intro fuel
  induction fuel with
  | zero =>
    intro t listed a s hsz hl hc hi
    refine ⟨a, s, .one stepR_region_end, hi.congr fun i hin => ?_⟩
    have : left ops.size listed = 0 := by omega
    unfold left at this
    rw [List.countP_eq_zero] at this
    have := this i (List.mem_range.2 hin)
    simpa using this
  | succ fuel ih =>
    intro t listed a s hsz hl hc hi
    have hgo : Region.linearise.go .any ops (fuel + 1) t listed [] = (match (Region.ready .any ops listed)[t % (Region.ready .any ops listed).length]? with
      | some i => Region.linearise.go .any ops fuel (t / (Region.ready .any ops listed).length) (listed.setIfInBounds i true) [i]
      | none => [].reverse) := rfl
    rw [hgo]
    cases hx : (Region.ready .any ops listed)[t % (Region.ready .any ops listed).length]? with
    | none =>
      have hnil : Region.ready .any ops listed = [] := by
        cases hr : Region.ready .any ops listed with
        | nil => rfl
        | cons x xs =>
          rw [hr] at hx
          have hlt : t % (x :: xs).length < (x :: xs).length := Nat.mod_lt _ (by simp)
          rw [List.getElem?_eq_getElem hlt] at hx
          cases hx
      exact ⟨a, s, .one stepR_region_end, hi.congr fun i hin => all_of_not_ready hs hsz hnil i hin⟩
    | some j =>
      have hj := List.mem_of_getElem? hx
      simp only []
      rw [linearise_go_acc, List.reverse_singleton, List.singleton_append]
      obtain ⟨hl0, o, ho, hall⟩ := mem_ready.1 hj
      have hjn : j < ops.size := (Array.getElem?_eq_some_iff.1 ho).1
      have hDj : listed.getD j false = false := by
        have : j < listed.size := by omega
        simp [this] at hl0 ⊢; exact hl0
      have hpre : ∀ o', ops[j]? = some o' → ∀ e ∈ o'.after, Region.binds .any e = true → listed.getD e.on false = true := fun o' ho' e he hb => by
        have : o' = o := Option.some.inj (ho'.symm.trans ho)
        subst this; exact hall e he hb
      obtain ⟨a1, s1, h1, i1⟩ := hi.step ht (j := j) hjn hDj (fun i hin hne hcl => by
        obtain ⟨c1, c2⟩ := hs.ord i j hin hjn hcl
        by_cases hij : i < j
        · have := c1 hij _ hc hpre
          simp only [this, hij, decide_true]
        · have hji : j < i := by omega
          have : decide (i < j) = false := by simp; omega
          rw [this]
          cases hDi : listed.getD i false with
          | false => rfl
          | true =>
            exfalso
            have := c2 hji _ hc (fun o' ho' e he hb => hc i o' ho' hDi e he hb)
            simp only [hDj] at this
            cases this) (Region.linearise.go .any ops fuel (t / (Region.ready .any ops listed).length) (listed.setIfInBounds j true) []) k cs
      have hD' : ∀ i, i < ops.size → (listed.getD i false || i == j) = (listed.setIfInBounds j true).getD i false := fun i hin => by
        by_cases hij : i = j
        · subst hij
          have : i < listed.size := by omega
          simp [this]
        · have h2 : (i == j) = false := by simpa using hij
          rw [getD_set_ne false (Ne.symm hij), h2, Bool.or_false]
      obtain ⟨a2, s2, h2, i2⟩ := ih (t / (Region.ready .any ops listed).length) (listed.setIfInBounds j true) a1 s1 (by simp [hsz])
        (by have := left_set hjn hsz hDj; omega)
        (fun i oi hoi hdi e he hb => by
          by_cases hij : i = j
          · subst hij
            exact getD_set_true (hpre oi hoi e he hb)
          · simp only at hdi
            rw [getD_set_ne false (Ne.symm hij)] at hdi
            exact getD_set_true (hc i oi hoi hdi e he hb))
        (i1.congr hD')
      exact ⟨a2, s2, h1.trans h2, i2⟩

theorem region_draw (hm : P.follows .mixedOrders = true) (ht : TextOK P b ops tr e0 H0 N) (hs : Safe ops tr) {id : Nat} {k : List Item} {cs : List Frame} {a : Act} {s : St}
    (hi : ∀ d, RInv ops tr e0 H0 N ds s0 (fun _ => false) a ⟨s.μ, s.vis, { s.w with drawn := d }⟩) :
    ∃ a' s', Steps P (lone (b.atR a (.code (.region id ops true) :: k)) cs s.w) (lone (b.atR a' k) cs s'.w) ∧ RInv ops tr e0 H0 N ds s0 (fun _ => true) a' s' := by
  have hrep : ∀ i, (Array.replicate ops.size false).getD i false = false := fun i => by
    by_cases h : i < ops.size
    · simp [h]
    · simp [h]
  obtain ⟨a', s', h, i⟩ := run_lin ht hs k cs ops.size (s.w.tape s.w.drawn (.order b.fn id)) (Array.replicate ops.size false) a ⟨s.μ, s.vis, { s.w with drawn := s.w.drawn + 1 }⟩ (by simp)
    (by unfold left; exact Nat.le_trans List.countP_le_length (by simp))
    (fun j o _ hd => by simp only [hrep] at hd; cases hd) ((hi _).congr fun i _ => (hrep i).symm)
  refine ⟨a', s', .head stepR_region_draw ?_, i⟩
  simp only [Region.schedule, hm, Bool.true_or, if_true]
  exact h

end Go.Lift
