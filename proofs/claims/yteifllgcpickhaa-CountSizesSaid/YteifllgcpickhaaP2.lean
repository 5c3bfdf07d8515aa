/- count: what fits the cubes of a value, without any program -/
import Derived.Test.YteifllgcpickhaaP1
namespace Go.Proofs.Yteifllgcpickhaa
open Go.RowKit

theorem bitOf_nat (x k : Nat) : bitOf (x : Int) (k : Int) = x.testBit k := by
  unfold bitOf
  rw [Int.toNat_natCast, Nat.testBit_eq_decide_div_mod_eq, decide_eq_decide]
  have e : ((x : Int) / 2 ^ k % 2) = ((x / 2 ^ k % 2 : Nat) : Int) := by push_cast; rfl
  rw [e]
  omega
theorem and_add (x : Nat) {m k : Nat} (hm : m < 2 ^ k) : x &&& (m + 2 ^ k) = (x &&& m) + if x.testBit k then 2 ^ k else 0 := by
  have e1 := Nat.two_pow_add_eq_or_of_lt hm 1
  rw [Nat.mul_one] at e1
  have hlt : x &&& m < 2 ^ k := Nat.lt_of_le_of_lt Nat.and_le_right hm
  have hx : x &&& 2 ^ k = if x.testBit k then 2 ^ k else 0 := by
    apply Nat.eq_of_testBit_eq
    intro i
    rw [Nat.testBit_and, Nat.testBit_two_pow]
    by_cases e : k = i
    · subst e
      cases x.testBit k <;> simp
    · cases x.testBit k <;> simp [e]
  rw [Nat.add_comm m, e1, Nat.and_or_distrib_left, hx]
  split
  · have e2 := Nat.two_pow_add_eq_or_of_lt hlt 1
    rw [Nat.mul_one] at e2
    rw [← e2, Nat.add_comm]
  · simp

/-- does a number fit a cube? -/
def fitB (x : Nat) (c : Int × Int) : Bool := decide (x &&& c.1.toNat = c.2.toNat)
/-- what is told for a number -/
def tellN (l : List Nd) (f : Int) (x : Nat) : Int := valN (walkC l (x : Int) 13 f)

theorem cub_fits {l : List Nd} (hW : WF l) (value f : Int) (x : Nat) : (cub l value 13 f 0 0).countP (fitB x) = if tellN l f x = value then 1 else 0 := by
  have h12 := varOf_nonneg hW f
  have key := cub_ind hW value (fun m b f xs => b &&& m = b → xs.countP (fitB x) = if x &&& m = b then (if tellN l f x = value then 1 else 0) else 0)
    (fun f m b hx hm hs => by
      unfold tellN
      rw [walkC_term _ hx]
      split
      · simp [fitB, List.countP_cons]
      · simp)
    (fun f k lo hi m b xs ys hx e hk h5 h6 hv hm hb h1 h2 hs => by
      obtain ⟨q1, q2⟩ := and_sub hm hb hs
      have ht : tellN l f x = tellN l (if x.testBit k then hi else lo) x := by
        unfold tellN
        rw [walkC_node hW _ hx e, bitOf_nat]
      rw [List.countP_append, h1 q1, h2 q2, and_add x hm, ht]
      have hlt : x &&& m < 2 ^ k := Nat.lt_of_le_of_lt Nat.and_le_right hm
      cases x.testBit k with
      | true =>
        simp only [if_true]
        rw [if_neg (by omega), Nat.zero_add]
        by_cases hxm : x &&& m = b
        · rw [if_pos hxm, if_pos (by omega)]
        · rw [if_neg hxm, if_neg (by omega)]
      | false =>
        simp only [Bool.false_eq_true, if_false, Nat.add_zero]
        have hpos : 0 < 2 ^ k := Nat.pow_pos (by omega)
        rw [if_neg (show ¬ (x &&& m = b + 2 ^ k) by omega), Nat.add_zero])
    13 f 0 0 (by omega) (Nat.pow_pos (by omega)) (Nat.pow_pos (by omega)) (by simp)
  have key' : (cub l value 13 f 0 0).countP (fitB x) = if x &&& 0 = 0 then (if tellN l f x = value then 1 else 0) else 0 := key
  rw [key']
  simp

/-- the least number of the cubes -/
theorem oneC_spec (cs : List (Int × Int)) : ∀ k, k ≤ cs.length → (k = 0 ∧ oneC cs k = (0, false)) ∨ (∃ m, oneC cs k = (m, true) ∧ (∃ c ∈ cs.take k, c.2 = m) ∧ ∀ c ∈ cs.take k, m ≤ c.2)
  | 0, _ => .inl ⟨rfl, rfl⟩
  | k + 1, h => by
    right
    have hk : k < cs.length := by omega
    rw [oneC_succ cs k hk, List.take_succ_eq_append_getElem hk]
    rcases oneC_spec cs k (by omega) with ⟨h0, h1⟩ | ⟨m, h1, ⟨c, hc, hcm⟩, h3⟩
    · rw [h1]
      refine ⟨cs[k].2, by simp [oneStep], ⟨cs[k], List.mem_append_right _ (by simp), rfl⟩, fun c hc => ?_⟩
      subst h0
      simp at hc
      rw [hc]
      exact Int.le_refl _
    · rw [h1]
      by_cases hlt : cs[k].2 < m
      · refine ⟨cs[k].2, by simp [oneStep, hlt], ⟨cs[k], List.mem_append_right _ (by simp), rfl⟩, fun c' hc' => ?_⟩
        rcases List.mem_append.1 hc' with h | h
        · have := h3 c' h; omega
        · simp at h; rw [h]; exact Int.le_refl _
      · refine ⟨m, by simp [oneStep, hlt], ⟨c, List.mem_append_left _ hc, hcm⟩, fun c' hc' => ?_⟩
        rcases List.mem_append.1 hc' with h | h
        · exact h3 c' h
        · simp at h; rw [h]; omega

/-- the least number for which a value is told, if there is one -/
theorem one_plain {l : List Nd} (hW : WF l) (value f : Int) :
    ((oneC (cub l value 13 f 0 0) (cub l value 13 f 0 0).length) = (0, false) ∧ ∀ x : Nat, tellN l f x ≠ value) ∨
    ∃ x : Nat, x < 4096 ∧ (oneC (cub l value 13 f 0 0) (cub l value 13 f 0 0).length) = ((x : Int), true) ∧ tellN l f x = value ∧ ∀ y : Nat, y < x → tellN l f y ≠ value := by
  have hfit := cub_fits hW value f
  have hok := cub_ok hW value f
  generalize cub l value 13 f 0 0 = cs at *
  rcases oneC_spec cs cs.length (Nat.le_refl _) with ⟨h0, h1⟩ | ⟨m, h1, ⟨c, hc, hcm⟩, h3⟩
  · left
    refine ⟨h1, fun x hx => ?_⟩
    have := hfit x
    rw [if_pos hx, List.eq_nil_of_length_eq_zero h0] at this
    simp at this
  · right
    rw [List.take_length] at hc h3
    obtain ⟨cm, cb, e, hcm', hsub⟩ := hok c hc
    subst e
    simp only at hcm
    subst hcm
    have hle : cb ≤ cm := by rw [← hsub]; exact Nat.and_le_right
    refine ⟨cb, by omega, h1, ?_, fun y hy ht => ?_⟩
    · have hf := hfit cb
      have hpos : 0 < cs.countP (fitB cb) := List.countP_pos_iff.2 ⟨_, hc, by simp [fitB, hsub]⟩
      by_cases ht : tellN l f cb = value
      · exact ht
      · rw [if_neg ht] at hf; omega
    · have hf := hfit y
      rw [if_pos ht] at hf
      have hpos : 0 < cs.countP (fitB y) := by omega
      obtain ⟨c', hc', hfc⟩ := List.countP_pos_iff.1 hpos
      obtain ⟨cm', cb', e', _, _⟩ := hok c' hc'
      subst e'
      have := h3 _ hc'
      simp [fitB] at hfc
      have : cb' ≤ y := by rw [← hfc]; exact Nat.and_le_left
      simp only at *
      omega
end Go.Proofs.Yteifllgcpickhaa
