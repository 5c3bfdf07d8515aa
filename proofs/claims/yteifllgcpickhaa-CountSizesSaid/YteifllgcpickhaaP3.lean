/- count: for how many numbers a value is told, without any program -/
import Derived.Test.YteifllgcpickhaaP2
namespace Go.Proofs.Yteifllgcpickhaa
open Go.RowKit

theorem countP_two (P : Nat → Bool) : ∀ K, (List.range (2 * K)).countP P = (List.range K).countP (fun z => P (2 * z)) + (List.range K).countP (fun z => P (2 * z + 1))
  | 0 => rfl
  | K + 1 => by
    rw [show 2 * (K + 1) = 2 * K + 1 + 1 by omega, List.range_succ, List.range_succ, List.range_succ (n := K)]
    simp only [List.countP_append, List.countP_singleton]
    rw [countP_two P K]
    omega

/-- the bits below a ref's variable are not asked -/
theorem walk_congr {l : List Nd} (hW : WF l) (x y : Nat) : ∀ (k : Nat) (f : Int), x / 2 ^ (varOf l f).toNat = y / 2 ^ (varOf l f).toNat → walkC l x k f = walkC l y k f := by
  intro k
  induction k with
  | zero => intro f _; rfl
  | succ k ih =>
    intro f h
    by_cases hx : 0 ≤ f ∧ f < l.length
    · obtain ⟨v, lo, hi, e, _, hv, h1, h2, h3, h4, h5, h6⟩ := node_kids hW hx
      obtain ⟨a, rfl⟩ : ∃ a : Nat, v = a := ⟨v.toNat, by omega⟩
      rw [hv, Int.toNat_natCast] at h
      have hb : bitOf (x : Int) (a : Int) = bitOf (y : Int) (a : Int) := by
        rw [bitOf_nat, bitOf_nat, Nat.testBit_eq_decide_div_mod_eq, Nat.testBit_eq_decide_div_mod_eq, h]
      have hk : ∀ g : Int, (a : Int) < varOf l g → x / 2 ^ (varOf l g).toNat = y / 2 ^ (varOf l g).toNat := fun g hg => by
        obtain ⟨p, hp⟩ : ∃ p, (varOf l g).toNat = a + p := ⟨(varOf l g).toNat - a, by omega⟩
        rw [hp, Nat.pow_add, ← Nat.div_div_eq_div_mul, ← Nat.div_div_eq_div_mul, h]
      conv => lhs; unfold walkC
      conv => rhs; unfold walkC
      rw [if_pos hx, if_pos hx, e]
      simp only
      rw [hb]
      split
      · exact ih hi (hk hi h6)
      · exact ih lo (hk lo h5)
    · conv => lhs; unfold walkC
      conv => rhs; unfold walkC
      rw [if_neg hx, if_neg hx]
theorem tell_congr {l : List Nd} (hW : WF l) {x y : Nat} {f : Int} (h : x / 2 ^ (varOf l f).toNat = y / 2 ^ (varOf l f).toNat) : tellN l f x = tellN l f y := by
  unfold tellN
  rw [walk_congr hW x y 13 f h]
theorem tell_node {l : List Nd} (hW : WF l) {f : Int} {k : Nat} {lo hi : Int} (hx : 0 ≤ f ∧ f < l.length) (e : l[f.toNat]?.getD default = ⟨(k : Int), lo, hi⟩) (x : Nat) : tellN l f x = tellN l (if x.testBit k then hi else lo) x := by
  unfold tellN
  rw [walkC_node hW _ hx e, bitOf_nat]
theorem tell_term {l : List Nd} {f : Int} (hx : ¬ (0 ≤ f ∧ f < l.length)) (x : Nat) : tellN l f x = valN f := by
  unfold tellN
  rw [walkC_term _ hx]

/-- for how many numbers whose j lowest bits are none -/
def cntF (l : List Nd) (value : Int) (n j : Nat) (f : Int) : Nat := (List.range (2 ^ (n - j))).countP (fun z => decide (tellN l f (z * 2 ^ j) = value))
theorem cntF_shift {l : List Nd} (hW : WF l) (value : Int) (n j : Nat) (f : Int) (h1 : j < n) (h2 : j < (varOf l f).toNat) : cntF l value n j f = 2 * cntF l value n (j + 1) f := by
  unfold cntF
  rw [show n - j = (n - (j + 1)) + 1 by omega, Nat.pow_succ, Nat.mul_comm (2 ^ _) 2, countP_two, Nat.two_mul]
  obtain ⟨p, hp⟩ : ∃ p, (varOf l f).toNat = j + 1 + p := ⟨(varOf l f).toNat - j - 1, by omega⟩
  have a1 : ∀ z : Nat, 2 * z * 2 ^ j = z * 2 ^ (j + 1) := fun z => by rw [Nat.pow_succ, Nat.mul_comm 2 z, Nat.mul_assoc, Nat.mul_comm 2]
  have a2 : ∀ z : Nat, tellN l f ((2 * z + 1) * 2 ^ j) = tellN l f (z * 2 ^ (j + 1)) := fun z => by
    apply tell_congr hW
    have hpj : 0 < 2 ^ j := Nat.pow_pos (by omega)
    rw [hp, Nat.add_assoc, Nat.pow_add 2 j, ← Nat.div_div_eq_div_mul, ← Nat.div_div_eq_div_mul, Nat.mul_div_cancel _ hpj, ← a1, Nat.mul_div_cancel _ hpj, Nat.add_comm 1 p, Nat.pow_succ, Nat.mul_comm (2 ^ p) 2, ← Nat.div_div_eq_div_mul, ← Nat.div_div_eq_div_mul]
    congr 1
    omega
  simp only [a1, a2]
theorem cntF_node {l : List Nd} (hW : WF l) (value : Int) (n : Nat) {f : Int} {k : Nat} {lo hi : Int} (hx : 0 ≤ f ∧ f < l.length) (e : l[f.toNat]?.getD default = ⟨(k : Int), lo, hi⟩) (hk : k < n) (h6 : (k : Int) < varOf l hi) :
    cntF l value n k f = cntF l value n (k + 1) lo + cntF l value n (k + 1) hi := by
  unfold cntF
  rw [show n - k = (n - (k + 1)) + 1 by omega, Nat.pow_succ, Nat.mul_comm (2 ^ _) 2, countP_two]
  have hpk : 0 < 2 ^ k := Nat.pow_pos (by omega)
  have a1 : ∀ z : Nat, 2 * z * 2 ^ k = z * 2 ^ (k + 1) := fun z => by rw [Nat.pow_succ, Nat.mul_comm 2 z, Nat.mul_assoc, Nat.mul_comm 2]
  have b1 : ∀ z : Nat, tellN l f (2 * z * 2 ^ k) = tellN l lo (z * 2 ^ (k + 1)) := fun z => by
    rw [tell_node hW hx e, if_neg, a1]
    rw [Nat.testBit_eq_decide_div_mod_eq, Nat.mul_div_cancel _ hpk]
    simp
  have b2 : ∀ z : Nat, tellN l f ((2 * z + 1) * 2 ^ k) = tellN l hi (z * 2 ^ (k + 1)) := fun z => by
    rw [tell_node hW hx e, if_pos]
    · apply tell_congr hW
      obtain ⟨p, hp⟩ : ∃ p, (varOf l hi).toNat = k + 1 + p := ⟨(varOf l hi).toNat - k - 1, by omega⟩
      rw [hp, Nat.add_assoc, Nat.pow_add 2 k, ← Nat.div_div_eq_div_mul, ← Nat.div_div_eq_div_mul, Nat.mul_div_cancel _ hpk, ← a1, Nat.mul_div_cancel _ hpk, Nat.add_comm 1 p, Nat.pow_succ, Nat.mul_comm (2 ^ p) 2, ← Nat.div_div_eq_div_mul, ← Nat.div_div_eq_div_mul]
      congr 1
      omega
    · rw [Nat.testBit_eq_decide_div_mod_eq, Nat.mul_div_cancel _ hpk]
      simp
  simp only [b1, b2]
theorem cntF_shifts {l : List Nd} (hW : WF l) (value : Int) (n : Nat) (f : Int) : ∀ t j, j + t ≤ n → j + t ≤ (varOf l f).toNat → cntF l value n j f = 2 ^ t * cntF l value n (j + t) f
  | 0, j, _, _ => by simp
  | t + 1, j, h1, h2 => by
    rw [cntF_shift hW value n j f (by omega) (by omega), cntF_shifts hW value n f t (j + 1) (by omega) (by omega), show j + 1 + t = j + (t + 1) by omega, Nat.pow_succ, Nat.mul_comm (2 ^ t) 2, Nat.mul_assoc]
theorem cntF_term {l : List Nd} (value : Int) (n j : Nat) {f : Int} (hx : ¬ (0 ≤ f ∧ f < l.length)) : cntF l value n j f = if valN f = value then 2 ^ (n - j) else 0 := by
  unfold cntF
  simp only [tell_term hx]
  split
  · rename_i h
    simp [h]
  · rename_i h
    simp [h]

theorem sat_count {l : List Nd} (hW : WF l) (value : Int) (n : Nat) (hn : n ≤ 12) : ∀ (fuel : Nat) (f : Int) (j : Nat), 12 - varOf l f < fuel → lowv l n fuel f → (j : Int) ≤ lvl l n f → (cntF l value n j f : Int) = satF l value n f * 2 ^ (lvl l n f - j).toNat := by
  intro fuel
  induction fuel with
  | zero =>
    intro f j h
    have := varOf_le hW f
    omega
  | succ fuel ih =>
    intro f j h hl hj
    by_cases hx : 0 ≤ f ∧ f < l.length
    · obtain ⟨v, lo, hi, e, _, hv, h1, h2, h3, h4, h5, h6⟩ := node_kids hW hx
      obtain ⟨k, rfl⟩ : ∃ k : Nat, v = k := ⟨v.toNat, by omega⟩
      unfold lowv at hl
      rw [if_pos hx, e] at hl
      simp only at hl
      obtain ⟨hkn, hl1, hl2⟩ := hl
      have hlv : lvl l n f = k := by unfold lvl; omega
      rw [hlv] at hj ⊢
      have e1 := ih lo (k + 1) (by omega) hl1 (by unfold lvl; omega)
      have e2 := ih hi (k + 1) (by omega) hl2 (by unfold lvl; omega)
      rw [satF_node hW value n hx e, cntF_shifts hW value n f (k - j) j (by omega) (by omega), show j + (k - j) = k by omega, cntF_node hW value n hx e (by omega) h6]
      push_cast
      rw [e1, e2]
      rw [show ((k : Int) - j).toNat = k - j by omega, show lvl l n lo - ((k + 1 : Nat) : Int) = lvl l n lo - k - 1 by omega, show lvl l n hi - ((k + 1 : Nat) : Int) = lvl l n hi - k - 1 by omega, Int.mul_comm]
    · have hv : varOf l f = 12 := by unfold varOf; rw [if_neg hx]
      have hlv : lvl l n f = n := by unfold lvl; omega
      rw [hlv] at hj ⊢
      rw [cntF_term value n j hx, satF_term value n hx, show ((n : Int) - j).toNat = n - j by omega]
      split <;> simp

/-- **for how many numbers of n bits a value is told** -/
theorem satR_count {l : List Nd} (hW : WF l) (f value : Int) (n : Nat) (hn : n ≤ 12) (hh : hasB l f = true) (hg : ∀ x ∈ reach l f, ¬ badN l n x) :
    satR l f value n = ((List.range (2 ^ n)).countP (fun x => decide (tellN l f x = value)) : Nat) := by
  have h12 := varOf_nonneg hW f
  have hl := lowv_reach hW hh hg
  have := sat_count hW value n hn 13 f 0 (by omega) hl (by unfold lvl; omega)
  unfold satR
  rw [if_neg, ← Int.sub_zero (lvl l n f)]
  · rw [show (0 : Int) = ((0 : Nat) : Int) from rfl, ← this]
    unfold cntF
    simp
  · rintro (h | h | h | ⟨x, hx, hb⟩)
    · omega
    · omega
    · rw [hh] at h; cases h
    · exact hg x hx hb
theorem satR_bad {l : List Nd} (f value n : Int) (h : n < 0 ∨ 12 < n ∨ hasB l f = false ∨ ∃ x ∈ reach l f, badN l n x) : satR l f value n = 0 := by
  unfold satR
  rw [if_pos h]
end Go.Proofs.Yteifllgcpickhaa
