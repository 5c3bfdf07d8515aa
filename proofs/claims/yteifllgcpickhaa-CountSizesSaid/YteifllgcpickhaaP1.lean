/- count: the cubes of a value, without any program: their masks, their weights, what fits them -/
import Derived.Test.YteifllgcpickhaaL
namespace Go.Proofs.Yteifllgcpickhaa
open Go.RowKit

theorem cub_ind {l : List Nd} (hW : WF l) (value : Int) (P : Nat → Nat → Int → List (Int × Int) → Prop)
    (hterm : ∀ (f : Int) (m b : Nat), ¬ (0 ≤ f ∧ f < l.length) → m < 2 ^ 12 → P m b f (if valN f = value then [((m : Int), (b : Int))] else []))
    (hnode : ∀ (f : Int) (k : Nat) (lo hi : Int) (m b : Nat) xs ys, 0 ≤ f ∧ f < l.length → l[f.toNat]?.getD default = ⟨(k : Int), lo, hi⟩ → k ≤ 11 → (k : Int) < varOf l lo → (k : Int) < varOf l hi → varOf l f = k → m < 2 ^ k → b < 2 ^ k →
      P (m + 2 ^ k) b lo xs → P (m + 2 ^ k) (b + 2 ^ k) hi ys → P m b f (xs ++ ys)) :
    ∀ (n : Nat) (f : Int) (m b : Nat), 12 - varOf l f < n → m < 2 ^ (varOf l f).toNat → b < 2 ^ (varOf l f).toNat → P m b f (cub l value n f m b) := by
  intro n
  induction n with
  | zero =>
    intro f m b h
    have := varOf_le hW f
    omega
  | succ n ih =>
    intro f m b hn hm hb
    by_cases hx : 0 ≤ f ∧ f < l.length
    · obtain ⟨v, lo, hi, e, _, hv, h1, h2, h3, h4, h5, h6⟩ := node_kids hW hx
      obtain ⟨k, rfl⟩ : ∃ k : Nat, v = k := ⟨v.toNat, by omega⟩
      rw [hv] at hm hb hn
      simp only [Int.toNat_natCast] at hm hb
      have hc : cub l value (n + 1) f m b = cub l value n lo ((m + 2 ^ k : Nat) : Int) (b : Int) ++ cub l value n hi ((m + 2 ^ k : Nat) : Int) ((b + 2 ^ k : Nat) : Int) := by
        conv => lhs; unfold cub
        rw [if_pos hx, e]
        simp only [Int.toNat_natCast]
        push_cast
        rfl
      rw [hc]
      have hp : ∀ u : Int, (k : Int) < u → (2 : Nat) ^ (k + 1) ≤ 2 ^ u.toNat := fun u hu => Nat.pow_le_pow_right (by omega) (by omega)
      have hlo := hp _ h5
      have hhi := hp _ h6
      rw [Nat.pow_succ] at hlo hhi
      exact hnode f k lo hi m b _ _ hx e (by omega) h5 h6 hv hm hb (ih lo _ _ (by omega) (by omega) (by omega)) (ih hi _ _ (by omega) (by omega) (by omega))
    · have hv : varOf l f = 12 := by unfold varOf; rw [if_neg hx]
      rw [hv] at hm
      have hc : cub l value (n + 1) f m b = if valN f = value then [((m : Int), (b : Int))] else [] := by conv => lhs; unfold cub; rw [if_neg hx]
      rw [hc]
      exact hterm f m b hx hm

theorem and_sub {m b k : Nat} (hm : m < 2 ^ k) (hb : b < 2 ^ k) (h : b &&& m = b) : b &&& (m + 2 ^ k) = b ∧ (b + 2 ^ k) &&& (m + 2 ^ k) = b + 2 ^ k := by
  have e1 := Nat.two_pow_add_eq_or_of_lt hm 1
  have e2 := Nat.two_pow_add_eq_or_of_lt hb 1
  rw [Nat.mul_one] at e1 e2
  have hbk : b &&& 2 ^ k = 0 := by
    apply Nat.eq_of_testBit_eq
    intro i
    rw [Nat.testBit_and, Nat.testBit_two_pow, Nat.zero_testBit]
    by_cases e : k = i
    · subst e; rw [Nat.testBit_lt_two_pow hb]; rfl
    · simp [e]
  constructor
  · rw [Nat.add_comm m, e1, Nat.and_or_distrib_left, hbk, h, Nat.zero_or]
  · rw [Nat.add_comm m, e1, Nat.add_comm b, e2]
    apply Nat.eq_of_testBit_eq
    intro i
    have := congrArg (fun x => Nat.testBit x i) h
    simp only [Nat.testBit_and, Nat.testBit_or] at this ⊢
    revert this
    cases Nat.testBit b i <;> cases Nat.testBit m i <;> cases Nat.testBit (2 ^ k) i <;> simp

/-- a cube's mask and bits -/
def okC (c : Int × Int) : Prop := ∃ cm cb : Nat, c = ((cm : Int), (cb : Int)) ∧ cm < 4096 ∧ cb &&& cm = cb
theorem cub_ok {l : List Nd} (hW : WF l) (value : Int) (f : Int) : ∀ c ∈ cub l value 13 f 0 0, okC c := by
  have h12 := varOf_nonneg hW f
  have := cub_ind hW value (fun m b f xs => b &&& m = b → ∀ c ∈ xs, okC c)
    (fun f m b _ hm hb c hc => by
      split at hc
      · simp at hc
        subst hc
        exact ⟨m, b, rfl, hm, hb⟩
      · cases hc)
    (fun f k lo hi m b xs ys _ _ _ _ _ _ hm hb h1 h2 hs c hc => by
      obtain ⟨q1, q2⟩ := and_sub hm hb hs
      rcases List.mem_append.1 hc with hc | hc
      · exact h1 q1 c hc
      · exact h2 q2 c hc)
    13 f 0 0 (by omega) (Nat.pow_pos (by omega)) (Nat.pow_pos (by omega)) (by simp)
  exact this

/-- how many numbers of twelve bits fit a mask, as the law counts them: halved for each bit -/
def mny (m : Nat) : Nat → Nat
  | 0 => 4096
  | v + 1 => if m.testBit v then mny m v / 2 else mny m v
theorem mny_pow (m : Nat) : ∀ v, v ≤ 12 → ∃ j, j ≤ 12 ∧ 12 - v ≤ j ∧ mny m v = 2 ^ j
  | 0, _ => ⟨12, by omega, by omega, rfl⟩
  | v + 1, h => by
    obtain ⟨j, h1, h2, h3⟩ := mny_pow m v (by omega)
    unfold mny
    rw [h3]
    split
    · refine ⟨j - 1, by omega, by omega, ?_⟩
      obtain ⟨i, rfl⟩ : ∃ i, j = i + 1 := ⟨j - 1, by omega⟩
      rw [Nat.pow_succ, Nat.mul_div_cancel _ (by omega)]
      rfl
    · exact ⟨j, h1, by omega, rfl⟩
theorem mny_le (m v : Nat) (h : v ≤ 12) : mny m v ≤ 4096 := by
  obtain ⟨j, h1, _, h3⟩ := mny_pow m v h
  rw [h3]
  exact (Nat.pow_le_pow_right (by omega) h1 : 2 ^ j ≤ 2 ^ 12)
theorem mny_congr (m m' : Nat) : ∀ v, (∀ i < v, m.testBit i = m'.testBit i) → mny m v = mny m' v
  | 0, _ => rfl
  | v + 1, h => by
    unfold mny
    rw [mny_congr m m' v (fun i hi => h i (by omega)), h v (by omega)]
theorem mny_high (m k : Nat) (hm : m < 2 ^ k) : ∀ d, mny m (k + d) = mny m k
  | 0 => rfl
  | d + 1 => by
    rw [← Nat.add_assoc]
    conv => lhs; unfold mny
    have : m.testBit (k + d) = false := Nat.testBit_lt_two_pow (Nat.lt_of_lt_of_le hm (Nat.pow_le_pow_right (by omega) (by omega)))
    rw [this, mny_high m k hm d]
    simp
theorem testBit_add_pow {m k i : Nat} (hm : m < 2 ^ k) : (m + 2 ^ k).testBit i = (m.testBit i || decide (k = i)) := by
  have e1 := Nat.two_pow_add_eq_or_of_lt hm 1
  rw [Nat.mul_one] at e1
  rw [Nat.add_comm, e1, Nat.testBit_or, Nat.testBit_two_pow, Bool.or_comm]
theorem mny_half (m k : Nat) (hm : m < 2 ^ k) (hk : k ≤ 11) : mny (m + 2 ^ k) 12 * 2 = mny m 12 := by
  have h1 : mny (m + 2 ^ k) k = mny m k := mny_congr _ _ k (fun i hi => by rw [testBit_add_pow hm]; simp; omega)
  have h2 : mny (m + 2 ^ k) (k + 1) = mny m k / 2 := by
    conv => lhs; unfold mny
    rw [testBit_add_pow hm, h1]
    simp
  have hlt : m + 2 ^ k < 2 ^ (k + 1) := by rw [Nat.pow_succ]; omega
  have h3 := mny_high (m + 2 ^ k) (k + 1) hlt (11 - k)
  have h4 := mny_high m k hm (12 - k)
  rw [show k + 1 + (11 - k) = 12 by omega, h2] at h3
  rw [show k + (12 - k) = 12 by omega] at h4
  obtain ⟨j, j1, j2, j3⟩ := mny_pow m k (by omega)
  rw [h3, h4, j3]
  obtain ⟨i, rfl⟩ : ∃ i, j = i + 1 := ⟨j - 1, by omega⟩
  rw [Nat.pow_succ, Nat.mul_div_cancel _ (by omega)]

/-- the weights of cubes, together -/
def wsum (cs : List (Int × Int)) : Int := (cs.map (fun c => (mny c.1.toNat 12 : Int))).sum
theorem wsum_append (a b : List (Int × Int)) : wsum (a ++ b) = wsum a + wsum b := by simp [wsum]
theorem lvl12 {l : List Nd} (hW : WF l) (f : Int) : lvl l 12 f = varOf l f := by
  have := varOf_le hW f
  unfold lvl
  omega
theorem pow_split (a b : Nat) (h : b ≤ a) : (2 : Int) ^ a = 2 ^ (a - b) * 2 ^ b := by
  rw [← Int.pow_add]
  congr 1
  omega
theorem cub_weights {l : List Nd} (hW : WF l) (value : Int) (f : Int) : wsum (cub l value 13 f 0 0) = satF l value 12 f * 2 ^ (varOf l f).toNat := by
  have h12 := varOf_nonneg hW f
  have hle := varOf_le hW f
  have key := cub_ind hW value (fun m b f xs => wsum xs * 2 ^ (12 - (varOf l f).toNat) = (mny m 12 : Int) * satF l value 12 f)
    (fun f m b hx hm => by
      have hv : varOf l f = 12 := by unfold varOf; rw [if_neg hx]
      rw [hv, satF_term _ _ hx]
      split
      · simp [wsum]
      · simp [wsum])
    (fun f k lo hi m b xs ys hx e hk h5 h6 hv hm hb h1 h2 => by
      have g1 := varOf_le hW lo
      have g2 := varOf_le hW hi
      have hh := mny_half m k hm hk
      rw [hv, satF_node hW value 12 hx e, lvl12 hW, lvl12 hW, wsum_append, ← hh, Int.toNat_natCast]
      obtain ⟨p, hp⟩ : ∃ p : Nat, varOf l lo = (k + 1 + p : Nat) := ⟨(varOf l lo - k - 1).toNat, by omega⟩
      obtain ⟨q, hq⟩ : ∃ q : Nat, varOf l hi = (k + 1 + q : Nat) := ⟨(varOf l hi - k - 1).toNat, by omega⟩
      rw [hp, Int.toNat_natCast] at h1
      rw [hq, Int.toNat_natCast] at h2
      rw [hp, hq]
      have e1 : (((k + 1 + p : Nat) : Int) - k - 1).toNat = p := by omega
      have e2 : (((k + 1 + q : Nat) : Int) - k - 1).toNat = q := by omega
      rw [e1, e2]
      have f1 : (2 : Int) ^ (12 - k) = 2 ^ (12 - (k + 1 + p)) * 2 ^ p * 2 := by
        rw [← Int.pow_add, ← Int.pow_succ]; congr 1; omega
      have f2 : (2 : Int) ^ (12 - k) = 2 ^ (12 - (k + 1 + q)) * 2 ^ q * 2 := by
        rw [← Int.pow_add, ← Int.pow_succ]; congr 1; omega
      rw [Int.add_mul]
      conv => lhs; lhs; rw [f1]
      conv => lhs; rhs; rw [f2]
      have r1 : wsum xs * (2 ^ (12 - (k + 1 + p)) * 2 ^ p * 2) = (wsum xs * 2 ^ (12 - (k + 1 + p))) * 2 ^ p * 2 := by simp only [Int.mul_assoc]
      have r2 : wsum ys * (2 ^ (12 - (k + 1 + q)) * 2 ^ q * 2) = (wsum ys * 2 ^ (12 - (k + 1 + q))) * 2 ^ q * 2 := by simp only [Int.mul_assoc]
      rw [r1, r2, h1, h2]
      push_cast
      rw [Int.mul_add]
      simp only [Int.mul_assoc, Int.mul_comm, Int.mul_left_comm])
    13 f 0 0 (by omega) (Nat.pow_pos (by omega)) (Nat.pow_pos (by omega))
  have h0 : mny 0 12 = 4096 := by decide
  rw [h0] at key
  have hs : (4096 : Int) = 2 ^ (varOf l f).toNat * 2 ^ (12 - (varOf l f).toNat) := by
    rw [← Int.pow_add, show (varOf l f).toNat + (12 - (varOf l f).toNat) = 12 by omega]
    rfl
  have hpos : (0 : Int) < 2 ^ (12 - (varOf l f).toNat) := Int.pow_pos (by decide)
  apply Int.eq_of_mul_eq_mul_right (Int.ne_of_gt hpos)
  have key' : wsum (cub l value 13 f 0 0) * 2 ^ (12 - (varOf l f).toNat) = (4096 : Int) * satF l value 12 f := key
  rw [key', hs]
  simp only [Int.mul_assoc, Int.mul_comm]

theorem dn_has {l : List Nd} (hW : WF l) : ∀ (n : Nat) (vis : List Int) (f : Int), hasB l f = true → (∀ x ∈ vis, hasB l x = true) → ∀ x ∈ dn l n vis f, hasB l x = true
  | 0, _, _, _, hv => hv
  | n + 1, vis, f, hf, hv => by
    unfold dn
    split
    · exact hv
    · have hv' : ∀ x ∈ vis ++ [f], hasB l x = true := fun x hx => by
        rcases List.mem_append.1 hx with h | h
        · exact hv x h
        · simp at h; subst h; exact hf
      split
      · rename_i hx
        obtain ⟨v, lo, hi, e, _, _, _, _, h3, h4, _, _⟩ := node_kids hW hx
        rw [e]
        exact dn_has hW n _ _ h4 (dn_has hW n _ _ h3 hv')
      · exact hv'
theorem reach_has {l : List Nd} (hW : WF l) {f : Int} (hh : hasB l f = true) : ∀ x ∈ reach l f, hasB l x = true := by
  unfold reach
  rw [if_pos hh]
  exact dn_has hW 13 [] f hh (fun x hx => by cases hx)
end Go.Proofs.Yteifllgcpickhaa
