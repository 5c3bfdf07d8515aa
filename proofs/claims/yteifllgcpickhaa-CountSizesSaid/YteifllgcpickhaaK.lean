/- count: Depth, Walk, One -/
import Derived.Test.YteifllgcpickhaaJ
namespace Go.Proofs.Yteifllgcpickhaa
open Go.RowKit

/-- how many nodes are on the longest way -/
def depC (l : List Nd) : Nat → Int → Int
  | 0, _ => 0
  | k + 1, x => if 0 ≤ x ∧ x < l.length then 1 + max (depC l k (l[x.toNat]?.getD default).lo) (depC l k (l[x.toNat]?.getD default).hi) else 0
theorem depC_range (l : List Nd) : ∀ k x, 0 ≤ depC l k x ∧ depC l k x ≤ k
  | 0, _ => by simp [depC]
  | k + 1, x => by
    have h1 := depC_range l k (l[x.toNat]?.getD default).lo
    have h2 := depC_range l k (l[x.toNat]?.getD default).hi
    unfold depC
    split <;> omega

set_option maxRecDepth 100000 in
set_option maxHeartbeats 4000000 in
theorem depth_in {b : Nat} {l : List Nd} (hW : WF l) : ∀ (k : Nat) (x : Int) (w : World), k ≤ 13 → 12 - varOf l x < k → ArRd w b l → Calls Try.prog 20 #[.pointer (some ⟨b, 0, none⟩), .int .i64 x] w fun e w' => e = .returned (.int .i64 (depC l k x)) ∧ Below w.heap.size w w' := by
  intro k
  induction k with
  | zero =>
    intro x w _ h
    exfalso
    have := varOf_le hW x
    omega
  | succ k ih =>
    intro x w hk h hA
    by_cases hx : 0 ≤ x ∧ x < l.length
    · obtain ⟨v, lo, hi, e, hg, hv, h1, h2, h3, h4, h5, h6⟩ := node_kids hW hx
      have hd : depC l (k + 1) x = 1 + max (depC l k lo) (depC l k hi) := by conv => lhs; unfold depC; rw [if_pos hx, e]
      rw [hd]
      obtain ⟨r1, r2⟩ := depC_range l k lo
      obtain ⟨r3, r4⟩ := depC_range l k hi
      have cLo : ∀ W, Below w.heap.size w W → Calls Try.prog 20 #[.pointer (some ⟨b, 0, none⟩), .int .i64 lo] W fun e w' => e = .returned (.int .i64 (depC l k lo)) ∧ Below W.heap.size W w' := fun W hb => ih lo W (by omega) (by omega) (hA.below (Nat.le_refl _) hb)
      have cHi : ∀ W, Below w.heap.size w W → Calls Try.prog 20 #[.pointer (some ⟨b, 0, none⟩), .int .i64 hi] W fun e w' => e = .returned (.int .i64 (depC l k hi)) ∧ Below W.heap.size W w' := fun W hb => ih hi W (by omega) (by omega) (hA.below (Nat.le_refl _) hb)
      have hget := get_any b l x w hA
      rw [hg] at hget
      have hwr : IntKind.i64.wrap (1 + max (depC l k lo) (depC l k hi)) = 1 + max (depC l k lo) (depC l k hi) := by rw [IntKind.wrap_i64]; omega
      clear ih hA hd e
      generalize depC l k lo = dl at *
      generalize depC l k hi = dh at *
      go_enter Try.func20, Try.ntmps20
      go_wp2_with (refine hget.mono ?_; clear hget; rintro e w2 ⟨rfl, hB2⟩)
      have hb2 : Below w.heap.size w (w2.alloc (.cells #[.int .i64 v, .int .i64 lo, .int .i64 hi] 73)) := hB2.alloc hB2.size _
      have k1 := cell_new3 w2 (.int .i64 v) (.int .i64 lo) (.int .i64 hi) 73 1
      have k2 := cell_new3 w2 (.int .i64 v) (.int .i64 lo) (.int .i64 hi) 73 2
      have hlt : w2.heap.size < (w2.alloc (.cells #[.int .i64 v, .int .i64 lo, .int .i64 hi] 73)).heap.size := by simp
      have hws : w.heap.size ≤ (w2.alloc (.cells #[.int .i64 v, .int .i64 lo, .int .i64 hi] 73)).heap.size := hb2.size
      simp only [List.getElem?_toArray, List.getElem?_cons_succ, List.getElem?_cons_zero] at k1 k2
      clear hB2
      generalize w2.heap.size = Bn at *
      generalize w2.alloc (.cells #[.int .i64 v, .int .i64 lo, .int .i64 hi] 73) = w3 at *
      have hkeep := Lib.hid (p := ∀ W W' : World, (Below w3.heap.size w3 W ∧ W.cell? ⟨Bn, 1, none⟩ = some (.int .i64 lo) ∧ W.cell? ⟨Bn, 2, none⟩ = some (.int .i64 hi)) →
         Below W.heap.size W W' → (Below w3.heap.size w3 W' ∧ W'.cell? ⟨Bn, 1, none⟩ = some (.int .i64 lo) ∧ W'.cell? ⟨Bn, 2, none⟩ = some (.int .i64 hi))) (fun W W' h hb =>
        ⟨h.1.trans (hb.mono h.1.size), (hb.cell (Nat.lt_of_lt_of_le hlt h.1.size)).trans h.2.1, (hb.cell (Nat.lt_of_lt_of_le hlt h.1.size)).trans h.2.2⟩)
      have hr0 : Below w3.heap.size w3 w3.drew := (Below.refl w3.heap.size w3).drew
      go_region_held3 (fun W => Below w3.heap.size w3 W ∧ W.cell? ⟨Bn, 1, none⟩ = some (.int .i64 lo) ∧ W.cell? ⟨Bn, 2, none⟩ = some (.int .i64 hi))
        (first | assumption | exact hkeep.out _ _ (by assumption) hb | (go_keep; done))
        (first
          | (go_at_call_of 20 (Value.int .i64 lo); refine (cLo _ (hb2.trans (((‹Below w3.heap.size w3 _ ∧ _ ∧ _›).1).mono hws))).mono ?_; rintro e w' ⟨rfl, hb⟩)
          | (go_at_call_of 20 (Value.int .i64 hi); refine (cHi _ (hb2.trans (((‹Below w3.heap.size w3 _ ∧ _ ∧ _›).1).mono hws))).mono ?_; rintro e w' ⟨rfl, hb⟩))
      have hh := (‹Below w3.heap.size w3 _ ∧ _ ∧ _›).1
      go_wp2
      go_ret
      exact ⟨rfl, hb2.trans (hh.mono hws)⟩
    · have hd : depC l (k + 1) x = 0 := by conv => lhs; unfold depC; rw [if_neg hx]
      rw [hd]
      have hget := get_none b l x hx w hA
      clear hd hx
      go_enter Try.func20, Try.ntmps20
      go_wp2_with (refine hget.mono ?_; clear hget; rintro e w2 ⟨rfl, hB2⟩)
      go_ret
      exact ⟨rfl, hB2.alloc hB2.size _⟩

/-- is bit v of a number set? -/
def bitOf (n v : Int) : Bool := decide (n / 2 ^ v.toNat % 2 = 1)
/-- down by bits -/
def walkC (l : List Nd) (n : Int) : Nat → Int → Int
  | 0, x => x
  | k + 1, x => if 0 ≤ x ∧ x < l.length then walkC l n k (if bitOf n (l[x.toNat]?.getD default).v then (l[x.toNat]?.getD default).hi else (l[x.toNat]?.getD default).lo) else x
theorem walkC_fuel {l : List Nd} (hW : WF l) (n : Int) : ∀ (k : Nat) (x : Int), 12 - varOf l x < k → walkC l n (k + 1) x = walkC l n k x := by
  intro k
  induction k with
  | zero =>
    intro x h
    exfalso
    have := varOf_le hW x
    omega
  | succ k ih =>
    intro x h
    by_cases hx : 0 ≤ x ∧ x < l.length
    · obtain ⟨v, lo, hi, e, _, hv, h1, h2, h3, h4, h5, h6⟩ := node_kids hW hx
      conv => lhs; unfold walkC
      conv => rhs; unfold walkC
      rw [if_pos hx, if_pos hx, e]
      simp only
      split
      · exact ih hi (by omega)
      · exact ih lo (by omega)
    · conv => lhs; unfold walkC
      conv => rhs; unfold walkC
      rw [if_neg hx, if_neg hx]
theorem walkC_node {l : List Nd} (hW : WF l) (n : Int) {x v lo hi : Int} (hx : 0 ≤ x ∧ x < l.length) (e : l[x.toNat]?.getD default = ⟨v, lo, hi⟩) : walkC l n 13 x = walkC l n 13 (if bitOf n v then hi else lo) := by
  obtain ⟨v', lo', hi', e', _, hv, h1, h2, h3, h4, h5, h6⟩ := node_kids hW hx
  rw [e] at e'
  cases e'
  have h0 := varOf_nonneg hW x
  conv => lhs; unfold walkC
  rw [if_pos hx, e]
  simp only
  rw [walkC_fuel hW n 12 _ (by split <;> omega)]
theorem walkC_term {l : List Nd} (n : Int) {x : Int} (hx : ¬ (0 ≤ x ∧ x < l.length)) : walkC l n 13 x = x := by
  unfold walkC; rw [if_neg hx]

theorem and_one (m : Int) (h0 : 0 ≤ m) (h1 : m < 18446744073709551616) : bits .and .u64 m 1 = m % 2 := by
  rw [u64_and _ _ h0 h1 (by omega) (by omega)]
  have : m.toNat &&& (1 : Int).toNat = m.toNat % 2 := Nat.and_one_is_mod _
  rw [this]
  omega
theorem bit_eq (n v : Int) (h0 : 0 ≤ n) (h1 : n < 18446744073709551616) : (bits .and .u64 (n / 2 ^ v.toNat) 1 == 1) = bitOf n v := by
  have hp : (0 : Int) < 2 ^ v.toNat := Int.pow_pos (by decide)
  have h2 : 0 ≤ n / 2 ^ v.toNat := Int.ediv_nonneg h0 (by omega)
  have h3 : n / 2 ^ v.toNat ≤ n := Int.ediv_le_self _ h0
  rw [and_one _ h2 (by omega)]
  unfold bitOf
  rw [Bool.eq_iff_iff]
  simp

set_option maxRecDepth 100000 in
set_option maxHeartbeats 1000000 in
theorem walk_any (b : Nat) (l : List Nd) (f n : Int) (w : World) (hA : ArRd w b l) (hW : WF l) (hn0 : 0 ≤ n) (hn : n < 18446744073709551616) :
    Calls Try.prog 26 #[.pointer (some ⟨b, 0, none⟩), .int .i64 f, .int .u64 n] w fun e w' => e = .returned (.int .i64 (walkC l n 13 f)) ∧ Below w.heap.size w w' := by
  go_enter Try.func26, Try.ntmps26
  go_wp2_with fail
  go_loopw [1] (fun p wr => ∃ cur : Int, p = .int .i64 cur ∧ walkC l n 13 cur = walkC l n 13 f ∧ Below w.heap.size w wr) (fun p _ => (13 - varOf l (intOf p)).toNat)
  case atStart => exact ⟨f, rfl, rfl, Below.refl _ _⟩
  case round =>
    obtain ⟨cur, rfl, heq, hB⟩ := hrel
    by_cases hx : 0 ≤ cur ∧ cur < l.length
    · obtain ⟨v, lo, hi, e, hg, hv, h1, h2, h3, h4, h5, h6⟩ := node_kids hW hx
      have hget := get_any b l cur wr (hA.below (Nat.le_refl _) hB)
      rw [hg] at hget
      have hst := walkC_node hW n hx e
      rw [hst] at heq
      have heqh := Lib.hid heq
      have hbit := Lib.hid (bit_eq n v hn0 hn)
      clear hx hg e hst heq
      go_wp2_with (refine hget.mono ?_; clear hget; rintro e w2 ⟨rfl, hB2⟩)
      · rename_i hb
        rw [hbit.out] at hb
        have hq := heqh.out
        rw [if_pos hb] at hq
        exact ⟨⟨hi, rfl, hq, (hB.trans (hB2.mono hB.size)).alloc (Nat.le_trans hB.size hB2.size) _⟩, by simp only [intOf]; omega⟩
      · rename_i hb
        rw [hbit.out] at hb
        have hq := heqh.out
        rw [if_neg (by rw [hb]; decide)] at hq
        exact ⟨⟨lo, rfl, hq, (hB.trans (hB2.mono hB.size)).alloc (Nat.le_trans hB.size hB2.size) _⟩, by simp only [intOf]; omega⟩
    · have hget := get_none b l cur hx wr (hA.below (Nat.le_refl _) hB)
      have hst := walkC_term n hx
      rw [hst] at heq
      have heqh := Lib.hid heq
      clear hx hst heq
      go_wp2_with (refine hget.mono ?_; clear hget; rintro e w2 ⟨rfl, hB2⟩)
      go_ret
      exact ⟨by rw [heqh.out]; rfl, (hB.trans (hB2.mono hB.size)).alloc (Nat.le_trans hB.size hB2.size) _⟩
end Go.Proofs.Yteifllgcpickhaa
