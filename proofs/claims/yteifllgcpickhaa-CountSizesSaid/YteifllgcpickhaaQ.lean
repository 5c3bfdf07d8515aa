/- count: the document's Walk -/
import Derived.Test.YteifllgcpickhaaN
namespace Go.Proofs.Yteifllgcpickhaa
open Go.RowKit

theorem half_step (n : Int) (i : Nat) (h : 0 ≤ n) : (n / 2 ^ i).tdiv 2 = n / 2 ^ (i + 1) := by
  have hp : (0 : Int) < 2 ^ i := Int.pow_pos (by decide)
  have h1 : 0 ≤ n / 2 ^ i := Int.ediv_nonneg h (by omega)
  rw [Int.tdiv_eq_ediv_of_nonneg h1, Int.ediv_ediv_of_nonneg (by omega), Int.pow_succ]

set_option maxRecDepth 100000 in
set_option maxHeartbeats 1000000 in
theorem rwalk_any {lim : Int} {A : Option Addr} {cap : Nat} {l : List Nd} (hW : WF l) (hlen : l.length ≤ 1000) (f n : Int) (w : World) (hn : NodesAt w A l) (hn0 : 0 ≤ n) (hn1 : n < 18446744073709551616) :
    Calls Try.prog 49 #[.agg #[.int .i64 lim, .slice A l.length cap], .int .i64 f, .int .u64 n] w fun e w' => e = .returned (.int .i64 (walkC l n 13 f)) ∧ Below w.heap.size w w' := by
  have hb3 : Below w.heap.size w (w.alloc (.cells #[.int .i64 lim, .slice A l.length cap] 27)) := (Below.refl _ w).alloc (Nat.le_refl _) _
  have q := World.alloc_heap_new w (.cells #[.int .i64 lim, .slice A l.length cap] 27)
  have q1 := cell_of (i := 1) q
  have hw0 : w.heap.size < (w.alloc (.cells #[.int .i64 lim, .slice A l.length cap] 27)).heap.size := by simp
  have hn3 : NodesAt (w.alloc (.cells #[.int .i64 lim, .slice A l.length cap] 27)) A l := hn.below (Nat.le_refl _) hb3
  simp only [List.getElem?_toArray, List.getElem?_cons_succ, List.getElem?_cons_zero] at q1
  go_enter Try.func49, Try.ntmps49
  go_wp2_with fail
  clear q hn
  generalize w.alloc (.cells #[.int .i64 lim, .slice A l.length cap] 27) = w3 at *
  go_loopw [1] (fun p wr => ∃ cur : Int, p = .int .i64 cur ∧ walkC l n 13 cur = walkC l n 13 f ∧ Below w3.heap.size w3 wr) (fun p _ => (13 - varOf l (intOf p)).toNat)
  case atStart => exact ⟨f, rfl, rfl, Below.refl _ _⟩
  case round =>
    obtain ⟨cur, rfl, heq, hB⟩ := hrel
    have hq1 := (hB.cell (p := ⟨w.heap.size, 1, none⟩) hw0).trans q1
    by_cases hx : 0 ≤ cur ∧ cur < l.length
    · obtain ⟨k, rfl⟩ : ∃ k : Nat, cur = k := ⟨cur.toNat, by omega⟩
      have hk : k < l.length := by omega
      obtain ⟨v, lo, hi, e, hg, hv, h1, h2, h3, h4, h5, h6⟩ := node_kids hW hx
      have hst := walkC_node hW n hx e
      rw [hst] at heq
      have heqh := Lib.hid heq
      have hlk : l[k] = ⟨v, lo, hi⟩ := by simpa [hk] using e
      obtain ⟨lb, rfl, hlb, hcells⟩ := hn3 (by omega)
      obtain ⟨c0, c1, c2⟩ := hcells k hk
      rw [hlk] at c0 c1 c2
      simp only at c0 c1 c2
      have d0 := (hB.cell (p := ⟨lb, k * 3, none⟩) hlb).trans c0
      have d1 := (hB.cell (p := ⟨lb, k * 3 + 1, none⟩) hlb).trans c1
      have d2 := (hB.cell (p := ⟨lb, k * 3 + 2, none⟩) hlb).trans c2
      have hk0 : (k : Int) ≥ 0 := by omega
      have hk1 : (k : Int) < (l.length : Int) := by omega
      have hk2 : (0 : Int) ≤ (k : Int) := by omega
      clear hst heq e hg hcells c0 c1 c2 hlk hn3 hx
      go_wp2_with fail
      have k0 := cell_new3 wr (.int .i64 v) (.int .i64 lo) (.int .i64 hi) 77 0
      have k1 := cell_new3 wr (.int .i64 v) (.int .i64 lo) (.int .i64 hi) 77 1
      have k2 := cell_new3 wr (.int .i64 v) (.int .i64 lo) (.int .i64 hi) 77 2
      simp only [List.getElem?_toArray, List.getElem?_cons_succ, List.getElem?_cons_zero] at k0 k1 k2
      have hB4 : Below w3.heap.size w3 (wr.alloc (.cells #[.int .i64 v, .int .i64 lo, .int .i64 hi] 77)) := hB.alloc hB.size _
      clear hq1 d0 d1 d2 hB
      generalize wr.heap.size = Bn at *
      generalize wr.alloc (.cells #[.int .i64 v, .int .i64 lo, .int .i64 hi] 77) = w4 at *
      go_loopw [8, 9] (fun x y w' => ∃ i : Nat, (i : Int) ≤ v ∧ x = .int .u64 (n / 2 ^ i) ∧ y = .int .i64 i ∧ w' = w4) (fun _ y _ => (v - intOf y).toNat)
      case atStart => exact ⟨0, by omega, by simp, rfl, rfl⟩
      case round =>
        obtain ⟨i, hile, rfl, rfl, rfl⟩ := hrel
        have hpi : (0 : Int) < 2 ^ i := Int.pow_pos (by decide)
        have hni : 0 ≤ n / 2 ^ i := Int.ediv_nonneg hn0 (by omega)
        have hni2 : n / 2 ^ i ≤ n := Int.ediv_le_self _ hn0
        by_cases hiv : (i : Int) < v
        · have hh := half_step n i hn0
          have hh2 : IntKind.u64.wrap ((n / 2 ^ i).tdiv 2) = n / 2 ^ (i + 1) := by
            rw [hh, wrap_u64]
            have : 0 ≤ n / 2 ^ (i + 1) := Int.ediv_nonneg hn0 (Int.le_of_lt (Int.pow_pos (by decide)))
            have : n / 2 ^ (i + 1) ≤ n := Int.ediv_le_self _ hn0
            omega
          have hh3 : IntKind.u64.wrap (n / 2 ^ (i + 1)) = n / 2 ^ (i + 1) := by rw [← hh]; rw [hh2, hh]
          go_wp2_with fail
          exact ⟨⟨i + 1, by omega, rfl, by simp, trivial⟩, by simp [intOf]; omega⟩
        · obtain rfl : i = v.toNat := by omega
          go_wp2_with fail
          · rename_i hb
            have hq := heqh.out
            rw [if_pos (by unfold bitOf; simpa using hb)] at hq
            exact ⟨⟨hi, rfl, hq, hB4⟩, by simp only [intOf]; omega⟩
          · rename_i hb
            have hq := heqh.out
            rw [if_neg (by unfold bitOf; simpa using hb)] at hq
            exact ⟨⟨lo, rfl, hq, hB4⟩, by simp only [intOf]; omega⟩
    · have hst := walkC_term n hx
      rw [hst] at heq
      have heqh := Lib.hid heq
      clear hst heq
      by_cases h0 : cur < 0
      · have hd0 : ¬ cur ≥ 0 := by omega
        clear hx
        go_wp2_with fail
        go_ret
        exact ⟨by rw [heqh.out]; rfl, hb3.trans (hB.mono (by omega))⟩
      · have hd0 : cur ≥ 0 := by omega
        have hd1 : ¬ cur < (l.length : Int) := by omega
        clear hx
        go_wp2_with fail
        go_ret
        exact ⟨by rw [heqh.out]; rfl, hb3.trans (hB.mono (by omega))⟩
end Go.Proofs.Yteifllgcpickhaa
