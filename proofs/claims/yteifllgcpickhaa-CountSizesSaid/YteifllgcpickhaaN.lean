/- count: the document's Depth -/
import Derived.Test.YteifllgcpickhaaM
namespace Go.Proofs.Yteifllgcpickhaa
open Go.RowKit

set_option maxRecDepth 100000 in
set_option maxHeartbeats 2000000 in
theorem rdepth_in {lim : Int} {A : Option Addr} {cap : Nat} {l : List Nd} (hW : WF l) (hlen : l.length ≤ 1000) : ∀ (j : Nat) (x : Int) (w : World), j ≤ 13 → 12 - varOf l x < j → NodesAt w A l →
    Calls Try.prog 21 #[.agg #[.int .i64 lim, .slice A l.length cap], .int .i64 x] w fun e w' => e = .returned (.int .i64 (depC l j x)) ∧ Below w.heap.size w w' := by
  intro j
  induction j with
  | zero =>
    intro x w _ h
    exfalso
    have := varOf_le hW x
    omega
  | succ j ih =>
    intro x w hj h hn
    by_cases hx : 0 ≤ x ∧ x < l.length
    · obtain ⟨k, rfl⟩ : ∃ k : Nat, x = k := ⟨x.toNat, by omega⟩
      have hk : k < l.length := by omega
      obtain ⟨v, lo, hi, e, hg, hv, h1, h2, h3, h4, h5, h6⟩ := node_kids hW hx
      have hd : depC l (j + 1) k = 1 + max (depC l j lo) (depC l j hi) := by conv => lhs; unfold depC; rw [if_pos hx, e]
      have hlk : l[k] = ⟨v, lo, hi⟩ := by simpa [hk] using e
      rw [hd]
      obtain ⟨r1, r2⟩ := depC_range l j lo
      obtain ⟨r3, r4⟩ := depC_range l j hi
      have cLo : ∀ W, Below w.heap.size w W → Calls Try.prog 21 #[.agg #[.int .i64 lim, .slice A l.length cap], .int .i64 lo] W fun e w' => e = .returned (.int .i64 (depC l j lo)) ∧ Below W.heap.size W w' := fun W hb => ih lo W (by omega) (by omega) (hn.below (Nat.le_refl _) hb)
      have cHi : ∀ W, Below w.heap.size w W → Calls Try.prog 21 #[.agg #[.int .i64 lim, .slice A l.length cap], .int .i64 hi] W fun e w' => e = .returned (.int .i64 (depC l j hi)) ∧ Below W.heap.size W w' := fun W hb => ih hi W (by omega) (by omega) (hn.below (Nat.le_refl _) hb)
      obtain ⟨lb, rfl, hlb, hcells⟩ := hn (by omega)
      obtain ⟨c0, c1, c2⟩ := hcells k hk
      rw [hlk] at c0 c1 c2
      simp only at c0 c1 c2
      have hk0 : ¬ (k : Int) < 0 := by omega
      have hk1 : ¬ (k : Int) ≥ (l.length : Int) := by omega
      have hk2 : (k : Int) < (l.length : Int) := by omega
      have hk3 : (0 : Int) ≤ (k : Int) := by omega
      have hb3 : Below w.heap.size w (w.alloc (.cells #[.int .i64 lim, .slice (some ⟨lb, 0, none⟩) l.length cap] 27)) := (Below.refl _ w).alloc (Nat.le_refl _) _
      have q := World.alloc_heap_new w (.cells #[.int .i64 lim, .slice (some ⟨lb, 0, none⟩) l.length cap] 27)
      have q0 := cell_of (i := 0) q
      have q1 := cell_of (i := 1) q
      have hw0 : w.heap.size < (w.alloc (.cells #[.int .i64 lim, .slice (some ⟨lb, 0, none⟩) l.length cap] 27)).heap.size := by simp
      have d1 := (hb3.cell (p := ⟨lb, k * 3 + 1, none⟩) hlb).trans c1
      have d2 := (hb3.cell (p := ⟨lb, k * 3 + 2, none⟩) hlb).trans c2
      simp only [List.getElem?_toArray, List.getElem?_cons_succ, List.getElem?_cons_zero] at q0 q1
      obtain ⟨w3, hw3⟩ : ∃ w3, w.alloc (.cells #[.int .i64 lim, .slice (some ⟨lb, 0, none⟩) l.length cap] 27) = w3 := ⟨_, rfl⟩
      rw [hw3] at hb3 q0 q1 hw0 d1 d2
      have hwr : IntKind.i64.wrap (1 + max (depC l j lo) (depC l j hi)) = 1 + max (depC l j lo) (depC l j hi) := by rw [IntKind.wrap_i64]; omega
      clear ih hn hd e hcells c0 c1 c2 q hlk hg hv
      generalize depC l j lo = dl at *
      generalize depC l j hi = dh at *
      have wl : IntKind.i64.wrap (dl + 1) = dl + 1 := by rw [IntKind.wrap_i64]; omega
      have wh : IntKind.i64.wrap (dh + 1) = dh + 1 := by rw [IntKind.wrap_i64]; omega
      have hkeep := Lib.hid (p := ∀ W W' : World, (Below w3.heap.size w3 W ∧ W.cell? ⟨w.heap.size, 0, none⟩ = some (.int .i64 lim) ∧ W.cell? ⟨w.heap.size, 1, none⟩ = some (.slice (some ⟨lb, 0, none⟩) l.length cap) ∧ W.cell? ⟨lb, k * 3 + 1, none⟩ = some (.int .i64 lo) ∧ W.cell? ⟨lb, k * 3 + 2, none⟩ = some (.int .i64 hi)) →
         Below W.heap.size W W' → (Below w3.heap.size w3 W' ∧ W'.cell? ⟨w.heap.size, 0, none⟩ = some (.int .i64 lim) ∧ W'.cell? ⟨w.heap.size, 1, none⟩ = some (.slice (some ⟨lb, 0, none⟩) l.length cap) ∧ W'.cell? ⟨lb, k * 3 + 1, none⟩ = some (.int .i64 lo) ∧ W'.cell? ⟨lb, k * 3 + 2, none⟩ = some (.int .i64 hi))) (fun W W' h hb =>
        have g1 : w.heap.size < W.heap.size := Nat.lt_of_lt_of_le hw0 h.1.size
        have g2 : lb < W.heap.size := by omega
        ⟨h.1.trans (hb.mono h.1.size), (hb.cell g1).trans h.2.1, (hb.cell g1).trans h.2.2.1, (hb.cell g2).trans h.2.2.2.1, (hb.cell g2).trans h.2.2.2.2⟩)
      have hr0 : Below w3.heap.size w3 w3.drew := (Below.refl w3.heap.size w3).drew
      have hws : w.heap.size ≤ w3.heap.size := by omega
      have hlw : lb < w3.heap.size := by omega
      go_enter Try.func21, Try.ntmps21
      go_wp2_with fail
      go_region_held3 (fun W => Below w3.heap.size w3 W ∧ W.cell? ⟨w.heap.size, 0, none⟩ = some (.int .i64 lim) ∧ W.cell? ⟨w.heap.size, 1, none⟩ = some (.slice (some ⟨lb, 0, none⟩) l.length cap) ∧ W.cell? ⟨lb, k * 3 + 1, none⟩ = some (.int .i64 lo) ∧ W.cell? ⟨lb, k * 3 + 2, none⟩ = some (.int .i64 hi))
        (first | assumption | exact hkeep.out _ _ (by assumption) hb | (go_keep; done))
        (first | (go_at_call 21; refine (cLo _ (hb3.trans (((‹Below w3.heap.size w3 _ ∧ _›).1).mono hws))).mono ?_; rintro e w' ⟨rfl, hb⟩))
      have hS := ‹Below w3.heap.size w3 _ ∧ _ ∧ _›
      clear hr0
      go_wp2_with fail
      go_region_held3 (fun W => Below w3.heap.size w3 W ∧ W.cell? ⟨w.heap.size, 0, none⟩ = some (.int .i64 lim) ∧ W.cell? ⟨w.heap.size, 1, none⟩ = some (.slice (some ⟨lb, 0, none⟩) l.length cap) ∧ W.cell? ⟨lb, k * 3 + 1, none⟩ = some (.int .i64 lo) ∧ W.cell? ⟨lb, k * 3 + 2, none⟩ = some (.int .i64 hi))
        (first | assumption | exact hkeep.out _ _ (by assumption) hb2 | exact hkeep.out _ _ hS ((Below.refl _ _).drew))
        (first | (go_at_call 21; refine (cHi _ (hb3.trans (((‹Below w3.heap.size w3 _ ∧ _›).1).mono hws))).mono ?_; rintro e w'' ⟨rfl, hb2⟩))
      have hh := (‹Below w3.heap.size w3 _ ∧ _›).1
      by_cases hm : dh > dl
      · have hmx : 1 + max dl dh = dh + 1 := by omega
        go_wp2_with fail
        go_ret
        exact ⟨by show Ending.returned (Value.int .i64 (dh + 1)) = _; congr 2; omega, hb3.trans (hh.mono hws)⟩
      · have hmx : 1 + max dl dh = dl + 1 := by omega
        go_wp2_with fail
        go_ret
        exact ⟨by show Ending.returned (Value.int .i64 (dl + 1)) = _; congr 2, hb3.trans (hh.mono hws)⟩
    · have hd : depC l (j + 1) x = 0 := by conv => lhs; unfold depC; rw [if_neg hx]
      rw [hd]
      clear hd ih hn
      by_cases h0 : x < 0
      · clear hx
        go_enter Try.func21, Try.ntmps21
        go_wp2_with fail
        go_ret
        exact ⟨rfl, (Below.refl _ _).alloc (Nat.le_refl _) _⟩
      · have h1 : x ≥ (l.length : Int) := by omega
        clear hx
        go_enter Try.func21, Try.ntmps21
        go_wp2_with fail
        go_ret
        exact ⟨rfl, (Below.refl _ _).alloc (Nat.le_refl _) _⟩
end Go.Proofs.Yteifllgcpickhaa
