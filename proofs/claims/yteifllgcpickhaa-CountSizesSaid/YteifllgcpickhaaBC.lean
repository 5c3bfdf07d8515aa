/- count: alive -/
import Derived.Test.YteifllgcpickhaaBB
namespace Go.Proofs.Yteifllgcpickhaa
open Go.RowKit

def two : List Nd := [⟨2, -1, -2⟩, ⟨0, -1, 0⟩]
theorem two_bld : bld two = two := by decide
theorem two_reach : reach two 1 = [1, -1, 0, -2] := by decide
theorem two_cubes : cubes two 1 1 = [(5, 5)] := by decide
theorem two_one : oneC [(5, 5)] 1 = (5, true) := by decide
theorem two_vals : vals [1, -1, 0, -2] = [0, 1] := by decide
theorem two_cnt : cntN [1, -1, 0, -2] = 2 := by decide
theorem two_dep : depC two 13 1 = 2 := by decide
theorem two_satF : satF two 1 3 1 * 2 ^ (lvl two 3 1).toNat = 2 := by decide
theorem two_sat : satR two 1 1 3 = 2 := by
  unfold satR
  rw [if_neg, two_satF]
  rintro (h | h | h | ⟨x, hx, hb⟩)
  · omega
  · omega
  · exact absurd h (by decide)
  · rw [two_reach] at hx
    simp only [List.mem_cons, List.not_mem_nil, or_false] at hx
    unfold badN at hb
    rcases hx with rfl | rfl | rfl | rfl
    · exact absurd hb (by decide)
    · exact absurd hb (by decide)
    · exact absurd hb (by decide)
    · exact absurd hb (by decide)
theorem two_wf : WF two := by
  have := (bld_facts two).1
  rwa [two_bld] at this
theorem two_sort : ([0, 1] : List Int).mergeSort (fun x y => decide (x ≤ y)) = [0, 1] := List.mergeSort_of_pairwise (by decide)

/-- a slice of ints as it is read -/
theorem ints_read {w : World} {n0 : Nat} {v : Value} {xs : List Int} (h : OwnInts w n0 v xs) : (v = .slice none 0 0 ∧ xs = []) ∨ ∃ g cap, v = .slice (some ⟨g, 0, none⟩) xs.length cap ∧ n0 ≤ g ∧ g < w.heap.size ∧ ∀ i (hi : i < xs.length), w.cell? ⟨g, i, none⟩ = some (.int .i64 xs[i]) := by
  rcases h.2 with ⟨h1, h2⟩ | ⟨g, cap, cur, h1, h2, h3, h4, h5, h6, h7⟩
  · exact .inl ⟨h1, List.eq_nil_of_length_eq_zero h2⟩
  · refine .inr ⟨g, cap, h1, h2, (Array.getElem?_eq_some_iff.1 h3).1, fun i hi => ?_⟩
    rw [cell_of h3, ← Array.getElem?_toList, ← List.getElem?_take_of_lt (j := xs.length * 1) (by omega), h7]
    simp [hi]

section
variable {b : Nat} {w : World}
theorem a_one (hA : ArRd w b two) : Calls Try.prog 12 #[.pointer (some ⟨b, 0, none⟩), .int .i64 1, .int .i64 1] w fun e w' => e = .returned (.tuple #[.int .u64 5, .bool true]) ∧ Below w.heap.size w w' := by
  have := one_any b two 1 1 w hA two_wf
  rw [two_cubes, show [((5 : Int), (5 : Int))].length = 1 from rfl, two_one] at this
  exact this
theorem a_cubes (hA : ArRd w b two) : Calls Try.prog 22 #[.pointer (some ⟨b, 0, none⟩), .int .i64 1, .int .i64 1] w fun e w' => ∃ g cap, e = .returned (.slice (some ⟨g, 0, none⟩) 1 cap) ∧ g < w'.heap.size ∧ w'.cell? ⟨g, 0, none⟩ = some (.int .u64 5) ∧ w'.cell? ⟨g, 1, none⟩ = some (.int .u64 5) ∧ Below w.heap.size w w' := by
  have h := cubes_any b two 1 1 w hA two_wf
  rw [two_cubes] at h
  refine h.mono ?_
  rintro e w' ⟨v, rfl, ho, hb⟩
  rcases cubes_read ho with ⟨_, h2⟩ | ⟨g, cap, rfl, _, hg, hc⟩
  · cases h2
  · have := hc 0 (by decide)
    exact ⟨g, cap, rfl, hg, this.1, this.2, hb⟩
theorem a_values (hA : ArRd w b two) : Calls Try.prog 16 #[.pointer (some ⟨b, 0, none⟩), .int .i64 1] w fun e w' => ∃ g cap, e = .returned (.slice (some ⟨g, 0, none⟩) 2 cap) ∧ g < w'.heap.size ∧ w'.cell? ⟨g, 1, none⟩ = some (.int .i64 1) ∧ Below w.heap.size w w' := by
  have h := values_any sort_ok b two 1 w hA two_wf
  rw [two_reach, two_vals, two_sort] at h
  refine h.mono ?_
  rintro e w' ⟨v, rfl, ho, hb⟩
  rcases ints_read ho with ⟨_, h2⟩ | ⟨g, cap, rfl, _, hg, hc⟩
  · cases h2
  · exact ⟨g, cap, rfl, hg, hc 1 (by decide), hb⟩
theorem a_sat (hA : ArRd w b two) : Calls Try.prog 14 #[.pointer (some ⟨b, 0, none⟩), .int .i64 1, .int .i64 1, .int .i64 3] w fun e w' => e = .returned (.int .i64 2) ∧ Below w.heap.size w w' := by
  have := sat_any b two 1 1 3 w hA two_wf
  rwa [two_sat] at this
theorem a_size (hA : ArRd w b two) : Calls Try.prog 18 #[.pointer (some ⟨b, 0, none⟩), .int .i64 1] w fun e w' => e = .returned (.int .i64 2) ∧ Below w.heap.size w w' := by
  have := size_any b two 1 w hA two_wf
  rwa [two_reach, two_cnt] at this
theorem a_depth (hA : ArRd w b two) : Calls Try.prog 20 #[.pointer (some ⟨b, 0, none⟩), .int .i64 1] w fun e w' => e = .returned (.int .i64 2) ∧ Below w.heap.size w w' := by
  have := depth_in two_wf 13 1 w (by omega) (by have := varOf_nonneg two_wf 1; omega) hA
  rwa [two_dep] at this
end

theorem two_ops (w : World) : OpsRd (w.alloc (.cells #[.int .i64 2, .int .i64 (-1), .int .i64 (-2), .int .i64 0, .int .i64 (-1), .int .i64 0] 60)) (some ⟨w.heap.size, 0, none⟩) two := by
  intro _
  have q := World.alloc_heap_new w (.cells #[.int .i64 2, .int .i64 (-1), .int .i64 (-2), .int .i64 0, .int .i64 (-1), .int .i64 0] 60)
  refine ⟨w.heap.size, 0, rfl, by simp, fun i hi => ?_⟩
  match i, hi with
  | 0, _ => exact ⟨cell_of (i := 0) q, cell_of (i := 1) q, cell_of (i := 2) q⟩
  | 1, _ => exact ⟨cell_of (i := 3) q, cell_of (i := 4) q, cell_of (i := 5) q⟩

set_option maxRecDepth 100000 in
set_option maxHeartbeats 2000000 in
theorem alive_any (w : World) : Calls Try.prog 11 #[] w fun e w' => e = .returned (.bool true) ∧ Below w.heap.size w w' := by
  have cB := (build_any (some ⟨w.heap.size, 0, none⟩) 2 two (w.alloc (.cells #[.int .i64 2, .int .i64 (-1), .int .i64 (-2), .int .i64 0, .int .i64 (-1), .int .i64 0] 60)) (by decide) (two_ops w))
  have hw1 : Below w.heap.size w (w.alloc (.cells #[.int .i64 2, .int .i64 (-1), .int .i64 (-2), .int .i64 0, .int .i64 (-1), .int .i64 0] 60)) := (Below.refl _ _).alloc (Nat.le_refl _) _
  have hsz : w.heap.size ≤ (w.alloc (.cells #[.int .i64 2, .int .i64 (-1), .int .i64 (-2), .int .i64 0, .int .i64 (-1), .int .i64 0] 60)).heap.size := hw1.size
  unfold BuildEnd at cB
  rw [two_bld, show two.length = 2 from rfl] at cB
  obtain ⟨w1, hw⟩ : ∃ w1, w.alloc (.cells #[.int .i64 2, .int .i64 (-1), .int .i64 (-2), .int .i64 0, .int .i64 (-1), .int .i64 0] 60) = w1 := ⟨_, rfl⟩
  rw [hw] at cB hw1 hsz
  go_enter Try.func11, Try.ntmps11
  go_wp2_with (first
    | (go_at_call 9; refine cB.mono ?_; clear cB; rintro e w2 ⟨b, A, cap, rfl, hA2, hR2, hB2⟩; have hA3 := hA2.below (Nat.le_refl _) ((Below.refl _ _).alloc (Nat.le_refl _) (.cells #[.int .i64 60, .slice A 2 cap] 27)); have hB3 := (hw1.trans (hB2.mono hsz)).alloc (Nat.le_trans hsz hB2.size) (.cells #[.int .i64 60, .slice A 2 cap] 27); clear hR2)
    | (go_at_call 12; refine (a_one hA3).mono ?_; rintro e w4 ⟨rfl, hb4⟩; have hA4 := hA3.below (Nat.le_refl _) hb4; have hB4 := hB3.trans (hb4.mono hB3.size))
    | (go_at_call 22; refine (a_cubes hA4).mono ?_; rintro e w5 ⟨g, cap5, rfl, hg5, g0, g1, hb5⟩; have hA5 := hA4.below (Nat.le_refl _) hb5; have hB5 := hB4.trans (hb5.mono hB4.size))
    | (go_at_call 16; refine (a_values hA5).mono ?_; rintro e w6 ⟨g', cap6, rfl, hg6, g2, hb6⟩; have hA6 := hA5.below (Nat.le_refl _) hb6; have hB6 := hB5.trans (hb6.mono hB5.size); have p0 := (hb6.cell (p := ⟨g, 0, none⟩) hg5).trans g0; have p1 := (hb6.cell (p := ⟨g, 1, none⟩) hg5).trans g1; have hg5' := Nat.lt_of_lt_of_le hg5 hb6.size)
    | (go_at_call 14; refine (a_sat hA6).mono ?_; rintro e w7 ⟨rfl, hb7⟩; have hA7 := hA6.below (Nat.le_refl _) hb7; have hB7 := hB6.trans (hb7.mono hB6.size); have s0 := (hb7.cell (p := ⟨g, 0, none⟩) hg5').trans p0; have s1 := (hb7.cell (p := ⟨g, 1, none⟩) hg5').trans p1; have s2 := (hb7.cell (p := ⟨g', 1, none⟩) hg6).trans g2; have hg6' := Nat.lt_of_lt_of_le hg6 hb7.size)
    | (go_at_call 18; refine (a_size hA7).mono ?_; rintro e w8 ⟨rfl, hb8⟩; have hA8 := hA7.below (Nat.le_refl _) hb8; have hB8 := hB7.trans (hb8.mono hB7.size); have t2 := (hb8.cell (p := ⟨g', 1, none⟩) hg6').trans s2; have hg6'' := Nat.lt_of_lt_of_le hg6' hb8.size)
    | (go_at_call 20; refine (a_depth hA8).mono ?_; rintro e w9 ⟨rfl, hb9⟩; have hB9 := hB8.trans (hb9.mono hB8.size); have t3 := (hb9.cell (p := ⟨g', 1, none⟩) hg6'').trans t2))
  go_ret
  exact ⟨rfl, hB9⟩
end Go.Proofs.Yteifllgcpickhaa
