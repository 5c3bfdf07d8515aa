/- count: the walk of CountSums -/
import Derived.Test.YteifllgcpickhaaLW
import Derived.Test.YteifllgcpickhaaP4
namespace Go.Proofs.Yteifllgcpickhaa
open Go.RowKit

set_option maxRecDepth 100000 in
set_option maxHeartbeats 2000000 in
theorem sums_long (A : Option Addr) (cap : Nat) (ops : List Nd) (f : Int) (w : World) (hr : OpsRd w A ops) (hm : ops.length ≤ maxLen) (h24 : 24 < ops.length) :
    Calls Try.prog 6 #[.slice A ops.length cap, .int .i64 f] w (LawEnd w) := by
  have hal := alive_any
  have hmm := hm
  unfold maxLen at hmm
  have hd : (ops.length : Int) > 24 := by omega
  have hd2 : decide (ops.length ≤ 24) = false := by simp; omega
  have hfin := Lib.hid (law_fin w)
  generalize LawEnd w = R at *
  by_cases h60 : 60 < ops.length
  · have cB := build_long A cap ops w h60 hm
    go_enter Try.func6, Try.ntmps6
    go_wp2_with (first
      | (go_at_call 9; refine cB.mono ?_; clear cB; rintro e w2 ⟨rfl, hb⟩)
      | (go_at_call 11; refine (hal _).mono ?_; rintro e w4 ⟨rfl, hb4⟩))
    exact hfin.out _ ((hb.alloc hb.size _).trans (hb4.mono (hb.alloc hb.size _).size))
  · have cB := build_any A cap ops w (by omega) hr
    unfold BuildEnd at cB
    generalize bld ops = L at *
    go_enter Try.func6, Try.ntmps6
    go_wp2_with (first
      | (go_at_call 9; refine cB.mono ?_; clear cB; rintro e w2 ⟨b, A', c', rfl, hA2, hR2, hb⟩)
      | (go_at_call 10; refine (few_any _ _ _ _ hm).mono ?_; rw [hd2]; rintro e w3 ⟨rfl, rfl⟩)
      | (go_at_call 11; refine (hal _).mono ?_; rintro e w4 ⟨rfl, hb4⟩))
    exact hfin.out _ ((hb.alloc hb.size _).trans (hb4.mono (hb.alloc hb.size _).size))

/-- what Values answers, as it is read -/
def IntsRd (w : World) (xs : List Int) (e : Ending) (w' : World) : Prop :=
  ((e = .returned (.slice none 0 0) ∧ xs = []) ∨ ∃ g cap, e = .returned (.slice (some ⟨g, 0, none⟩) xs.length cap) ∧ g < w'.heap.size ∧ ∀ i (hi : i < xs.length), w'.cell? ⟨g, i, none⟩ = some (.int .i64 xs[i])) ∧ Below w.heap.size w w'
theorem values_rd {b : Nat} {l : List Nd} {w : World} (f : Int) (hA : ArRd w b l) (hW : WF l) : Calls Try.prog 16 #[.pointer (some ⟨b, 0, none⟩), .int .i64 f] w (IntsRd w (sortV l f)) := by
  refine (values_any sort_ok b l f w hA hW).mono ?_
  rintro e w' ⟨v, rfl, ho, hb⟩
  refine ⟨?_, hb⟩
  rcases ints_read ho with ⟨h1, h2⟩ | ⟨g, cap, h1, _, h2, h3⟩
  · exact .inl ⟨by rw [h1], h2⟩
  · exact .inr ⟨g, cap, by rw [h1]; rfl, h2, h3⟩
theorem satR_rng {l : List Nd} (hW : WF l) {f : Int} (hh : hasB l f = true) (v : Int) : 0 ≤ satR l f v 12 ∧ satR l f v 12 ≤ 4096 := by
  have hg : ∀ x ∈ reach l f, ¬ badN l 12 x := fun x hx hb => by
    obtain ⟨h0, hv⟩ := hb
    have hr := hasB_range (reach_has hW hh x hx)
    obtain ⟨v, lo, hi, e, _, hv', _, h2, _⟩ := node_kids hW ⟨h0, hr.2⟩
    omega
  rw [show (12 : Int) = ((12 : Nat) : Int) from rfl, satR_count hW f v 12 (by omega) hh hg]
  have := List.countP_le_length (p := fun x => decide (tellN l f x = v)) (l := List.range (2 ^ 12))
  rw [List.length_range] at this
  omega
/-- the first k of them, together -/
noncomputable def psum (l : List Nd) (f : Int) (xs : List Int) (k : Nat) : Int := ((xs.take k).map (fun v => satR l f v 12)).sum
theorem psum_succ (l : List Nd) (f : Int) (xs : List Int) (k : Nat) (h : k < xs.length) : psum l f xs (k + 1) = psum l f xs k + satR l f xs[k] 12 := by
  unfold psum
  rw [List.take_succ_eq_append_getElem h, List.map_append, List.sum_append]
  simp only [List.map_cons, List.map_nil, List.sum_cons, List.sum_nil, Int.add_zero]
theorem psum_rng {l : List Nd} (hW : WF l) {f : Int} (hh : hasB l f = true) (xs : List Int) : ∀ k, k ≤ xs.length → 0 ≤ psum l f xs k ∧ psum l f xs k ≤ 4096 * k
  | 0, _ => by simp [psum]
  | k + 1, h => by
    have := psum_rng hW hh xs k (by omega)
    have := satR_rng hW hh xs[k]
    rw [psum_succ l f xs k (by omega)]
    push_cast
    omega

set_option maxRecDepth 100000 in
set_option maxHeartbeats 4000000 in
theorem sums_short (A : Option Addr) (cap : Nat) (ops : List Nd) (f : Int) (w : World) (hr : OpsRd w A ops) (h24 : ops.length ≤ 24) :
    Calls Try.prog 6 #[.slice A ops.length cap, .int .i64 f] w (LawEnd w) := by
  have hal := alive_any
  have hd : ¬ (ops.length : Int) > 24 := by omega
  have hd2 : decide (ops.length ≤ 24) = true := by simp; omega
  have hm : ops.length ≤ maxLen := by unfold maxLen; omega
  have hfin := Lib.hid (law_fin w)
  generalize LawEnd w = R at *
  have cB := build_any A cap ops w (by omega) hr
  obtain ⟨hWF, hL⟩ := bld_short ops
  unfold BuildEnd at cB
  generalize bld ops = L at *
  cases hh : hasB L f with
  | false =>
    have cH : ∀ W b, ArRd W b L → Calls Try.prog 24 #[.pointer (some ⟨b, 0, none⟩), .int .i64 f] W fun e w' => e = .returned (.bool false) ∧ W = w' := fun W b h => by
      have := has_any b L f W h
      rwa [hh] at this
    go_enter Try.func6, Try.ntmps6
    go_wp2_with (first
      | (go_at_call 9; refine cB.mono ?_; clear cB; rintro e w2 ⟨b, A', c', rfl, hA2, hR2, hb⟩; have hb3 := hb.alloc hb.size (.cells #[.int .i64 60, .slice A' L.length c'] 27); have hA3 := hA2.below (Nat.le_refl _) ((Below.refl _ _).alloc (Nat.le_refl _) (.cells #[.int .i64 60, .slice A' L.length c'] 27)))
      | (go_at_call 10; refine (few_any _ _ _ _ hm).mono ?_; rw [hd2]; rintro e w3 ⟨rfl, rfl⟩)
      | (go_at_call 24; refine (cH _ _ hA3).mono ?_; clear cH; rintro e w4 ⟨rfl, rfl⟩)
      | (go_at_call 11; refine (hal _).mono ?_; rintro e w5 ⟨rfl, hb5⟩))
    exact hfin.out _ (hb3.trans (hb5.mono hb3.size))
  | true =>
    have cH : ∀ W b, ArRd W b L → Calls Try.prog 24 #[.pointer (some ⟨b, 0, none⟩), .int .i64 f] W fun e w' => e = .returned (.bool true) ∧ W = w' := fun W b h => by
      have := has_any b L f W h
      rwa [hh] at this
    have hlen := sortV_len (l := L) f
    have hsp := Lib.hid (sums_plain hWF hh)
    have hrngs := Lib.hid (fun v => satR_rng hWF hh v)
    have hpr := Lib.hid (psum_rng hWF hh (sortV L f))
    have cV : ∀ W b, ArRd W b L → Calls Try.prog 16 #[.pointer (some ⟨b, 0, none⟩), .int .i64 f] W (IntsRd W (sortV L f)) := fun W b h => values_rd f h hWF
    have cS : ∀ W b v, ArRd W b L → Calls Try.prog 14 #[.pointer (some ⟨b, 0, none⟩), .int .i64 f, .int .i64 v, .int .i64 12] W fun e w' => e = .returned (.int .i64 (satR L f v 12)) ∧ Below W.heap.size W w' := fun W b v h => sat_any b L f v 12 W h hWF
    clear hh
    generalize sortV L f = xs at *
    go_enter Try.func6, Try.ntmps6
    go_wp2_with (first
      | (go_at_call 9; refine cB.mono ?_; clear cB; rintro e w2 ⟨b, A', c', rfl, hA2, hR2, hb⟩; have hb3 := hb.alloc hb.size (.cells #[.int .i64 60, .slice A' L.length c'] 27); have hA3 := hA2.below (Nat.le_refl _) ((Below.refl _ _).alloc (Nat.le_refl _) (.cells #[.int .i64 60, .slice A' L.length c'] 27)))
      | (go_at_call 10; refine (few_any _ _ _ _ hm).mono ?_; rw [hd2]; rintro e w3 ⟨rfl, rfl⟩)
      | (go_at_call 24; refine (cH _ _ hA3).mono ?_; clear cH; rintro e w4 ⟨rfl, rfl⟩)
      | (go_at_call 16; refine (cV _ _ hA3).mono ?_; clear cV; rintro e w5 ⟨(⟨rfl, hnil⟩ | ⟨g, cc, rfl, hg, hcells⟩), hb5⟩))
    · exfalso
      subst hnil
      have := hsp.out
      simp at this
    · have hcellsh := Lib.hid hcells
      have hb6 := hb3.trans (hb5.mono hb3.size)
      have hA5 := hA3.below (Nat.le_refl _) hb5
      clear hcells
      go_loopw [8, 35] (fun t p wr => ∃ (k : Nat), k ≤ xs.length ∧ p = .int .i64 k ∧ t = .int .i64 (psum L f xs k) ∧ Below w5.heap.size w5 wr) (fun _ p _ => xs.length - (intOf p).toNat)
      case atStart => exact ⟨0, by omega, rfl, by simp [psum], Below.refl _ _⟩
      case round =>
        obtain ⟨k, hk, rfl, rfl, hB⟩ := hrel
        have hpk := hpr.out k hk
        by_cases hkl : k < xs.length
        · have e0 := hcellsh.out k hkl
          replace e0 := (hB.cell (p := ⟨g, k, none⟩) hg).trans e0
          have hsn := Lib.hid (psum_succ L f xs k hkl)
          have hk0 : (k : Int) < (xs.length : Int) := by omega
          have hk1 : (0 : Int) ≤ (k : Int) := by omega
          have hA6 := hA5.below (Nat.le_refl _) hB
          have hsr := hrngs.out xs[k]
          have hB6 := hB.size
          generalize hv : xs[k] = v at *
          have hcs := cS wr b v hA6
          clear hv
          generalize psum L f xs k = s at *
          generalize satR L f v 12 = sv at *
          go_wp2_with (refine hcs.mono ?_; clear hcs; rintro e w7 ⟨rfl, hb7⟩)
          go_roundw
          case rel => exact ⟨k + 1, by omega, by go_num, by rw [hsn.out], hB.trans (hb7.mono hB6)⟩
          case measure => simp [intOf]; omega
        · obtain rfl : k = xs.length := by omega
          have hp : psum L f xs xs.length = 4096 := by unfold psum; rw [List.take_length]; exact hsp.out
          rw [hp]
          clear hp hpk
          have hb7' := hb6.trans (hB.mono hb6.size)
          go_wp2_with (go_at_call 11; refine (hal _).mono ?_; rintro e w9 ⟨rfl, hb9⟩)
          exact hfin.out _ (hb7'.trans (hb9.mono hb7'.size))

theorem sums_law (A : Option Addr) (cap : Nat) (ops : List Nd) (f : Int) (w : World) (hr : OpsRd w A ops) (hm : ops.length ≤ maxLen ∧ ops.length ≤ cap ∧ cap ≤ maxLen) :
    Calls Try.prog 6 #[.slice A ops.length cap, .int .i64 f] w fun e w' => e = .returned (.bool true) ∧ Below w.heap.size w w' := by
  by_cases h : 24 < ops.length
  · exact sums_long A cap ops f w hr hm.1 h
  · exact sums_short A cap ops f w hr (by omega)
end Go.Proofs.Yteifllgcpickhaa
