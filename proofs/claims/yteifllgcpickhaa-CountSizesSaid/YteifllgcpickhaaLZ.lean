/- count: the walk of CountSizes -/
import Derived.Test.YteifllgcpickhaaLS
import Derived.Test.YteifllgcpickhaaRV
namespace Go.Proofs.Yteifllgcpickhaa
open Go.RowKit

set_option maxRecDepth 100000 in
set_option maxHeartbeats 2000000 in
theorem sizes_long (A : Option Addr) (cap : Nat) (ops : List Nd) (f : Int) (w : World) (hr : OpsRd w A ops) (hm : ops.length ≤ maxLen) (h24 : 24 < ops.length) :
    Calls Try.prog 4 #[.slice A ops.length cap, .int .i64 f] w (LawEnd w) := by
  have hal := alive_any
  have hmm := hm
  unfold maxLen at hmm
  have hd : (ops.length : Int) > 24 := by omega
  have hd2 : decide (ops.length ≤ 24) = false := by simp; omega
  have hfin := Lib.hid (law_fin w)
  generalize LawEnd w = R at *
  by_cases h60 : 60 < ops.length
  · have cB := build_long A cap ops w h60 hm
    go_enter Try.func4, Try.ntmps4
    go_wp2_with (first
      | (go_at_call 9; refine cB.mono ?_; clear cB; rintro e w2 ⟨rfl, hb⟩)
      | (go_at_call 11; refine (hal _).mono ?_; rintro e w4 ⟨rfl, hb4⟩))
    exact hfin.out _ ((hb.alloc hb.size _).trans (hb4.mono (hb.alloc hb.size _).size))
  · have cB := build_any A cap ops w (by omega) hr
    unfold BuildEnd at cB
    generalize bld ops = L at *
    go_enter Try.func4, Try.ntmps4
    go_wp2_with (first
      | (go_at_call 9; refine cB.mono ?_; clear cB; rintro e w2 ⟨b, A', c', rfl, hA2, hR2, hb⟩)
      | (go_at_call 10; refine (few_any _ _ _ _ hm).mono ?_; rw [hd2]; rintro e w3 ⟨rfl, rfl⟩)
      | (go_at_call 11; refine (hal _).mono ?_; rintro e w4 ⟨rfl, hb4⟩))
    exact hfin.out _ ((hb.alloc hb.size _).trans (hb4.mono (hb.alloc hb.size _).size))

/-- a slice of ints, whatever its spare room -/
def IntsV (w : World) (v : Value) (xs : List Int) : Prop :=
  (v = .slice none 0 0 ∧ xs = []) ∨ ∃ g cap, v = .slice (some ⟨g, 0, none⟩) xs.length cap ∧ g < w.heap.size ∧ ∀ i (hi : i < xs.length), w.cell? ⟨g, i, none⟩ = some (.int .i64 xs[i])
theorem IntsV.below {w w' : World} {v : Value} {xs : List Int} (h : IntsV w v xs) (hb : Below w.heap.size w w') : IntsV w' v xs := by
  rcases h with h | ⟨g, cap, h1, h2, h3⟩
  · exact .inl h
  · exact .inr ⟨g, cap, h1, Nat.lt_of_lt_of_le h2 hb.size, fun i hi => (hb.cell (p := ⟨g, i, none⟩) h2).trans (h3 i hi)⟩
theorem intsV_of {w : World} {n0 : Nat} {v : Value} {xs : List Int} (h : OwnInts w n0 v xs) : IntsV w v xs := by
  rcases ints_read h with h | ⟨g, c, h1, _, h2, h3⟩
  · exact .inl h
  · exact .inr ⟨g, c, h1, h2, h3⟩

set_option maxRecDepth 100000 in
set_option maxHeartbeats 8000000 in
theorem sizes_short (A : Option Addr) (cap : Nat) (ops : List Nd) (f : Int) (w : World) (hr : OpsRd w A ops) (h24 : ops.length ≤ 24) :
    Calls Try.prog 4 #[.slice A ops.length cap, .int .i64 f] w (LawEnd w) := by
  have hal := alive_any
  have hd : ¬ (ops.length : Int) > 24 := by omega
  have hd2 : decide (ops.length ≤ 24) = true := by simp; omega
  have hm : ops.length ≤ maxLen := by unfold maxLen; omega
  have hfin := Lib.hid (law_fin w)
  generalize LawEnd w = R at *
  have cB := build_any A cap ops w (by omega) hr
  obtain ⟨hWF, hL⟩ := bld_short ops
  unfold BuildEnd at cB
  generalize bld ops = L at *
  have hlen := sortV_len (l := L) f
  have h12 := varOf_nonneg hWF f
  have cV : ∀ W b, ArRd W b L → Calls Try.prog 16 #[.pointer (some ⟨b, 0, none⟩), .int .i64 f] W fun e w' => ∃ v, e = .returned v ∧ IntsV w' v (sortV L f) ∧ Below W.heap.size W w' := fun W b h => (values_any sort_ok b L f W h hWF).mono (by
    rintro e w' ⟨v, he, ho, hb⟩
    exact ⟨v, he, intsV_of ho, hb⟩)
  have cR : ∀ W A' c', RefAt W A' c' L → Calls Try.prog 17 #[.agg #[.int .i64 60, .slice A' L.length c'], .int .i64 f] W fun e w' => ∃ v, e = .returned v ∧ IntsV w' v (sortV L f) ∧ Below W.heap.size W w' := fun W A' c' h => (rvalues_any hWF hL f W h.nodes).mono (by
    rintro e w' ⟨v, he, ho, hb⟩
    exact ⟨v, he, intsV_of ho, hb⟩)
  have cS1 : ∀ W b, ArRd W b L → _ := fun W b h => size_any b L f W h hWF
  have cS2 : ∀ W A' c', RefAt W A' c' L → _ := fun W A' c' h => rsize_any (lim := 60) (A := A') (cap := c') hWF hL f W h.nodes
  have cD1 : ∀ W b, ArRd W b L → _ := fun W b h => depth_in hWF 13 f W (by omega) (by omega) h
  have cD2 : ∀ W A' c', RefAt W A' c' L → _ := fun W A' c' h => rdepth_in (lim := 60) (A := A') (cap := c') hWF hL 13 f W (by omega) (by omega) h.nodes
  generalize sortV L f = xs at *
  generalize cntN (reach L f) = cn at *
  generalize depC L 13 f = dc at *
  go_enter Try.func4, Try.ntmps4
  go_wp2_with (first
    | (go_at_call 9; refine cB.mono ?_; clear cB; rintro e w2 ⟨b, A', c', rfl, hA2, hR2, hb⟩)
    | (go_at_call 10; refine (few_any _ _ _ _ hm).mono ?_; rw [hd2]; rintro e w3 ⟨rfl, rfl⟩))
  have hb3 := hb.alloc hb.size (.cells #[.int .i64 60, .slice A' L.length c'] 27)
  have hbx : Below w2.heap.size w2 (w2.alloc (.cells #[.int .i64 60, .slice A' L.length c'] 27)) := (Below.refl _ _).alloc (Nat.le_refl _) _
  have hA3 := hA2.below (Nat.le_refl _) hbx
  have hR3 := hR2.below hbx
  obtain ⟨_, q0, q1, hqs⟩ := ref_box w2 60 A' L c'
  clear hbx hA2 hR2 hb h12
  generalize w2.alloc (.cells #[.int .i64 60, .slice A' L.length c'] 27) = W at *
  generalize w2.heap.size = rb at *
  have hkeep := Lib.hid (p := ∀ W1 W2 : World, (fun W' => Below W.heap.size W W' ∧ W'.cell? ⟨rb, 0, none⟩ = some (.int .i64 60) ∧ W'.cell? ⟨rb, 1, none⟩ = some (.slice A' L.length c')) W1 → Below W1.heap.size W1 W2 → (fun W' => Below W.heap.size W W' ∧ W'.cell? ⟨rb, 0, none⟩ = some (.int .i64 60) ∧ W'.cell? ⟨rb, 1, none⟩ = some (.slice A' L.length c')) W2) (fun W1 W2 h hb =>
    have g1 : rb < W1.heap.size := Nat.lt_of_lt_of_le hqs h.1.size
    ⟨h.1.trans (hb.mono h.1.size), (hb.cell (p := ⟨rb, 0, none⟩) g1).trans h.2.1, (hb.cell (p := ⟨rb, 1, none⟩) g1).trans h.2.2⟩)
  have hr0 : Below W.heap.size W W.drew := (Below.refl _ _).drew
  have hA3h := Lib.hid hA3
  have hR3h := Lib.hid hR3
  clear hA3 hR3
  go_region_held3 (fun W' => Below W.heap.size W W' ∧ W'.cell? ⟨rb, 0, none⟩ = some (.int .i64 60) ∧ W'.cell? ⟨rb, 1, none⟩ = some (.slice A' L.length c'))
    (first | assumption | exact hkeep.out _ _ (by assumption) hbA | exact hkeep.out _ _ (by assumption) hbB | (go_keep; done))
    (first
      | (go_at_call 16; refine (cV _ _ (hA3h.out.below (Nat.le_refl _) ((‹Below W.heap.size W _ ∧ _›).1))).mono ?_; rintro e w5 ⟨v1, rfl, hv1, hbA⟩)
      | (go_at_call 17; refine (cR _ _ _ (hR3h.out.below ((‹Below W.heap.size W _ ∧ _›).1))).mono ?_; rintro e w6 ⟨v2, rfl, hv2, hbB⟩))
  have hS6 := ‹Below W.heap.size W w6 ∧ _›
  have hv1' := hv1.below hbB
  have hA6 := Lib.hid (hA3h.out.below (Nat.le_refl _) hS6.1)
  have hR6 := Lib.hid (hR3h.out.below hS6.1)
  have hBf := hb3.trans (hS6.1.mono hb3.size)
  have hrb6 : rb < w6.heap.size := Nat.lt_of_lt_of_le hqs hS6.1.size
  have s0 := hS6.2.1
  have s1 := hS6.2.2
  clear hkeep hr0 cV cR hA3h hR3h hv1 hbA hbB hS6 q0 q1 hqs hb3
  -- what is asked last
  have hlast := Lib.hid (p := ∀ wz : World, Below w6.heap.size w6 wz → ArRd wz b L ∧ RefAt wz A' c' L ∧ Below w.heap.size w wz ∧ rb < wz.heap.size ∧ wz.cell? ⟨rb, 0, none⟩ = some (.int .i64 60) ∧ wz.cell? ⟨rb, 1, none⟩ = some (.slice A' L.length c')) (fun wz hz =>
    ⟨hA6.out.below (Nat.le_refl _) hz, hR6.out.below hz, hBf.trans (hz.mono hBf.size), Nat.lt_of_lt_of_le hrb6 hz.size, (hz.cell (p := ⟨rb, 0, none⟩) hrb6).trans s0, (hz.cell (p := ⟨rb, 1, none⟩) hrb6).trans s1⟩)
  clear hA6 hR6 hBf s0 s1
  by_cases hnil : xs = []
  · subst hnil
    have e1 : ∃ A1 c1, v1 = .slice A1 0 c1 := by
      rcases hv1' with ⟨h, _⟩ | ⟨g, c, h, _⟩
      · exact ⟨_, _, h⟩
      · exact ⟨_, _, h⟩
    have e2 : ∃ A1 c1, v2 = .slice A1 0 c1 := by
      rcases hv2 with ⟨h, _⟩ | ⟨g, c, h, _⟩
      · exact ⟨_, _, h⟩
      · exact ⟨_, _, h⟩
    obtain ⟨A1, c1, rfl⟩ := e1
    obtain ⟨A2, c2, rfl⟩ := e2
    clear hv2 hv1'
    go_wp2_with fail
    refine wp_loop_rounds 1 ?_
    rw [rounds_succ]
    go_wp2_with fail
    obtain ⟨zA, zR, zB, zb, z0, z1⟩ := hlast.out w6 (Below.refl _ _)
    have hkeep := Lib.hid (p := ∀ W1 W2 : World, (fun W' => Below w6.heap.size w6 W' ∧ W'.cell? ⟨rb, 0, none⟩ = some (.int .i64 60) ∧ W'.cell? ⟨rb, 1, none⟩ = some (.slice A' L.length c')) W1 → Below W1.heap.size W1 W2 → (fun W' => Below w6.heap.size w6 W' ∧ W'.cell? ⟨rb, 0, none⟩ = some (.int .i64 60) ∧ W'.cell? ⟨rb, 1, none⟩ = some (.slice A' L.length c')) W2) (fun W1 W2 h hb =>
      have g1 : rb < W1.heap.size := Nat.lt_of_lt_of_le zb h.1.size
      ⟨h.1.trans (hb.mono h.1.size), (hb.cell (p := ⟨rb, 0, none⟩) g1).trans h.2.1, (hb.cell (p := ⟨rb, 1, none⟩) g1).trans h.2.2⟩)
    have zr0 : Below w6.heap.size w6 w6.drew := (Below.refl _ _).drew
    have zAh := Lib.hid zA
    have zRh := Lib.hid zR
    clear zA zR
    go_region_held3 (fun W' => Below w6.heap.size w6 W' ∧ W'.cell? ⟨rb, 0, none⟩ = some (.int .i64 60) ∧ W'.cell? ⟨rb, 1, none⟩ = some (.slice A' L.length c'))
      (first | assumption | exact hkeep.out _ _ (by assumption) hbA | exact hkeep.out _ _ (by assumption) hbB | exact hkeep.out _ _ (by assumption) hbC | exact hkeep.out _ _ (by assumption) hbD | exact hkeep.out _ _ (by assumption) hbE | (go_keep; done))
      (first
        | (go_at_call 11; refine (hal _).mono ?_; rintro e y1 ⟨rfl, hbA⟩)
        | (go_at_call 18; refine (cS1 _ _ (zAh.out.below (Nat.le_refl _) ((‹Below w6.heap.size w6 _ ∧ _›).1))).mono ?_; rintro e y2 ⟨rfl, hbB⟩)
        | (go_at_call 19; refine (cS2 _ _ _ (zRh.out.below ((‹Below w6.heap.size w6 _ ∧ _›).1))).mono ?_; rintro e y3 ⟨rfl, hbC⟩)
        | (go_at_call 20; refine (cD1 _ _ (zAh.out.below (Nat.le_refl _) ((‹Below w6.heap.size w6 _ ∧ _›).1))).mono ?_; rintro e y4 ⟨rfl, hbD⟩)
        | (go_at_call 21; refine (cD2 _ _ _ (zRh.out.below ((‹Below w6.heap.size w6 _ ∧ _›).1))).mono ?_; rintro e y5 ⟨rfl, hbE⟩))
    have hfB := zB.trans ((‹Below w6.heap.size w6 _ ∧ _›).1.mono zB.size)
    go_wp2_with fail
    exact hfin.out _ hfB
  · rcases hv1' with ⟨_, h⟩ | ⟨g1, k1, rfl, hg1, hc1⟩
    · exact absurd h hnil
    · rcases hv2 with ⟨_, h⟩ | ⟨g2, k2, rfl, hg2, hc2⟩
      · exact absurd h hnil
      · have hc1h := Lib.hid hc1
        have hc2h := Lib.hid hc2
        clear hc1 hc2 hnil
        go_wp2_with fail
        go_loopw [43] (fun p wr => ∃ (k : Nat), k ≤ xs.length ∧ p = .int .i64 k ∧ Below w6.heap.size w6 wr) (fun p _ => xs.length - (intOf p).toNat)
        case atStart => exact ⟨0, by omega, rfl, Below.refl _ _⟩
        case round =>
          obtain ⟨k, hk, rfl, hB⟩ := hrel
          by_cases hkl : k < xs.length
          · have e0 := (hB.cell (p := ⟨g1, k, none⟩) hg1).trans (hc1h.out k hkl)
            have e2 := (hB.cell (p := ⟨g2, k, none⟩) hg2).trans (hc2h.out k hkl)
            generalize xs[k] = x at *
            have hk0 : (k : Int) < (xs.length : Int) := by omega
            have hk1 : (0 : Int) ≤ (k : Int) := by omega
            go_wp2_with fail
            go_quiet (fail)
            go_wp2_with fail
            go_roundw
            case rel => exact ⟨k + 1, by omega, by go_num, below_drewN hB nq⟩
            case measure => simp [intOf]; omega
          · obtain rfl : k = xs.length := by omega
            go_wp2_with fail
            obtain ⟨zA, zR, zB, zb, z0, z1⟩ := hlast.out wr hB
            have hkeep := Lib.hid (p := ∀ W1 W2 : World, (fun W' => Below wr.heap.size wr W' ∧ W'.cell? ⟨rb, 0, none⟩ = some (.int .i64 60) ∧ W'.cell? ⟨rb, 1, none⟩ = some (.slice A' L.length c')) W1 → Below W1.heap.size W1 W2 → (fun W' => Below wr.heap.size wr W' ∧ W'.cell? ⟨rb, 0, none⟩ = some (.int .i64 60) ∧ W'.cell? ⟨rb, 1, none⟩ = some (.slice A' L.length c')) W2) (fun W1 W2 h hb =>
              have g1 : rb < W1.heap.size := Nat.lt_of_lt_of_le zb h.1.size
              ⟨h.1.trans (hb.mono h.1.size), (hb.cell (p := ⟨rb, 0, none⟩) g1).trans h.2.1, (hb.cell (p := ⟨rb, 1, none⟩) g1).trans h.2.2⟩)
            have zr0 : Below wr.heap.size wr wr.drew := (Below.refl _ _).drew
            have zAh := Lib.hid zA
            have zRh := Lib.hid zR
            clear zA zR
            go_region_held3 (fun W' => Below wr.heap.size wr W' ∧ W'.cell? ⟨rb, 0, none⟩ = some (.int .i64 60) ∧ W'.cell? ⟨rb, 1, none⟩ = some (.slice A' L.length c'))
              (first | assumption | exact hkeep.out _ _ (by assumption) hbA | exact hkeep.out _ _ (by assumption) hbB | exact hkeep.out _ _ (by assumption) hbC | exact hkeep.out _ _ (by assumption) hbD | exact hkeep.out _ _ (by assumption) hbE | (go_keep; done))
              (first
                | (go_at_call 11; refine (hal _).mono ?_; rintro e y1 ⟨rfl, hbA⟩)
                | (go_at_call 18; refine (cS1 _ _ (zAh.out.below (Nat.le_refl _) ((‹Below wr.heap.size wr _ ∧ _›).1))).mono ?_; rintro e y2 ⟨rfl, hbB⟩)
                | (go_at_call 19; refine (cS2 _ _ _ (zRh.out.below ((‹Below wr.heap.size wr _ ∧ _›).1))).mono ?_; rintro e y3 ⟨rfl, hbC⟩)
                | (go_at_call 20; refine (cD1 _ _ (zAh.out.below (Nat.le_refl _) ((‹Below wr.heap.size wr _ ∧ _›).1))).mono ?_; rintro e y4 ⟨rfl, hbD⟩)
                | (go_at_call 21; refine (cD2 _ _ _ (zRh.out.below ((‹Below wr.heap.size wr _ ∧ _›).1))).mono ?_; rintro e y5 ⟨rfl, hbE⟩))
            have hfB := zB.trans ((‹Below wr.heap.size wr _ ∧ _›).1.mono zB.size)
            go_wp2_with fail
            exact hfin.out _ hfB

theorem sizes_law (A : Option Addr) (cap : Nat) (ops : List Nd) (f : Int) (w : World) (hr : OpsRd w A ops) (hm : ops.length ≤ maxLen ∧ ops.length ≤ cap ∧ cap ≤ maxLen) :
    Calls Try.prog 4 #[.slice A ops.length cap, .int .i64 f] w fun e w' => e = .returned (.bool true) ∧ Below w.heap.size w w' := by
  by_cases h : 24 < ops.length
  · exact sizes_long A cap ops f w hr hm.1 h
  · exact sizes_short A cap ops f w hr (by omega)
end Go.Proofs.Yteifllgcpickhaa
