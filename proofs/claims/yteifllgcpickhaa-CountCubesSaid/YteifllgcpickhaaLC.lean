/- count: the walk of CountCubes -/
import Derived.Test.YteifllgcpickhaaLW
import Derived.Test.YteifllgcpickhaaRE
namespace Go.Proofs.Yteifllgcpickhaa
open Go.RowKit

set_option maxRecDepth 100000 in
set_option maxHeartbeats 2000000 in
theorem cubes_long (A : Option Addr) (cap : Nat) (ops : List Nd) (f value : Int) (w : World) (hr : OpsRd w A ops) (hm : ops.length ≤ maxLen) (h24 : 24 < ops.length) :
    Calls Try.prog 5 #[.slice A ops.length cap, .int .i64 f, .int .i64 value] w (LawEnd w) := by
  have hal := alive_any
  have hmm := hm
  unfold maxLen at hmm
  have hd : (ops.length : Int) > 24 := by omega
  have hd2 : decide (ops.length ≤ 24) = false := by simp; omega
  have hfin := Lib.hid (law_fin w)
  generalize LawEnd w = R at *
  by_cases h60 : 60 < ops.length
  · have cB := build_long A cap ops w h60 hm
    go_enter Try.func5, Try.ntmps5
    go_wp2_with (first
      | (go_at_call 9; refine cB.mono ?_; clear cB; rintro e w2 ⟨rfl, hb⟩)
      | (go_at_call 11; refine (hal _).mono ?_; rintro e w4 ⟨rfl, hb4⟩))
    exact hfin.out _ ((hb.alloc hb.size _).trans (hb4.mono (hb.alloc hb.size _).size))
  · have cB := build_any A cap ops w (by omega) hr
    unfold BuildEnd at cB
    generalize bld ops = L at *
    go_enter Try.func5, Try.ntmps5
    go_wp2_with (first
      | (go_at_call 9; refine cB.mono ?_; clear cB; rintro e w2 ⟨b, A', c', rfl, hA2, hR2, hb⟩)
      | (go_at_call 10; refine (few_any _ _ _ _ hm).mono ?_; rw [hd2]; rintro e w3 ⟨rfl, rfl⟩)
      | (go_at_call 11; refine (hal _).mono ?_; rintro e w4 ⟨rfl, hb4⟩))
    exact hfin.out _ ((hb.alloc hb.size _).trans (hb4.mono (hb.alloc hb.size _).size))

/-- a slice of cubes, whatever its spare room -/
def CubesV (w : World) (v : Value) (cs : List (Int × Int)) : Prop :=
  (v = .slice none 0 0 ∧ cs = []) ∨ ∃ g cap, v = .slice (some ⟨g, 0, none⟩) cs.length cap ∧ g < w.heap.size ∧ ∀ i (hi : i < cs.length), w.cell? ⟨g, i * 2, none⟩ = some (.int .u64 cs[i].1) ∧ w.cell? ⟨g, i * 2 + 1, none⟩ = some (.int .u64 cs[i].2)
theorem CubesV.below {w w' : World} {v : Value} {cs : List (Int × Int)} (h : CubesV w v cs) (hb : Below w.heap.size w w') : CubesV w' v cs := by
  rcases h with h | ⟨g, cap, h1, h2, h3⟩
  · exact .inl h
  · exact .inr ⟨g, cap, h1, Nat.lt_of_lt_of_le h2 hb.size, fun i hi => ⟨(hb.cell (p := ⟨g, i * 2, none⟩) h2).trans (h3 i hi).1, (hb.cell (p := ⟨g, i * 2 + 1, none⟩) h2).trans (h3 i hi).2⟩⟩
theorem cubesV_of {w : World} {n0 t : Nat} {v : Value} {cs : List (Int × Int)} (h : w.ownsRow n0 t 2 v cs.length (ccells cs)) : CubesV w v cs := by
  rcases h.2 with ⟨h1, h2⟩ | ⟨g, cap, cur, h1, h2, h3, h4, h5, h6, h7⟩
  · exact .inl ⟨h1, List.eq_nil_of_length_eq_zero h2⟩
  · refine .inr ⟨g, cap, h1, (Array.getElem?_eq_some_iff.1 h3).1, fun i hi => ?_⟩
    have hg : ∀ j, j < cs.length * 2 → w.cell? ⟨g, j, none⟩ = (ccells cs)[j]? := fun j hj => by
      rw [cell_of h3, ← h7, List.getElem?_take_of_lt hj, Array.getElem?_toList]
    rw [hg _ (by omega), hg _ (by omega)]
    exact ccells_get cs i hi

set_option maxRecDepth 100000 in
set_option maxHeartbeats 4000000 in
theorem cubes_short (A : Option Addr) (cap : Nat) (ops : List Nd) (f value : Int) (w : World) (hr : OpsRd w A ops) (h24 : ops.length ≤ 24) :
    Calls Try.prog 5 #[.slice A ops.length cap, .int .i64 f, .int .i64 value] w (LawEnd w) := by
  have hal := alive_any
  have hd : ¬ (ops.length : Int) > 24 := by omega
  have hd2 : decide (ops.length ≤ 24) = true := by simp; omega
  have hm : ops.length ≤ maxLen := by unfold maxLen; omega
  have hfin := Lib.hid (law_fin w)
  generalize LawEnd w = R at *
  have cB := build_any A cap ops w (by omega) hr
  obtain ⟨hWF, hL⟩ := bld_short ops
  unfold BuildEnd at cB
  generalize bld ops = L at *
  have hlen := cubes_len L f value
  have cC : ∀ W b, ArRd W b L → Calls Try.prog 22 #[.pointer (some ⟨b, 0, none⟩), .int .i64 f, .int .i64 value] W fun e w' => ∃ v, e = .returned v ∧ CubesV w' v (cubes L f value) ∧ Below W.heap.size W w' := fun W b h => (cubes_any b L f value W h hWF).mono (by
    rintro e w' ⟨v, he, ho, hb⟩
    exact ⟨v, he, cubesV_of ho, hb⟩)
  have cR : ∀ W A' c', RefAt W A' c' L → Calls Try.prog 23 #[.agg #[.int .i64 60, .slice A' L.length c'], .int .i64 f, .int .i64 value, .agg #[.int .u64 0, .int .u64 0]] W fun e w' => ∃ v, e = .returned v ∧ CubesV w' v (cubes L f value) ∧ Below W.heap.size W w' := fun W A' c' h => (rcubes_any hWF hL f value 60 A' c' W h.nodes).mono (by
    rintro e w' ⟨v, he, ho, hb⟩
    exact ⟨v, he, cubesV_of ho, hb⟩)
  generalize cubes L f value = cs at *
  go_enter Try.func5, Try.ntmps5
  go_wp2_with (first
    | (go_at_call 9; refine cB.mono ?_; clear cB; rintro e w2 ⟨b, A', c', rfl, hA2, hR2, hb⟩)
    | (go_at_call 10; refine (few_any _ _ _ _ hm).mono ?_; rw [hd2]; rintro e w3 ⟨rfl, rfl⟩))
  have hb3 := hb.alloc hb.size (.cells #[.int .i64 60, .slice A' L.length c'] 27)
  have hbx : Below w2.heap.size w2 (w2.alloc (.cells #[.int .i64 60, .slice A' L.length c'] 27)) := (Below.refl _ _).alloc (Nat.le_refl _) _
  have hA3 := hA2.below (Nat.le_refl _) hbx
  have hR3 := hR2.below hbx
  have q := World.alloc_heap_new w2 (.cells #[.int .i64 60, .slice A' L.length c'] 27)
  have q0 := cell_of (i := 0) q
  have q1 := cell_of (i := 1) q
  have hqs : w2.heap.size < (w2.alloc (.cells #[.int .i64 60, .slice A' L.length c'] 27)).heap.size := by simp
  simp only [List.getElem?_toArray, List.getElem?_cons_succ, List.getElem?_cons_zero] at q0 q1
  clear q hbx
  generalize w2.alloc (.cells #[.int .i64 60, .slice A' L.length c'] 27) = W at *
  generalize w2.heap.size = rb at *
  have hkeep := Lib.hid (p := ∀ W1 W2 : World, (fun W' => Below W.heap.size W W' ∧ W'.cell? ⟨rb, 0, none⟩ = some (.int .i64 60) ∧ W'.cell? ⟨rb, 1, none⟩ = some (.slice A' L.length c')) W1 → Below W1.heap.size W1 W2 → (fun W' => Below W.heap.size W W' ∧ W'.cell? ⟨rb, 0, none⟩ = some (.int .i64 60) ∧ W'.cell? ⟨rb, 1, none⟩ = some (.slice A' L.length c')) W2) (fun W1 W2 h hb =>
    have g1 : rb < W1.heap.size := Nat.lt_of_lt_of_le hqs h.1.size
    ⟨h.1.trans (hb.mono h.1.size), (hb.cell (p := ⟨rb, 0, none⟩) g1).trans h.2.1, (hb.cell (p := ⟨rb, 1, none⟩) g1).trans h.2.2⟩)
  have hr0 : Below W.heap.size W W.drew := (Below.refl _ _).drew
  have hA3h := Lib.hid hA3
  have hR3h := Lib.hid hR3
  clear hA3 hR3 hA2 hR2
  go_region_held3 (fun W' => Below W.heap.size W W' ∧ W'.cell? ⟨rb, 0, none⟩ = some (.int .i64 60) ∧ W'.cell? ⟨rb, 1, none⟩ = some (.slice A' L.length c'))
    (first | assumption | exact hkeep.out _ _ (by assumption) hbA | exact hkeep.out _ _ (by assumption) hbB | (go_keep; done))
    (first
      | (go_at_call 22; refine (cC _ _ (hA3h.out.below (Nat.le_refl _) ((‹Below W.heap.size W _ ∧ _›).1))).mono ?_; rintro e w5 ⟨v1, rfl, hv1, hbA⟩)
      | (go_at_call 23; refine (cR _ _ _ (hR3h.out.below ((‹Below W.heap.size W _ ∧ _›).1))).mono ?_; rintro e w6 ⟨v2, rfl, hv2, hbB⟩))
  · have hv2' := hv2
    have hv1' := hv1.below hbB
    have hBf := hb3.trans ((‹Below W.heap.size W w6 ∧ _›).1.mono hb3.size)
    clear hkeep hr0 cC cR
    by_cases hnil : cs = []
    · subst hnil
      have e1 : ∃ A1 c1, v1 = .slice A1 0 c1 := by
        rcases hv1' with ⟨h, _⟩ | ⟨g, c, h, _⟩
        · exact ⟨_, _, h⟩
        · exact ⟨_, _, h⟩
      have e2 : ∃ A1 c1, v2 = .slice A1 0 c1 := by
        rcases hv2' with ⟨h, _⟩ | ⟨g, c, h, _⟩
        · exact ⟨_, _, h⟩
        · exact ⟨_, _, h⟩
      obtain ⟨A1, c1, rfl⟩ := e1
      obtain ⟨A2, c2, rfl⟩ := e2
      clear hv1 hv2 hv1' hv2'
      go_wp2_with fail
      refine wp_loop_rounds 1 ?_
      rw [rounds_succ]
      go_wp2_with (go_at_call 11; refine (hal _).mono ?_; rintro e w9 ⟨rfl, hb9⟩)
      exact hfin.out _ (hBf.trans (hb9.mono hBf.size))
    · rcases hv1' with ⟨_, h⟩ | ⟨g1, k1, rfl, hg1, hc1⟩
      · exact absurd h hnil
      · rcases hv2' with ⟨_, h⟩ | ⟨g2, k2, rfl, hg2, hc2⟩
        · exact absurd h hnil
        · have hc1h := Lib.hid hc1
          have hc2h := Lib.hid hc2
          clear hc1 hc2 hnil hv1 hv2
          go_wp2_with fail
          go_loopw [48] (fun p wr => ∃ (k : Nat), k ≤ cs.length ∧ p = .int .i64 k ∧ Below w6.heap.size w6 wr) (fun p _ => cs.length - (intOf p).toNat)
          case atStart => exact ⟨0, by omega, rfl, Below.refl _ _⟩
          case round =>
            obtain ⟨k, hk, rfl, hB⟩ := hrel
            by_cases hkl : k < cs.length
            · obtain ⟨e0, e1⟩ := hc1h.out k hkl
              obtain ⟨e2, e3⟩ := hc2h.out k hkl
              replace e0 := (hB.cell (p := ⟨g1, k * 2, none⟩) hg1).trans e0
              replace e1 := (hB.cell (p := ⟨g1, k * 2 + 1, none⟩) hg1).trans e1
              replace e2 := (hB.cell (p := ⟨g2, k * 2, none⟩) hg2).trans e2
              replace e3 := (hB.cell (p := ⟨g2, k * 2 + 1, none⟩) hg2).trans e3
              generalize cs[k] = c at *
              obtain ⟨cm, cb⟩ := c
              simp only at e0 e1 e2 e3
              have hk0 : (k : Int) < (cs.length : Int) := by omega
              have hk1 : (0 : Int) ≤ (k : Int) := by omega
              go_wp2_with fail
              go_quiet (fail)
              go_wp2_with fail
              go_roundw
              case rel => exact ⟨k + 1, by omega, by go_num, below_drewN hB nq⟩
              case measure => simp [intOf]; omega
            · obtain rfl : k = cs.length := by omega
              have hBw := hBf.trans (hB.mono hBf.size)
              go_wp2_with (go_at_call 11; refine (hal _).mono ?_; rintro e w9 ⟨rfl, hb9⟩)
              exact hfin.out _ (hBw.trans (hb9.mono hBw.size))

theorem cubes_law (A : Option Addr) (cap : Nat) (ops : List Nd) (f value : Int) (w : World) (hr : OpsRd w A ops) (hm : ops.length ≤ maxLen ∧ ops.length ≤ cap ∧ cap ≤ maxLen) :
    Calls Try.prog 5 #[.slice A ops.length cap, .int .i64 f, .int .i64 value] w fun e w' => e = .returned (.bool true) ∧ Below w.heap.size w w' := by
  by_cases h : 24 < ops.length
  · exact cubes_long A cap ops f value w hr hm.1 h
  · exact cubes_short A cap ops f value w hr (by omega)
end Go.Proofs.Yteifllgcpickhaa
