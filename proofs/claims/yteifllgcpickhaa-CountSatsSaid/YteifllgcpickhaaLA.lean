/- count: the walk of CountSats -/
import Derived.Test.YteifllgcpickhaaLF
import Derived.Test.YteifllgcpickhaaRI
namespace Go.Proofs.Yteifllgcpickhaa
open Go.RowKit

set_option maxRecDepth 100000 in
set_option maxHeartbeats 2000000 in
theorem sats_long (A : Option Addr) (cap : Nat) (ops : List Nd) (f value n : Int) (w : World) (hr : OpsRd w A ops) (hm : ops.length ≤ maxLen) (h24 : 24 < ops.length) :
    Calls Try.prog 3 #[.slice A ops.length cap, .int .i64 f, .agg #[.int .i64 value, .int .i64 n]] w (LawEnd w) := by
  have hal := alive_any
  have hmm := hm
  unfold maxLen at hmm
  have hd : (ops.length : Int) > 24 := by omega
  have hd2 : decide (ops.length ≤ 24) = false := by simp; omega
  have hfin := Lib.hid (law_fin w)
  generalize LawEnd w = R at *
  go_enter Try.func3, Try.ntmps3
  go_wp2_with fail
  go_quiet (fail)
  have hb0 := below_drewN ((Below.refl _ w).alloc (Nat.le_refl _) (.cells #[.int .i64 value, .int .i64 n] 23)) nq
  have hr0 := hr.below hb0
  generalize (w.alloc (.cells #[.int .i64 value, .int .i64 n] 23)).drewN nq = w0 at *
  by_cases h60 : 60 < ops.length
  · have cB := build_long A cap ops w0 h60 hm
    go_wp2_with (first
      | (go_at_call 9; refine cB.mono ?_; clear cB; rintro e w2 ⟨rfl, hb⟩)
      | (go_at_call 11; refine (hal _).mono ?_; rintro e w4 ⟨rfl, hb4⟩))
    exact hfin.out _ (hb0.trans (((hb.alloc hb.size _).trans (hb4.mono (hb.alloc hb.size _).size)).mono hb0.size))
  · have cB := build_any A cap ops w0 (by omega) hr0
    unfold BuildEnd at cB
    generalize bld ops = L at *
    go_wp2_with (first
      | (go_at_call 9; refine cB.mono ?_; clear cB; rintro e w2 ⟨b, A', c', rfl, hA2, hR2, hb⟩)
      | (go_at_call 10; refine (few_any _ _ _ _ hm).mono ?_; rw [hd2]; rintro e w3 ⟨rfl, rfl⟩)
      | (go_at_call 11; refine (hal _).mono ?_; rintro e w4 ⟨rfl, hb4⟩))
    exact hfin.out _ (hb0.trans (((hb.alloc hb.size _).trans (hb4.mono (hb.alloc hb.size _).size)).mono hb0.size))

set_option maxRecDepth 100000 in
set_option maxHeartbeats 4000000 in
theorem sats_short (A : Option Addr) (cap : Nat) (ops : List Nd) (f value n : Int) (w : World) (hr : OpsRd w A ops) (h24 : ops.length ≤ 24) :
    Calls Try.prog 3 #[.slice A ops.length cap, .int .i64 f, .agg #[.int .i64 value, .int .i64 n]] w (LawEnd w) := by
  have hal := alive_any
  have hd : ¬ (ops.length : Int) > 24 := by omega
  have hd2 : decide (ops.length ≤ 24) = true := by simp; omega
  have hm : ops.length ≤ maxLen := by unfold maxLen; omega
  have hfin := Lib.hid (law_fin w)
  generalize LawEnd w = R at *
  go_enter Try.func3, Try.ntmps3
  go_wp2_with fail
  go_quiet (fail)
  have hb0 := below_drewN ((Below.refl _ w).alloc (Nat.le_refl _) (.cells #[.int .i64 value, .int .i64 n] 23)) nq
  have hr0 := hr.below hb0
  generalize (w.alloc (.cells #[.int .i64 value, .int .i64 n] 23)).drewN nq = w0 at *
  have cB := build_any A cap ops w0 (by omega) hr0
  obtain ⟨hWF, hL⟩ := bld_short ops
  unfold BuildEnd at cB
  generalize bld ops = L at *
  have cO : ∀ W b, ArRd W b L → _ := fun W b h => one_any b L f value W h hWF
  have cP : ∀ W A' c', RefAt W A' c' L → _ := fun W A' c' h => rone_any (lim := 60) (A := A') (cap := c') hWF hL f value W h.nodes
  have cS : ∀ W b, ArRd W b L → _ := fun W b h => sat_any b L f value n W h hWF
  have cT : ∀ W A' c', RefAt W A' c' L → _ := fun W A' c' h => rsat_any (lim := 60) (A := A') (cap := c') hWF hL f value n W h.nodes
  generalize oneC (cubes L f value) (cubes L f value).length = r at *
  generalize satR L f value n = sr at *
  obtain ⟨r1, r2⟩ := r
  simp only at cO cP
  go_wp2_with (first
    | (go_at_call 9; refine cB.mono ?_; clear cB; rintro e w2 ⟨b, A', c', rfl, hA2, hR2, hb⟩
       have hb3 := hb.alloc hb.size (.cells #[.int .i64 60, .slice A' L.length c'] 27)
       have hbx : Below w2.heap.size w2 (w2.alloc (.cells #[.int .i64 60, .slice A' L.length c'] 27)) := (Below.refl _ _).alloc (Nat.le_refl _) _
       have hA3 := hA2.below (Nat.le_refl _) hbx
       have hR3 := hR2.below hbx
       obtain ⟨_, q0, q1, hqs⟩ := ref_box w2 60 A' L c')
    | (go_at_call 10; refine (few_any _ _ _ _ hm).mono ?_; rw [hd2]; rintro e w3 ⟨rfl, rfl⟩)
    | (go_at_call 12; refine (cO _ _ hA3).mono ?_; clear cO; rintro e w5 ⟨rfl, hb5⟩; have hA5 := hA3.below (Nat.le_refl _) hb5; have hR5 := hR3.below hb5; have p0 := (hb5.cell (p := ⟨w2.heap.size, 0, none⟩) hqs).trans q0; have p1 := (hb5.cell (p := ⟨w2.heap.size, 1, none⟩) hqs).trans q1; have hB5 := hb3.trans (hb5.mono hb3.size); have hl5 := Nat.lt_of_lt_of_le hqs hb5.size)
    | (go_at_call 13; refine (cP _ _ _ hR5).mono ?_; clear cP; rintro e w6 ⟨rfl, hb6⟩; have hA6 := hA5.below (Nat.le_refl _) hb6; have hR6 := hR5.below hb6; have s0 := (hb6.cell (p := ⟨w2.heap.size, 0, none⟩) hl5).trans p0; have s1 := (hb6.cell (p := ⟨w2.heap.size, 1, none⟩) hl5).trans p1; have hB6 := hB5.trans (hb6.mono hB5.size); have hl6 := Nat.lt_of_lt_of_le hl5 hb6.size))
  clear q0 q1 p0 p1 hA2 hR2 hA3 hR3 hA5 hR5 hb5 hb6 hb hqs hl5
  have hBa := hb0.trans (hB6.mono hb0.size)
  generalize w2.heap.size = rb at *
  generalize w6 = W at *
  have hkeep := Lib.hid (p := ∀ W1 W2 : World, (fun W' => Below W.heap.size W W' ∧ W'.cell? ⟨rb, 0, none⟩ = some (.int .i64 60) ∧ W'.cell? ⟨rb, 1, none⟩ = some (.slice A' L.length c')) W1 → Below W1.heap.size W1 W2 → (fun W' => Below W.heap.size W W' ∧ W'.cell? ⟨rb, 0, none⟩ = some (.int .i64 60) ∧ W'.cell? ⟨rb, 1, none⟩ = some (.slice A' L.length c')) W2) (fun W1 W2 h hb =>
    have g1 : rb < W1.heap.size := Nat.lt_of_lt_of_le hl6 h.1.size
    ⟨h.1.trans (hb.mono h.1.size), (hb.cell (p := ⟨rb, 0, none⟩) g1).trans h.2.1, (hb.cell (p := ⟨rb, 1, none⟩) g1).trans h.2.2⟩)
  have hr0' : Below W.heap.size W W.drew := (Below.refl _ _).drew
  have hAh := Lib.hid hA6
  have hRh := Lib.hid hR6
  clear hA6 hR6
  go_region_held3 (fun W' => Below W.heap.size W W' ∧ W'.cell? ⟨rb, 0, none⟩ = some (.int .i64 60) ∧ W'.cell? ⟨rb, 1, none⟩ = some (.slice A' L.length c'))
    (first | assumption | exact hkeep.out _ _ (by assumption) hbA | exact hkeep.out _ _ (by assumption) hbB | exact hkeep.out _ _ (by assumption) hbC | (go_keep; done))
    (first
      | (go_at_call 11; refine (hal _).mono ?_; rintro e w7 ⟨rfl, hbA⟩)
      | (go_at_call 14; refine (cS _ _ (hAh.out.below (Nat.le_refl _) ((‹Below W.heap.size W _ ∧ _›).1))).mono ?_; rintro e w8 ⟨rfl, hbB⟩)
      | (go_at_call 15; refine (cT _ _ _ (hRh.out.below ((‹Below W.heap.size W _ ∧ _›).1))).mono ?_; rintro e w9 ⟨rfl, hbC⟩))
  have hfB := hBa.trans ((‹Below W.heap.size W _ ∧ _›).1.mono hBa.size)
  go_wp2_with fail
  exact hfin.out _ hfB

theorem sats_law (A : Option Addr) (cap : Nat) (ops : List Nd) (f value n : Int) (w : World) (hr : OpsRd w A ops) (hm : ops.length ≤ maxLen ∧ ops.length ≤ cap ∧ cap ≤ maxLen) :
    Calls Try.prog 3 #[.slice A ops.length cap, .int .i64 f, .agg #[.int .i64 value, .int .i64 n]] w fun e w' => e = .returned (.bool true) ∧ Below w.heap.size w w' := by
  by_cases h : 24 < ops.length
  · exact sats_long A cap ops f value n w hr hm.1 h
  · exact sats_short A cap ops f value n w hr (by omega)
end Go.Proofs.Yteifllgcpickhaa
