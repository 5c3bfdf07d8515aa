/- count: the walk of CountFits -/
import Derived.Test.YteifllgcpickhaaLW
import Derived.Test.YteifllgcpickhaaP2
namespace Go.Proofs.Yteifllgcpickhaa
open Go.RowKit

theorem OpsRd.below {w w' : World} {A : Option Addr} {l : List Nd} (h : OpsRd w A l) (hb : Below w.heap.size w w') : OpsRd w' A l := fun hl => by
  obtain ⟨b, off, e, hlt, hc⟩ := h hl
  refine ⟨b, off, e, Nat.lt_of_lt_of_le hlt hb.size, fun i hi => ?_⟩
  rw [hb.cell (p := ⟨b, off + i * 3, none⟩) hlt, hb.cell (p := ⟨b, off + i * 3 + 1, none⟩) hlt, hb.cell (p := ⟨b, off + i * 3 + 2, none⟩) hlt]
  exact hc i hi

set_option maxRecDepth 100000 in
set_option maxHeartbeats 2000000 in
theorem fits_long (A : Option Addr) (cap : Nat) (ops : List Nd) (f value x : Int) (w : World) (hr : OpsRd w A ops) (hm : ops.length ≤ maxLen) (h24 : 24 < ops.length) :
    Calls Try.prog 8 #[.slice A ops.length cap, .agg #[.int .i64 f, .int .i64 value], .int .u64 x] w (LawEnd w) := by
  have hal := alive_any
  have hmm := hm
  unfold maxLen at hmm
  have hd : (ops.length : Int) > 24 := by omega
  have hd2 : decide (ops.length ≤ 24) = false := by simp; omega
  have hfin := Lib.hid (law_fin w)
  generalize LawEnd w = R at *
  go_enter Try.func8, Try.ntmps8
  go_wp2_with fail
  go_quiet (fail)
  have hb0 := below_drewN ((Below.refl _ w).alloc (Nat.le_refl _) (.cells #[.int .i64 f, .int .i64 value] 23)) nq
  have hr0 := hr.below hb0
  generalize (w.alloc (.cells #[.int .i64 f, .int .i64 value] 23)).drewN nq = w0 at *
  by_cases h60 : 60 < ops.length
  · have cB := build_long A cap ops w0 h60 hm
    go_wp2_with (first
      | (go_at_call 9; refine cB.mono ?_; clear cB; rintro e w2 ⟨rfl, hb⟩)
      | (go_at_call 11; refine (hal _).mono ?_; rintro e w4 ⟨rfl, hb4⟩))
    exact hfin.out _ (hb0.trans (((hb.alloc hb.size _).trans (hb4.mono (hb.alloc hb.size _).size)).mono hb0.size))
  · have cB := build_any A cap ops w0 (by omega) hr0
    unfold BuildEnd at cB
    generalize bld ops = L at *
    go_wp2_with (first
      | (go_at_call 9; refine cB.mono ?_; clear cB; rintro e w2 ⟨b, A', c', rfl, hA2, hR2, hb⟩)
      | (go_at_call 10; refine (few_any _ _ _ _ hm).mono ?_; rw [hd2]; rintro e w3 ⟨rfl, rfl⟩)
      | (go_at_call 11; refine (hal _).mono ?_; rintro e w4 ⟨rfl, hb4⟩))
    exact hfin.out _ (hb0.trans (((hb.alloc hb.size _).trans (hb4.mono (hb.alloc hb.size _).size)).mono hb0.size))

theorem fits_take (cs : List (Int × Int)) (x k : Nat) (h : k < cs.length) : ((cs.take (k + 1)).countP (fitB x) : Int) = (cs.take k).countP (fitB x) + if fitB x cs[k] then 1 else 0 := by
  rw [List.take_succ_eq_append_getElem h, List.countP_append]
  cases hf : fitB x cs[k] <;> simp [hf]
theorem fits_plain {l : List Nd} (hW : WF l) {f value : Int} (hh : hasB l f = true) (x : Nat) : (cubes l f value).countP (fitB x) = if tellN l f x = value then 1 else 0 := by
  unfold cubes
  rw [if_pos hh]
  exact cub_fits hW value f x

set_option maxRecDepth 100000 in
set_option maxHeartbeats 4000000 in
theorem fits_short (A : Option Addr) (cap : Nat) (ops : List Nd) (f value x : Int) (w : World) (hx0 : 0 ≤ x) (hx1 : x < 18446744073709551616) (hr : OpsRd w A ops) (h24 : ops.length ≤ 24) :
    Calls Try.prog 8 #[.slice A ops.length cap, .agg #[.int .i64 f, .int .i64 value], .int .u64 x] w (LawEnd w) := by
  obtain ⟨xn, rfl⟩ : ∃ n : Nat, x = n := ⟨x.toNat, by omega⟩
  have hal := alive_any
  have hd : ¬ (ops.length : Int) > 24 := by omega
  have hd2 : decide (ops.length ≤ 24) = true := by simp; omega
  have hm : ops.length ≤ maxLen := by unfold maxLen; omega
  have hfin := Lib.hid (law_fin w)
  generalize LawEnd w = R at *
  go_enter Try.func8, Try.ntmps8
  go_wp2_with fail
  go_quiet (fail)
  have hb0 := below_drewN ((Below.refl _ w).alloc (Nat.le_refl _) (.cells #[.int .i64 f, .int .i64 value] 23)) nq
  have hr0 := hr.below hb0
  generalize (w.alloc (.cells #[.int .i64 f, .int .i64 value] 23)).drewN nq = w0 at *
  have cB := build_any A cap ops w0 (by omega) hr0
  obtain ⟨hWF, hL⟩ := bld_short ops
  unfold BuildEnd at cB
  generalize bld ops = L at *
  cases hh : hasB L f with
  | false =>
    have cH : ∀ W b, ArRd W b L → Calls Try.prog 24 #[.pointer (some ⟨b, 0, none⟩), .int .i64 f] W fun e w' => e = .returned (.bool false) ∧ W = w' := fun W b h => by
      have := has_any b L f W h
      rwa [hh] at this
    go_wp2_with (first
      | (go_at_call 9; refine cB.mono ?_; clear cB; rintro e w2 ⟨b, A', c', rfl, hA2, hR2, hb⟩; have hb3 := hb.alloc hb.size (.cells #[.int .i64 60, .slice A' L.length c'] 27); have hA3 := hA2.below (Nat.le_refl _) ((Below.refl _ _).alloc (Nat.le_refl _) (.cells #[.int .i64 60, .slice A' L.length c'] 27)))
      | (go_at_call 10; refine (few_any _ _ _ _ hm).mono ?_; rw [hd2]; rintro e w3 ⟨rfl, rfl⟩)
      | (go_at_call 24; refine (cH _ _ hA3).mono ?_; clear cH; rintro e w4 ⟨rfl, rfl⟩)
      | (go_at_call 11; refine (hal _).mono ?_; rintro e w5 ⟨rfl, hb5⟩))
    exact hfin.out _ (hb0.trans ((hb3.trans (hb5.mono hb3.size)).mono hb0.size))
  | true =>
    have cH : ∀ W b, ArRd W b L → Calls Try.prog 24 #[.pointer (some ⟨b, 0, none⟩), .int .i64 f] W fun e w' => e = .returned (.bool true) ∧ W = w' := fun W b h => by
      have := has_any b L f W h
      rwa [hh] at this
    have hlen := cubes_len L f value
    have hokh := Lib.hid (cubes_ok hWF f value)
    have hfp := Lib.hid (fits_plain hWF (f := f) (value := value) hh xn)
    have cC : ∀ W b, ArRd W b L → Calls Try.prog 22 #[.pointer (some ⟨b, 0, none⟩), .int .i64 f, .int .i64 value] W (CubesRd W (cubes L f value)) := fun W b h => cubes_rd f value h hWF
    have cW : ∀ W b, ArRd W b L → Calls Try.prog 26 #[.pointer (some ⟨b, 0, none⟩), .int .i64 f, .int .u64 xn] W fun e w' => e = .returned (.int .i64 (walkC L xn 13 f)) ∧ Below W.heap.size W w' := fun W b h => walk_any b L f xn W h hWF (by omega) hx1
    have htl : valN (walkC L xn 13 f) = tellN L f xn := rfl
    clear hh
    generalize cubes L f value = cs at *
    generalize walkC L xn 13 f = tr at *
    have htlh := Lib.hid htl
    clear htl
    go_wp2_with (first
      | (go_at_call 9; refine cB.mono ?_; clear cB; rintro e w2 ⟨b, A', c', rfl, hA2, hR2, hb⟩; have hb3 := hb.alloc hb.size (.cells #[.int .i64 60, .slice A' L.length c'] 27); have hA3 := hA2.below (Nat.le_refl _) ((Below.refl _ _).alloc (Nat.le_refl _) (.cells #[.int .i64 60, .slice A' L.length c'] 27)))
      | (go_at_call 10; refine (few_any _ _ _ _ hm).mono ?_; rw [hd2]; rintro e w3 ⟨rfl, rfl⟩)
      | (go_at_call 24; refine (cH _ _ hA3).mono ?_; clear cH; rintro e w4 ⟨rfl, rfl⟩)
      | (go_at_call 22; refine (cC _ _ hA3).mono ?_; clear cC; rintro e w5 ⟨(⟨rfl, hnil⟩ | ⟨g, cc, rfl, hg, hcells⟩), hb5⟩))
    · subst hnil
      have hA5 := hA3.below (Nat.le_refl _) hb5
      have hb6 := hb3.trans (hb5.mono hb3.size)
      have hne : ¬ valN tr = value := fun e => by
        have := hfp.out
        rw [← htlh.out, if_pos e] at this
        simp at this
      have hne' : (valN tr == value) = false := by simpa using hne
      refine wp_loop_rounds 1 ?_
      rw [rounds_succ]
      go_wp2_with (first
        | (go_at_call 26; refine (cW _ _ hA5).mono ?_; clear cW; rintro e w7 ⟨rfl, hb7⟩; have hb8 := hb6.trans (hb7.mono hb6.size))
        | (go_at_call 25; refine (value_any _ _).mono ?_; rintro e w7' ⟨rfl, rfl⟩)
        | (go_at_call 11; refine (hal _).mono ?_; rintro e w9 ⟨rfl, hb9⟩))
      exact hfin.out _ (hb0.trans ((hb8.trans (hb9.mono hb8.size)).mono hb0.size))
    · have hcellsh := Lib.hid hcells
      have hb6 := hb3.trans (hb5.mono hb3.size)
      have hA5 := hA3.below (Nat.le_refl _) hb5
      clear hcells
      go_loopw [12, 45] (fun t p wr => ∃ (k : Nat), k ≤ cs.length ∧ p = .int .i64 k ∧ t = .int .i64 ((cs.take k).countP (fitB xn) : Nat) ∧ Below w5.heap.size w5 wr) (fun _ p _ => cs.length - (intOf p).toNat)
      case atStart => exact ⟨0, by omega, rfl, rfl, Below.refl _ _⟩
      case round =>
        obtain ⟨k, hk, rfl, rfl, hB⟩ := hrel
        have hcl : (cs.take k).countP (fitB xn) ≤ k := Nat.le_trans List.countP_le_length (List.length_take_le _ _)
        by_cases hkl : k < cs.length
        · obtain ⟨e0, e1⟩ := hcellsh.out k hkl
          replace e0 := (hB.cell (p := ⟨g, k * 2, none⟩) hg).trans e0
          replace e1 := (hB.cell (p := ⟨g, k * 2 + 1, none⟩) hg).trans e1
          have hsn := fits_take cs xn k hkl
          obtain ⟨cm, cb, hc, hcm, hcb⟩ := hokh.out _ (List.getElem_mem hkl)
          rw [hc] at e0 e1 hsn
          simp only at e0 e1
          have hk0 : (k : Int) < (cs.length : Int) := by omega
          have hk1 : (0 : Int) ≤ (k : Int) := by omega
          have hfb : (bits .and .u64 (xn : Int) (cm : Int) == (cb : Int)) = fitB xn ((cm : Int), (cb : Int)) := by
            rw [u64_and_nat xn cm (by omega) (by omega)]
            unfold fitB
            simp only [Int.toNat_natCast]
            rw [Bool.eq_iff_iff]
            simp
            omega
          clear hc
          generalize (cs.take k).countP (fitB xn) = cn at *
          cases hft : fitB xn ((cm : Int), (cb : Int)) with
          | true =>
            rw [hft] at hfb hsn
            rw [if_pos rfl] at hsn
            have hsnh := Lib.hid hsn
            clear hsn hft
            go_wp2_with fail
            go_roundw
            case rel => exact ⟨k + 1, by omega, by go_num, by rw [hsnh.out], hB.alloc hB.size _⟩
            case measure => simp [intOf]; omega
          | false =>
            rw [hft] at hfb hsn
            rw [if_neg (by simp), Int.add_zero] at hsn
            have hsnh := Lib.hid hsn
            clear hsn hft
            go_wp2_with fail
            go_roundw
            case rel => exact ⟨k + 1, by omega, by go_num, by rw [hsnh.out], hB.alloc hB.size _⟩
            case measure => simp [intOf]; omega
        · obtain rfl : k = cs.length := by omega
          have hA6 := hA5.below (Nat.le_refl _) hB
          have hb7' := hb6.trans (hB.mono hb6.size)
          have hcount := hfp.out
          rw [List.take_length] at *
          by_cases he : valN tr = value
          · have he' : (valN tr == value) = true := by simpa using he
            rw [← htlh.out, if_pos he] at hcount
            rw [hcount]
            clear hcount
            go_wp2_with (first
              | (go_at_call 26; refine (cW _ _ hA6).mono ?_; clear cW; rintro e w7 ⟨rfl, hb7⟩; have hb8 := hb7'.trans (hb7.mono hb7'.size))
              | (go_at_call 25; refine (value_any _ _).mono ?_; rintro e w7' ⟨rfl, rfl⟩)
              | (go_at_call 11; refine (hal _).mono ?_; rintro e w9 ⟨rfl, hb9⟩))
            exact hfin.out _ (hb0.trans ((hb8.trans (hb9.mono hb8.size)).mono hb0.size))
          · have he' : (valN tr == value) = false := by simpa using he
            rw [← htlh.out, if_neg he] at hcount
            rw [hcount]
            clear hcount
            go_wp2_with (first
              | (go_at_call 26; refine (cW _ _ hA6).mono ?_; clear cW; rintro e w7 ⟨rfl, hb7⟩; have hb8 := hb7'.trans (hb7.mono hb7'.size))
              | (go_at_call 25; refine (value_any _ _).mono ?_; rintro e w7' ⟨rfl, rfl⟩)
              | (go_at_call 11; refine (hal _).mono ?_; rintro e w9 ⟨rfl, hb9⟩))
            exact hfin.out _ (hb0.trans ((hb8.trans (hb9.mono hb8.size)).mono hb0.size))

theorem fits_law (A : Option Addr) (cap : Nat) (ops : List Nd) (f value x : Int) (w : World) (hr : OpsRd w A ops) (hm : ops.length ≤ maxLen ∧ ops.length ≤ cap ∧ cap ≤ maxLen) (hx : (Lit.int .u64 x).wf = true) :
    Calls Try.prog 8 #[.slice A ops.length cap, .agg #[.int .i64 f, .int .i64 value], .int .u64 x] w fun e w' => e = .returned (.bool true) ∧ Below w.heap.size w w' := by
  have hx2 : 0 ≤ x ∧ x < 18446744073709551616 := by
    simp [Lit.wf, IntKind.min, IntKind.max, IntKind.bits, IntKind.signed] at hx
    omega
  by_cases h : 24 < ops.length
  · exact fits_long A cap ops f value x w hr hm.1 h
  · exact fits_short A cap ops f value x w hx2.1 hx2.2 hr (by omega)
end Go.Proofs.Yteifllgcpickhaa
