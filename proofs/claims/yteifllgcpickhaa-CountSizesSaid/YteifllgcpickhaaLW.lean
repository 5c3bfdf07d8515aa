/- count: the walk of CountWeights -/
import Derived.Test.YteifllgcpickhaaBC
import Derived.Test.YteifllgcpickhaaP1
namespace Go.Proofs.Yteifllgcpickhaa
open Go.RowKit

def LawEnd (w : World) (e : Ending) (w' : World) : Prop := e = .returned (.bool true) ∧ Below w.heap.size w w'
theorem law_fin (w : World) : ∀ w', Below w.heap.size w w' → LawEnd w (.returned (.bool true)) w' := fun _ h => ⟨rfl, h⟩

theorem bld_short (ops : List Nd) : WF (bld ops) ∧ (bld ops).length ≤ 1000 := by
  obtain ⟨h1, _, h3⟩ := bld_facts ops
  exact ⟨h1, by omega⟩

set_option maxRecDepth 100000 in
set_option maxHeartbeats 2000000 in
theorem weights_long (A : Option Addr) (cap : Nat) (ops : List Nd) (f value : Int) (w : World) (hr : OpsRd w A ops) (hm : ops.length ≤ maxLen) (h24 : 24 < ops.length) :
    Calls Try.prog 7 #[.slice A ops.length cap, .int .i64 f, .int .i64 value] w (LawEnd w) := by
  have hal := alive_any
  have hmm := hm
  unfold maxLen at hmm
  have hd : (ops.length : Int) > 24 := by omega
  have hd2 : decide (ops.length ≤ 24) = false := by simp; omega
  have hfin := Lib.hid (law_fin w)
  generalize LawEnd w = R at *
  by_cases h60 : 60 < ops.length
  · have cB := build_long A cap ops w h60 hm
    go_enter Try.func7, Try.ntmps7
    go_wp2_with (first
      | (go_at_call 9; refine cB.mono ?_; clear cB; rintro e w2 ⟨rfl, hb⟩)
      | (go_at_call 11; refine (hal _).mono ?_; rintro e w4 ⟨rfl, hb4⟩))
    exact hfin.out _ ((hb.alloc hb.size _).trans (hb4.mono (hb.alloc hb.size _).size))
  · have cB := build_any A cap ops w (by omega) hr
    unfold BuildEnd at cB
    generalize bld ops = L at *
    go_enter Try.func7, Try.ntmps7
    go_wp2_with (first
      | (go_at_call 9; refine cB.mono ?_; clear cB; rintro e w2 ⟨b, A', c', rfl, hA2, hR2, hb⟩)
      | (go_at_call 10; refine (few_any _ _ _ _ hm).mono ?_; rw [hd2]; rintro e w3 ⟨rfl, rfl⟩)
      | (go_at_call 11; refine (hal _).mono ?_; rintro e w4 ⟨rfl, hb4⟩))
    exact hfin.out _ ((hb.alloc hb.size _).trans (hb4.mono (hb.alloc hb.size _).size))

/-- what Cubes answers, as it is read -/
def CubesRd (w : World) (cs : List (Int × Int)) (e : Ending) (w' : World) : Prop :=
  ((e = .returned (.slice none 0 0) ∧ cs = []) ∨ ∃ g cap, e = .returned (.slice (some ⟨g, 0, none⟩) cs.length cap) ∧ g < w'.heap.size ∧ ∀ i (hi : i < cs.length), w'.cell? ⟨g, i * 2, none⟩ = some (.int .u64 cs[i].1) ∧ w'.cell? ⟨g, i * 2 + 1, none⟩ = some (.int .u64 cs[i].2)) ∧ Below w.heap.size w w'
theorem cubes_rd {b : Nat} {l : List Nd} {w : World} (f value : Int) (hA : ArRd w b l) (hW : WF l) : Calls Try.prog 22 #[.pointer (some ⟨b, 0, none⟩), .int .i64 f, .int .i64 value] w (CubesRd w (cubes l f value)) := by
  refine (cubes_any b l f value w hA hW).mono ?_
  rintro e w' ⟨v, he, ho, hb⟩
  refine ⟨?_, hb⟩
  rcases cubes_read ho with ⟨h1, h2⟩ | ⟨g, cap, h1, _, h2, h3⟩
  · exact .inl ⟨by rw [he, h1], h2⟩
  · exact .inr ⟨g, cap, by rw [he, h1], h2, h3⟩
theorem cubes_len (l : List Nd) (f value : Int) : (cubes l f value).length ≤ 8192 := by
  unfold cubes
  split
  · exact cub_len l value 13 f 0 0
  · simp
theorem cubes_ok {l : List Nd} (hW : WF l) (f value : Int) : ∀ c ∈ cubes l f value, okC c := by
  unfold cubes
  split
  · exact cub_ok hW value f
  · intro c hc; cases hc
theorem wsum_succ (cs : List (Int × Int)) (k : Nat) (h : k < cs.length) : wsum (cs.take (k + 1)) = wsum (cs.take k) + (mny cs[k].1.toNat 12 : Int) := by
  rw [List.take_succ_eq_append_getElem h, wsum_append]
  simp [wsum]
theorem wsum_rng (cs : List (Int × Int)) : ∀ k, k ≤ cs.length → 0 ≤ wsum (cs.take k) ∧ wsum (cs.take k) ≤ 4096 * k
  | 0, _ => by simp [wsum]
  | k + 1, h => by
    have := wsum_rng cs k (by omega)
    have := mny_le cs[k].1.toNat 12 (by omega)
    rw [wsum_succ cs k (by omega)]
    push_cast
    omega
theorem weights_plain {l : List Nd} (hW : WF l) {f value : Int} : wsum (cubes l f value) = satR l f value 12 := by
  cases hh : hasB l f with
  | false => unfold cubes satR; rw [hh, if_neg (by simp), if_pos (by simp)]; rfl
  | true =>
    unfold cubes satR
    rw [if_pos hh, cub_weights hW, if_neg, lvl12 hW]
    rintro (h | h | h | ⟨x, hx, h0, hv⟩)
    · omega
    · omega
    · rw [hh] at h; cases h
    · have := varOf_le hW x
      have h12 : varOf l x = 12 := by omega
      unfold varOf at h12
      have hxr := reach_has hW hh x hx
      have hr := hasB_range hxr
      rw [if_pos ⟨h0, hr.2⟩] at h12
      have hl : x.toNat < l.length := by omega
      have := (hW x.toNat hl).2.1
      rw [getD_of hl] at h12
      omega
theorem mny_t {m v : Nat} (h : m.testBit v = true) : mny m (v + 1) = mny m v / 2 := by simp [mny, h]
theorem mny_f {m v : Nat} (h : m.testBit v = false) : mny m (v + 1) = mny m v := by simp [mny, h]
theorem bitN (m v : Nat) (h : m < 4096) : (bits .and .u64 ((m : Int) / 2 ^ v) 1 == 1) = m.testBit v := by
  have := bit_eq (m : Int) (v : Int) (by omega) (by omega)
  rw [Int.toNat_natCast] at this
  rw [this]
  unfold bitOf
  rw [Int.toNat_natCast, Nat.testBit_eq_decide_div_mod_eq, decide_eq_decide]
  have e : ((m : Int) / 2 ^ v % 2) = ((m / 2 ^ v % 2 : Nat) : Int) := by push_cast; rfl
  rw [e]
  omega
theorem andNotN (b m : Nat) (hb : b &&& m = b) (hm : m < 4096) : bits .andNot .u64 (b : Int) (m : Int) = 0 := by
  have hbm : b ≤ m := by rw [← hb]; exact Nat.and_le_right
  rw [u64_andNot_nat b m (by omega) (by omega)]
  have : b &&& (18446744073709551615 - m) = 0 := by
    apply Nat.eq_of_testBit_eq
    intro i
    have h2 := Nat.testBit_two_pow_sub_succ (n := 64) (x := m) (by omega) i
    rw [show (2 : Nat) ^ 64 - (m + 1) = 18446744073709551615 - m by omega] at h2
    rw [Nat.testBit_and, h2, Nat.zero_testBit]
    have h3 := congrArg (fun x => Nat.testBit x i) hb
    simp only [Nat.testBit_and] at h3
    revert h3
    cases Nat.testBit b i <;> cases Nat.testBit m i <;> simp
  rw [this]
  rfl

set_option maxRecDepth 100000 in
set_option maxHeartbeats 4000000 in
theorem weights_short (A : Option Addr) (cap : Nat) (ops : List Nd) (f value : Int) (w : World) (hr : OpsRd w A ops) (h24 : ops.length ≤ 24) :
    Calls Try.prog 7 #[.slice A ops.length cap, .int .i64 f, .int .i64 value] w (LawEnd w) := by
  have hal := alive_any
  have hd : ¬ (ops.length : Int) > 24 := by omega
  have hd2 : decide (ops.length ≤ 24) = true := by simp; omega
  have hm : ops.length ≤ maxLen := by unfold maxLen; omega
  have hfin := Lib.hid (law_fin w)
  generalize LawEnd w = R at *
  have cB := build_any A cap ops w (by omega) hr
  obtain ⟨hWF, hL⟩ := bld_short ops
  unfold BuildEnd at cB
  generalize bld ops = L at *
  have hlen := cubes_len L f value
  have hok := cubes_ok hWF f value
  have cS : ∀ W b, ArRd W b L → Calls Try.prog 14 #[.pointer (some ⟨b, 0, none⟩), .int .i64 f, .int .i64 value, .int .i64 12] W fun e w' => e = .returned (.int .i64 (wsum ((cubes L f value).take (cubes L f value).length))) ∧ Below W.heap.size W w' := fun W b h => by
    rw [List.take_length, weights_plain hWF]
    exact sat_any b L f value 12 W h hWF
  have cC : ∀ W b, ArRd W b L → Calls Try.prog 22 #[.pointer (some ⟨b, 0, none⟩), .int .i64 f, .int .i64 value] W (CubesRd W (cubes L f value)) := fun W b h => cubes_rd f value h hWF
  generalize cubes L f value = cs at *
  have hokh := Lib.hid hok
  clear hok
  go_enter Try.func7, Try.ntmps7
  go_wp2_with (first
    | (go_at_call 9; refine cB.mono ?_; clear cB; rintro e w2 ⟨b, A', c', rfl, hA2, hR2, hb⟩; have hb3 := hb.alloc hb.size (.cells #[.int .i64 60, .slice A' L.length c'] 27); have hA3 := hA2.below (Nat.le_refl _) ((Below.refl _ _).alloc (Nat.le_refl _) (.cells #[.int .i64 60, .slice A' L.length c'] 27)))
    | (go_at_call 10; refine (few_any _ _ _ _ hm).mono ?_; rw [hd2]; rintro e w3 ⟨rfl, rfl⟩)
    | (go_at_call 22; refine (cC _ _ hA3).mono ?_; clear cC; rintro e w5 ⟨(⟨rfl, hnil⟩ | ⟨g, cc, rfl, hg, hcells⟩), hb5⟩))
  · subst hnil
    have hA5 := hA3.below (Nat.le_refl _) hb5
    have hb6 := hb3.trans (hb5.mono hb3.size)
    refine wp_loop_rounds 1 ?_
    rw [rounds_succ]
    go_wp2_with (first
      | (go_at_call 11; refine (hal _).mono ?_; rintro e w7 ⟨rfl, hb7⟩; have hA7 := hA5.below (Nat.le_refl _) hb7; have hb8 := hb6.trans (hb7.mono hb6.size))
      | (go_at_call 14; refine (cS _ _ hA7).mono ?_; clear cS; rintro e w9 ⟨rfl, hb9⟩))
    exact hfin.out _ (hb8.trans (hb9.mono hb8.size))
  · have hcellsh := Lib.hid hcells
    have hb6 := hb3.trans (hb5.mono hb3.size)
    have hA5 := hA3.below (Nat.le_refl _) hb5
    clear hcells
    go_loopw [10, 39] (fun t p wr => ∃ (k : Nat), k ≤ cs.length ∧ p = .int .i64 k ∧ t = .int .i64 (wsum (cs.take k)) ∧ Below w5.heap.size w5 wr) (fun _ p _ => cs.length - (intOf p).toNat)
    case atStart => exact ⟨0, by omega, rfl, rfl, Below.refl _ _⟩
    case round =>
      obtain ⟨k, hk, rfl, rfl, hB⟩ := hrel
      by_cases hkl : k < cs.length
      · obtain ⟨e0, e1⟩ := hcellsh.out k hkl
        replace e0 := (hB.cell (p := ⟨g, k * 2, none⟩) hg).trans e0
        replace e1 := (hB.cell (p := ⟨g, k * 2 + 1, none⟩) hg).trans e1
        have hsn := Lib.hid (wsum_succ cs k hkl)
        have hrng := wsum_rng cs k hk
        obtain ⟨cm, cb, hc, hcm, hcb⟩ := hokh.out _ (List.getElem_mem hkl)
        rw [hc] at e0 e1 hsn
        simp only [Int.toNat_natCast] at e0 e1 hsn
        have hk0 : (k : Int) < (cs.length : Int) := by omega
        have hk1 : (0 : Int) ≤ (k : Int) := by omega
        have han := andNotN cb cm hcb hcm
        have hcm' : ¬ (cm : Int) > 4095 := by omega
        generalize hws : wsum (cs.take k) = s at *
        have hwsh := Lib.hid hws
        clear hc hws
        go_wp2_with fail
        have q := World.alloc_heap_new wr (.cells #[.int .u64 (cm : Int), .int .u64 (cb : Int)] 51)
        have q0 := cell_of (i := 0) q
        simp only [List.getElem?_toArray, List.getElem?_cons_zero] at q0
        have hB2 := hB.alloc hB.size (.cells #[.int .u64 (cm : Int), .int .u64 (cb : Int)] 51)
        clear q
        obtain ⟨wo, hwo⟩ : ∃ wo, wr.alloc (.cells #[.int .u64 (cm : Int), .int .u64 (cb : Int)] 51) = wo := ⟨_, rfl⟩
        rw [hwo] at q0 hB2 ⊢
        clear hwo
        generalize wr.heap.size = Bo at *
        have h12 := mny_le cm 12 (by omega)
        go_loopw [13, 54] (fun t p w' => ∃ (v : Nat), v ≤ 12 ∧ p = .int .i64 v ∧ t = .int .i64 (mny cm v : Nat) ∧ w' = wo) (fun _ p _ => 12 - (intOf p).toNat)
        case atStart => exact ⟨0, by omega, rfl, rfl, rfl⟩
        case round =>
          obtain ⟨v, hv, rfl, rfl, rfl⟩ := hrel
          have hmv := mny_le cm v hv
          by_cases hv12 : v < 12
          · have hbit := bitN cm v hcm
            have hv0 : (v : Int) < 12 := by omega
            have hv1 : (0 : Int) ≤ (v : Int) := by omega
            cases ht : cm.testBit v with
            | true =>
              rw [ht] at hbit
              have hst := Lib.hid (mny_t ht)
              clear ht
              go_wp2_with fail
              exact ⟨⟨v + 1, by omega, by go_num, by rw [hst.out]; push_cast; rfl, trivial⟩, by simp [intOf]; omega⟩
            | false =>
              rw [ht] at hbit
              have hst := Lib.hid (mny_f ht)
              clear ht
              go_wp2_with fail
              exact ⟨⟨v + 1, by omega, by go_num, by rw [hst.out], trivial⟩, by simp [intOf]; omega⟩
          · obtain rfl : v = 12 := by omega
            go_wp2_with fail
            exact ⟨⟨k + 1, by omega, by go_num, by rw [hsn.out], hB2⟩, by simp [intOf]; omega⟩
      · obtain rfl : k = cs.length := by omega
        go_wp2_with (first
          | (go_at_call 11; refine (hal _).mono ?_; rintro e w7 ⟨rfl, hb7⟩; have hA7 := (hA5.below (Nat.le_refl _) hB).below (Nat.le_refl _) hb7; have hb8 := (hb6.trans (hB.mono hb6.size)).trans (hb7.mono (Nat.le_trans hb6.size hB.size)))
          | (go_at_call 14; refine (cS _ _ hA7).mono ?_; clear cS; rintro e w9 ⟨rfl, hb9⟩))
        exact hfin.out _ (hb8.trans (hb9.mono hb8.size))

theorem weights_law (A : Option Addr) (cap : Nat) (ops : List Nd) (f value : Int) (w : World) (hr : OpsRd w A ops) (hm : ops.length ≤ maxLen ∧ ops.length ≤ cap ∧ cap ≤ maxLen) :
    Calls Try.prog 7 #[.slice A ops.length cap, .int .i64 f, .int .i64 value] w fun e w' => e = .returned (.bool true) ∧ Below w.heap.size w w' := by
  by_cases h : 24 < ops.length
  · exact weights_long A cap ops f value w hr hm.1 h
  · exact weights_short A cap ops f value w hr (by omega)
end Go.Proofs.Yteifllgcpickhaa
