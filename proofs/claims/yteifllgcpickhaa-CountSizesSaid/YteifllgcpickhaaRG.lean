/- count: the document's Size -/
import Derived.Test.YteifllgcpickhaaRI
import Derived.Test.YteifllgcpickhaaP5
namespace Go.Proofs.Yteifllgcpickhaa
open Go.RowKit

set_option maxRecDepth 100000 in
set_option maxHeartbeats 2000000 in
theorem rsize_any {lim : Int} {A : Option Addr} {cap : Nat} {l : List Nd} (hW : WF l) (hlen : l.length ≤ 1000) (f : Int) (w : World) (hn : NodesAt w A l) :
    Calls Try.prog 19 #[.agg #[.int .i64 lim, .slice A l.length cap], .int .i64 f] w fun e w' => e = .returned (.int .i64 (cntN (reach l f))) ∧ Below w.heap.size w w' := by
  obtain ⟨hB, q0, q1, hlt⟩ := ref_box w lim A l cap
  have cH := fun W => rhas_any lim A cap l f W
  cases hh : hasB l f with
  | false =>
    have hc : cntN (reach l f) = 0 := by unfold reach; rw [hh]; rfl
    rw [hc]
    rw [hh] at cH
    clear hc hh
    obtain ⟨w1, hw1⟩ : ∃ w1, w.alloc (.cells #[.int .i64 lim, .slice A l.length cap] 27) = w1 := ⟨_, rfl⟩
    rw [hw1] at hB q0 q1 hlt
    go_enter Try.func19, Try.ntmps19
    go_wp2_with (go_at_call 31; refine (cH _).mono ?_; rintro e w3 ⟨rfl, hb⟩)
    go_ret
    exact ⟨rfl, hB.trans (hb.mono hB.size)⟩
  | true =>
    rw [hh] at cH
    have cL : ∀ W, Below w.heap.size w W → Calls Try.prog 39 #[.agg #[.int .i64 lim, .slice A l.length cap], .slice none 0 0, .int .i64 f] W fun e w' => ∃ g c, e = .returned (.slice (some ⟨g, 0, none⟩) (reach l f).length c) ∧ g < w'.heap.size ∧ (∀ i (hi : i < (reach l f).length), w'.cell? ⟨g, i, none⟩ = some (.int .i64 (reach l f)[i])) ∧ Below W.heap.size W w' := fun W hb => by
      refine (rbelow_any hW hlen lim A cap W (hn.below (Nat.le_refl _) hb) f hh).mono ?_
      rintro e w' ⟨v, rfl, ho, hb'⟩
      rcases ints_read ho with ⟨_, h2⟩ | ⟨g, c, rfl, _, hg, hc⟩
      · have h12 := varOf_nonneg hW f
        have := dn_self hW 13 [] f (by omega)
        unfold reach at h2
        rw [if_pos hh] at h2
        rw [h2] at this
        cases this
      · exact ⟨g, c, rfl, hg, hc, hb'⟩
    have hxl := reach_len l f
    generalize reach l f = xs at *
    clear hh
    obtain ⟨w1, hw1⟩ : ∃ w1, w.alloc (.cells #[.int .i64 lim, .slice A l.length cap] 27) = w1 := ⟨_, rfl⟩
    rw [hw1] at hB q0 q1 hlt
    go_enter Try.func19, Try.ntmps19
    go_wp2_with (first
      | (go_at_call 31; refine (cH _).mono ?_; rintro e w3 ⟨rfl, hb⟩; have p0 := (hb.cell (p := ⟨w.heap.size, 0, none⟩) hlt).trans q0; have p1 := (hb.cell (p := ⟨w.heap.size, 1, none⟩) hlt).trans q1; have hB3 := hB.trans (hb.mono hB.size); have hl3 := Nat.lt_of_lt_of_le hlt hb.size)
      | (go_at_call 39; refine (cL _ hB3).mono ?_; clear cL; rintro e w4 ⟨g, c, rfl, hg, hcells, hb4⟩; have hch := Lib.hid hcells; have hB4 := hB3.trans (hb4.mono hB3.size); clear hcells))
    clear p0 p1 q0 q1 hw1 hlt hl3
    go_loopw [6, 7] (fun t p wr => ∃ (i : Nat), i ≤ xs.length ∧ p = .int .i64 i ∧ t = .int .i64 (cntN (xs.take i)) ∧ wr = w4) (fun _ p _ => xs.length - (intOf p).toNat)
    case atStart => exact ⟨0, by omega, rfl, rfl, rfl⟩
    case round =>
      obtain ⟨i, hi, rfl, rfl, hww⟩ := hrel
      obtain rfl : w4 = wr := hww.symm
      have hcn := cntN_le (xs.take i)
      have hli : (xs.take i).length ≤ i := List.length_take_le _ _
      by_cases hil : i < xs.length
      · have e0 := hch.out i hil
        have i0 : (i : Int) < (xs.length : Int) := by omega
        have i1 : (0 : Int) ≤ (i : Int) := by omega
        have hsn : cntN (xs.take (i + 1)) = if xs[i] < 0 then cntN (xs.take i) else cntN (xs.take i) + 1 := by rw [List.take_succ_eq_append_getElem hil, cntN_snoc]
        generalize cntN (xs.take i) = cn at *
        generalize xs[i] = x at *
        have hsnh := Lib.hid hsn
        clear hsn
        by_cases hx : x ≥ 0
        · have hs := Lib.hid (show cntN (xs.take (i + 1)) = cn + 1 by rw [hsnh.out, if_neg (by omega)])
          clear hsnh
          go_wp2_with fail
          go_roundw
          case rel => exact ⟨i + 1, by omega, by go_num, by rw [hs.out], trivial⟩
          case measure => simp [intOf]; omega
        · have hs := Lib.hid (show cntN (xs.take (i + 1)) = cn by rw [hsnh.out, if_pos (by omega)])
          clear hsnh
          go_wp2_with fail
          go_roundw
          case rel => exact ⟨i + 1, by omega, by go_num, by rw [hs.out], trivial⟩
          case measure => simp [intOf]; omega
      · obtain rfl : i = xs.length := by omega
        go_wp2_with fail
        go_ret
        exact ⟨rfl, hB4⟩
end Go.Proofs.Yteifllgcpickhaa
