/- count: the document's Sat -/
import Derived.Test.YteifllgcpickhaaRH
namespace Go.Proofs.Yteifllgcpickhaa
open Go.RowKit

theorem reach_len (l : List Nd) (f : Int) : (reach l f).length ≤ 8192 := by
  unfold reach
  split
  · have := dn_len l 13 [] f
    simp at this
    omega
  · simp

set_option maxRecDepth 100000 in
set_option maxHeartbeats 2000000 in
theorem rsat_off {lim : Int} {A : Option Addr} {cap : Nat} {l : List Nd} (f value n : Int) (w : World) (h : n < 0 ∨ 12 < n ∨ hasB l f = false) :
    Calls Try.prog 15 #[.agg #[.int .i64 lim, .slice A l.length cap], .int .i64 f, .int .i64 value, .int .i64 n] w fun e w' => e = .returned (.int .i64 0) ∧ Below w.heap.size w w' := by
  obtain ⟨hB, q0, q1, hlt⟩ := ref_box w lim A l cap
  by_cases h0 : n < 0
  · clear h q0 q1 hlt
    go_enter Try.func15, Try.ntmps15
    go_wp2_with fail
    go_ret
    exact ⟨rfl, hB⟩
  · by_cases h1 : n > 12
    · clear h q0 q1 hlt
      go_enter Try.func15, Try.ntmps15
      go_wp2_with fail
      go_ret
      exact ⟨rfl, hB⟩
    · have hh : hasB l f = false := by rcases h with h | h | h; (omega); (omega); exact h
      have cH := fun W => rhas_any lim A cap l f W
      rw [hh] at cH
      clear h hh
      obtain ⟨w1, hw1⟩ : ∃ w1, w.alloc (.cells #[.int .i64 lim, .slice A l.length cap] 27) = w1 := ⟨_, rfl⟩
      rw [hw1] at hB q0 q1 hlt
      go_enter Try.func15, Try.ntmps15
      go_wp2_with (go_at_call 31; refine (cH _).mono ?_; rintro e w3 ⟨rfl, hb⟩)
      go_ret
      exact ⟨rfl, hB.trans (hb.mono hB.size)⟩

set_option maxRecDepth 100000 in
set_option maxHeartbeats 4000000 in
theorem rsat_on {lim : Int} {A : Option Addr} {cap : Nat} {l : List Nd} (hW : WF l) (hlen : l.length ≤ 1000) (f value : Int) (n : Nat) (w : World) (hn : NodesAt w A l) (hn12 : n ≤ 12) (hh : hasB l f = true) :
    Calls Try.prog 15 #[.agg #[.int .i64 lim, .slice A l.length cap], .int .i64 f, .int .i64 value, .int .i64 n] w fun e w' => e = .returned (.int .i64 (satR l f value n)) ∧ Below w.heap.size w w' := by
  obtain ⟨hB, q0, q1, hlt⟩ := ref_box w lim A l cap
  have cH := fun W => rhas_any lim A cap l f W
  rw [hh] at cH
  have cT : ∀ W, Below w.heap.size w W → _ := fun W hb => tell_rd (lim := lim) (cap := cap) hW hlen f W (hn.below (Nat.le_refl _) hb)
  have cL : ∀ W, Below w.heap.size w W → Calls Try.prog 39 #[.agg #[.int .i64 lim, .slice A l.length cap], .slice none 0 0, .int .i64 f] W fun e w' => ∃ g c, e = .returned (.slice (some ⟨g, 0, none⟩) (reach l f).length c) ∧ g < w'.heap.size ∧ (∀ i (hi : i < (reach l f).length), w'.cell? ⟨g, i, none⟩ = some (.int .i64 (reach l f)[i])) ∧ Below W.heap.size W w' := fun W hb => by
    refine (rbelow_any hW hlen lim A cap W (hn.below (Nat.le_refl _) hb) f hh).mono ?_
    rintro e w' ⟨v, rfl, ho, hb'⟩
    rcases ints_read ho with ⟨_, h2⟩ | ⟨g, c, rfl, _, hg, hc⟩
    · have h12 := varOf_nonneg hW f
      have := dn_self hW 13 [] f (by omega)
      unfold reach at h2
      rw [if_pos hh] at h2
      rw [h2] at this
      cases this
    · exact ⟨g, c, rfl, hg, hc, hb'⟩
  have hxl := reach_len l f
  have hxh := Lib.hid (reach_has hW hh)
  have hgood := Lib.hid (fun hg => satR_count hW f value n hn12 hh hg)
  have hbad := Lib.hid (fun x (hx : x ∈ reach l f) (hb : badN l n x) => satR_bad (l := l) f value n (.inr (.inr (.inr ⟨x, hx, hb⟩))))
  generalize satR l f value n = sr at *
  generalize reach l f = xs at *
  have hn0 : ¬ (n : Int) < 0 := by omega
  have hn1 : ¬ (n : Int) > 12 := by omega
  have hnh := Lib.hid hn
  clear hh hn
  obtain ⟨w1, hw1⟩ : ∃ w1, w.alloc (.cells #[.int .i64 lim, .slice A l.length cap] 27) = w1 := ⟨_, rfl⟩
  rw [hw1] at hB q0 q1 hlt
  go_enter Try.func15, Try.ntmps15
  go_wp2_with (first
    | (go_at_call 31; refine (cH _).mono ?_; rintro e w3 ⟨rfl, hb⟩; have p0 := (hb.cell (p := ⟨w.heap.size, 0, none⟩) hlt).trans q0; have p1 := (hb.cell (p := ⟨w.heap.size, 1, none⟩) hlt).trans q1; have hB3 := hB.trans (hb.mono hB.size); have hl3 := Nat.lt_of_lt_of_le hlt hb.size)
    | (go_at_call 39; refine (cL _ hB3).mono ?_; clear cL; rintro e w4 ⟨g, c, rfl, hg, hcells, hb4⟩; have hch := Lib.hid hcells; have hB4 := hB3.trans (hb4.mono hB3.size); have s0 := (hb4.cell (p := ⟨w.heap.size, 0, none⟩) hl3).trans p0; have s1 := (hb4.cell (p := ⟨w.heap.size, 1, none⟩) hl3).trans p1; have hl4 := Nat.lt_of_lt_of_le hl3 hb4.size; clear hcells))
  clear p0 p1 q0 q1 hw1 hlt hl3
  go_loopw [10] (fun p wr => ∃ (i : Nat), i ≤ xs.length ∧ p = .int .i64 i ∧ (∀ j (hj : j < xs.length), j < i → ¬ badN l n xs[j]) ∧ Below w4.heap.size w4 wr) (fun p _ => xs.length - (intOf p).toNat)
  case atStart => exact ⟨0, by omega, rfl, fun j _ h => by omega, Below.refl _ _⟩
  case round =>
    obtain ⟨i, hi, rfl, hno, hBr⟩ := hrel
    have hnoh := Lib.hid hno
    clear hno
    have t0 := (hBr.cell (p := ⟨w.heap.size, 0, none⟩) hl4).trans s0
    have t1 := (hBr.cell (p := ⟨w.heap.size, 1, none⟩) hl4).trans s1
    have hBf := hB4.trans (hBr.mono hB4.size)
    by_cases hil : i < xs.length
    · have e0 := (hBr.cell (p := ⟨g, i, none⟩) hg).trans (hch.out i hil)
      have i0 : (i : Int) < (xs.length : Int) := by omega
      have i1 : (0 : Int) ≤ (i : Int) := by omega
      have hmem : xs[i] ∈ xs := List.getElem_mem hil
      have hhas := hxh.out _ hmem
      have hnext : ¬ badN l n xs[i] → ∀ j (hj : j < xs.length), j < i + 1 → ¬ badN l n xs[j] := fun hb j hj hji => by
        by_cases e : j = i
        · subst e; exact hb
        · exact hnoh.out j hj (by omega)
      have hnxh := Lib.hid hnext
      have hbdh := Lib.hid (fun hb => hbad.out _ hmem hb)
      clear hnext hmem
      generalize xs[i] = x at *
      have hxr := hasB_range hhas
      by_cases hx0 : x < 0
      · have hd : decide (x ≥ 0) = false := by simp; omega
        have hnb : ¬ badN l n x := fun h => by have := h.1; omega
        have hstep := Lib.hid (hnxh.out hnb)
        clear hhas hxr hnb
        go_wp2_with fail
        go_quiet (fail)
        go_wp2_with fail
        go_roundw
        case rel => exact ⟨i + 1, by omega, by go_num, hstep.out, below_drewN hBr nq⟩
        case measure => simp [intOf]; omega
      · obtain ⟨k, rfl⟩ : ∃ k : Nat, x = k := ⟨x.toNat, by omega⟩
        have hkl : k < l.length := by omega
        obtain ⟨lb, rfl, hlb, hcl⟩ := hnh.out (by omega)
        have c0 := (hBf.cell (p := ⟨lb, k * 3, none⟩) hlb).trans (hcl k hkl).1
        have hv : varOf l k = l[k].v := by unfold varOf; rw [if_pos (by omega)]; simp [hkl]
        have k0 : (k : Int) ≥ 0 := by omega
        have k1 : (k : Int) < (l.length : Int) := by omega
        have k2 : (0 : Int) ≤ (k : Int) := by omega
        have hbi : badN l n k ↔ l[k].v ≥ (n : Int) := by unfold badN; rw [hv]; omega
        clear hcl hv hhas hxr hx0
        by_cases hvn : l[k].v ≥ (n : Int)
        · have hs := Lib.hid (hbdh.out (hbi.2 hvn))
          generalize l[k].v = vk at *
          clear hbi
          go_wp2_with fail
          go_quiet (fail)
          go_wp2_with fail
          go_ret
          exact ⟨by rw [hs.out]; rfl, below_drewN hBf nq⟩
        · have hstep := Lib.hid (hnxh.out (fun h => hvn (hbi.1 h)))
          generalize l[k].v = vk at *
          clear hbi
          have hd : decide (vk ≥ (n : Int)) = false := by simp; omega
          go_wp2_with fail
          go_quiet (fail)
          go_wp2_with fail
          go_roundw
          case rel => exact ⟨i + 1, by omega, by go_num, hstep.out, below_drewN hBr nq⟩
          case measure => simp [intOf]; omega
    · obtain rfl : i = xs.length := by omega
      have hsr := Lib.hid (hgood.out (fun x hx hb => by
        obtain ⟨j, hj, rfl⟩ := List.getElem_of_mem hx
        exact hnoh.out j hj hj hb))
      clear hnoh hgood hbad hch
      go_wp2_with fail
      generalize wr = wo at *
      go_loopw [11, 12] (fun t p w' => ∃ (j : Nat), j ≤ n ∧ p = .int .i64 j ∧ t = .int .i64 ((2 : Int) ^ j) ∧ w' = wo) (fun _ p _ => n - (intOf p).toNat)
      case atStart => exact ⟨0, by omega, rfl, rfl, rfl⟩
      case round =>
        obtain ⟨j, hj, rfl, rfl, hww⟩ := hrel
        obtain rfl : wo = wr := hww.symm
        by_cases hjn : j < n
        · have j1 : (j : Int) < (n : Int) := by omega
          obtain ⟨pj1, pj2⟩ := pow_le j (by omega)
          have hps := Lib.hid (Int.pow_succ 2 j)
          go_wp2_with fail
          go_roundw
          case rel => exact ⟨j + 1, by omega, by go_num, by rw [hps.out], trivial⟩
          case measure => simp [intOf]; omega
        · obtain rfl : j = n := by omega
          have hT : (2 : Nat) ^ j ≤ 4096 := (Nat.pow_le_pow_right (by omega) hn12 : 2 ^ j ≤ 2 ^ 12)
          have hpn := pow_nat j
          rw [hpn]
          generalize (2 : Nat) ^ j = T at *
          have hpnh := Lib.hid hpn
          clear hpn
          go_wp2_with (refine (cT _ hBf).mono ?_; clear cT; rintro e w5 ⟨g5, c5, rfl, hg5, hcells5, hb5⟩)
          have hc5 := Lib.hid hcells5
          have hB5 := hBf.trans (hb5.mono hBf.size)
          clear hcells5 hb5 t0 t1 s0 s1
          go_loopw [14, 15] (fun t p w' => ∃ (i : Nat), i ≤ T ∧ p = .int .i64 i ∧ t = .int .i64 ((List.range i).countP (fun x => decide (tellN l f x = value)) : Nat) ∧ w' = w5) (fun _ p _ => T - (intOf p).toNat)
          case atStart => exact ⟨0, by omega, rfl, rfl, rfl⟩
          case round =>
            obtain ⟨i, hiT, rfl, rfl, hww⟩ := hrel
            obtain rfl : w5 = wr := hww.symm
            have hcl : (List.range i).countP (fun x => decide (tellN l f x = value)) ≤ i := by
              have := List.countP_le_length (p := fun x => decide (tellN l f x = value)) (l := List.range i)
              rwa [List.length_range] at this
            by_cases hlt : i < T
            · have e0 := hc5.out i (by omega)
              have i0 : (i : Int) < (T : Int) := by omega
              have i1 : (0 : Int) ≤ (i : Int) := by omega
              have i4 : (i : Int) < 4096 := by omega
              have hsn : (List.range (i + 1)).countP (fun x => decide (tellN l f x = value)) = (List.range i).countP (fun x => decide (tellN l f x = value)) + if tellN l f i = value then 1 else 0 := by
                rw [List.range_succ, List.countP_append, List.countP_singleton]
                simp
              generalize (List.range i).countP (fun x => decide (tellN l f x = value)) = ci at *
              have hsnh := Lib.hid hsn
              clear hsn
              generalize htv : tellN l f i = tv at *
              by_cases hv : tv = value
              · have hv' : (tv == value) = true := by simpa using hv
                have hs2 := Lib.hid (show (List.range (i + 1)).countP (fun x => decide (tellN l f x = value)) = ci + 1 by rw [hsnh.out, if_pos hv])
                clear hsnh htv hv
                go_wp2_with fail
                go_roundw
                case rel => exact ⟨i + 1, by omega, by go_num, by rw [hs2.out]; push_cast; rfl, trivial⟩
                case measure => simp [intOf]; omega
              · have hv' : (tv == value) = false := by simpa using hv
                have hs2 := Lib.hid (show (List.range (i + 1)).countP (fun x => decide (tellN l f x = value)) = ci by rw [hsnh.out, if_neg hv]; rfl)
                clear hsnh htv hv
                go_wp2_with fail
                go_roundw
                case rel => exact ⟨i + 1, by omega, by go_num, by rw [hs2.out], trivial⟩
                case measure => simp [intOf]; omega
            · obtain rfl : i = T := by omega
              go_wp2_with fail
              go_ret
              exact ⟨by rw [hsr.out]; rfl, hB5⟩

/-- for how many numbers of so many bits a value is told -/
theorem rsat_any {lim : Int} {A : Option Addr} {cap : Nat} {l : List Nd} (hW : WF l) (hlen : l.length ≤ 1000) (f value n : Int) (w : World) (hn : NodesAt w A l) :
    Calls Try.prog 15 #[.agg #[.int .i64 lim, .slice A l.length cap], .int .i64 f, .int .i64 value, .int .i64 n] w fun e w' => e = .returned (.int .i64 (satR l f value n)) ∧ Below w.heap.size w w' := by
  by_cases h : n < 0 ∨ 12 < n ∨ hasB l f = false
  · have hs : satR l f value n = 0 := satR_bad f value n (by rcases h with h | h | h; (exact .inl h); (exact .inr (.inl h)); (exact .inr (.inr (.inl h))))
    rw [hs]
    exact rsat_off f value n w h
  · obtain ⟨k, rfl⟩ : ∃ k : Nat, n = k := ⟨n.toNat, by omega⟩
    exact rsat_on hW hlen f value k w hn (by omega) (by cases hh : hasB l f; (exact absurd (.inr (.inr hh)) h); rfl)
end Go.Proofs.Yteifllgcpickhaa
