/- count: the document's Cubes -/
import Derived.Test.YteifllgcpickhaaRD
import Derived.Laws.AppendOwnNone
namespace Go.Proofs.Yteifllgcpickhaa
open Go.RowKit

/-- a slice of the document's cubes, of the call's own -/
def OwnRef (w : World) (n0 : Nat) (v : Value) (cs : List (Int × Int)) : Prop := w.ownsRow n0 50 2 v cs.length (ccells cs)
theorem Try.info50 : (Try.prog.info? 50).map (fun i => (i.zero, i.size, i.bytes)) = some (some (.agg #[.int .u64 0, .int .u64 0]), 2, 16) := by kernel_rfl

theorem rcub_no (l : List Nd) (f value m b : Int) (w : World) (lim : Int) (A : Option Addr) (cap : Nat) (hx : ¬ (0 ≤ f ∧ f < l.length)) (hv : ¬ (hasB l f = true ∧ valN f = value)) :
    Calls Try.prog 23 #[.agg #[.int .i64 lim, .slice A l.length cap], .int .i64 f, .int .i64 value, .agg #[.int .u64 m, .int .u64 b]] w fun e w' => e = .returned (.slice none 0 0) ∧ Below w.heap.size w w' := by
  have hB2 : Below w.heap.size w ((w.alloc (.cells #[.int .i64 lim, .slice A l.length cap] 27)).alloc (.cells #[.int .u64 m, .int .u64 b] 50)) := ((Below.refl _ _).alloc (Nat.le_refl _) _).alloc (by simp) _
  have cH := fun W => rhas_any lim A cap l f W
  by_cases h0 : f < 0
  · cases hh : hasB l f with
    | false =>
      rw [hh] at cH
      clear hx hv hh
      go_enter Try.func23, Try.ntmps23
      go_wp2_with (go_at_call 31; refine (cH _).mono ?_; rintro e w3 ⟨rfl, hb⟩)
      go_ret
      exact ⟨rfl, hB2.trans (hb.mono hB2.size)⟩
    | true =>
      have hne : (valN f == value) = false := by simpa using fun e => hv ⟨hh, e⟩
      rw [hh] at cH
      clear hx hv hh
      go_enter Try.func23, Try.ntmps23
      go_wp2_with (first
        | (go_at_call 31; refine (cH _).mono ?_; rintro e w3 ⟨rfl, hb⟩)
        | (go_at_call 42; refine (rvalue_any _ _).mono ?_; rintro e w4 ⟨rfl, rfl⟩))
      go_ret
      exact ⟨rfl, hB2.trans (hb.mono hB2.size)⟩
  · have h1 : f ≥ (l.length : Int) := by omega
    have hh : hasB l f = false := by unfold hasB; simp; omega
    rw [hh] at cH
    clear hx hv hh
    go_enter Try.func23, Try.ntmps23
    go_wp2_with (go_at_call 31; refine (cH _).mono ?_; rintro e w3 ⟨rfl, hb⟩)
    go_ret
    exact ⟨rfl, hB2.trans (hb.mono hB2.size)⟩

theorem rcub_yes (l : List Nd) (f value m b : Int) (w : World) (lim : Int) (A : Option Addr) (cap : Nat) (h0 : f < 0) (hh : hasB l f = true) (hv : valN f = value) :
    Calls Try.prog 23 #[.agg #[.int .i64 lim, .slice A l.length cap], .int .i64 f, .int .i64 value, .agg #[.int .u64 m, .int .u64 b]] w fun e w' => ∃ v, e = .returned v ∧ OwnRef w' w.heap.size v [(m, b)] ∧ Below w.heap.size w w' := by
  have hB2 : Below w.heap.size w ((w.alloc (.cells #[.int .i64 lim, .slice A l.length cap] 27)).alloc (.cells #[.int .u64 m, .int .u64 b] 50)) := ((Below.refl _ _).alloc (Nat.le_refl _) _).alloc (by simp) _
  have q := World.alloc_heap_new (w.alloc (.cells #[.int .i64 lim, .slice A l.length cap] 27)) (.cells #[.int .u64 m, .int .u64 b] 50)
  have q0 := cell_of (i := 0) q
  have q1 := cell_of (i := 1) q
  have hlt : w.heap.size + 1 < ((w.alloc (.cells #[.int .i64 lim, .slice A l.length cap] 27)).alloc (.cells #[.int .u64 m, .int .u64 b] 50)).heap.size := by simp
  have r := (Below.heap_alloc (w.alloc (.cells #[.int .i64 lim, .slice A l.length cap] 27)) (.cells #[.int .u64 m, .int .u64 b] 50) w.heap.size (by simp)).trans (World.alloc_heap_new w (.cells #[.int .i64 lim, .slice A l.length cap] 27))
  have r0 := cell_of (i := 0) r
  have r1 := cell_of (i := 1) r
  simp only [World.size_alloc, List.getElem?_toArray, List.getElem?_cons_succ, List.getElem?_cons_zero] at q0 q1 r0 r1
  have cH := fun W => rhas_any lim A cap l f W
  rw [hh] at cH
  have hfin : ∀ w3 : World, w.heap.size ≤ w3.heap.size → (w3.alloc (.cells #[.int .u64 m, .int .u64 b] 50)).ownsRow w.heap.size 50 2 (.slice (some ⟨w3.heap.size, 0, none⟩) 1 1) 1 [.int .u64 m, .int .u64 b] := fun w3 hs =>
    ⟨rfl, .inr ⟨_, 1, _, rfl, hs, World.alloc_heap_new w3 _, by omega, by decide, rfl, rfl⟩⟩
  clear q r hh
  obtain ⟨W, hW⟩ : ∃ W, (w.alloc (.cells #[.int .i64 lim, .slice A l.length cap] 27)).alloc (.cells #[.int .u64 m, .int .u64 b] 50) = W := ⟨_, rfl⟩
  rw [hW] at hB2 q0 q1 r0 r1 hlt
  go_enter Try.func23, Try.ntmps23
  go_wp2_with (first
    | (go_at_call 31; refine (cH _).mono ?_; rintro e w3 ⟨rfl, hb⟩; have p0 := (hb.cell (p := ⟨w.heap.size + 1, 0, none⟩) hlt).trans q0; have p1 := (hb.cell (p := ⟨w.heap.size + 1, 1, none⟩) hlt).trans q1)
    | (go_at_call 42; refine (rvalue_any _ _).mono ?_; rintro e w4 ⟨rfl, rfl⟩))
  go_ret
  have hb9 := hB2.trans (hb.mono hB2.size)
  exact ⟨_, rfl, hfin _ hb9.size, hb9.alloc hb9.size _⟩

def RCubEnd (w : World) (cs : List (Int × Int)) (e : Ending) (w' : World) : Prop := ∃ v, e = .returned v ∧ OwnRef w' w.heap.size v cs ∧ Below w.heap.size w w'

theorem ccells_one (cs : List (Int × Int)) : ∀ u ∈ ccells cs, u.oneCell' = true := by
  intro u hu
  simp only [ccells, List.mem_flatMap] at hu
  obtain ⟨c, _, hc⟩ := hu
  simp at hc
  rcases hc with rfl | rfl <;> rfl
theorem ccells_append (a b : List (Int × Int)) : ccells (a ++ b) = ccells a ++ ccells b := by simp [ccells]
theorem row_news {w : World} {n0 e size n : Nat} {g cap : Nat} {xs : List Value} (h : w.ownsRow n0 e size (.slice (some ⟨g, 0, none⟩) n cap) n xs) : ∀ j u, xs[j]? = some u → w.cell? ((⟨g, 0, none⟩ : Addr).add j) = some u := by
  intro j u hu
  rw [add_zero_addr]
  rcases h.2 with ⟨h1, _⟩ | ⟨g', cap', cur, h1, h2, h3, h4, h5, h6, h7⟩
  · cases h1
  · cases h1
    rw [cell_of h3, ← Array.getElem?_toList]
    rw [← h7] at hu
    rw [List.getElem?_take] at hu
    split at hu
    · exact hu
    · cases hu

set_option maxRecDepth 100000 in
set_option maxHeartbeats 4000000 in
theorem rcub_node {l : List Nd} {f value m b lo hi : Int} {k : Nat} {w : World} {lim : Int} {A : Option Addr} {cap : Nat} {cs1 cs2 : List (Int × Int)} (hlen : l.length ≤ 1000) (hn : NodesAt w A l) (hx : 0 ≤ f ∧ f < l.length) (e : l[f.toNat]?.getD default = ⟨(k : Int), lo, hi⟩) (hk : k ≤ 11)
    (hm0 : 0 ≤ m) (hm1 : m < 2 ^ k) (hb0 : 0 ≤ b) (hb1 : b < 2 ^ k) (hc1 : cs1.length ≤ 8192) (hc2 : cs2.length ≤ 8192)
    (cLo : ∀ W, Below w.heap.size w W → Calls Try.prog 23 #[.agg #[.int .i64 lim, .slice A l.length cap], .int .i64 lo, .int .i64 value, .agg #[.int .u64 (m + 2 ^ k), .int .u64 b]] W (RCubEnd W cs1))
    (cHi : ∀ W, Below w.heap.size w W → Calls Try.prog 23 #[.agg #[.int .i64 lim, .slice A l.length cap], .int .i64 hi, .int .i64 value, .agg #[.int .u64 (m + 2 ^ k), .int .u64 (b + 2 ^ k)]] W (RCubEnd W cs2)) :
    Calls Try.prog 23 #[.agg #[.int .i64 lim, .slice A l.length cap], .int .i64 f, .int .i64 value, .agg #[.int .u64 m, .int .u64 b]] w (RCubEnd w (cs1 ++ cs2)) := by
  obtain ⟨i, rfl⟩ : ∃ i : Nat, f = i := ⟨f.toNat, by omega⟩
  have hil : i < l.length := by omega
  obtain ⟨lb, rfl, hlb, hcells⟩ := hn (by omega)
  obtain ⟨c0, c1, c2⟩ := hcells i hil
  rw [Int.toNat_natCast, getD_of hil] at e
  rw [e] at c0 c1 c2
  simp only at c0 c1 c2
  have hi0 : ¬ (i : Int) < 0 := by omega
  have hi1 : ¬ (i : Int) ≥ (l.length : Int) := by omega
  have hi2 : (0 : Int) ≤ (i : Int) := by omega
  have hi3 : (i : Int) < (l.length : Int) := by omega
  obtain ⟨p1, p2⟩ := pow_le k hk
  have hw1 : IntKind.u64.wrap (m + 2 ^ k) = m + 2 ^ k := by rw [wrap_u64]; omega
  have hw2 : IntKind.u64.wrap (b + 2 ^ k) = b + 2 ^ k := by rw [wrap_u64]; omega
  have hB2 : Below w.heap.size w ((w.alloc (.cells #[.int .i64 lim, .slice (some ⟨lb, 0, none⟩) l.length cap] 27)).alloc (.cells #[.int .u64 m, .int .u64 b] 50)) := ((Below.refl _ _).alloc (Nat.le_refl _) _).alloc (by simp) _
  have q := World.alloc_heap_new (w.alloc (.cells #[.int .i64 lim, .slice (some ⟨lb, 0, none⟩) l.length cap] 27)) (.cells #[.int .u64 m, .int .u64 b] 50)
  have r := (Below.heap_alloc (w.alloc (.cells #[.int .i64 lim, .slice (some ⟨lb, 0, none⟩) l.length cap] 27)) (.cells #[.int .u64 m, .int .u64 b] 50) w.heap.size (by simp)).trans (World.alloc_heap_new w (.cells #[.int .i64 lim, .slice (some ⟨lb, 0, none⟩) l.length cap] 27))
  have q0 := cell_of (i := 0) q
  have q1 := cell_of (i := 1) q
  have r0 := cell_of (i := 0) r
  have r1 := cell_of (i := 1) r
  simp only [World.size_alloc, List.getElem?_toArray, List.getElem?_cons_succ, List.getElem?_cons_zero] at q0 q1 r0 r1
  have hlt : w.heap.size + 2 ≤ ((w.alloc (.cells #[.int .i64 lim, .slice (some ⟨lb, 0, none⟩) l.length cap] 27)).alloc (.cells #[.int .u64 m, .int .u64 b] 50)).heap.size := by simp
  have d0 := (hB2.cell (p := ⟨lb, i * 3, none⟩) hlb).trans c0
  have d1 := (hB2.cell (p := ⟨lb, i * 3 + 1, none⟩) hlb).trans c1
  have d2 := (hB2.cell (p := ⟨lb, i * 3 + 2, none⟩) hlb).trans c2
  clear q r c0 c1 c2 hcells e hn hx
  obtain ⟨W, hW⟩ : ∃ W, (w.alloc (.cells #[.int .i64 lim, .slice (some ⟨lb, 0, none⟩) l.length cap] 27)).alloc (.cells #[.int .u64 m, .int .u64 b] 50) = W := ⟨_, rfl⟩
  rw [hW] at hB2 q0 q1 r0 r1 d0 d1 d2 hlt
  go_enter Try.func23, Try.ntmps23
  go_wp2_with fail
  have hB3 := hB2.alloc hB2.size (.cells #[.int .i64 (k : Int), .int .i64 lo, .int .i64 hi] 77)
  have h3 : Below W.heap.size W (W.alloc (.cells #[.int .i64 (k : Int), .int .i64 lo, .int .i64 hi] 77)) := (Below.refl _ _).alloc (Nat.le_refl _) _
  have s0 := (h3.cell (p := ⟨w.heap.size, 0, none⟩) (by show w.heap.size < _; omega)).trans r0
  have s1 := (h3.cell (p := ⟨w.heap.size, 1, none⟩) (by show w.heap.size < _; omega)).trans r1
  have t0 := (h3.cell (p := ⟨w.heap.size + 1, 0, none⟩) (by show w.heap.size + 1 < _; omega)).trans q0
  have t1 := (h3.cell (p := ⟨w.heap.size + 1, 1, none⟩) (by show w.heap.size + 1 < _; omega)).trans q1
  have k0 := cell_new3 W (.int .i64 (k : Int)) (.int .i64 lo) (.int .i64 hi) 77 0
  have k1 := cell_new3 W (.int .i64 (k : Int)) (.int .i64 lo) (.int .i64 hi) 77 1
  have k2 := cell_new3 W (.int .i64 (k : Int)) (.int .i64 lo) (.int .i64 hi) 77 2
  simp only [List.getElem?_toArray, List.getElem?_cons_succ, List.getElem?_cons_zero] at k0 k1 k2
  have hsz : (W.alloc (.cells #[.int .i64 (k : Int), .int .i64 lo, .int .i64 hi] 77)).heap.size = W.heap.size + 1 := by simp
  have hszh := Lib.hid hsz
  clear r0 r1 q0 q1 d0 d1 d2 h3 hsz hB2 hW
  generalize W.alloc (.cells #[.int .i64 (k : Int), .int .i64 lo, .int .i64 hi] 77) = w4 at *
  have hlth := Lib.hid hlt
  have hBn : W.heap.size < w4.heap.size := by rw [hszh.out]; omega
  have hBs : w.heap.size + 2 ≤ w4.heap.size := by omega
  clear hlt hszh
  generalize W.heap.size = Bn at *
  go_loopw [10, 11] (fun t p wr => ∃ (j : Nat), j ≤ k ∧ p = .int .i64 j ∧ t = .int .u64 ((2 : Int) ^ j) ∧ wr = w4) (fun _ p _ => k - (intOf p).toNat)
  case atStart => exact ⟨0, by omega, rfl, rfl, rfl⟩
  case round =>
    obtain ⟨j, hj, rfl, rfl, rfl⟩ := hrel
    by_cases hjk : j < k
    · have hj1 : (j : Int) < (k : Int) := by omega
      obtain ⟨pj1, pj2⟩ := pow_le j (by omega)
      have hpw : IntKind.u64.wrap ((2 : Int) ^ j * 2) = (2 : Int) ^ (j + 1) := by rw [wrap_u64, ← Int.pow_succ]; have := pow_le (j + 1) (by omega); omega
      have hps := Lib.hid (Int.pow_succ 2 j)
      go_wp2_with fail
      exact ⟨⟨j + 1, by omega, by go_num, rfl, trivial⟩, by simp [intOf]; omega⟩
    · obtain rfl : j = k := by omega
      go_wp2_with fail
      refine (cLo _ hB3).mono ?_
      clear cLo
      rintro e w5 ⟨v1, rfl, ho1, hb5⟩
      have s5 := (hb5.cell (p := ⟨w.heap.size, 0, none⟩) (by show w.heap.size < _; omega)).trans s0
      have s51 := (hb5.cell (p := ⟨w.heap.size, 1, none⟩) (by show w.heap.size < _; omega)).trans s1
      have t5 := (hb5.cell (p := ⟨w.heap.size + 1, 0, none⟩) (by show w.heap.size + 1 < _; omega)).trans t0
      have t51 := (hb5.cell (p := ⟨w.heap.size + 1, 1, none⟩) (by show w.heap.size + 1 < _; omega)).trans t1
      have k52 := (hb5.cell (p := ⟨Bn, 2, none⟩) hBn).trans k2
      have hB5 := hB3.trans (hb5.mono hB3.size)
      go_wp2_with fail
      refine (cHi _ hB5).mono ?_
      clear cHi
      rintro e w6 ⟨v2, rfl, ho2, hb6⟩
      have ho16 := row_mono (row_below ho1 hb6) hB3.size
      have ho26 := row_mono ho2 hB5.size
      have hB6 := hB5.trans (hb6.mono hB5.size)
      have hfin : ∀ v' w', w'.ownsRow w.heap.size 50 2 v' (cs1.length + cs2.length) (ccells cs1 ++ ccells cs2) → Below w.heap.size w w' → RCubEnd w (cs1 ++ cs2) (.returned v') w' := fun v' w' h1 h2 => ⟨v', rfl, by unfold OwnRef; rw [ccells_append, List.length_append]; exact h1, h2⟩
      have hfinh := Lib.hid hfin
      generalize RCubEnd w (cs1 ++ cs2) = R at *
      clear hfin
      obtain ⟨i0, hi, hz0, hz1, hz2⟩ := info_parts Try.info50
      have hws := hB6.size
      have hone := ccells_one cs2
      have hcl := ccells_len cs2
      have hoh := Lib.hid hone
      have hch := Lib.hid hcl
      clear hone hcl
      rcases ho26.2 with ⟨rfl, h0⟩ | ⟨g2, cap2, cur, rfl, _⟩
      · have hnil := List.eq_nil_of_length_eq_zero h0
        subst hnil
        clear h0
        go_wp2_with (at_builtin; (refine wpList_append_own_none rfl (.tmp 58) (.tmp 72) 47 rfl w.heap.size 50 i0 2 Try.underlying47 hi _ _ _ rfl ho16 rfl ?_))
        exact hfinh.out _ _ (by simpa [ccells] using ho16) hB6
      · have hnews := Lib.hid (row_news ho26)
        go_wp2_with (at_builtin; (refine wpList_append_own _ rfl (.tmp 58) (.tmp 72) 47 rfl w.heap.size 50 i0 _ 2 16 Try.underlying47 hi hz0 hz1 hz2 rfl (by decide) _ _ _ rfl ho16 ⟨g2, 0, none⟩ cs2.length cap2 (ccells cs2) rfl hch.out hnews.out hoh.out (by unfold maxLen; omega) (by omega) hws ?_); intro v' w7 hown' hgrow _)
        exact hfinh.out _ _ hown' (hB6.grown hgrow hws (fun k hk => row_base ho16 k hk))

theorem rcubes_in {l : List Nd} (hW : WF l) (hlen : l.length ≤ 1000) (value lim : Int) (A : Option Addr) (cap : Nat) : ∀ (n : Nat) (f m b : Int) (w : World), n ≤ 13 → 12 - varOf l f < n → hasB l f = true → 0 ≤ m → m < 2 ^ (varOf l f).toNat → 0 ≤ b → b < 2 ^ (varOf l f).toNat → NodesAt w A l →
    Calls Try.prog 23 #[.agg #[.int .i64 lim, .slice A l.length cap], .int .i64 f, .int .i64 value, .agg #[.int .u64 m, .int .u64 b]] w (RCubEnd w (cub l value n f m b)) := by
  intro n
  induction n with
  | zero =>
    intro f m b w _ h
    have := varOf_le hW f
    omega
  | succ n ih =>
    intro f m b w hn13 hn hh hm0 hm1 hb0 hb1 hN
    by_cases hx : 0 ≤ f ∧ f < l.length
    · obtain ⟨v, lo, hi, e, _, hv, h1, h2, h3, h4, h5, h6⟩ := node_kids hW hx
      obtain ⟨k, rfl⟩ : ∃ k : Nat, v = k := ⟨v.toNat, by omega⟩
      rw [hv] at hm1 hb1 hn
      have hc : cub l value (n + 1) f m b = cub l value n lo (m + 2 ^ k) b ++ cub l value n hi (m + 2 ^ k) (b + 2 ^ k) := by
        conv => lhs; unfold cub
        rw [if_pos hx, e]
        simp only [Int.toNat_natCast]
      rw [hc]
      have hpos : (0 : Int) < 2 ^ k := Int.pow_pos (by decide)
      have hp : (2 : Nat) ^ n ≤ 2 ^ 12 := Nat.pow_le_pow_right (by omega) (by omega)
      have g1 := cub_len l value n lo (m + 2 ^ k) b
      have g2 := cub_len l value n hi (m + 2 ^ k) (b + 2 ^ k)
      have q1 := pow_step m k _ (by omega) h5 hm1
      have q2 := pow_step m k _ (by omega) h6 hm1
      have q3 := pow_step b k _ (by omega) h5 hb1
      have q4 := pow_step b k _ (by omega) h6 hb1
      rw [Int.toNat_natCast] at q1 q2 q3 q4 hm1 hb1
      refine rcub_node hlen hN hx e (by omega) hm0 hm1 hb0 hb1 (by omega) (by omega) ?_ ?_
      · intro W hb
        exact ih lo _ _ W (by omega) (by omega) h3 (by omega) q1 hb0 (by omega) (hN.below (Nat.le_refl _) hb)
      · intro W hb
        exact ih hi _ _ W (by omega) (by omega) h4 (by omega) q2 (by omega) q4 (hN.below (Nat.le_refl _) hb)
    · have hc : cub l value (n + 1) f m b = if valN f = value then [(m, b)] else [] := by conv => lhs; unfold cub; rw [if_neg hx]
      rw [hc]
      have hr := hasB_range hh
      by_cases hv : valN f = value
      · rw [if_pos hv]
        exact rcub_yes l f value m b w lim A cap (by omega) hh hv
      · rw [if_neg hv]
        exact (rcub_no l f value m b w lim A cap hx (fun h => hv h.2)).mono (fun e w' h => ⟨_, h.1, ⟨rfl, .inl ⟨rfl, rfl⟩⟩, h.2⟩)
theorem rcubes_any {l : List Nd} (hW : WF l) (hlen : l.length ≤ 1000) (f value lim : Int) (A : Option Addr) (cap : Nat) (w : World) (hN : NodesAt w A l) :
    Calls Try.prog 23 #[.agg #[.int .i64 lim, .slice A l.length cap], .int .i64 f, .int .i64 value, .agg #[.int .u64 0, .int .u64 0]] w (RCubEnd w (cubes l f value)) := by
  unfold cubes
  cases hh : hasB l f with
  | true =>
    rw [if_pos rfl]
    have h12 := varOf_nonneg hW f
    have hpow : (0 : Int) < 2 ^ (varOf l f).toNat := Int.pow_pos (by decide)
    exact rcubes_in hW hlen value lim A cap 13 f 0 0 w (by omega) (by omega) hh (by omega) hpow (by omega) hpow hN
  | false =>
    rw [if_neg (by simp)]
    have hx : ¬ (0 ≤ f ∧ f < l.length) := fun h => by unfold hasB low at hh; simp at hh; omega
    exact (rcub_no l f value 0 0 w lim A cap hx (fun h => by rw [hh] at h; cases h.1)).mono (fun e w' h => ⟨_, h.1, ⟨rfl, .inl ⟨rfl, rfl⟩⟩, h.2⟩)
end Go.Proofs.Yteifllgcpickhaa
