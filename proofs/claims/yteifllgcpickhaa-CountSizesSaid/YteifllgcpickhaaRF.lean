/- count: the document's below -/
import Derived.Test.YteifllgcpickhaaRE
import Derived.Test.YteifllgcpickhaaBC
namespace Go.Proofs.Yteifllgcpickhaa
open Go.RowKit

def BelEnd (w : World) (n0 : Nat) (v : Value) (xs : List Int) (e : Ending) (w' : World) : Prop :=
  ∃ v', e = .returned v' ∧ OwnInts w' n0 v' xs ∧ w.grownBy w' v.ownBlock ∧ (v'.ownBlock = v.ownBlock ∨ ∀ k, v'.ownBlock = some k → w.heap.size ≤ k)

theorem at_of {a b : Option Nat} {N : Nat} (h : ∀ k, a = some k → N ≤ k ∨ b = some k) : a = b ∨ ∀ k, a = some k → N ≤ k := by
  cases a with
  | none => exact .inr (fun k e => by cases e)
  | some k =>
    rcases h k rfl with h | h
    · exact .inr (fun j e => by cases e; exact h)
    · exact .inl h.symm
theorem of_at {a b : Option Nat} {N : Nat} (h : a = b ∨ ∀ k, a = some k → N ≤ k) : ∀ k, a = some k → N ≤ k ∨ b = some k := fun k e => by
  rcases h with h | h
  · exact .inr (h ▸ e)
  · exact .inl (h k e)

theorem first_at (vis : List Int) (f : Int) (h : f ∈ vis) : ∃ k, ∃ hk : k < vis.length, vis[k] = f ∧ ∀ i (hi : i < vis.length), i < k → vis[i] ≠ f := by
  have hlt := List.idxOf_lt_length_of_mem h
  refine ⟨vis.idxOf f, hlt, List.getElem_idxOf hlt, fun i hi hik e => ?_⟩
  have := List.not_of_lt_findIdx (p := (· == f)) (xs := vis) hik
  simp at this
  exact this e

set_option maxRecDepth 100000 in
set_option maxHeartbeats 1000000 in
theorem rbelow_seen (lim : Int) (A : Option Addr) (cap : Nat) (l : List Nd) (f : Int) (vis : List Int) (v : Value) (n0 : Nat) (w : World) (hlen : vis.length < 100000) (ho : OwnInts w n0 v vis) (hv : f ∈ vis) :
    Calls Try.prog 39 #[.agg #[.int .i64 lim, .slice A l.length cap], v, .int .i64 f] w (BelEnd w n0 v vis) := by
  obtain ⟨k, hk, hkf, hbef⟩ := first_at vis f hv
  have hfin : ∀ q, BelEnd w n0 v vis (.returned v) ((w.alloc (.cells #[.int .i64 lim, .slice A l.length cap] 27)).drewN q) := fun q => ⟨v, rfl, row_below ho (below_drewN ((Below.refl _ _).alloc (Nat.le_refl _) _) q), (World.grownBy_alloc w _ _).trans (grownBy_drewN _ _ _), .inl rfl⟩
  have hfin0 : BelEnd w n0 v vis (.returned v) (w.alloc (.cells #[.int .i64 lim, .slice A l.length cap] 27)) := ⟨v, rfl, row_below ho ((Below.refl _ _).alloc (Nat.le_refl _) _), World.grownBy_alloc w _ _, .inl rfl⟩
  rcases ints_read ho with ⟨_, h2⟩ | ⟨g, c, rfl, _, hg, hc⟩
  · subst h2; simp at hk
  · generalize BelEnd w n0 (.slice (some ⟨g, 0, none⟩) vis.length c) vis = R at *
    have hbefh := Lib.hid hbef
    have hch := Lib.hid hc
    have hB : Below w.heap.size w (w.alloc (.cells #[.int .i64 lim, .slice A l.length cap] 27)) := (Below.refl _ _).alloc (Nat.le_refl _) _
    have hf0 := Lib.hid hfin0
    clear hbef hc hv hfin hfin0
    obtain ⟨w1, hw1⟩ : ∃ w1, w.alloc (.cells #[.int .i64 lim, .slice A l.length cap] 27) = w1 := ⟨_, rfl⟩
    rw [hw1] at hB hf0
    go_enter Try.func39, Try.ntmps39
    go_wp2_with fail
    clear hw1
    go_loopw [7] (fun p wr => ∃ (i : Nat), i ≤ k ∧ p = .int .i64 i ∧ wr = w1) (fun p _ => k - (intOf p).toNat)
    case atStart => exact ⟨0, by omega, rfl, rfl⟩
    case round =>
      obtain ⟨i, hik, rfl, rfl⟩ := hrel
      have hil : i < vis.length := by omega
      have e0 := (hB.cell (p := ⟨g, i, none⟩) hg).trans (hch.out i hil)
      have i0 : (i : Int) < (vis.length : Int) := by omega
      have i1 : (0 : Int) ≤ (i : Int) := by omega
      have i2 : (i : Int) ≤ 100000 := by omega
      by_cases hlt : i < k
      · have hne := hbefh.out i hil hlt
        generalize vis[i] = x at *
        have hne' : (x == f) = false := by simpa using hne
        go_wp2_with fail
        go_roundw
        case rel => exact ⟨i + 1, by omega, by go_num, trivial⟩
        case measure => simp [intOf]; omega
      · obtain rfl : i = k := by omega
        rw [hkf] at e0
        clear hkf
        go_wp2_with fail
        exact hf0.out

set_option maxRecDepth 100000 in
set_option maxHeartbeats 4000000 in
theorem rbelow_nil_term (lim : Int) (A : Option Addr) (cap : Nat) (l : List Nd) (f : Int) (n0 : Nat) (w : World) (hn0 : n0 ≤ w.heap.size) (ho : OwnInts w n0 (.slice none 0 0) []) (hx : ¬ (0 ≤ f ∧ f < l.length)) (hh : f < l.length) :
    Calls Try.prog 39 #[.agg #[.int .i64 lim, .slice A l.length cap], (.slice none 0 0), .int .i64 f] w (BelEnd w n0 (.slice none 0 0) ([] ++ [f])) := by
  have hB : Below w.heap.size w (w.alloc (.cells #[.int .i64 lim, .slice A l.length cap] 27)) := (Below.refl _ _).alloc (Nat.le_refl _) _
  have hG : w.grownBy (w.alloc (.cells #[.int .i64 lim, .slice A l.length cap] 27)) (Value.ownBlock (.slice none 0 0)) := World.grownBy_alloc _ _ _
  have q := World.alloc_heap_new w (.cells #[.int .i64 lim, .slice A l.length cap] 27)
  have hws : (w.alloc (.cells #[.int .i64 lim, .slice A l.length cap] 27)).heap.size = w.heap.size + 1 := by simp
  have ho1 : OwnInts (w.alloc (.cells #[.int .i64 lim, .slice A l.length cap] 27)) n0 (.slice none 0 0) [] := row_below ho hB
  obtain ⟨i0, hi', hz0, hz1, hz2⟩ := info_parts Try.info3
  have hqh := Lib.hid q
  have hwsh := Lib.hid hws
  have hm1 : (([] : List Int)).length + 1 ≤ maxLen := by decide
  have hm2 : ((([] : List Int)).length + 1) * 8 ≤ 140737488355328 := by decide
  have hn1 : n0 ≤ (w.alloc (.cells #[.int .i64 lim, .slice A l.length cap] 27)).heap.size := by omega
  have hx1 : f < 0 := by omega
  clear hx
  clear q hws
  have q0 := cell_of (i := 0) hqh.out
  have q1 := cell_of (i := 1) hqh.out
  simp only [List.getElem?_toArray, List.getElem?_cons_succ, List.getElem?_cons_zero] at q0 q1
  obtain ⟨w1, hw1⟩ : ∃ w1, w.alloc (.cells #[.int .i64 lim, .slice A l.length cap] 27) = w1 := ⟨_, rfl⟩
  rw [hw1] at hB hG hqh hwsh ho1 hn1 q0 q1
  go_enter Try.func39, Try.ntmps39
  go_wp2_with fail
  clear hw1
  refine wp_loop_rounds 1 ?_
  rw [rounds_succ]
  have hrow : some w.heap.size ≠ Value.ownBlock (.slice none 0 0) := fun h => by have := row_lt ho _ h.symm; omega
  have hwlt : w.heap.size < w1.heap.size := by have := hwsh.out; omega
  go_wp2_with (at_builtin; refine wpList_append_own_at _ rfl (.tmp 21) (.tmp 23) 39 rfl n0 3 i0 _ 1 8 Try.underlying39 hi' hz0 hz1 hz2 rfl (by decide) _ _ _ rfl (ho1.alloc _) ⟨w1.heap.size, 0, none⟩ 1 1 [.int .i64 f] rfl rfl (cell_one_new _ _ _) (by simp [Value.oneCell']) hm1 hm2 (Nat.le_trans hn1 (by simp)) ?_; intro v' w3 hown' hgrow _ hat; obtain ⟨g', cap', rfl⟩ := ownsRow_succ hown'; have hg3 : w1.grownBy w3 (Value.ownBlock (.slice none 0 0)) := (World.grownBy_alloc w1 (.cells #[.int .i64 f] 3) _).trans hgrow; have ho3 : OwnInts w3 n0 (.slice (some ⟨g', 0, none⟩) (1) cap') ([] ++ [f]) := (by unfold OwnInts; rw [List.length_append, List.map_append]; exact hown'); have hat3 : (some g' = Value.ownBlock (.slice none 0 0)) ∨ g' = w1.heap.size + 1 := (by rcases hat with h | h; (exact .inl h); (simp [Value.ownBlock] at h; exact .inr h)); have hgw := hG.trans hg3; have e2 := (World.cell?_of_block (a := ⟨w.heap.size, 1, none⟩) (hg3.block w.heap.size hwlt hrow)).trans q1; have e1 := (World.cell?_of_block (a := ⟨w.heap.size, 0, none⟩) (hg3.block w.heap.size hwlt hrow)).trans q0; have ho3h := Lib.hid ho3; have hat3h := Lib.hid hat3; clear hown' hgrow hat ho3 hat3)
  go_ret
  exact ⟨_, rfl, ho3h.out, hgw, hat3h.out.imp (fun h => h) (fun h k hk => by simp [Value.ownBlock] at hk; have := hwsh.out; omega)⟩

set_option maxRecDepth 100000 in
set_option maxHeartbeats 4000000 in
theorem rbelow_some_term (lim : Int) (A : Option Addr) (cap : Nat) (l : List Nd) (f : Int) (vis : List Int) (g c : Nat) (n0 : Nat) (w : World) (hn0 : n0 ≤ w.heap.size) (hlen : vis.length < 100000) (hv : f ∉ vis) (ho : OwnInts w n0 (.slice (some ⟨g, 0, none⟩) vis.length c) vis) (hx : ¬ (0 ≤ f ∧ f < l.length)) (hh : f < l.length) :
    Calls Try.prog 39 #[.agg #[.int .i64 lim, .slice A l.length cap], (.slice (some ⟨g, 0, none⟩) vis.length c), .int .i64 f] w (BelEnd w n0 (.slice (some ⟨g, 0, none⟩) vis.length c) (vis ++ [f])) := by
  have hB : Below w.heap.size w (w.alloc (.cells #[.int .i64 lim, .slice A l.length cap] 27)) := (Below.refl _ _).alloc (Nat.le_refl _) _
  have hG : w.grownBy (w.alloc (.cells #[.int .i64 lim, .slice A l.length cap] 27)) (Value.ownBlock (.slice (some ⟨g, 0, none⟩) vis.length c)) := World.grownBy_alloc _ _ _
  have q := World.alloc_heap_new w (.cells #[.int .i64 lim, .slice A l.length cap] 27)
  have hws : (w.alloc (.cells #[.int .i64 lim, .slice A l.length cap] 27)).heap.size = w.heap.size + 1 := by simp
  have ho1 : OwnInts (w.alloc (.cells #[.int .i64 lim, .slice A l.length cap] 27)) n0 (.slice (some ⟨g, 0, none⟩) vis.length c) vis := row_below ho hB
  obtain ⟨i0, hi', hz0, hz1, hz2⟩ := info_parts Try.info3
  have hqh := Lib.hid q
  have hwsh := Lib.hid hws
  have hm1 : (vis).length + 1 ≤ maxLen := by unfold maxLen; omega
  have hm2 : ((vis).length + 1) * 8 ≤ 140737488355328 := by omega
  have hn1 : n0 ≤ (w.alloc (.cells #[.int .i64 lim, .slice A l.length cap] 27)).heap.size := by omega
  have hx1 : f < 0 := by omega
  clear hx
  clear q hws
  have q0 := cell_of (i := 0) hqh.out
  have q1 := cell_of (i := 1) hqh.out
  simp only [List.getElem?_toArray, List.getElem?_cons_succ, List.getElem?_cons_zero] at q0 q1
  obtain ⟨w1, hw1⟩ : ∃ w1, w.alloc (.cells #[.int .i64 lim, .slice A l.length cap] 27) = w1 := ⟨_, rfl⟩
  rw [hw1] at hB hG hqh hwsh ho1 hn1 q0 q1
  go_enter Try.func39, Try.ntmps39
  go_wp2_with fail
  clear hw1
  rcases ints_read ho with ⟨h2, _⟩ | ⟨g2, c2', h2, _, hg, hc⟩
  · cases h2
  · cases h2
    have hch := Lib.hid hc
    have hvh := Lib.hid hv
    clear hc hv
    go_loopw [7] (fun p wr => ∃ (j : Nat), j ≤ vis.length ∧ p = .int .i64 j ∧ wr = w1) (fun p _ => vis.length - (intOf p).toNat)
    case atStart => exact ⟨0, by omega, rfl, rfl⟩
    case round =>
      obtain ⟨j, hj, rfl, hww⟩ := hrel
      obtain rfl : w1 = wr := hww.symm
      by_cases hjl : j < vis.length
      · have e0 := (hB.cell (p := ⟨g, j, none⟩) hg).trans (hch.out j hjl)
        have j0 : (j : Int) < (vis.length : Int) := by omega
        have j1 : (0 : Int) ≤ (j : Int) := by omega
        have j2 : (j : Int) ≤ 100000 := by omega
        have hne : vis[j] ≠ f := fun q => hvh.out (by rw [← q]; exact List.getElem_mem hjl)
        generalize vis[j] = x at *
        have hne' : (x == f) = false := by simpa using hne
        go_wp2_with fail
        go_roundw
        case rel => exact ⟨j + 1, by omega, by go_num, trivial⟩
        case measure => simp [intOf]; omega
      · obtain rfl : j = vis.length := by omega
        have hrow : some w.heap.size ≠ Value.ownBlock (.slice (some ⟨g, 0, none⟩) vis.length c) := fun h => by have := row_lt ho _ h.symm; omega
        have hwlt : w.heap.size < w1.heap.size := by have := hwsh.out; omega
        go_wp2_with (at_builtin; refine wpList_append_own_at _ rfl (.tmp 21) (.tmp 23) 39 rfl n0 3 i0 _ 1 8 Try.underlying39 hi' hz0 hz1 hz2 rfl (by decide) _ _ _ rfl (ho1.alloc _) ⟨w1.heap.size, 0, none⟩ 1 1 [.int .i64 f] rfl rfl (cell_one_new _ _ _) (by simp [Value.oneCell']) hm1 hm2 (Nat.le_trans hn1 (by simp)) ?_; intro v' w3 hown' hgrow _ hat; obtain ⟨g', cap', rfl⟩ := ownsRow_succ hown'; have hg3 : w1.grownBy w3 (Value.ownBlock (.slice (some ⟨g, 0, none⟩) vis.length c)) := (World.grownBy_alloc w1 (.cells #[.int .i64 f] 3) _).trans hgrow; have ho3 : OwnInts w3 n0 (.slice (some ⟨g', 0, none⟩) (vis.length + 1) cap') (vis ++ [f]) := (by unfold OwnInts; rw [List.length_append, List.map_append]; exact hown'); have hat3 : (some g' = Value.ownBlock (.slice (some ⟨g, 0, none⟩) vis.length c)) ∨ g' = w1.heap.size + 1 := (by rcases hat with h | h; (exact .inl h); (simp [Value.ownBlock] at h; exact .inr h)); have hgw := hG.trans hg3; have e2 := (World.cell?_of_block (a := ⟨w.heap.size, 1, none⟩) (hg3.block w.heap.size hwlt hrow)).trans q1; have e1 := (World.cell?_of_block (a := ⟨w.heap.size, 0, none⟩) (hg3.block w.heap.size hwlt hrow)).trans q0; have ho3h := Lib.hid ho3; have hat3h := Lib.hid hat3; clear hown' hgrow hat ho3 hat3)
        go_ret
        exact ⟨_, rfl, ho3h.out, hgw, hat3h.out.imp (fun h => h) (fun h k hk => by simp [Value.ownBlock] at hk; have := hwsh.out; omega)⟩

set_option maxRecDepth 100000 in
set_option maxHeartbeats 4000000 in
theorem rbelow_nil_node (lim : Int) (A : Option Addr) (cap : Nat) (l : List Nd) (f : Int) (n0 : Nat) (w : World) (hn0 : n0 ≤ w.heap.size) (ho : OwnInts w n0 (.slice none 0 0) []) (k : Nat) (lo hi : Int) (xs ys : List Int) (w0 : World) (hw0 : w0.heap.size ≤ n0) (hbel : Below w0.heap.size w0 w) (hN : NodesAt w0 A l) (hx : 0 ≤ f ∧ f < l.length) (hll : l.length ≤ 1000) (e : l[f.toNat]?.getD default = ⟨(k : Int), lo, hi⟩)
    (cLo : ∀ W u, n0 ≤ W.heap.size → Below w0.heap.size w0 W → OwnInts W n0 u ([] ++ [f]) → Calls Try.prog 39 #[.agg #[.int .i64 lim, .slice A l.length cap], u, .int .i64 lo] W (BelEnd W n0 u xs))
    (cHi : ∀ W u, n0 ≤ W.heap.size → Below w0.heap.size w0 W → OwnInts W n0 u xs → Calls Try.prog 39 #[.agg #[.int .i64 lim, .slice A l.length cap], u, .int .i64 hi] W (BelEnd W n0 u ys)) :
    Calls Try.prog 39 #[.agg #[.int .i64 lim, .slice A l.length cap], (.slice none 0 0), .int .i64 f] w (BelEnd w n0 (.slice none 0 0) ys) := by
  have hB : Below w.heap.size w (w.alloc (.cells #[.int .i64 lim, .slice A l.length cap] 27)) := (Below.refl _ _).alloc (Nat.le_refl _) _
  have hG : w.grownBy (w.alloc (.cells #[.int .i64 lim, .slice A l.length cap] 27)) (Value.ownBlock (.slice none 0 0)) := World.grownBy_alloc _ _ _
  have q := World.alloc_heap_new w (.cells #[.int .i64 lim, .slice A l.length cap] 27)
  have hws : (w.alloc (.cells #[.int .i64 lim, .slice A l.length cap] 27)).heap.size = w.heap.size + 1 := by simp
  have ho1 : OwnInts (w.alloc (.cells #[.int .i64 lim, .slice A l.length cap] 27)) n0 (.slice none 0 0) [] := row_below ho hB
  obtain ⟨i0, hi', hz0, hz1, hz2⟩ := info_parts Try.info3
  have hqh := Lib.hid q
  have hwsh := Lib.hid hws
  have hm1 : (([] : List Int)).length + 1 ≤ maxLen := by decide
  have hm2 : ((([] : List Int)).length + 1) * 8 ≤ 140737488355328 := by decide
  have hn1 : n0 ≤ (w.alloc (.cells #[.int .i64 lim, .slice A l.length cap] 27)).heap.size := by omega
  obtain ⟨i, rfl⟩ : ∃ i : Nat, f = i := ⟨f.toNat, by omega⟩
  have hil : i < l.length := by omega
  obtain ⟨lb, rfl, hlb, hcells⟩ := hN (by omega)
  obtain ⟨c0, c1, c2⟩ := hcells i hil
  rw [Int.toNat_natCast, getD_of hil] at e
  rw [e] at c0 c1 c2
  simp only at c0 c1 c2
  have hi0 : ¬ (i : Int) < 0 := by omega
  have hi1 : ¬ (i : Int) ≥ (l.length : Int) := by omega
  have hi2 : (0 : Int) ≤ (i : Int) := by omega
  have hi3 : (i : Int) < (l.length : Int) := by omega
  have hbel1 := hbel.trans (hB.mono hbel.size)
  clear hx e hcells hN c0
  clear q hws
  have q0 := cell_of (i := 0) hqh.out
  have q1 := cell_of (i := 1) hqh.out
  simp only [List.getElem?_toArray, List.getElem?_cons_succ, List.getElem?_cons_zero] at q0 q1
  obtain ⟨w1, hw1⟩ : ∃ w1, w.alloc (.cells #[.int .i64 lim, .slice (some ⟨lb, 0, none⟩) l.length cap] 27) = w1 := ⟨_, rfl⟩
  rw [hw1] at hB hG hqh hwsh ho1 hn1 q0 q1 hbel1
  go_enter Try.func39, Try.ntmps39
  go_wp2_with fail
  clear hw1
  refine wp_loop_rounds 1 ?_
  rw [rounds_succ]
  have hrow : some w.heap.size ≠ Value.ownBlock (.slice none 0 0) := fun h => by have := row_lt ho _ h.symm; omega
  have hwlt : w.heap.size < w1.heap.size := by have := hwsh.out; omega
  go_wp2_with (at_builtin; refine wpList_append_own_at _ rfl (.tmp 21) (.tmp 23) 39 rfl n0 3 i0 _ 1 8 Try.underlying39 hi' hz0 hz1 hz2 rfl (by decide) _ _ _ rfl (ho1.alloc _) ⟨w1.heap.size, 0, none⟩ 1 1 [.int .i64 (i : Int)] rfl rfl (cell_one_new _ _ _) (by simp [Value.oneCell']) hm1 hm2 (Nat.le_trans hn1 (by simp)) ?_; intro v' w3 hown' hgrow _ hat; obtain ⟨g', cap', rfl⟩ := ownsRow_succ hown'; have hg3 : w1.grownBy w3 (Value.ownBlock (.slice none 0 0)) := (World.grownBy_alloc w1 (.cells #[.int .i64 (i : Int)] 3) _).trans hgrow; have ho3 : OwnInts w3 n0 (.slice (some ⟨g', 0, none⟩) (1) cap') ([] ++ [(i : Int)]) := (by unfold OwnInts; rw [List.length_append, List.map_append]; exact hown'); have hat3 : (some g' = Value.ownBlock (.slice none 0 0)) ∨ g' = w1.heap.size + 1 := (by rcases hat with h | h; (exact .inl h); (simp [Value.ownBlock] at h; exact .inr h)); have hgw := hG.trans hg3; have e2 := (World.cell?_of_block (a := ⟨w.heap.size, 1, none⟩) (hg3.block w.heap.size hwlt hrow)).trans q1; have e1 := (World.cell?_of_block (a := ⟨w.heap.size, 0, none⟩) (hg3.block w.heap.size hwlt hrow)).trans q0; have ho3h := Lib.hid ho3; have hat3h := Lib.hid hat3; clear hown' hgrow hat ho3 hat3)
  have hs3 := hgw.size
  have hw3b : Below w0.heap.size w0 w3 := hbel.grown hgw (Nat.le_trans hw0 hn0) (fun k hk => Nat.le_trans hw0 (row_base ho k hk))
  have d1 := (hw3b.cell (p := ⟨lb, i * 3 + 1, none⟩) hlb).trans c1
  have d2 := (hw3b.cell (p := ⟨lb, i * 3 + 2, none⟩) hlb).trans c2
  have hg9 : n0 ≤ g' := row_base ho3h.out g' rfl
  have hgl : g' ≠ lb := by omega
  have hgb : g' ≠ w.heap.size := by rcases hat3h.out with h | h; (exact fun q => hrow (by rw [← h, q])); (have := hwsh.out; omega)
  have hkeep := Lib.hid (p := ∀ (W W' : World) (r : Option Nat), (fun W => W.cell? ⟨w.heap.size, 0, none⟩ = some (.int .i64 lim) ∧ W.cell? ⟨w.heap.size, 1, none⟩ = some (.slice (some ⟨lb, 0, none⟩) l.length cap) ∧ W.cell? ⟨lb, i * 3 + 1, none⟩ = some (.int .i64 lo) ∧ W.cell? ⟨lb, i * 3 + 2, none⟩ = some (.int .i64 hi)) W → W.grownBy W' r → r ≠ some w.heap.size → r ≠ some lb → w.heap.size < W.heap.size → (fun W => W.cell? ⟨w.heap.size, 0, none⟩ = some (.int .i64 lim) ∧ W.cell? ⟨w.heap.size, 1, none⟩ = some (.slice (some ⟨lb, 0, none⟩) l.length cap) ∧ W.cell? ⟨lb, i * 3 + 1, none⟩ = some (.int .i64 lo) ∧ W.cell? ⟨lb, i * 3 + 2, none⟩ = some (.int .i64 hi)) W') (fun W W' r h hg r1 r2 hsz =>
    have b1 := hg.block w.heap.size hsz (fun q => r1 q.symm)
    have b2 := hg.block lb (by have := hbel.size; omega) (fun q => r2 q.symm)
    ⟨(World.cell?_of_block (a := ⟨w.heap.size, 0, none⟩) b1).trans h.1, (World.cell?_of_block (a := ⟨w.heap.size, 1, none⟩) b1).trans h.2.1, (World.cell?_of_block (a := ⟨lb, i * 3 + 1, none⟩) b2).trans h.2.2.1, (World.cell?_of_block (a := ⟨lb, i * 3 + 2, none⟩) b2).trans h.2.2.2⟩)
  have hsz3 : w.heap.size < w3.heap.size := by have := hg3.size; have := hwsh.out; omega
  have hA1 : (Value.slice (some ⟨g', 0, none⟩) 1 cap').ownBlock ≠ some w.heap.size := fun q => hgb (by simpa [Value.ownBlock] using q)
  have hA2 : (Value.slice (some ⟨g', 0, none⟩) 1 cap').ownBlock ≠ some lb := fun q => hgl (by simpa [Value.ownBlock] using q)
  have hn3 : n0 ≤ w3.drew.heap.size := by show n0 ≤ w3.heap.size; omega
  have hn3' : n0 ≤ w3.heap.size := hn3
  have ho3d : OwnInts w3.drew n0 _ _ := ho3h.out
  have hw3d : Below w0.heap.size w0 w3.drew := hw3b.drew
  go_region_held3 (fun W => W.cell? ⟨w.heap.size, 0, none⟩ = some (.int .i64 lim) ∧ W.cell? ⟨w.heap.size, 1, none⟩ = some (.slice (some ⟨lb, 0, none⟩) l.length cap) ∧ W.cell? ⟨lb, i * 3 + 1, none⟩ = some (.int .i64 lo) ∧ W.cell? ⟨lb, i * 3 + 2, none⟩ = some (.int .i64 hi))
    (first | assumption | exact hkeep.out w3.drew _ _ (by assumption) hgA hA1 hA2 hsz3 | exact hkeep.out w5 _ _ (by assumption) hgB hrA1 hrA2 hsz5 | (go_keep; done))
    (first
      | (go_at_call_of 39 (Value.int .i64 lo); (with_reducible refine (cLo w3.drew _ hn3 hw3d ho3d).mono ?_); rintro e w5 ⟨v5, rfl, ho5, hgA, hat5⟩
         have hsz5 : w.heap.size < w5.heap.size := Nat.lt_of_lt_of_le hsz3 hgA.size
         have hrA1 : v5.ownBlock ≠ some w.heap.size := by rcases hat5 with h | h; (rw [h]; simp [Value.ownBlock]; omega); (exact fun q => by have := h _ q; have : w3.heap.size ≤ w.heap.size := this; omega)
         have hrA2 : v5.ownBlock ≠ some lb := by rcases hat5 with h | h; (rw [h]; simp [Value.ownBlock]; omega); (exact fun q => by have := h _ q; have hq : w3.heap.size ≤ lb := this; have := hbel.size; omega)
         have hw5b : Below w0.heap.size w0 w5 := hw3d.grown hgA (Nat.le_trans hw0 hn3) (fun k hk => by simp [Value.ownBlock] at hk; omega)
         have hn5 : n0 ≤ w5.heap.size := by omega)
      | (go_at_call_of 39 (Value.int .i64 hi); (with_reducible refine (cHi w5 _ hn5 hw5b ho5).mono ?_); rintro e w6 ⟨v6, rfl, ho6, hgB, hat6⟩))
  have r3 : ∀ k, (some g') = some k → w.heap.size ≤ k ∨ (Value.ownBlock (.slice none 0 0)) = some k := fun k e => by
    rcases hat3h.out with h | h
    · exact .inr (h ▸ e)
    · cases e; have := hwsh.out; exact .inl (by omega)
  have r5 : ∀ k, v5.ownBlock = some k → w.heap.size ≤ k ∨ (Value.ownBlock (.slice none 0 0)) = some k := fun k e => by
    rcases of_at hat5 k e with h | h
    · exact .inl (Nat.le_trans (Nat.le_of_lt hsz3) h)
    · exact r3 k h
  have r6 : ∀ k, v6.ownBlock = some k → w.heap.size ≤ k ∨ (Value.ownBlock (.slice none 0 0)) = some k := fun k e => by
    rcases of_at hat6 k e with h | h
    · exact .inl (Nat.le_trans (Nat.le_of_lt hsz5) h)
    · exact r5 k h
  have hgf : w.grownBy w6 (Value.ownBlock (.slice none 0 0)) := (hgw.andThen (show w3.grownBy w5 _ from ⟨hgA.os, hgA.tape, hgA.output, hgA.size, hgA.block⟩) r3).andThen hgB r5
  clear hkeep hat5 hat6 r3 r5 hgA hgB
  go_wp2_with fail
  go_ret
  exact ⟨_, rfl, ho6, hgf, at_of r6⟩

set_option maxRecDepth 100000 in
set_option maxHeartbeats 4000000 in
theorem rbelow_some_node (lim : Int) (A : Option Addr) (cap : Nat) (l : List Nd) (f : Int) (vis : List Int) (g c : Nat) (n0 : Nat) (w : World) (hn0 : n0 ≤ w.heap.size) (hlen : vis.length < 100000) (hv : f ∉ vis) (ho : OwnInts w n0 (.slice (some ⟨g, 0, none⟩) vis.length c) vis) (k : Nat) (lo hi : Int) (xs ys : List Int) (w0 : World) (hw0 : w0.heap.size ≤ n0) (hbel : Below w0.heap.size w0 w) (hN : NodesAt w0 A l) (hx : 0 ≤ f ∧ f < l.length) (hll : l.length ≤ 1000) (e : l[f.toNat]?.getD default = ⟨(k : Int), lo, hi⟩)
    (cLo : ∀ W u, n0 ≤ W.heap.size → Below w0.heap.size w0 W → OwnInts W n0 u (vis ++ [f]) → Calls Try.prog 39 #[.agg #[.int .i64 lim, .slice A l.length cap], u, .int .i64 lo] W (BelEnd W n0 u xs))
    (cHi : ∀ W u, n0 ≤ W.heap.size → Below w0.heap.size w0 W → OwnInts W n0 u xs → Calls Try.prog 39 #[.agg #[.int .i64 lim, .slice A l.length cap], u, .int .i64 hi] W (BelEnd W n0 u ys)) :
    Calls Try.prog 39 #[.agg #[.int .i64 lim, .slice A l.length cap], (.slice (some ⟨g, 0, none⟩) vis.length c), .int .i64 f] w (BelEnd w n0 (.slice (some ⟨g, 0, none⟩) vis.length c) ys) := by
  have hB : Below w.heap.size w (w.alloc (.cells #[.int .i64 lim, .slice A l.length cap] 27)) := (Below.refl _ _).alloc (Nat.le_refl _) _
  have hG : w.grownBy (w.alloc (.cells #[.int .i64 lim, .slice A l.length cap] 27)) (Value.ownBlock (.slice (some ⟨g, 0, none⟩) vis.length c)) := World.grownBy_alloc _ _ _
  have q := World.alloc_heap_new w (.cells #[.int .i64 lim, .slice A l.length cap] 27)
  have hws : (w.alloc (.cells #[.int .i64 lim, .slice A l.length cap] 27)).heap.size = w.heap.size + 1 := by simp
  have ho1 : OwnInts (w.alloc (.cells #[.int .i64 lim, .slice A l.length cap] 27)) n0 (.slice (some ⟨g, 0, none⟩) vis.length c) vis := row_below ho hB
  obtain ⟨i0, hi', hz0, hz1, hz2⟩ := info_parts Try.info3
  have hqh := Lib.hid q
  have hwsh := Lib.hid hws
  have hm1 : (vis).length + 1 ≤ maxLen := by unfold maxLen; omega
  have hm2 : ((vis).length + 1) * 8 ≤ 140737488355328 := by omega
  have hn1 : n0 ≤ (w.alloc (.cells #[.int .i64 lim, .slice A l.length cap] 27)).heap.size := by omega
  obtain ⟨i, rfl⟩ : ∃ i : Nat, f = i := ⟨f.toNat, by omega⟩
  have hil : i < l.length := by omega
  obtain ⟨lb, rfl, hlb, hcells⟩ := hN (by omega)
  obtain ⟨c0, c1, c2⟩ := hcells i hil
  rw [Int.toNat_natCast, getD_of hil] at e
  rw [e] at c0 c1 c2
  simp only at c0 c1 c2
  have hi0 : ¬ (i : Int) < 0 := by omega
  have hi1 : ¬ (i : Int) ≥ (l.length : Int) := by omega
  have hi2 : (0 : Int) ≤ (i : Int) := by omega
  have hi3 : (i : Int) < (l.length : Int) := by omega
  have hbel1 := hbel.trans (hB.mono hbel.size)
  clear hx e hcells hN c0
  clear q hws
  have q0 := cell_of (i := 0) hqh.out
  have q1 := cell_of (i := 1) hqh.out
  simp only [List.getElem?_toArray, List.getElem?_cons_succ, List.getElem?_cons_zero] at q0 q1
  obtain ⟨w1, hw1⟩ : ∃ w1, w.alloc (.cells #[.int .i64 lim, .slice (some ⟨lb, 0, none⟩) l.length cap] 27) = w1 := ⟨_, rfl⟩
  rw [hw1] at hB hG hqh hwsh ho1 hn1 q0 q1 hbel1
  go_enter Try.func39, Try.ntmps39
  go_wp2_with fail
  clear hw1
  rcases ints_read ho with ⟨h2, _⟩ | ⟨g2, c2', h2, _, hg, hc⟩
  · cases h2
  · cases h2
    have hch := Lib.hid hc
    have hvh := Lib.hid hv
    clear hc hv
    go_loopw [7] (fun p wr => ∃ (j : Nat), j ≤ vis.length ∧ p = .int .i64 j ∧ wr = w1) (fun p _ => vis.length - (intOf p).toNat)
    case atStart => exact ⟨0, by omega, rfl, rfl⟩
    case round =>
      obtain ⟨j, hj, rfl, hww⟩ := hrel
      obtain rfl : w1 = wr := hww.symm
      by_cases hjl : j < vis.length
      · have e0 := (hB.cell (p := ⟨g, j, none⟩) hg).trans (hch.out j hjl)
        have j0 : (j : Int) < (vis.length : Int) := by omega
        have j1 : (0 : Int) ≤ (j : Int) := by omega
        have j2 : (j : Int) ≤ 100000 := by omega
        have hne : vis[j] ≠ (i : Int) := fun q => hvh.out (by rw [← q]; exact List.getElem_mem hjl)
        generalize vis[j] = x at *
        have hne' : (x == (i : Int)) = false := by simpa using hne
        go_wp2_with fail
        go_roundw
        case rel => exact ⟨j + 1, by omega, by go_num, trivial⟩
        case measure => simp [intOf]; omega
      · obtain rfl : j = vis.length := by omega
        have hrow : some w.heap.size ≠ Value.ownBlock (.slice (some ⟨g, 0, none⟩) vis.length c) := fun h => by have := row_lt ho _ h.symm; omega
        have hwlt : w.heap.size < w1.heap.size := by have := hwsh.out; omega
        go_wp2_with (at_builtin; refine wpList_append_own_at _ rfl (.tmp 21) (.tmp 23) 39 rfl n0 3 i0 _ 1 8 Try.underlying39 hi' hz0 hz1 hz2 rfl (by decide) _ _ _ rfl (ho1.alloc _) ⟨w1.heap.size, 0, none⟩ 1 1 [.int .i64 (i : Int)] rfl rfl (cell_one_new _ _ _) (by simp [Value.oneCell']) hm1 hm2 (Nat.le_trans hn1 (by simp)) ?_; intro v' w3 hown' hgrow _ hat; obtain ⟨g', cap', rfl⟩ := ownsRow_succ hown'; have hg3 : w1.grownBy w3 (Value.ownBlock (.slice (some ⟨g, 0, none⟩) vis.length c)) := (World.grownBy_alloc w1 (.cells #[.int .i64 (i : Int)] 3) _).trans hgrow; have ho3 : OwnInts w3 n0 (.slice (some ⟨g', 0, none⟩) (vis.length + 1) cap') (vis ++ [(i : Int)]) := (by unfold OwnInts; rw [List.length_append, List.map_append]; exact hown'); have hat3 : (some g' = Value.ownBlock (.slice (some ⟨g, 0, none⟩) vis.length c)) ∨ g' = w1.heap.size + 1 := (by rcases hat with h | h; (exact .inl h); (simp [Value.ownBlock] at h; exact .inr h)); have hgw := hG.trans hg3; have e2 := (World.cell?_of_block (a := ⟨w.heap.size, 1, none⟩) (hg3.block w.heap.size hwlt hrow)).trans q1; have e1 := (World.cell?_of_block (a := ⟨w.heap.size, 0, none⟩) (hg3.block w.heap.size hwlt hrow)).trans q0; have ho3h := Lib.hid ho3; have hat3h := Lib.hid hat3; clear hown' hgrow hat ho3 hat3)
        have hs3 := hgw.size
        have hw3b : Below w0.heap.size w0 w3 := hbel.grown hgw (Nat.le_trans hw0 hn0) (fun k hk => Nat.le_trans hw0 (row_base ho k hk))
        have d1 := (hw3b.cell (p := ⟨lb, i * 3 + 1, none⟩) hlb).trans c1
        have d2 := (hw3b.cell (p := ⟨lb, i * 3 + 2, none⟩) hlb).trans c2
        have hg9 : n0 ≤ g' := row_base ho3h.out g' rfl
        have hgl : g' ≠ lb := by omega
        have hgb : g' ≠ w.heap.size := by rcases hat3h.out with h | h; (exact fun q => hrow (by rw [← h, q])); (have := hwsh.out; omega)
        have hkeep := Lib.hid (p := ∀ (W W' : World) (r : Option Nat), (fun W => W.cell? ⟨w.heap.size, 0, none⟩ = some (.int .i64 lim) ∧ W.cell? ⟨w.heap.size, 1, none⟩ = some (.slice (some ⟨lb, 0, none⟩) l.length cap) ∧ W.cell? ⟨lb, i * 3 + 1, none⟩ = some (.int .i64 lo) ∧ W.cell? ⟨lb, i * 3 + 2, none⟩ = some (.int .i64 hi)) W → W.grownBy W' r → r ≠ some w.heap.size → r ≠ some lb → w.heap.size < W.heap.size → (fun W => W.cell? ⟨w.heap.size, 0, none⟩ = some (.int .i64 lim) ∧ W.cell? ⟨w.heap.size, 1, none⟩ = some (.slice (some ⟨lb, 0, none⟩) l.length cap) ∧ W.cell? ⟨lb, i * 3 + 1, none⟩ = some (.int .i64 lo) ∧ W.cell? ⟨lb, i * 3 + 2, none⟩ = some (.int .i64 hi)) W') (fun W W' r h hg r1 r2 hsz =>
          have b1 := hg.block w.heap.size hsz (fun q => r1 q.symm)
          have b2 := hg.block lb (by have := hbel.size; omega) (fun q => r2 q.symm)
          ⟨(World.cell?_of_block (a := ⟨w.heap.size, 0, none⟩) b1).trans h.1, (World.cell?_of_block (a := ⟨w.heap.size, 1, none⟩) b1).trans h.2.1, (World.cell?_of_block (a := ⟨lb, i * 3 + 1, none⟩) b2).trans h.2.2.1, (World.cell?_of_block (a := ⟨lb, i * 3 + 2, none⟩) b2).trans h.2.2.2⟩)
        have hsz3 : w.heap.size < w3.heap.size := by have := hg3.size; have := hwsh.out; omega
        have hA1 : (Value.slice (some ⟨g', 0, none⟩) (vis.length + 1) cap').ownBlock ≠ some w.heap.size := fun q => hgb (by simpa [Value.ownBlock] using q)
        have hA2 : (Value.slice (some ⟨g', 0, none⟩) (vis.length + 1) cap').ownBlock ≠ some lb := fun q => hgl (by simpa [Value.ownBlock] using q)
        have hn3 : n0 ≤ w3.drew.heap.size := by show n0 ≤ w3.heap.size; omega
        have hn3' : n0 ≤ w3.heap.size := hn3
        have ho3d : OwnInts w3.drew n0 _ _ := ho3h.out
        have hw3d : Below w0.heap.size w0 w3.drew := hw3b.drew
        go_region_held3 (fun W => W.cell? ⟨w.heap.size, 0, none⟩ = some (.int .i64 lim) ∧ W.cell? ⟨w.heap.size, 1, none⟩ = some (.slice (some ⟨lb, 0, none⟩) l.length cap) ∧ W.cell? ⟨lb, i * 3 + 1, none⟩ = some (.int .i64 lo) ∧ W.cell? ⟨lb, i * 3 + 2, none⟩ = some (.int .i64 hi))
          (first | assumption | exact hkeep.out w3.drew _ _ (by assumption) hgA hA1 hA2 hsz3 | exact hkeep.out w5 _ _ (by assumption) hgB hrA1 hrA2 hsz5 | (go_keep; done))
          (first
            | (go_at_call_of 39 (Value.int .i64 lo); (with_reducible refine (cLo w3.drew _ hn3 hw3d ho3d).mono ?_); rintro e w5 ⟨v5, rfl, ho5, hgA, hat5⟩
               have hsz5 : w.heap.size < w5.heap.size := Nat.lt_of_lt_of_le hsz3 hgA.size
               have hrA1 : v5.ownBlock ≠ some w.heap.size := by rcases hat5 with h | h; (rw [h]; simp [Value.ownBlock]; omega); (exact fun q => by have := h _ q; have : w3.heap.size ≤ w.heap.size := this; omega)
               have hrA2 : v5.ownBlock ≠ some lb := by rcases hat5 with h | h; (rw [h]; simp [Value.ownBlock]; omega); (exact fun q => by have := h _ q; have hq : w3.heap.size ≤ lb := this; have := hbel.size; omega)
               have hw5b : Below w0.heap.size w0 w5 := hw3d.grown hgA (Nat.le_trans hw0 hn3) (fun k hk => by simp [Value.ownBlock] at hk; omega)
               have hn5 : n0 ≤ w5.heap.size := by omega)
            | (go_at_call_of 39 (Value.int .i64 hi); (with_reducible refine (cHi w5 _ hn5 hw5b ho5).mono ?_); rintro e w6 ⟨v6, rfl, ho6, hgB, hat6⟩))
        have r3 : ∀ k, (some g') = some k → w.heap.size ≤ k ∨ (Value.ownBlock (.slice (some ⟨g, 0, none⟩) vis.length c)) = some k := fun k e => by
          rcases hat3h.out with h | h
          · exact .inr (h ▸ e)
          · cases e; have := hwsh.out; exact .inl (by omega)
        have r5 : ∀ k, v5.ownBlock = some k → w.heap.size ≤ k ∨ (Value.ownBlock (.slice (some ⟨g, 0, none⟩) vis.length c)) = some k := fun k e => by
          rcases of_at hat5 k e with h | h
          · exact .inl (Nat.le_trans (Nat.le_of_lt hsz3) h)
          · exact r3 k h
        have r6 : ∀ k, v6.ownBlock = some k → w.heap.size ≤ k ∨ (Value.ownBlock (.slice (some ⟨g, 0, none⟩) vis.length c)) = some k := fun k e => by
          rcases of_at hat6 k e with h | h
          · exact .inl (Nat.le_trans (Nat.le_of_lt hsz5) h)
          · exact r5 k h
        have hgf : w.grownBy w6 (Value.ownBlock (.slice (some ⟨g, 0, none⟩) vis.length c)) := (hgw.andThen (show w3.grownBy w5 _ from ⟨hgA.os, hgA.tape, hgA.output, hgA.size, hgA.block⟩) r3).andThen hgB r5
        clear hkeep hat5 hat6 r3 r5 hgA hgB
        go_wp2_with fail
        go_ret
        exact ⟨_, rfl, ho6, hgf, at_of r6⟩

theorem rbelow_in {l : List Nd} (hW : WF l) (hlen : l.length ≤ 1000) (lim : Int) (A : Option Addr) (cap : Nat) (w0 : World) (hN : NodesAt w0 A l) (n0 : Nat) (hw0 : w0.heap.size ≤ n0) : ∀ (n : Nat) (f : Int) (vis : List Int) (v : Value) (w : World), 12 - varOf l f < n → hasB l f = true → vis.length + 2 ^ n < 100000 → n0 ≤ w.heap.size → Below w0.heap.size w0 w → OwnInts w n0 v vis →
    Calls Try.prog 39 #[.agg #[.int .i64 lim, .slice A l.length cap], v, .int .i64 f] w (BelEnd w n0 v (dn l n vis f)) := by
  intro n
  induction n with
  | zero =>
    intro f vis v w h
    have := varOf_le hW f
    omega
  | succ n ih =>
    intro f vis v w hn hh hlv hn0 hbel ho
    have hp : 2 ^ n > 0 := Nat.pow_pos (by omega)
    by_cases hv : f ∈ vis
    · have hd : dn l (n + 1) vis f = vis := by unfold dn; rw [if_pos hv]
      rw [hd]
      exact rbelow_seen lim A cap l f vis v n0 w (by omega) ho hv
    · by_cases hx : 0 ≤ f ∧ f < l.length
      · obtain ⟨a, lo, hi, e, _, hva, h1, h2, h3, h4, h5, h6⟩ := node_kids hW hx
        obtain ⟨k, rfl⟩ : ∃ k : Nat, a = k := ⟨a.toNat, by omega⟩
        have hd : dn l (n + 1) vis f = dn l n (dn l n (vis ++ [f]) lo) hi := by conv => lhs; unfold dn; rw [if_neg hv, if_pos hx, e]
        have d1 := dn_len l n (vis ++ [f]) lo
        rw [List.length_append] at d1
        simp only [List.length_cons, List.length_nil] at d1
        rw [hd]
        have cLo : ∀ W u, n0 ≤ W.heap.size → Below w0.heap.size w0 W → OwnInts W n0 u (vis ++ [f]) → Calls Try.prog 39 #[.agg #[.int .i64 lim, .slice A l.length cap], u, .int .i64 lo] W (BelEnd W n0 u (dn l n (vis ++ [f]) lo)) := fun W u g1 g2 g3 => ih lo _ u W (by omega) h3 (by simp; omega) g1 g2 g3
        have cHi : ∀ W u, n0 ≤ W.heap.size → Below w0.heap.size w0 W → OwnInts W n0 u (dn l n (vis ++ [f]) lo) → Calls Try.prog 39 #[.agg #[.int .i64 lim, .slice A l.length cap], u, .int .i64 hi] W (BelEnd W n0 u (dn l n (dn l n (vis ++ [f]) lo) hi)) := fun W u g1 g2 g3 => ih hi _ u W (by omega) h4 (by omega) g1 g2 g3
        rcases ints_read ho with ⟨rfl, rfl⟩ | ⟨g, c, rfl, _⟩
        · exact rbelow_nil_node lim A cap l f n0 w hn0 ho k lo hi _ _ w0 hw0 hbel hN hx hlen e cLo cHi
        · exact rbelow_some_node lim A cap l f vis g c n0 w hn0 (by omega) hv ho k lo hi _ _ w0 hw0 hbel hN hx hlen e cLo cHi
      · have hd : dn l (n + 1) vis f = vis ++ [f] := by conv => lhs; unfold dn; rw [if_neg hv, if_neg hx]
        rw [hd]
        have hr := (hasB_range hh).2
        rcases ints_read ho with ⟨rfl, rfl⟩ | ⟨g, c, rfl, _⟩
        · exact rbelow_nil_term lim A cap l f n0 w hn0 ho hx hr
        · exact rbelow_some_term lim A cap l f vis g c n0 w hn0 (by omega) hv ho hx hr
/-- the row of refs, with those below one, and itself -/
theorem rbelow_any {l : List Nd} (hW : WF l) (hlen : l.length ≤ 1000) (lim : Int) (A : Option Addr) (cap : Nat) (w : World) (hN : NodesAt w A l) (f : Int) (hh : hasB l f = true) :
    Calls Try.prog 39 #[.agg #[.int .i64 lim, .slice A l.length cap], .slice none 0 0, .int .i64 f] w fun e w' => ∃ v, e = .returned v ∧ OwnInts w' w.heap.size v (reach l f) ∧ Below w.heap.size w w' := by
  have h12 := varOf_nonneg hW f
  unfold reach
  rw [if_pos hh]
  refine (rbelow_in hW hlen lim A cap w hN w.heap.size (Nat.le_refl _) 13 f [] _ w (by omega) hh (by decide) (Nat.le_refl _) (Below.refl _ _) ⟨rfl, .inl ⟨rfl, rfl⟩⟩).mono ?_
  rintro e w' ⟨v, he, ho, hg, _⟩
  exact ⟨v, he, ho, hg.os, hg.tape, hg.output, hg.size, fun k hk => hg.block k hk (by simp [Value.ownBlock])⟩
end Go.Proofs.Yteifllgcpickhaa
