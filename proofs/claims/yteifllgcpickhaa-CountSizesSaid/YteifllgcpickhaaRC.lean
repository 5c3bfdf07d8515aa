/- count: the document's Mk: no room; a new node -/
import Derived.Test.YteifllgcpickhaaRB
import Derived.Deep.AppendLies
import Derived.Deep.RegionLaw
namespace Go.Proofs.Yteifllgcpickhaa
open Go.RowKit

theorem add_zero_addr (b j : Nat) : (⟨b, 0, none⟩ : Addr).add j = ⟨b, j, none⟩ := by unfold Addr.add; split <;> simp_all
theorem nodes_news {w : World} {lb : Nat} {l : List Nd} (h : NodesAt w (some ⟨lb, 0, none⟩) l) : ∀ j u, (ncells l)[j]? = some u → w.cell? ((⟨lb, 0, none⟩ : Addr).add j) = some u := by
  intro j u hu
  rw [add_zero_addr]
  have hj : j < l.length * 3 := by rw [← ncells_len]; exact (List.getElem?_eq_some_iff.1 hu).1
  obtain ⟨b', e, _, hc⟩ := h (by omega)
  cases e
  obtain ⟨i, r, hr, rfl⟩ : ∃ i r, r < 3 ∧ j = i * 3 + r := ⟨j / 3, j % 3, by omega, by omega⟩
  have hi : i < l.length := by omega
  obtain ⟨c0, c1, c2⟩ := hc i hi
  rw [ncells_get l i hi r hr] at hu
  rcases (show r = 0 ∨ r = 1 ∨ r = 2 by omega) with rfl | rfl | rfl
  · rw [Nat.add_zero, c0]; exact hu
  · rw [c1]; exact hu
  · rw [c2]; exact hu
theorem ncells_one (l : List Nd) : ∀ u ∈ ncells l, u.oneCell' = true := by
  intro u hu
  simp only [ncells, List.mem_flatMap, Nd.cells] at hu
  obtain ⟨n, _, hn⟩ := hu
  simp at hn
  rcases hn with rfl | rfl | rfl <;> rfl
theorem rq_store {w W : World} {lim : Int} {A : Option Addr} {cap : Nat} {l : List Nd} (h : RQ w lim A cap l W) (x : Value) :
    (W.setCell ⟨w.heap.size, 1, none⟩ x).cell? ⟨w.heap.size, 0, none⟩ = some (.int .i64 lim) ∧ (W.setCell ⟨w.heap.size, 1, none⟩ x).cell? ⟨w.heap.size, 1, none⟩ = some x ∧
    (W.setCell ⟨w.heap.size, 1, none⟩ x).cell? ⟨w.heap.size + 1, 0, none⟩ = some (.int .i64 0) ∧ (W.setCell ⟨w.heap.size, 1, none⟩ x).cell? ⟨w.heap.size + 1, 1, none⟩ = some (.slice none 0 0) ∧
    (W.setCell ⟨w.heap.size, 1, none⟩ x).frozen? ⟨w.heap.size + 1, 0, none⟩ = false ∧ (W.setCell ⟨w.heap.size, 1, none⟩ x).frozen? ⟨w.heap.size + 1, 1, none⟩ = false := by
  have hb : ∀ i, (⟨w.heap.size, 1, none⟩ : Addr) ≠ ⟨w.heap.size + 1, i, none⟩ := fun i e => by have := congrArg Addr.block e; simp at this
  exact ⟨(set_far (fun e => by have := congrArg Addr.off e; simp at this)).trans h.c0, set_near h.c1, (set_far (hb 0)).trans h.d0, (set_far (hb 1)).trans h.d1, by rw [World.frozen?_setCell]; exact h.f0, by rw [World.frozen?_setCell]; exact h.f1⟩
theorem NodesAt.set {w : World} {g : Nat} {l : List Nd} (h : NodesAt w (some ⟨g, 0, none⟩) l) (a : Addr) (x : Value) (ha : a.block ≠ g) : NodesAt (w.setCell a x) (some ⟨g, 0, none⟩) l := by
  intro hpos
  obtain ⟨b, eb, hb, hc⟩ := h hpos
  cases eb
  have hne : ∀ i, a ≠ ⟨g, i, none⟩ := fun i e => ha (by rw [e])
  refine ⟨g, rfl, by simpa using hb, fun i hi => ?_⟩
  rw [set_far (hne _), set_far (hne _), set_far (hne _)]
  exact hc i hi
theorem rmk_nodes {w : World} {n0 g cap : Nat} {l : List Nd} {v lo hi : Int} (h : w.ownsRow n0 77 3 (.slice (some ⟨g, 0, none⟩) (l.length + 1) cap) (l.length + 1) (ncells l ++ [.int .i64 v, .int .i64 lo, .int .i64 hi])) (_hg : n0 ≤ g) (a : Addr) (x : Value) (ha : g ≠ a.block) :
    NodesAt (w.setCell a x) (some ⟨g, 0, none⟩) (l ++ [⟨v, lo, hi⟩]) := by
  have e : ncells (l ++ [(⟨v, lo, hi⟩ : Nd)]) = ncells l ++ [.int .i64 v, .int .i64 lo, .int .i64 hi] := by simp [ncells, Nd.cells]
  have hl : (l ++ [(⟨v, lo, hi⟩ : Nd)]).length = l.length + 1 := by simp
  rw [← e, ← hl] at h
  obtain ⟨A', cap', e', hn⟩ := nodes_read h
  cases e'
  intro hpos
  obtain ⟨b, eb, hb, hc⟩ := hn hpos
  cases eb
  have hne : ∀ i, a ≠ ⟨g, i, none⟩ := fun i e => ha (by rw [e])
  refine ⟨g, rfl, by simpa using hb, fun i hi => ?_⟩
  rw [set_far (hne _), set_far (hne _), set_far (hne _)]
  exact hc i hi
theorem Try.info77 : (Try.prog.info? 77).map (fun i => (i.zero, i.size, i.bytes)) = some (some (.agg #[.int .i64 0, .int .i64 0, .int .i64 0]), 3, 24) := by kernel_rfl

set_option maxRecDepth 100000 in
set_option maxHeartbeats 1000000 in
theorem rmk_full (lim : Int) (A : Option Addr) (cap : Nat) (l : List Nd) (hlen : l.length ≤ 1000) (v lo hi : Int) (w : World) (h : RefAt w A cap l) (hk : okMk l v lo hi) (hne0 : lo ≠ hi) (hnot : (⟨v, lo, hi⟩ : Nd) ∉ l) (hlim : lim ≤ l.length) :
    Calls Try.prog 29 #[.agg #[.int .i64 lim, .slice A l.length cap], .int .i64 v, .int .i64 lo, .int .i64 hi] w (RMkEnd w lim A l (l, 0)) := by
  have hfin : ∀ x w', Below w.heap.size w w' → RMkEnd w lim A l (l, 0) (.returned (.tuple #[.agg #[.int .i64 lim, .slice A l.length cap], .int .i64 0, .int .i64 x])) w' := fun x w' hb => ⟨A, cap, x, rfl, h.below hb, hb, .inl ⟨rfl, rfl⟩⟩
  have hnoth := Lib.hid hnot
  have hlim' : (l.length : Int) ≥ lim := hlim
  clear hnot hlim
  have hfinh := Lib.hid hfin
  generalize RMkEnd w lim A l (l, 0) = R at *
  have hq0 := RQ.new w lim A cap l
  obtain ⟨cHlo, cHhi, cVlo, cVhi⟩ := rmk_ok_start lim A cap l v lo hi w h hk
  obtain ⟨hv0, hv1, _, _, hl1, hl2⟩ := hk
  have e0 := hq0.c0
  have e1 := hq0.c1
  have n0 : ¬ v < 0 := by omega
  have n1 : ¬ v > 11 := by omega
  have n2 : ¬ varOf l lo ≤ v := by omega
  have n3 : ¬ varOf l hi ≤ v := by omega
  have hnd := h.nodes
  clear hfin
  go_enter Try.func29, Try.ntmps29
  go_wp2_with (first
    | (go_at_call_of 31 (Value.int .i64 lo); refine (cHlo _ hq0).mono ?_; clear cHlo; rintro e w2 ⟨rfl, hq2⟩; have c0 := hq2.c0; have c1 := hq2.c1; have d0 := hq2.d0; have d1 := hq2.d1; have f0 := hq2.f0; have f1 := hq2.f1)
    | (go_at_call_of 31 (Value.int .i64 hi); refine (cHhi _ hq2).mono ?_; clear cHhi; rintro e w3 ⟨rfl, hq3⟩; have c0 := hq3.c0; have c1 := hq3.c1; have d0 := hq3.d0; have d1 := hq3.d1; have f0 := hq3.f0; have f1 := hq3.f1)
    | (go_at_call_of 44 (Value.int .i64 lo); refine (cVlo _ hq3).mono ?_; clear cVlo; rintro e w4 ⟨rfl, hq4⟩; have c0 := hq4.c0; have c1 := hq4.c1; have d0 := hq4.d0; have d1 := hq4.d1; have f0 := hq4.f0; have f1 := hq4.f1)
    | (go_at_call_of 44 (Value.int .i64 hi); refine (cVhi _ hq4).mono ?_; clear cVhi; rintro e w5 ⟨rfl, hq5⟩; have c0 := hq5.c0; have c1 := hq5.c1; have d0 := hq5.d0; have d1 := hq5.d1; have f0 := hq5.f0; have f1 := hq5.f1))
  clear c0 c1 d0 d1 f0 f1 e0 e1 hq0 hq2 hq3 hq4
  have hq6 := hq5.below ((Below.refl _ _).alloc (Nat.le_refl _) (.cells #[.int .i64 v, .int .i64 lo, .int .i64 hi] 77))
  have k0 := cell_new3 w5 (.int .i64 v) (.int .i64 lo) (.int .i64 hi) 77 0
  have k1 := cell_new3 w5 (.int .i64 v) (.int .i64 lo) (.int .i64 hi) 77 1
  have k2 := cell_new3 w5 (.int .i64 v) (.int .i64 lo) (.int .i64 hi) 77 2
  simp only [List.getElem?_toArray, List.getElem?_cons_succ, List.getElem?_cons_zero] at k0 k1 k2
  have hnw : w5.heap.size < (w5.alloc (.cells #[.int .i64 v, .int .i64 lo, .int .i64 hi] 77)).heap.size := by simp
  have hw5 : w.heap.size + 2 ≤ w5.heap.size := hq5.sz
  clear hq5
  generalize w5.alloc (.cells #[.int .i64 v, .int .i64 lo, .int .i64 hi] 77) = w6 at *
  generalize w5.heap.size = Bn at *

  go_loopw [12] (fun p wr => ∃ i : Nat, i ≤ l.length ∧ p = .int .i64 i ∧ Below w6.heap.size w6 wr) (fun p _ => l.length - (intOf p).toNat)
  case atStart => exact ⟨0, by omega, rfl, Below.refl _ _⟩
  case round =>
    obtain ⟨i, hi', rfl, hB⟩ := hrel
    have hq := hq6.below hB
    have d0 := hq.d0
    have d1 := hq.d1
    have f0 := hq.f0
    have f1 := hq.f1
    have c0 := hq.c0
    have c1 := hq.c1
    have j0 := (hB.cell (p := ⟨Bn, 0, none⟩) hnw).trans k0
    have j1 := (hB.cell (p := ⟨Bn, 1, none⟩) hnw).trans k1
    have j2 := (hB.cell (p := ⟨Bn, 2, none⟩) hnw).trans k2
    by_cases hil : i < l.length
    · have hne : l[i] ≠ ⟨v, lo, hi⟩ := fun e => hnoth.out (by rw [← e]; exact List.getElem_mem hil)
      obtain ⟨lb, rfl, hlb, hcells⟩ := hnd (by omega)
      obtain ⟨u0, u1, u2⟩ := hcells i hil
      replace u0 := (hq.bel.cell (p := ⟨lb, i * 3, none⟩) hlb).trans u0
      replace u1 := (hq.bel.cell (p := ⟨lb, i * 3 + 1, none⟩) hlb).trans u1
      replace u2 := (hq.bel.cell (p := ⟨lb, i * 3 + 2, none⟩) hlb).trans u2
      have i0 : (0 : Int) ≤ (i : Int) := by omega
      have i1 : (i : Int) < (l.length : Int) := by omega
      have i9 : (i : Int) ≤ 1000 := by omega
      clear d0 d1 f0 f1
      generalize hnd' : l[i] = nd at *
      obtain ⟨ndv, ndl, ndh⟩ := nd
      simp only at u0 u1 u2
      have hne3 : ¬ (ndv = v ∧ ndl = lo ∧ ndh = hi) := fun ⟨a, b, c⟩ => hne (by rw [a, b, c])
      clear hne hnd' hcells hnd hfinh hnoth
      by_cases n0 : ndv = v
      · subst n0
        by_cases n1 : ndl = lo
        · subst n1
          have n2 : ¬ ndh = hi := fun h => hne3 ⟨rfl, rfl, h⟩
          have n2' : (ndh == hi) = false := by simpa using n2
          clear hne3
          go_wp2_with fail
          go_quiet (fail)
          go_wp2_with fail
          go_roundw
          case rel => exact ⟨i + 1, by omega, by go_num, below_drewN hB nq⟩
          case measure => simp [intOf]; omega
        · have n1' : (ndl == lo) = false := by simpa using n1
          clear hne3
          go_wp2_with fail
          go_quiet (fail)
          go_wp2_with fail
          go_roundw
          case rel => exact ⟨i + 1, by omega, by go_num, below_drewN hB nq⟩
          case measure => simp [intOf]; omega
      · have n0' : (ndv == v) = false := by simpa using n0
        clear hne3
        go_wp2_with fail
        go_quiet (fail)
        go_wp2_with fail
        go_roundw
        case rel => exact ⟨i + 1, by omega, by go_num, below_drewN hB nq⟩
        case measure => simp [intOf]; omega
    · obtain rfl : i = l.length := by omega
      clear hnd hnoth
      go_wp2_with fail
      exact bodyPost_ret (v := .tuple #[.agg #[.int .i64 lim, .slice A l.length cap], .int .i64 0, .int .i64 50]) (by simp [results, Try.results29, go_sem, d0, d1]) rfl (hfinh.out _ _ ((hq.bel.setCell (p := ⟨w.heap.size + 1, 0, none⟩) (by simp) _).setCell (p := ⟨w.heap.size + 1, 1, none⟩) (by simp) _))

set_option maxRecDepth 100000 in
set_option maxHeartbeats 16000000 in
theorem rmk_new_pos (lim : Int) (A : Option Addr) (cap : Nat) (l : List Nd) (hlen : l.length ≤ 1000) (hpos : 0 < l.length) (v lo hi : Int) (w : World) (h : RefAt w A cap l) (hk : okMk l v lo hi) (hne0 : lo ≠ hi) (hnot : (⟨v, lo, hi⟩ : Nd) ∉ l) (hlim : l.length < lim) :
    Calls Try.prog 29 #[.agg #[.int .i64 lim, .slice A l.length cap], .int .i64 v, .int .i64 lo, .int .i64 hi] w (RMkEnd w lim A l (l ++ [⟨v, lo, hi⟩], l.length)) := by
  have hfin : ∀ g cap' x w', Below w.heap.size w w' → w.heap.size ≤ g → NodesAt w' (some ⟨g, 0, none⟩) (l ++ [⟨v, lo, hi⟩]) → RMkEnd w lim A l (l ++ [⟨v, lo, hi⟩], l.length) (.returned (.tuple #[.agg #[.int .i64 lim, .slice (some ⟨g, 0, none⟩) (l.length + 1) cap'], .int .i64 l.length, .int .i64 x])) w' :=
    fun g cap' x w' hb hg hn => ⟨some ⟨g, 0, none⟩, cap', x, by simp, .inr ⟨by simp, hn⟩, hb, .inr ⟨g, rfl, hg⟩⟩
  have hnoth := Lib.hid hnot
  have hlim' : ¬ (l.length : Int) ≥ lim := by omega
  have hrefh := Lib.hid h
  clear hnot hlim
  have hfinh := Lib.hid hfin
  generalize RMkEnd w lim A l (l ++ [⟨v, lo, hi⟩], (l.length : Int)) = R at *
  have hq0 := RQ.new w lim A cap l
  obtain ⟨cHlo, cHhi, cVlo, cVhi⟩ := rmk_ok_start lim A cap l v lo hi w h hk
  obtain ⟨hv0, hv1, _, _, hl1, hl2⟩ := hk
  have e0 := hq0.c0
  have e1 := hq0.c1
  have n0 : ¬ v < 0 := by omega
  have n1 : ¬ v > 11 := by omega
  have n2 : ¬ varOf l lo ≤ v := by omega
  have n3 : ¬ varOf l hi ≤ v := by omega
  have hnd := h.nodes
  clear hfin
  go_enter Try.func29, Try.ntmps29
  go_wp2_with (first
    | (go_at_call_of 31 (Value.int .i64 lo); refine (cHlo _ hq0).mono ?_; clear cHlo; rintro e w2 ⟨rfl, hq2⟩; have c0 := hq2.c0; have c1 := hq2.c1; have d0 := hq2.d0; have d1 := hq2.d1; have f0 := hq2.f0; have f1 := hq2.f1)
    | (go_at_call_of 31 (Value.int .i64 hi); refine (cHhi _ hq2).mono ?_; clear cHhi; rintro e w3 ⟨rfl, hq3⟩; have c0 := hq3.c0; have c1 := hq3.c1; have d0 := hq3.d0; have d1 := hq3.d1; have f0 := hq3.f0; have f1 := hq3.f1)
    | (go_at_call_of 44 (Value.int .i64 lo); refine (cVlo _ hq3).mono ?_; clear cVlo; rintro e w4 ⟨rfl, hq4⟩; have c0 := hq4.c0; have c1 := hq4.c1; have d0 := hq4.d0; have d1 := hq4.d1; have f0 := hq4.f0; have f1 := hq4.f1)
    | (go_at_call_of 44 (Value.int .i64 hi); refine (cVhi _ hq4).mono ?_; clear cVhi; rintro e w5 ⟨rfl, hq5⟩; have c0 := hq5.c0; have c1 := hq5.c1; have d0 := hq5.d0; have d1 := hq5.d1; have f0 := hq5.f0; have f1 := hq5.f1))
  clear c0 c1 d0 d1 f0 f1 e0 e1 hq0 hq2 hq3 hq4
  have hq6 := hq5.below ((Below.refl _ _).alloc (Nat.le_refl _) (.cells #[.int .i64 v, .int .i64 lo, .int .i64 hi] 77))
  have k0 := cell_new3 w5 (.int .i64 v) (.int .i64 lo) (.int .i64 hi) 77 0
  have k1 := cell_new3 w5 (.int .i64 v) (.int .i64 lo) (.int .i64 hi) 77 1
  have k2 := cell_new3 w5 (.int .i64 v) (.int .i64 lo) (.int .i64 hi) 77 2
  simp only [List.getElem?_toArray, List.getElem?_cons_succ, List.getElem?_cons_zero] at k0 k1 k2
  have hnw : w5.heap.size < (w5.alloc (.cells #[.int .i64 v, .int .i64 lo, .int .i64 hi] 77)).heap.size := by simp
  have hw5 : w.heap.size + 2 ≤ w5.heap.size := hq5.sz
  clear hq5
  generalize w5.alloc (.cells #[.int .i64 v, .int .i64 lo, .int .i64 hi] 77) = w6 at *
  generalize w5.heap.size = Bn at *

  go_loopw [12] (fun p wr => ∃ i : Nat, i ≤ l.length ∧ p = .int .i64 i ∧ Below w6.heap.size w6 wr) (fun p _ => l.length - (intOf p).toNat)
  case atStart => exact ⟨0, by omega, rfl, Below.refl _ _⟩
  case round =>
    obtain ⟨i, hi', rfl, hB⟩ := hrel
    have hq := hq6.below hB
    have d0 := hq.d0
    have d1 := hq.d1
    have f0 := hq.f0
    have f1 := hq.f1
    have c0 := hq.c0
    have c1 := hq.c1
    have j0 := (hB.cell (p := ⟨Bn, 0, none⟩) hnw).trans k0
    have j1 := (hB.cell (p := ⟨Bn, 1, none⟩) hnw).trans k1
    have j2 := (hB.cell (p := ⟨Bn, 2, none⟩) hnw).trans k2
    by_cases hil : i < l.length
    · have hne : l[i] ≠ ⟨v, lo, hi⟩ := fun e => hnoth.out (by rw [← e]; exact List.getElem_mem hil)
      obtain ⟨lb, rfl, hlb, hcells⟩ := hnd (by omega)
      obtain ⟨u0, u1, u2⟩ := hcells i hil
      replace u0 := (hq.bel.cell (p := ⟨lb, i * 3, none⟩) hlb).trans u0
      replace u1 := (hq.bel.cell (p := ⟨lb, i * 3 + 1, none⟩) hlb).trans u1
      replace u2 := (hq.bel.cell (p := ⟨lb, i * 3 + 2, none⟩) hlb).trans u2
      have i0 : (0 : Int) ≤ (i : Int) := by omega
      have i1 : (i : Int) < (l.length : Int) := by omega
      have i9 : (i : Int) ≤ 1000 := by omega
      clear d0 d1 f0 f1
      generalize hnd' : l[i] = nd at *
      obtain ⟨ndv, ndl, ndh⟩ := nd
      simp only at u0 u1 u2
      have hne3 : ¬ (ndv = v ∧ ndl = lo ∧ ndh = hi) := fun ⟨a, b, c⟩ => hne (by rw [a, b, c])
      clear hne hnd' hcells hnd hfinh hnoth
      by_cases n0 : ndv = v
      · subst n0
        by_cases n1 : ndl = lo
        · subst n1
          have n2 : ¬ ndh = hi := fun h => hne3 ⟨rfl, rfl, h⟩
          have n2' : (ndh == hi) = false := by simpa using n2
          clear hne3
          go_wp2_with fail
          go_quiet (fail)
          go_wp2_with fail
          go_roundw
          case rel => exact ⟨i + 1, by omega, by go_num, below_drewN hB nq⟩
          case measure => simp [intOf]; omega
        · have n1' : (ndl == lo) = false := by simpa using n1
          clear hne3
          go_wp2_with fail
          go_quiet (fail)
          go_wp2_with fail
          go_roundw
          case rel => exact ⟨i + 1, by omega, by go_num, below_drewN hB nq⟩
          case measure => simp [intOf]; omega
      · have n0' : (ndv == v) = false := by simpa using n0
        clear hne3
        go_wp2_with fail
        go_quiet (fail)
        go_wp2_with fail
        go_roundw
        case rel => exact ⟨i + 1, by omega, by go_num, below_drewN hB nq⟩
        case measure => simp [intOf]; omega
    · obtain rfl : i = l.length := by omega
      have hr := hq.bel
      clear hnd hnoth
      have hz := hq.sz
      have hqh := Lib.hid hq
      obtain ⟨t0, hi0, hz0, hz1, hz2⟩ := info_parts Try.info77
      have hnd := hrefh.out.nodes
      obtain ⟨lb, rfl, hlb, _⟩ := hnd hpos
      have hws := hq.bel.size
      have hndr : NodesAt wr (some ⟨lb, 0, none⟩) l := hnd.below (Nat.le_refl _) hq.bel
      have hnews := Lib.hid (p := ∀ W, Below wr.heap.size wr W → ∀ j u, (ncells l)[j]? = some u → W.cell? ((⟨lb, 0, none⟩ : Addr).add j) = some u) (fun W hb => nodes_news (hndr.below (Nat.le_refl _) hb))
      have hone := Lib.hid (ncells_one l)
      have hnlen := Lib.hid (ncells_len l)
      have hbn : Bn < wr.heap.size := Nat.lt_of_lt_of_le hnw hB.size
      have hkeep := Lib.hid (p := ∀ W, Below wr.heap.size wr W → (W.cell? ⟨Bn, 0, none⟩ = some (.int .i64 v) ∧ W.cell? ⟨Bn, 1, none⟩ = some (.int .i64 lo) ∧ W.cell? ⟨Bn, 2, none⟩ = some (.int .i64 hi))) (fun W hb => ⟨(hb.cell (p := ⟨Bn, 0, none⟩) hbn).trans j0, (hb.cell (p := ⟨Bn, 1, none⟩) hbn).trans j1, (hb.cell (p := ⟨Bn, 2, none⟩) hbn).trans j2⟩)
      have y1 := (Below.refl wr.heap.size wr).alloc (Nat.le_refl _) (.cells #[] 77)
      have y2 := (Below.refl wr.heap.size wr).alloc (Nat.le_refl _) (.cells #[.int .i64 v, .int .i64 lo, .int .i64 hi] 77)
      have y3 := y1.alloc (by simp) (.cells #[.int .i64 v, .int .i64 lo, .int .i64 hi] 77)
      have y4 := y2.alloc (by simp) (.cells #[] 77)
      have x1 := (hq.below y1).c1
      have x2 := (hq.below y2).c1
      have x3 := (hq.below y3).c1
      have x4 := (hq.below y4).c1
      have hset := Lib.hid (p := ∀ W x, Below wr.heap.size wr W → (fun W => W.cell? ⟨Bn, 0, none⟩ = some (.int .i64 v) ∧ W.cell? ⟨Bn, 1, none⟩ = some (.int .i64 lo) ∧ W.cell? ⟨Bn, 2, none⟩ = some (.int .i64 hi)) (W.setCell ⟨w.heap.size, 1, none⟩ x)) (fun W x hb => ⟨(set_far (fun e => by have := congrArg Addr.block e; simp at this; omega)).trans (hkeep.out W hb).1, (set_far (fun e => by have := congrArg Addr.block e; simp at this; omega)).trans (hkeep.out W hb).2.1, (set_far (fun e => by have := congrArg Addr.block e; simp at this; omega)).trans (hkeep.out W hb).2.2⟩)
      clear hnd hndr hrefh d0 d1 f0 f1 hq
      go_wp2_with fail
      have o1 := hkeep.out _ y1
      obtain ⟨o11, o12, o13⟩ := o1
      go_region_law (first
          | (refine step_append_lies ((wr.alloc (.cells #[] 77)).alloc (.cells #[.int .i64 v, .int .i64 lo, .int .i64 hi] 77)).drew ?_ (.tmp 77) (.tmp 79) 25 ?_ w.heap.size 77 t0 _ 3 24 Try.underlying25 hi0 hz0 hz1 hz2 ?_ ?_ (.slice (some ⟨wr.heap.size, 0, none⟩) 0 0) 0 [] ?_ ?_ ⟨lb, 0, none⟩ l.length cap (ncells l) ?_ hnlen.out (hnews.out _ y3.drew) hone.out hpos ?_ ?_ ?_ _ rfl ?_
             · rfl
             · rfl
             · rfl
             · decide
             · rfl
             · exact (World.ownsRow_made wr #[] 0 hws (by decide) rfl).alloc _
             · rfl
             · unfold maxLen; omega
             · omega
             · exact Nat.le_trans hws y3.size
             intro g1 cap1 w1 hown1 hgrow1 hat1 hlt1
             have hb1 := Lib.hid (y3.drew.grown hgrow1 y3.size (fun k hk => by simp [Value.ownBlock] at hk; omega))
             have hown0 := hown1
             simp only [Nat.zero_add, List.nil_append] at hown1
             have hN1 := Lib.hid (show w1.heap[wr.heap.size + 1]? = some (.cells #[.int .i64 v, .int .i64 lo, .int .i64 hi] 77 (0, 0)) from (hgrow1.block (wr.heap.size + 1) (by show _ < Array.size _; simp <;> omega) (by simp [Value.ownBlock])).trans (by have := World.alloc_heap_new (wr.alloc (.cells #[] 77)) (.cells #[.int .i64 v, .int .i64 lo, .int .i64 hi] 77); rwa [World.size_alloc] at this))
             have hg1 := Lib.hid (show wr.heap.size ≤ g1 from by rcases hat1 with e | e; (simp [Value.ownBlock] at e; omega); (rw [e]; exact y3.size))
             have m9 := hkeep.out w1 hb1.out
             obtain ⟨m0, m1, m2⟩ := m9
             clear hgrow1 hat1)
          | (refine step_append_lies ((wr.alloc (.cells #[.int .i64 v, .int .i64 lo, .int .i64 hi] 77)).alloc (.cells #[] 77)).drew ?_ (.tmp 77) (.tmp 79) 25 ?_ w.heap.size 77 t0 _ 3 24 Try.underlying25 hi0 hz0 hz1 hz2 ?_ ?_ (.slice (some ⟨wr.heap.size + 1, 0, none⟩) 0 0) 0 [] ?_ ?_ ⟨lb, 0, none⟩ l.length cap (ncells l) ?_ hnlen.out (hnews.out _ y4.drew) hone.out hpos ?_ ?_ ?_ _ rfl ?_
             · rfl
             · rfl
             · rfl
             · decide
             · rfl
             · exact by have := World.ownsRow_made (base := w.heap.size) (e := 77) (size := 3) (wr.alloc (.cells #[.int .i64 v, .int .i64 lo, .int .i64 hi] 77)) #[] 0 (by simp; omega) (by decide) rfl; rwa [World.size_alloc] at this
             · rfl
             · unfold maxLen; omega
             · omega
             · exact Nat.le_trans hws y4.size
             intro g1 cap1 w1 hown1 hgrow1 hat1 hlt1
             have hb1 := Lib.hid (y4.drew.grown hgrow1 y4.size (fun k hk => by simp [Value.ownBlock] at hk; omega))
             have hown0 := hown1
             simp only [Nat.zero_add, List.nil_append] at hown1
             have hN1 := Lib.hid (show w1.heap[wr.heap.size]? = some (.cells #[.int .i64 v, .int .i64 lo, .int .i64 hi] 77 (0, 0)) from (hgrow1.block (wr.heap.size) (by show _ < Array.size _; simp <;> omega) (by simp [Value.ownBlock])).trans ((Below.heap_alloc _ _ _ (by simp)).trans (World.alloc_heap_new wr (.cells #[.int .i64 v, .int .i64 lo, .int .i64 hi] 77))))
             have hg1 := Lib.hid (show wr.heap.size ≤ g1 from by rcases hat1 with e | e; (simp [Value.ownBlock] at e; omega); (rw [e]; exact y4.size))
             have m9 := hkeep.out w1 hb1.out
             obtain ⟨m0, m1, m2⟩ := m9
             clear hgrow1 hat1)
          | (refine step_append_lies (wr.alloc (.cells #[] 77)).drew ?_ (.tmp 77) (.tmp 79) 25 ?_ w.heap.size 77 t0 _ 3 24 Try.underlying25 hi0 hz0 hz1 hz2 ?_ ?_ (.slice (some ⟨wr.heap.size, 0, none⟩) 0 0) 0 [] ?_ ?_ ⟨lb, 0, none⟩ l.length cap (ncells l) ?_ hnlen.out (hnews.out _ y1.drew) hone.out hpos ?_ ?_ ?_ _ rfl ?_
             · rfl
             · rfl
             · rfl
             · decide
             · rfl
             · exact World.ownsRow_made wr #[] 0 hws (by decide) rfl
             · rfl
             · unfold maxLen; omega
             · omega
             · exact Nat.le_trans hws y1.size
             intro g1 cap1 w1 hown1 hgrow1 hat1 hlt1
             have hb1 := Lib.hid (y1.drew.grown hgrow1 y1.size (fun k hk => by simp [Value.ownBlock] at hk; omega))
             have hown0 := hown1
             simp only [Nat.zero_add, List.nil_append] at hown1
             
             have hg1 := Lib.hid (show wr.heap.size ≤ g1 from by rcases hat1 with e | e; (simp [Value.ownBlock] at e; omega); (rw [e]; exact y1.size))
             have m9 := hkeep.out w1 hb1.out
             obtain ⟨m0, m1, m2⟩ := m9
             clear hgrow1 hat1)
          | (refine step_append_lies (w1.alloc (.cells #[.int .i64 v, .int .i64 lo, .int .i64 hi] 77)) ?_ (.tmp 80) (.tmp 82) 25 ?_ w.heap.size 77 t0 _ 3 24 Try.underlying25 hi0 hz0 hz1 hz2 ?_ ?_ (.slice (some ⟨g1, 0, none⟩) l.length cap1) l.length (ncells l) ?_ ?_ ⟨w1.heap.size, 0, none⟩ 1 1 [.int .i64 v, .int .i64 lo, .int .i64 hi] ?_ ?_ ?_ ?_ ?_ ?_ ?_ ?_ _ rfl ?_
             · rfl
             · rfl
             · rfl
             · decide
             · rfl
             · exact hown1.alloc _
             · rfl
             · rfl
             · exact World.news_of_block (World.alloc_heap_new w1 _)
             · simp [Value.oneCell']
             · decide
             · unfold maxLen; omega
             · omega
             · have := hb1.out.size; simp <;> omega
             intro g2 cap2 w2 hown2 hgrow2 hat2 hlt2
             have hb2 := Lib.hid ((hb1.out.alloc hb1.out.size (.cells #[.int .i64 v, .int .i64 lo, .int .i64 hi] 77)).grown hgrow2 (by have := hb1.out.size; simp <;> omega) (fun k hk => by have := row_base (row_mono hown1 (Nat.le_refl _)) k hk; have := hg1.out; simp [Value.ownBlock] at hk; omega))
             have hq2 := hqh.out.below hb2.out
             have z1 := hq2.c1
             have z2 := hq2.g1
             have hg2 := Lib.hid (show wr.heap.size ≤ g2 from by rcases hat2 with e | e; (have := hg1.out; simp [Value.ownBlock] at e; omega); (rw [e]; have := hb1.out.size; simp <;> omega))
             clear hgrow2 hq2 hat2)
          | (refine step_append_lies w1 ?_ (.tmp 80) (.tmp 82) 25 ?_ w.heap.size 77 t0 _ 3 24 Try.underlying25 hi0 hz0 hz1 hz2 ?_ ?_ (.slice (some ⟨g1, 0, none⟩) l.length cap1) l.length (ncells l) ?_ ?_ ⟨wr.heap.size + 1, 0, none⟩ 1 1 [.int .i64 v, .int .i64 lo, .int .i64 hi] ?_ ?_ ?_ ?_ ?_ ?_ ?_ ?_ _ rfl ?_
             · rfl
             · rfl
             · rfl
             · decide
             · rfl
             · exact hown1
             · rfl
             · rfl
             · exact World.news_of_block hN1.out
             · simp [Value.oneCell']
             · decide
             · unfold maxLen; omega
             · omega
             · have := hb1.out.size; simp <;> omega
             intro g2 cap2 w2 hown2 hgrow2 hat2 hlt2
             have hb2 := Lib.hid ((hb1.out).grown hgrow2 (by have := hb1.out.size; simp <;> omega) (fun k hk => by have := row_base (row_mono hown1 (Nat.le_refl _)) k hk; have := hg1.out; simp [Value.ownBlock] at hk; omega))
             have hq2 := hqh.out.below hb2.out
             have z1 := hq2.c1
             have z2 := hq2.g1
             have hg2 := Lib.hid (show wr.heap.size ≤ g2 from by rcases hat2 with e | e; (have := hg1.out; simp [Value.ownBlock] at e; omega); (rw [e]; have := hb1.out.size; simp <;> omega))
             clear hgrow2 hq2 hat2)
          | (refine step_append_lies w1 ?_ (.tmp 80) (.tmp 82) 25 ?_ w.heap.size 77 t0 _ 3 24 Try.underlying25 hi0 hz0 hz1 hz2 ?_ ?_ (.slice (some ⟨g1, 0, none⟩) l.length cap1) l.length (ncells l) ?_ ?_ ⟨wr.heap.size, 0, none⟩ 1 1 [.int .i64 v, .int .i64 lo, .int .i64 hi] ?_ ?_ ?_ ?_ ?_ ?_ ?_ ?_ _ rfl ?_
             · rfl
             · rfl
             · rfl
             · decide
             · rfl
             · exact hown1
             · rfl
             · rfl
             · exact World.news_of_block hN1.out
             · simp [Value.oneCell']
             · decide
             · unfold maxLen; omega
             · omega
             · have := hb1.out.size; simp <;> omega
             intro g2 cap2 w2 hown2 hgrow2 hat2 hlt2
             have hb2 := Lib.hid ((hb1.out).grown hgrow2 (by have := hb1.out.size; simp <;> omega) (fun k hk => by have := row_base (row_mono hown1 (Nat.le_refl _)) k hk; have := hg1.out; simp [Value.ownBlock] at hk; omega))
             have hq2 := hqh.out.below hb2.out
             have z1 := hq2.c1
             have z2 := hq2.g1
             have hg2 := Lib.hid (show wr.heap.size ≤ g2 from by rcases hat2 with e | e; (have := hg1.out; simp [Value.ownBlock] at e; omega); (rw [e]; have := hb1.out.size; simp <;> omega))
             clear hgrow2 hq2 hat2)
          | (refine step_append_lies w1 ?_ (.tmp 80) (.tmp 82) 25 ?_ w.heap.size 77 t0 _ 3 24 Try.underlying25 hi0 hz0 hz1 hz2 ?_ ?_ (.slice (some ⟨g1, 0, none⟩) (0 + l.length) cap1) (0 + l.length) ([] ++ ncells l) ?_ ?_ ⟨wr.heap.size + 1, 0, none⟩ 1 1 [.int .i64 v, .int .i64 lo, .int .i64 hi] ?_ ?_ ?_ ?_ ?_ ?_ ?_ ?_ _ rfl ?_
             · rfl
             · rfl
             · rfl
             · decide
             · rfl
             · exact hown0
             · rfl
             · rfl
             · exact World.news_of_block hN1.out
             · simp [Value.oneCell']
             · decide
             · unfold maxLen; omega
             · omega
             · have := hb1.out.size; simp <;> omega
             intro g2 cap2 w2 hown2 hgrow2 hat2 hlt2
             have hb2 := Lib.hid ((hb1.out).grown hgrow2 (by have := hb1.out.size; simp <;> omega) (fun k hk => by have := row_base (row_mono hown1 (Nat.le_refl _)) k hk; have := hg1.out; simp [Value.ownBlock] at hk; omega))
             have hq2 := hqh.out.below hb2.out
             have z1 := hq2.c1
             have z2 := hq2.g1
             have hg2 := Lib.hid (show wr.heap.size ≤ g2 from by rcases hat2 with e | e; (have := hg1.out; simp [Value.ownBlock] at e; omega); (rw [e]; have := hb1.out.size; simp <;> omega))
             clear hgrow2 hq2 hat2)
          | (refine step_append_lies w1 ?_ (.tmp 80) (.tmp 82) 25 ?_ w.heap.size 77 t0 _ 3 24 Try.underlying25 hi0 hz0 hz1 hz2 ?_ ?_ (.slice (some ⟨g1, 0, none⟩) (0 + l.length) cap1) (0 + l.length) ([] ++ ncells l) ?_ ?_ ⟨wr.heap.size, 0, none⟩ 1 1 [.int .i64 v, .int .i64 lo, .int .i64 hi] ?_ ?_ ?_ ?_ ?_ ?_ ?_ ?_ _ rfl ?_
             · rfl
             · rfl
             · rfl
             · decide
             · rfl
             · exact hown0
             · rfl
             · rfl
             · exact World.news_of_block hN1.out
             · simp [Value.oneCell']
             · decide
             · unfold maxLen; omega
             · omega
             · have := hb1.out.size; simp <;> omega
             intro g2 cap2 w2 hown2 hgrow2 hat2 hlt2
             have hb2 := Lib.hid ((hb1.out).grown hgrow2 (by have := hb1.out.size; simp <;> omega) (fun k hk => by have := row_base (row_mono hown1 (Nat.le_refl _)) k hk; have := hg1.out; simp [Value.ownBlock] at hk; omega))
             have hq2 := hqh.out.below hb2.out
             have z1 := hq2.c1
             have z2 := hq2.g1
             have hg2 := Lib.hid (show wr.heap.size ≤ g2 from by rcases hat2 with e | e; (have := hg1.out; simp [Value.ownBlock] at e; omega); (rw [e]; have := hb1.out.size; simp <;> omega))
             clear hgrow2 hq2 hat2)
          | fail)
      all_goals
        try simp only [Nat.zero_add, List.nil_append] at hown2
        have hq2 := hqh.out.below hb2.out
        obtain ⟨p1, p2, p3, p4, p5, p6⟩ := rq_store hq2 (.slice (some ⟨g2, 0, none⟩) (l.length + 1) cap2)
        have hn7 := Lib.hid (rmk_nodes hown2 (Nat.le_trans hws hg2.out) ⟨w.heap.size, 1, none⟩ (.slice (some ⟨g2, 0, none⟩) (l.length + 1) cap2) (by show g2 ≠ w.heap.size; have := hg2.out; omega))
        have hb7 := hr.trans ((hb2.out.mono hws).setCell (p := ⟨w.heap.size, 1, none⟩) (Nat.le_refl _) (.slice (some ⟨g2, 0, none⟩) (l.length + 1) cap2))
        have hgw := Lib.hid (Nat.le_trans hws hg2.out)
        clear z1 z2 hq2 hown2 x1 x2 x3 x4
        generalize w2.setCell ⟨w.heap.size, 1, none⟩ (.slice (some ⟨g2, 0, none⟩) (l.length + 1) cap2) = w7 at *
        have hlw : IntKind.i64.wrap ((l.length : Int) + 1 - 1) = l.length := by rw [IntKind.wrap_i64]; omega
        go_wp2_with fail
        go_region
        go_wp2_with fail
        have hne7 : w.heap.size + 1 ≠ g2 := by have := hg2.out; omega
        exact bodyPost_ret (v := .tuple #[.agg #[.int .i64 lim, .slice (some ⟨g2, 0, none⟩) (l.length + 1) cap2], .int .i64 l.length, .int .i64 0]) (by simp [results, Try.results29, go_sem, p3, p4]) rfl (hfinh.out g2 cap2 0 _ ((hb7.drew.setCell (p := ⟨w.heap.size + 1, 0, none⟩) (by simp) _).setCell (p := ⟨w.heap.size + 1, 1, none⟩) (by simp) _) hgw.out (NodesAt.set (NodesAt.set hn7.out ⟨w.heap.size + 1, 0, none⟩ _ hne7) ⟨w.heap.size + 1, 1, none⟩ _ hne7))
end Go.Proofs.Yteifllgcpickhaa
