/- count: the document's Mk: the search, and a node that is had already -/
import Derived.Test.YteifllgcpickhaaRA
import Derived.Outline
namespace Go.Proofs.Yteifllgcpickhaa
open Go.RowKit

set_option maxRecDepth 100000 in
set_option maxHeartbeats 1000000 in
theorem rmk_found (lim : Int) (A : Option Addr) (cap : Nat) (l : List Nd) (hlen : l.length ≤ 1000) (v lo hi : Int) (w : World) (h : RefAt w A cap l) (hk : okMk l v lo hi) (hne0 : lo ≠ hi) (k : Nat) (hkl : k < l.length) (hlk : l[k] = ⟨v, lo, hi⟩) (hbef : ∀ i (h : i < l.length), i < k → l[i] ≠ ⟨v, lo, hi⟩) :
    Calls Try.prog 29 #[.agg #[.int .i64 lim, .slice A l.length cap], .int .i64 v, .int .i64 lo, .int .i64 hi] w (RMkEnd w lim A l (l, k)) := by
  have hfin : ∀ x w', Below w.heap.size w w' → RMkEnd w lim A l (l, k) (.returned (.tuple #[.agg #[.int .i64 lim, .slice A l.length cap], .int .i64 k, .int .i64 x])) w' := fun x w' hb => ⟨A, cap, x, rfl, h.below hb, hb, .inl ⟨rfl, rfl⟩⟩
  have hbefh := Lib.hid hbef
  have hlkh := Lib.hid hlk
  clear hbef hlk
  have hfinh := Lib.hid hfin
  generalize RMkEnd w lim A l (l, k) = R at *
  have hq0 := RQ.new w lim A cap l
  obtain ⟨cHlo, cHhi, cVlo, cVhi⟩ := rmk_ok_start lim A cap l v lo hi w h hk
  obtain ⟨hv0, hv1, _, _, hl1, hl2⟩ := hk
  have e0 := hq0.c0
  have e1 := hq0.c1
  have n0 : ¬ v < 0 := by omega
  have n1 : ¬ v > 11 := by omega
  have n2 : ¬ varOf l lo ≤ v := by omega
  have n3 : ¬ varOf l hi ≤ v := by omega
  have hnd := h.nodes
  clear hfin
  go_enter Try.func29, Try.ntmps29
  go_wp2_with (first
    | (go_at_call_of 31 (Value.int .i64 lo); refine (cHlo _ hq0).mono ?_; clear cHlo; rintro e w2 ⟨rfl, hq2⟩; have c0 := hq2.c0; have c1 := hq2.c1; have d0 := hq2.d0; have d1 := hq2.d1; have f0 := hq2.f0; have f1 := hq2.f1)
    | (go_at_call_of 31 (Value.int .i64 hi); refine (cHhi _ hq2).mono ?_; clear cHhi; rintro e w3 ⟨rfl, hq3⟩; have c0 := hq3.c0; have c1 := hq3.c1; have d0 := hq3.d0; have d1 := hq3.d1; have f0 := hq3.f0; have f1 := hq3.f1)
    | (go_at_call_of 44 (Value.int .i64 lo); refine (cVlo _ hq3).mono ?_; clear cVlo; rintro e w4 ⟨rfl, hq4⟩; have c0 := hq4.c0; have c1 := hq4.c1; have d0 := hq4.d0; have d1 := hq4.d1; have f0 := hq4.f0; have f1 := hq4.f1)
    | (go_at_call_of 44 (Value.int .i64 hi); refine (cVhi _ hq4).mono ?_; clear cVhi; rintro e w5 ⟨rfl, hq5⟩; have c0 := hq5.c0; have c1 := hq5.c1; have d0 := hq5.d0; have d1 := hq5.d1; have f0 := hq5.f0; have f1 := hq5.f1))
  clear c0 c1 d0 d1 f0 f1 e0 e1 hq0 hq2 hq3 hq4
  have hq6 := hq5.below ((Below.refl _ _).alloc (Nat.le_refl _) (.cells #[.int .i64 v, .int .i64 lo, .int .i64 hi] 77))
  have k0 := cell_new3 w5 (.int .i64 v) (.int .i64 lo) (.int .i64 hi) 77 0
  have k1 := cell_new3 w5 (.int .i64 v) (.int .i64 lo) (.int .i64 hi) 77 1
  have k2 := cell_new3 w5 (.int .i64 v) (.int .i64 lo) (.int .i64 hi) 77 2
  simp only [List.getElem?_toArray, List.getElem?_cons_succ, List.getElem?_cons_zero] at k0 k1 k2
  have hnw : w5.heap.size < (w5.alloc (.cells #[.int .i64 v, .int .i64 lo, .int .i64 hi] 77)).heap.size := by simp
  have hw5 : w.heap.size + 2 ≤ w5.heap.size := hq5.sz
  clear hq5
  generalize w5.alloc (.cells #[.int .i64 v, .int .i64 lo, .int .i64 hi] 77) = w6 at *
  generalize w5.heap.size = Bn at *

  go_loopw [12] (fun p wr => ∃ i : Nat, i ≤ k ∧ p = .int .i64 i ∧ Below w6.heap.size w6 wr) (fun p _ => k - (intOf p).toNat)
  case atStart => exact ⟨0, by omega, rfl, Below.refl _ _⟩
  case round =>
    obtain ⟨i, hi', rfl, hB⟩ := hrel
    have hq := hq6.below hB
    have d0 := hq.d0
    have d1 := hq.d1
    have f0 := hq.f0
    have f1 := hq.f1
    have c0 := hq.c0
    have c1 := hq.c1
    have j0 := (hB.cell (p := ⟨Bn, 0, none⟩) hnw).trans k0
    have j1 := (hB.cell (p := ⟨Bn, 1, none⟩) hnw).trans k1
    have j2 := (hB.cell (p := ⟨Bn, 2, none⟩) hnw).trans k2
    have hil : i < l.length := by omega
    obtain ⟨lb, rfl, hlb, hcells⟩ := hnd (by omega)
    obtain ⟨u0, u1, u2⟩ := hcells i hil
    replace u0 := (hq.bel.cell (p := ⟨lb, i * 3, none⟩) hlb).trans u0
    replace u1 := (hq.bel.cell (p := ⟨lb, i * 3 + 1, none⟩) hlb).trans u1
    replace u2 := (hq.bel.cell (p := ⟨lb, i * 3 + 2, none⟩) hlb).trans u2
    have i0 : (0 : Int) ≤ (i : Int) := by omega
    have i1 : (i : Int) < (l.length : Int) := by omega
    have i9 : (i : Int) ≤ 1000 := by omega
    by_cases hik : i < k
    · have hne := hbefh.out i hil hik
      clear d0 d1 f0 f1
      generalize hnd' : l[i] = nd at *
      obtain ⟨ndv, ndl, ndh⟩ := nd
      simp only at u0 u1 u2
      have hne3 : ¬ (ndv = v ∧ ndl = lo ∧ ndh = hi) := fun ⟨a, b, c⟩ => hne (by rw [a, b, c])
      clear hne hnd' hcells hnd hfinh hbefh hlkh
      by_cases n0 : ndv = v
      · subst n0
        by_cases n1 : ndl = lo
        · subst n1
          have n2 : ¬ ndh = hi := fun h => hne3 ⟨rfl, rfl, h⟩
          have n2' : (ndh == hi) = false := by simpa using n2
          clear hne3
          go_wp2_with fail
          go_quiet (fail)
          go_wp2_with fail
          go_roundw
          case rel => exact ⟨i + 1, by omega, by go_num, below_drewN hB nq⟩
          case measure => simp [intOf]; omega
        · have n1' : (ndl == lo) = false := by simpa using n1
          clear hne3
          go_wp2_with fail
          go_quiet (fail)
          go_wp2_with fail
          go_roundw
          case rel => exact ⟨i + 1, by omega, by go_num, below_drewN hB nq⟩
          case measure => simp [intOf]; omega
      · have n0' : (ndv == v) = false := by simpa using n0
        clear hne3
        go_wp2_with fail
        go_quiet (fail)
        go_wp2_with fail
        go_roundw
        case rel => exact ⟨i + 1, by omega, by go_num, below_drewN hB nq⟩
        case measure => simp [intOf]; omega
    · obtain rfl : i = k := by omega
      have hlk := hlkh.out
      rw [hlk] at u0 u1 u2
      simp only at u0 u1 u2
      clear hlk hcells hbefh hlkh
      go_wp2_with fail
      go_quiet (fail)
      go_wp2_with fail
      exact bodyPost_ret (v := .tuple #[.agg #[.int .i64 lim, .slice (some ⟨lb, 0, none⟩) l.length cap], .int .i64 i, .int .i64 0]) (by simp [results, Try.results29, go_sem, d0, d1]) rfl (hfinh.out _ _ (((below_drewN hq.bel nq).setCell (p := ⟨w.heap.size + 1, 0, none⟩) (by simp) _).setCell (p := ⟨w.heap.size + 1, 1, none⟩) (by simp) _))
end Go.Proofs.Yteifllgcpickhaa
