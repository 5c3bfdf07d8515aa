/- count: place -/
import Derived.Test.YteifllgcpickhaaW
import Derived.Test.YteifllgcpickhaaV
import Derived.WalkMore
import Derived.ScopeJumps
import Derived.Deep.LoopGhost
namespace Go.Proofs.Yteifllgcpickhaa
open Go.RowKit

/-- the arena's table as it is read -/
def IntsAt (w : World) (b : Nat) (ps : List Int) : Prop := b < w.heap.size ∧ ∀ i, i < ps.length → w.cell? ⟨b, i, none⟩ = some (.int .i64 (pg ps i))
theorem IntsAt.below {w w' : World} {b : Nat} {ps : List Int} {B : Nat} (h : IntsAt w b ps) (hB : w.heap.size ≤ B) (hb : Below B w w') : IntsAt w' b ps :=
  ⟨Nat.lt_of_lt_of_le h.1 hb.size, fun i hi => (hb.cell (p := ⟨b, i, none⟩) (Nat.lt_of_lt_of_le h.1 hB)).trans (h.2 i hi)⟩

theorem below_drewN {B : Nat} {a w : World} (h : Below B a w) (q : Nat) : Below B a (w.drewN q) := ⟨h.os, h.tape, h.output, h.size, h.block⟩
/-- a node's hash, as place computes it -/
def hx1 (n : Nd) : Int := bits .xor .u64 (bits .xor .u64 (IntKind.u64.wrap (IntKind.u64.wrap (wrap64 (n.v + 1)) * 11400714819323198485)) (IntKind.u64.wrap (IntKind.u64.wrap n.lo * 1425089352415399811))) (IntKind.u64.wrap (IntKind.u64.wrap n.hi * 89068084525962489))
def hx (n : Nd) : Int := bits .xor .u64 (hx1 n) (hx1 n / 536870912)
theorem u64_rng (x : Int) : 0 ≤ IntKind.u64.wrap x ∧ IntKind.u64.wrap x < 18446744073709551616 := by rw [wrap_u64]; omega
theorem xor_rng (a b : Int) (h1 : 0 ≤ a) (h2 : a < 18446744073709551616) (h3 : 0 ≤ b) (h4 : b < 18446744073709551616) : 0 ≤ bits .xor .u64 a b ∧ bits .xor .u64 a b < 18446744073709551616 := by
  rw [u64_xor a b h1 h2 h3 h4]
  have : a.toNat ^^^ b.toNat < 2 ^ 64 := Nat.xor_lt_two_pow (by omega) (by omega)
  omega
theorem hx1_rng (n : Nd) : 0 ≤ hx1 n ∧ hx1 n < 18446744073709551616 := by
  unfold hx1
  have h1 := u64_rng (IntKind.u64.wrap (wrap64 (n.v + 1)) * 11400714819323198485)
  have h2 := u64_rng (IntKind.u64.wrap n.lo * 1425089352415399811)
  have h3 := u64_rng (IntKind.u64.wrap n.hi * 89068084525962489)
  have h4 := xor_rng _ _ h1.1 h1.2 h2.1 h2.2
  exact xor_rng _ _ h4.1 h4.2 h3.1 h3.2
theorem hx_rng (n : Nd) : 0 ≤ hx n := by
  have h := hx1_rng n
  exact (xor_rng _ _ h.1 h.2 (by omega) (by omega)).1
/-- where the search begins -/
def stN (m : Nat) (n : Nd) : Nat := (hx n % m).toNat
theorem stN_lt (m : Nat) (n : Nd) (h : 0 < m) : stN m n < m := by
  unfold stN
  have := Int.emod_lt_of_pos (hx n) (show (0 : Int) < m by omega)
  have := Int.emod_nonneg (hx n) (show (m : Int) ≠ 0 by omega)
  omega
theorem stN_eq (m : Nat) (n : Nd) (h : 0 < m) (hm : m ≤ 65536) : wrap64 ((hx n).tmod m) = stN m n := by
  have h0 := hx_rng n
  rw [Int.tmod_eq_emod_of_nonneg h0]
  have := Int.emod_lt_of_pos (hx n) (show (0 : Int) < m by omega)
  have := Int.emod_nonneg (hx n) (show (m : Int) ≠ 0 by omega)
  rw [IntWalk.wrap64_in _ ⟨by omega, by omega⟩]
  unfold stN
  omega

def PlaceEnd (w : World) (l : List Nd) (ps : List Int) (n : Nd) (e : Ending) (w' : World) : Prop := (∃ i, e = .returned (.int .i64 (i : Nat)) ∧ PlaceAt (stN ps.length n) ps.length l ps n i) ∧ Below w.heap.size w w'

set_option maxRecDepth 100000 in
set_option maxHeartbeats 1000000 in
theorem place_any (b pb : Nat) (A : Option Addr) (cap : Nat) (l : List Nd) (ps : List Int) (n : Nd) (w : World) (hlen : l.length ≤ 1000)
    (hb0 : b < w.heap.size) (c1 : w.cell? ⟨b, 1, none⟩ = some (.slice A l.length cap)) (c2 : w.cell? ⟨b, 2, none⟩ = some (.slice (some ⟨pb, 0, none⟩) ps.length ps.length)) (hn : NodesAt w A l) (hp : IntsAt w pb ps)
    (hm1 : ps.length ≤ 65536) {K : Nat} (hT : Tab (stN ps.length) ps.length l ps K) (hK : K < ps.length) :
    Calls Try.prog 46 #[.pointer (some ⟨b, 0, none⟩), .agg #[.int .i64 n.v, .int .i64 n.lo, .int .i64 n.hi]] w (PlaceEnd w l ps n) := by
  have hm0 : 0 < ps.length := by omega
  obtain ⟨D, hD, hDs, hDn⟩ := hT.ends hK n (stN ps.length n) (stN_lt _ _ hm0)
  have hpl : PlaceAt (stN ps.length n) ps.length l ps n ((stN ps.length n + D) % ps.length) := ⟨D, rfl, hDs, hDn⟩
  have hfin : ∀ w', Below w.heap.size w w' → PlaceEnd w l ps n (.returned (.int .i64 (((stN ps.length n + D) % ps.length : Nat) : Int))) w' := fun w' hb => ⟨⟨_, rfl, hpl⟩, hb⟩
  have hst := stN_eq ps.length n hm0 hm1
  unfold hx hx1 at hst
  have hlt := stN_lt ps.length n hm0
  have hrng := hT.rng
  have hle := hT.le
  clear hpl
  generalize stN ps.length n = s at *
  generalize PlaceEnd w l ps n = R at *
  obtain ⟨nv, nl, nh⟩ := n
  simp only at hst ⊢
  have hb3 : Below w.heap.size w (w.alloc (.cells #[.int .i64 nv, .int .i64 nl, .int .i64 nh] 73)) := (Below.refl _ w).alloc (Nat.le_refl _) _
  have q := World.alloc_heap_new w (.cells #[.int .i64 nv, .int .i64 nl, .int .i64 nh] 73)
  have q0 := cell_of (i := 0) q
  have q1 := cell_of (i := 1) q
  have q2 := cell_of (i := 2) q
  simp only [List.getElem?_toArray, List.getElem?_cons_succ, List.getElem?_cons_zero] at q0 q1 q2
  have hDsh := Lib.hid hDs
  have hDnh := Lib.hid hDn
  have hrngh := Lib.hid hrng
  have hfinh := Lib.hid hfin
  clear q hDs hDn hrng hfin hT hD
  have hsth := Lib.hid hst
  clear hst
  go_enter Try.func46, Try.ntmps46
  go_wp2_with fail
  go_step3
  go_wp2_with fail
  go_step3
  go_wp2_with fail
  have hn3 := hn.below (Nat.le_refl _) hb3
  have hp3 := hp.below (Nat.le_refl _) hb3
  have d1 := (hb3.cell (p := ⟨b, 1, none⟩) hb0).trans c1
  have d2 := (hb3.cell (p := ⟨b, 2, none⟩) hb0).trans c2
  have hbw : b < (w.alloc (.cells #[.int .i64 nv, .int .i64 nl, .int .i64 nh] 73)).heap.size := by simp; omega
  have hnew : w.heap.size < (w.alloc (.cells #[.int .i64 nv, .int .i64 nl, .int .i64 nh] 73)).heap.size := by simp
  clear c1 c2 hn hp
  generalize w.alloc (.cells #[.int .i64 nv, .int .i64 nl, .int .i64 nh] 73) = w3 at *
  go_loopg [6] D (fun k p wr => ∃ d, d + k = D ∧ p = .int .i64 (((s + d) % ps.length : Nat) : Int) ∧ Below w3.heap.size w3 wr)
  case atStart =>
    refine ⟨0, by omega, ?_, Below.refl _ _⟩
    rw [hsth.out, Nat.add_zero, Nat.mod_eq_of_lt hlt]
  case round =>
    obtain ⟨d, hd, rfl, hB⟩ := hrel
    have him : (s + d) % ps.length < ps.length := Nat.mod_lt _ hm0
    have hnx : (((s + d) % ps.length : Nat) : Int) + 1 ≤ 65536 := by omega
    have hce := (hB.cell (p := ⟨pb, (s + d) % ps.length, none⟩) hp3.1).trans (hp3.2 _ him)
    have e1 := (hB.cell (p := ⟨b, 1, none⟩) hbw).trans d1
    have e2 := (hB.cell (p := ⟨b, 2, none⟩) hbw).trans d2
    have f0 := (hB.cell (p := ⟨w.heap.size, 0, none⟩) hnew).trans q0
    have f1 := (hB.cell (p := ⟨w.heap.size, 1, none⟩) hnew).trans q1
    have f2 := (hB.cell (p := ⟨w.heap.size, 2, none⟩) hnew).trans q2
    have hr := hrngh.out ((s + d) % ps.length)
    have hend : stopP l ps ⟨nv, nl, nh⟩ ((s + d) % ps.length) → d = D := fun h => by
      rcases Nat.lt_or_ge d D with hl | hg
      · exact absurd h (hDnh.out d hl)
      · omega
    have hgo : ¬ stopP l ps ⟨nv, nl, nh⟩ ((s + d) % ps.length) → d < D := fun h => by
      rcases Nat.lt_or_ge d D with hl | hg
      · exact hl
      · exfalso
        have : d = D := by omega
        subst this
        exact h hDsh.out
    have hstep : (((((s + d) % ps.length : Nat) : Int) + 1) % (ps.length : Int)) = (((s + (d + 1)) % ps.length : Nat) : Int) := by
      rw [show s + (d + 1) = (s + d) + 1 by omega, ← Nat.mod_add_mod (s + d) ps.length 1]
      push_cast
      rfl
    have hsteph := Lib.hid hstep
    have hendh := Lib.hid hend
    have hgoh := Lib.hid hgo
    have hi0 : (0 : Int) ≤ (((s + d) % ps.length : Nat) : Int) := by omega
    have hi1 : (((s + d) % ps.length : Nat) : Int) < (ps.length : Int) := by omega
    have hidx := Lib.hid (show (s + d) % ps.length = (s + d) % ps.length from rfl)
    clear hstep hend hgo
    by_cases h0 : pg ps ((s + d) % ps.length) = 0
    · have hdD := hendh.out (.inl h0)
      rw [h0] at hce
      subst hdD
      clear h0 hr hsteph hendh hgoh hDnh hDsh hd
      generalize (s + d) % ps.length = i at *
      go_wp2_with fail
      go_quiet (fail)
      go_wp2_with fail
      exact hfinh.out _ (hb3.trans ((below_drewN hB nq).mono (by omega)))
    · have hkl : ∃ k : Nat, pg ps ((s + d) % ps.length) = (k : Int) + 1 ∧ k < l.length := ⟨(pg ps ((s + d) % ps.length) - 1).toNat, by omega, by omega⟩
      obtain ⟨k, hk, hkl⟩ := hkl
      obtain ⟨lb, rfl, hlb, hcells⟩ := hn3 (by omega)
      obtain ⟨g0, g1, g2⟩ := hcells k hkl
      have u0 := (hB.cell (p := ⟨lb, k * 3, none⟩) hlb).trans g0
      have u1 := (hB.cell (p := ⟨lb, k * 3 + 1, none⟩) hlb).trans g1
      have u2 := (hB.cell (p := ⟨lb, k * 3 + 2, none⟩) hlb).trans g2
      have hstk : l[k] = ⟨nv, nl, nh⟩ ↔ stopP l ps ⟨nv, nl, nh⟩ ((s + d) % ps.length) := by
        unfold stopP
        rw [hk, show ((k : Int) + 1 - 1).toNat = k by omega, getD_of hkl]
        constructor
        · exact .inr
        · rintro (h | h)
          · omega
          · exact h
      have hk0 : (0 : Int) ≤ (k : Int) := by omega
      have hk1 : (k : Int) < (l.length : Int) := by omega
      have hkw : IntKind.i64.wrap ((k : Int) + 1 - 1) = k := by rw [IntKind.wrap_i64]; omega
      have hkw2 : IntKind.i64.wrap (k : Int) = k := by rw [IntKind.wrap_i64]; omega
      have hkz : ((k : Int) + 1 == 0) = false := by simp; omega
      rw [hk] at hce
      clear hcells g0 g1 g2 hr hk h0
      by_cases hst : l[k] = ⟨nv, nl, nh⟩
      · have hdD := hendh.out (hstk.1 hst)
        subst hdD
        rw [hst] at u0 u1 u2
        simp only at u0 u1 u2
        clear hstk hst hendh hgoh hsteph hDnh hDsh hd
        generalize (s + d) % ps.length = i at *
        go_wp2_with fail
        go_quiet (fail)
        go_wp2_with fail
        exact hfinh.out _ (hb3.trans ((below_drewN hB nq).mono (by omega)))
      · have hdDh := Lib.hid (hgoh.out (fun h => hst (hstk.2 h)))
        clear hstk
        generalize hnd : l[k] = nd at *
        obtain ⟨ndv, ndl, ndh⟩ := nd
        simp only at u0 u1 u2
        have hne : ¬ (ndv = nv ∧ ndl = nl ∧ ndh = nh) := fun ⟨a, b, c⟩ => hst (by rw [a, b, c])
        clear hst hnd hendh hgoh
        have hgk := hdDh.out
        clear hdDh hDnh hDsh
        generalize hi' : (s + d) % ps.length = i at *
        clear hi'
        by_cases n0 : ndv = nv
        · subst n0
          by_cases n1 : ndl = nl
          · subst n1
            have n2 : ¬ ndh = nh := fun h => hne ⟨rfl, rfl, h⟩
            have n2' : (ndh == nh) = false := by simpa using n2
            clear hne
            go_wp2_with fail
            go_quiet (fail)
            go_wp2_with fail
            go_roundg (gk - 1)
            case measure => omega
            case rel => exact ⟨d + 1, by omega, by rw [hsteph.out], below_drewN hB nq⟩
          · have n1' : (ndl == nl) = false := by simpa using n1
            clear hne
            go_wp2_with fail
            go_quiet (fail)
            go_wp2_with fail
            go_roundg (gk - 1)
            case measure => omega
            case rel => exact ⟨d + 1, by omega, by rw [hsteph.out], below_drewN hB nq⟩
        · have n0' : (ndv == nv) = false := by simpa using n0
          clear hne
          go_wp2_with fail
          go_quiet (fail)
          go_wp2_with fail
          go_roundg (gk - 1)
          case measure => omega
          case rel => exact ⟨d + 1, by omega, by rw [hsteph.out], below_drewN hB nq⟩
end Go.Proofs.Yteifllgcpickhaa
