/- count: the document's Tell -/
import Derived.Test.YteifllgcpickhaaQ
namespace Go.Proofs.Yteifllgcpickhaa
open Go.RowKit

/-- what a ref tells for the first k numbers -/
def tellL (l : List Nd) (f : Int) (k : Nat) : List Int := (List.range k).map fun (i : Nat) => valN (walkC l (i : Int) 13 f)
theorem tellL_len (l : List Nd) (f : Int) (k : Nat) : (tellL l f k).length = k := by simp [tellL]
theorem tellL_succ (l : List Nd) (f : Int) (k : Nat) : tellL l f (k + 1) = tellL l f k ++ [valN (walkC l (k : Int) 13 f)] := by simp [tellL, List.range_succ]

theorem row_below {w w' : World} {n e size k : Nat} {v : Value} {xs : List Value} (h : w.ownsRow n e size v k xs) (hb : Below w.heap.size w w') : w'.ownsRow n e size v k xs := by
  refine ⟨h.1, ?_⟩
  rcases h.2 with h0 | ⟨g, cap, cur, rfl, h1, h2, h3⟩
  · exact .inl h0
  · exact .inr ⟨g, cap, cur, rfl, h1, (hb.block g (Array.getElem?_eq_some_iff.1 h2).1).trans h2, h3⟩
theorem row_base {w : World} {n e size k : Nat} {v : Value} {xs : List Value} (h : w.ownsRow n e size v k xs) : ∀ i, v.ownBlock = some i → n ≤ i := by
  intro i hi
  rcases h.2 with ⟨rfl, _⟩ | ⟨g, cap, cur, rfl, h1, _⟩
  · cases hi
  · simp [Value.ownBlock] at hi; omega
theorem row_mono {w : World} {n n' e size k : Nat} {v : Value} {xs : List Value} (h : w.ownsRow n e size v k xs) (hn : n' ≤ n) : w.ownsRow n' e size v k xs := by
  refine ⟨h.1, ?_⟩
  rcases h.2 with h0 | ⟨g, cap, cur, rfl, h1, h3⟩
  · exact .inl h0
  · exact .inr ⟨g, cap, cur, rfl, by omega, h3⟩

set_option maxRecDepth 100000 in
set_option maxHeartbeats 1000000 in
theorem tell_any {lim : Int} {A : Option Addr} {cap : Nat} {l : List Nd} (hW : WF l) (hlen : l.length ≤ 1000) (f : Int) (w : World) (hn : NodesAt w A l) :
    Calls Try.prog 32 #[.agg #[.int .i64 lim, .slice A l.length cap], .int .i64 f] w fun e w' => ∃ v, e = .returned v ∧ OwnInts w' w.heap.size v (tellL l f 4096) ∧ Below w.heap.size w w' := by
  have hb3 : Below w.heap.size w (w.alloc (.cells #[.int .i64 lim, .slice A l.length cap] 27)) := (Below.refl _ w).alloc (Nat.le_refl _) _
  have q := World.alloc_heap_new w (.cells #[.int .i64 lim, .slice A l.length cap] 27)
  have q0 := cell_of (i := 0) q
  have q1 := cell_of (i := 1) q
  have hw0 : w.heap.size < (w.alloc (.cells #[.int .i64 lim, .slice A l.length cap] 27)).heap.size := by simp
  have hn3 : NodesAt (w.alloc (.cells #[.int .i64 lim, .slice A l.length cap] 27)) A l := hn.below (Nat.le_refl _) hb3
  simp only [List.getElem?_toArray, List.getElem?_cons_succ, List.getElem?_cons_zero] at q0 q1
  obtain ⟨i0, hi, hz0, hz1, hz2⟩ := info_parts Try.info3
  go_enter Try.func32, Try.ntmps32
  go_wp2_with fail
  clear q hn
  generalize w.alloc (.cells #[.int .i64 lim, .slice A l.length cap] 27) = w3 at *
  go_loopw [5, 6] (fun x p wr => ∃ k : Nat, k ≤ 4096 ∧ p = .int .i64 k ∧ OwnInts wr w3.heap.size x (tellL l f k) ∧ Below w3.heap.size w3 wr) (fun _ p _ => 4096 - (intOf p).toNat)
  case atStart => exact ⟨0, by omega, rfl, ⟨rfl, .inl ⟨rfl, rfl⟩⟩, Below.refl _ _⟩
  case round =>
    obtain ⟨k, hk, rfl, ho, hB⟩ := hrel
    have e0 := (hB.cell (p := ⟨w.heap.size, 0, none⟩) hw0).trans q0
    have e1 := (hB.cell (p := ⟨w.heap.size, 1, none⟩) hw0).trans q1
    by_cases hk4 : k < 4096
    · have hki : (k : Int) < 4096 := by omega
      have hkw : IntKind.u64.wrap (k : Int) = k := by rw [wrap_u64]; omega
      have hwk := rwalk_any (lim := lim) (cap := cap) hW hlen f k wr (hn3.below (Nat.le_refl _) hB) (by omega) (by omega)
      have hsn := tellL_succ l f k
      have hln := tellL_len l f k
      have hws := hB.size
      go_wp2_with (first
        | (go_at_call 49; refine hwk.mono ?_; clear hwk; rintro e w5 ⟨rfl, hB5⟩)
        | (go_at_call 42; refine (rvalue_any _ _).mono ?_; rintro e w6 ⟨rfl, rfl⟩; have ho5 := row_below ho hB5; have hw5 := hB5.size)
        | (at_builtin; refine wpList_append_own _ rfl (.tmp 11) (.tmp 18) 39 rfl w3.heap.size 3 i0 _ 1 8 Try.underlying39 hi hz0 hz1 hz2 rfl (by decide) _ _ _ rfl (ho5.alloc _) ⟨w5.heap.size, 0, none⟩ 1 1 [.int .i64 (valN (walkC l k 13 f))] rfl rfl (cell_one_new _ _ _) (by simp [Value.oneCell']) (by unfold maxLen; omega) (by omega) (by simp; omega) ?_; intro v' w1 hown' hgrow _))
      go_roundw
      case rel =>
        refine ⟨k + 1, by omega, by go_num, ?_, ((hB.trans (hB5.mono hB.size)).alloc (by omega) _).grown hgrow (by simp; omega) (fun i hi => row_base ho5 i hi)⟩
        unfold OwnInts
        rw [hsn, List.length_append, List.map_append]
        exact hown'
      case measure => simp [intOf]; omega
    · obtain rfl : k = 4096 := by omega
      go_wp2_with fail
      go_ret
      exact ⟨_, rfl, row_mono ho (by omega), hb3.trans (hB.mono (by omega))⟩
end Go.Proofs.Yteifllgcpickhaa
