/- memo: the walk of MemoSlots -/
import Derived.Test.YtnlioepelkdgcaaG
namespace Go.Proofs.Ytnlioepelkdgcaa
open Go.RowKit

theorem slot_op (b b2 cap : Nat) (l : List En) (x y z : Int) (w : World) (h : MemoRd w b b2 cap l) (hcap : cap = l.length) :
    Calls Try.prog 16 #[.pointer (some ⟨b, 0, none⟩), .agg #[.int .i64 x, .int .i64 y, .int .i64 z]] w fun e w' => e = .returned (.int .i64 (slotN l.length x y z)) ∧ Below w.heap.size w w' := by
  subst hcap
  refine (slot_any b b2 l.length x y z w h.cell h.pos h.most).mono ?_
  rintro e w' ⟨rfl, rfl⟩
  exact ⟨rfl, (Below.refl _ _).alloc (Nat.le_refl _) _⟩

theorem rslot_op (n : Nat) (x y z : Int) (w : World) (hn : 1 ≤ n) (hn2 : n ≤ 65536) :
    Calls Try.prog 17 #[.int .i64 n, .agg #[.int .i64 x, .int .i64 y, .int .i64 z]] w fun e w' => e = .returned (.int .i64 (slotN n x y z)) ∧ Below w.heap.size w w' := by
  refine (rslot_any n x y z w hn hn2).mono ?_
  rintro e w' ⟨rfl, rfl⟩
  exact ⟨rfl, (Below.refl _ _).alloc (Nat.le_refl _) _⟩

theorem rsize_op (n : Int) (w : World) : Calls Try.prog 10 #[.int .i64 n] w fun e w' => e = .returned (.int .i64 (sizeN n)) ∧ w = w' := by
  refine (rsize_any n w).mono ?_
  rintro e w' ⟨rfl, rfl⟩
  refine ⟨?_, rfl⟩
  congr 2
  unfold sizeN
  split
  · rfl
  · split
    · rfl
    · omega

set_option maxHeartbeats 2000000 in
theorem slots_any (n x y z : Int) (w : World) : Calls Try.prog 6 #[.int .i64 n, .agg #[.int .i64 x, .int .i64 y, .int .i64 z]] w fun e w' => e = .returned (.bool true) ∧ Below w.heap.size w w' := by
  have hB0 : Below w.heap.size w (w.alloc (.cells #[.int .i64 x, .int .i64 y, .int .i64 z] 28)) := (Below.refl _ _).alloc (Nat.le_refl _) _
  have d0 : (w.alloc (.cells #[.int .i64 x, .int .i64 y, .int .i64 z] 28)).cell? ⟨w.heap.size, 0, none⟩ = some (.int .i64 x) := by simp
  have d1 : (w.alloc (.cells #[.int .i64 x, .int .i64 y, .int .i64 z] 28)).cell? ⟨w.heap.size, 1, none⟩ = some (.int .i64 y) := by simp
  have d2 : (w.alloc (.cells #[.int .i64 x, .int .i64 y, .int .i64 z] 28)).cell? ⟨w.heap.size, 2, none⟩ = some (.int .i64 z) := by simp
  have hsz0 : w.heap.size < (w.alloc (.cells #[.int .i64 x, .int .i64 y, .int .i64 z] 28)).heap.size := by simp
  go_enter Try.func6, Try.ntmps6
  go_wp2_with fail
  refine (new_any n _).mono ?_
  rintro e w1 ⟨rfl, hM1, hB1⟩
  generalize hw0 : (w.alloc (.cells #[.int .i64 x, .int .i64 y, .int .i64 z] 28)) = w0 at *
  clear hw0
  have hlen : (List.replicate (sizeN n) E0).length = sizeN n := by simp
  rw [← hB1.cell (by exact hsz0)] at d0 d1 d2
  have hsz1 : w.heap.size < w1.heap.size := Nat.lt_of_lt_of_le hsz0 hB1.size
  have q1 := hB0.trans (hB1.mono hB0.size)
  clear hB0 hB1 hsz0
  go_wp2_with fail
  refine (slot_op _ _ _ _ x y z _ hM1.rd rfl).mono ?_
  rintro e w2 ⟨rfl, hB2⟩
  have hM2 := hM1.keep hB2.block
  rw [← hB2.cell (by exact hsz1)] at d0 d1 d2
  have hsz2 : w.heap.size < w2.heap.size := Nat.lt_of_lt_of_le hsz1 hB2.size
  have q2 := q1.trans (hB2.mono q1.size)
  clear q1 hB2 hsz1 hM1
  generalize w0.heap.size = b0 at *
  have hc := hM2.cell
  rw [hlen] at hc ⊢
  have hlb := hM2.lt
  have hkeep : ∀ W W' : World, (Below w2.heap.size w2 W ∧ W.cell? ⟨w.heap.size, 0, none⟩ = some (.int .i64 x) ∧ W.cell? ⟨w.heap.size, 1, none⟩ = some (.int .i64 y) ∧ W.cell? ⟨w.heap.size, 2, none⟩ = some (.int .i64 z) ∧ W.cell? ⟨b0 + 1, 0, none⟩ = some (.slice (some ⟨b0, 0, none⟩) (sizeN n) (sizeN n))) →
     Below W.heap.size W W' → (Below w2.heap.size w2 W' ∧ W'.cell? ⟨w.heap.size, 0, none⟩ = some (.int .i64 x) ∧ W'.cell? ⟨w.heap.size, 1, none⟩ = some (.int .i64 y) ∧ W'.cell? ⟨w.heap.size, 2, none⟩ = some (.int .i64 z) ∧ W'.cell? ⟨b0 + 1, 0, none⟩ = some (.slice (some ⟨b0, 0, none⟩) (sizeN n) (sizeN n))) := fun W W' h hb =>
    ⟨h.1.trans (hb.mono h.1.size), (hb.cell (Nat.lt_of_lt_of_le hsz2 h.1.size)).trans h.2.1, (hb.cell (Nat.lt_of_lt_of_le hsz2 h.1.size)).trans h.2.2.1, (hb.cell (Nat.lt_of_lt_of_le hsz2 h.1.size)).trans h.2.2.2.1, (hb.cell (Nat.lt_of_lt_of_le hlb h.1.size)).trans h.2.2.2.2⟩
  have hkeep := Lib.hid hkeep
  have hr0 := (Below.refl w2.heap.size w2).drew
  have hsl : slotN (sizeN n) x y z < sizeN n := Nat.mod_lt _ (sizeN_pos n)
  go_wp2_with fail
  go_region_held3 (fun W => Below w2.heap.size w2 W ∧ W.cell? ⟨w.heap.size, 0, none⟩ = some (.int .i64 x) ∧ W.cell? ⟨w.heap.size, 1, none⟩ = some (.int .i64 y) ∧ W.cell? ⟨w.heap.size, 2, none⟩ = some (.int .i64 z) ∧ W.cell? ⟨b0 + 1, 0, none⟩ = some (.slice (some ⟨b0, 0, none⟩) (sizeN n) (sizeN n)))
    (first | assumption | exact hkeep.out _ _ (by assumption) hb | (go_keep; done))
    (first | (go_at_call 8; refine (alive_any _).mono ?_; rintro e w' ⟨rfl, hb⟩) | (go_at_call 18; refine (size_any (b0 + 1) b0 (sizeN n) _ ?_).mono ?_; (simp [*]); rintro e w' ⟨rfl, rfl⟩) | (go_at_call 10; refine (rsize_op _ _).mono ?_; rintro e w' ⟨rfl, rfl⟩) | (go_at_call 17; refine (rslot_op _ _ _ _ _ (sizeN_pos n) (sizeN_most n)).mono ?_; rintro e w' ⟨rfl, hb⟩))
  have hh := (‹Below w2.heap.size w2 _ ∧ _›).1
  go_wp2
  go_ret
  exact ⟨rfl, q2.trans (hh.mono q2.size)⟩
end Go.Proofs.Ytnlioepelkdgcaa
