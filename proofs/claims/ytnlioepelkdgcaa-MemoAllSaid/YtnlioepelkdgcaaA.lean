/- memo: the walks of Slot -/
import Derived.Test.YtnlioepelkdgcaaRows
import Derived.WalkKit
import Derived.WalkSpells
import Derived.WalkLawsBesides
namespace Go.Proofs.Ytnlioepelkdgcaa
open Go.RowKit

/-- the place of a key among n -/
def slotN (n : Nat) (x y z : Int) : Nat := (IntKind.u64.wrap (x * 961 + y * 31 + z)).toNat % n

theorem size_any (b b2 n : Nat) (w : World) (hc : w.cell? ⟨b, 0, none⟩ = some (.slice (some ⟨b2, 0, none⟩) n n)) :
    Calls Try.prog 18 #[.pointer (some ⟨b, 0, none⟩)] w fun e w' => e = .returned (.int .i64 n) ∧ w = w' := by
  go_enter Try.func18, Try.ntmps18
  go_wp2
  go_ret
  exact ⟨rfl, rfl⟩

theorem rsize_any (n : Int) (w : World) :
    Calls Try.prog 10 #[.int .i64 n] w fun e w' => e = .returned (.int .i64 (if n < 1 then 1 else if n > 65536 then 65536 else n)) ∧ w = w' := by
  go_enter Try.func10, Try.ntmps10
  go_wp2
  all_goals go_ret
  · exact ⟨by simp [*], rfl⟩
  · exact ⟨by simp [*], rfl⟩
  · exact ⟨by simp [*], rfl⟩

theorem wrap_u64 (x : Int) : IntKind.u64.wrap x = x % 18446744073709551616 := by
  simp [IntKind.wrap, IntKind.bits, IntKind.signed]

theorem slot_fin (n : Nat) (h : Int) (h0 : 0 ≤ h) (hn : 1 ≤ n) (hn2 : n ≤ 65536) : wrap64 (h.tmod n) = ((h.toNat % n : Nat) : Int) := by
  rw [Int.tmod_eq_emod_of_nonneg h0]
  have h1 := Int.emod_nonneg h (show (n : Int) ≠ 0 by omega)
  have h2 := Int.emod_lt_of_pos h (show (0 : Int) < n by omega)
  rw [IntWalk.wrap64_in _ (by omega), Int.natCast_emod, Int.toNat_of_nonneg h0]

theorem slot_eq1 (n : Nat) (x y z : Int) (hn : 1 ≤ n) (hn2 : n ≤ 65536) :
    wrap64 ((IntKind.u64.wrap (IntKind.u64.wrap (IntKind.u64.wrap (IntKind.u64.wrap x * 961) + IntKind.u64.wrap (IntKind.u64.wrap y * 31)) + IntKind.u64.wrap z)).tmod n) = (slotN n x y z : Int) := by
  have e : IntKind.u64.wrap (IntKind.u64.wrap (IntKind.u64.wrap (IntKind.u64.wrap x * 961) + IntKind.u64.wrap (IntKind.u64.wrap y * 31)) + IntKind.u64.wrap z) = IntKind.u64.wrap (x * 961 + y * 31 + z) := by
    simp only [wrap_u64]; omega
  rw [e, slot_fin n _ (by rw [wrap_u64]; omega) hn hn2]; rfl

theorem slot_eq2 (n : Nat) (x y z : Int) (hn : 1 ≤ n) (hn2 : n ≤ 65536) :
    wrap64 ((IntKind.u64.wrap (IntKind.u64.wrap (IntKind.u64.wrap (IntKind.u64.wrap (IntKind.u64.wrap (IntKind.u64.wrap x) * 31) + IntKind.u64.wrap y) * 31) + IntKind.u64.wrap z)).tmod n) = (slotN n x y z : Int) := by
  have e : IntKind.u64.wrap (IntKind.u64.wrap (IntKind.u64.wrap (IntKind.u64.wrap (IntKind.u64.wrap (IntKind.u64.wrap x) * 31) + IntKind.u64.wrap y) * 31) + IntKind.u64.wrap z) = IntKind.u64.wrap (x * 961 + y * 31 + z) := by
    simp only [wrap_u64]; omega
  rw [e, slot_fin n _ (by rw [wrap_u64]; omega) hn hn2]; rfl

set_option maxHeartbeats 1000000 in
theorem rslot_any (n : Nat) (x y z : Int) (w : World) (hn : 1 ≤ n) (hn2 : n ≤ 65536) :
    Calls Try.prog 17 #[.int .i64 n, .agg #[.int .i64 x, .int .i64 y, .int .i64 z]] w fun e w' => e = .returned (.int .i64 (slotN n x y z)) ∧ w.alloc (.cells #[.int .i64 x, .int .i64 y, .int .i64 z] 28) = w' := by
  go_enter Try.func17, Try.ntmps17
  go_wp2
  go_ret
  exact ⟨by simp [slot_eq1, hn, hn2], rfl⟩

set_option maxHeartbeats 1000000 in
theorem slot_any (b b2 n : Nat) (x y z : Int) (w : World) (hc : w.cell? ⟨b, 0, none⟩ = some (.slice (some ⟨b2, 0, none⟩) n n)) (hn : 1 ≤ n) (hn2 : n ≤ 65536) :
    Calls Try.prog 16 #[.pointer (some ⟨b, 0, none⟩), .agg #[.int .i64 x, .int .i64 y, .int .i64 z]] w fun e w' => e = .returned (.int .i64 (slotN n x y z)) ∧ w.alloc (.cells #[.int .i64 x, .int .i64 y, .int .i64 z] 32) = w' := by
  have i0 : ∀ w, (Instr.index 32 (.agg #[.int .i64 x, .int .i64 y, .int .i64 z]) (.int .i64 0)).run Try.prog w = .ok (.int .i64 x) w := fun _ => by kernel_rfl
  have i1 : ∀ w, (Instr.index 32 (.agg #[.int .i64 x, .int .i64 y, .int .i64 z]) (.int .i64 1)).run Try.prog w = .ok (.int .i64 y) w := fun _ => by kernel_rfl
  have i2 : ∀ w, (Instr.index 32 (.agg #[.int .i64 x, .int .i64 y, .int .i64 z]) (.int .i64 2)).run Try.prog w = .ok (.int .i64 z) w := fun _ => by kernel_rfl
  have hc1 : (w.alloc (.cells #[.int .i64 x, .int .i64 y, .int .i64 z] 32)).cell? ⟨b, 0, none⟩ = some (.slice (some ⟨b2, 0, none⟩) n n) := by
    rw [World.cell?_alloc_past _ _ _ (World.block_lt_of_cell? w _ hc)]; exact hc
  go_enter Try.func16, Try.ntmps16
  go_wp2
  refine wp_loop_rounds 4 ?_
  rw [rounds_succ]
  go_wp2
  rw [rounds_succ]
  go_wp2
  rw [rounds_succ]
  go_wp2
  rw [rounds_succ]
  go_wp2
  go_ret
  exact ⟨by simp [slot_eq2, hn, hn2], rfl⟩
end Go.Proofs.Ytnlioepelkdgcaa
