/- count: New, the program's and the document's -/
import Derived.Test.YteifllgcpickhaaT
namespace Go.Proofs.Yteifllgcpickhaa
open Go.RowKit

theorem rnew_any (w : World) : Calls Try.prog 28 #[.int .i64 60] w fun e w' => e = .returned (.agg #[.int .i64 60, .slice none 0 0]) ∧ Below w.heap.size w w' := by
  have hfin : ∀ O, Below w.heap.size w (w.alloc O) := fun O => (Below.refl _ w).alloc (Nat.le_refl _) _
  go_enter Try.func28, Try.ntmps28
  go_wp2
  refine bodyPost_ret (v := .agg #[.int .i64 60, .slice none 0 0]) (by simp [results, Try.results28, go_sem]) rfl ⟨rfl, hfin _⟩

/-- a new row of zeros, as place's table is made -/
theorem make_ints (c : Nat) (x : Int) (hx : x = c) (hc : c ≤ 65536) (w : World) :
    (Instr.makeSlice 39 (.int .i64 x) (.int .i64 x)).run Try.prog w = .ok (.slice (some ⟨w.heap.size, 0, none⟩) c c) (w.alloc (.cells (List.replicate c (Value.int .i64 0)).toArray 3)) := by
  subst hx
  obtain ⟨i0, hi, hz0, hz1, hz2⟩ := info_parts Try.info3
  have := run_make (P := Try.prog) w 39 3 i0 _ Try.underlying39 hi hz0 .i64 .i64 (c : Int) (c : Int) (by omega) (by omega) (by rw [hz2]; omega) (by omega)
  have hm : madeCells #[Value.int .i64 0] c = Array.replicate c (Value.int .i64 0) := by
    apply Array.ext_getElem?
    intro k
    simp only [madeCells, Array.getElem?_map]
    by_cases hk : k < c
    · rw [Array.getElem?_range, if_pos hk, Array.getElem?_replicate, if_pos hk]
      simp [Nat.mod_one]
    · rw [Array.getElem?_range, if_neg hk, Array.getElem?_replicate, if_neg hk]
      rfl
  rw [this, hz1]
  simp [Value.cells, hm]

set_option maxRecDepth 100000 in
theorem new_any (w : World) : Calls Try.prog 27 #[.int .i64 60] w fun e w' => e = .returned (.pointer (some ⟨w.heap.size + 1, 0, none⟩)) ∧ w' = (w.alloc (.cells (List.replicate 16 (Value.int .i64 0)).toArray 3)).alloc (.cells #[.int .i64 60, .slice none 0 0, .slice (some ⟨w.heap.size, 0, none⟩) 16 16] 83) := by
  have hmk := make_ints 16 16 rfl (by omega)
  have hmax : max (60 : Int) 0 = 60 := by decide
  generalize (List.replicate 16 (Value.int .i64 0)).toArray = Z at *
  go_enter Try.func27, Try.ntmps27
  go_wp2
  go_ret
  exact ⟨rfl, rfl⟩
end Go.Proofs.Yteifllgcpickhaa
