/- memo: the walks of New, Get, Len, Clear -/
import Derived.Test.YtnlioepelkdgcaaB
namespace Go.Proofs.Ytnlioepelkdgcaa
open Go.RowKit

def E0 : En := ⟨false, 0, 0, 0, 0⟩
theorem Try.info50 : (Try.prog.info? 50).map (fun i => (i.zero, i.size, i.bytes)) = some (some (.agg #[.bool false, .int .i64 0, .int .i64 0, .int .i64 0, .int .i64 0]), 5, 40) := by kernel_rfl

theorem encs_E0 (n : Nat) : (encs (List.replicate n E0)).toArray = madeCells #[.bool false, .int .i64 0, .int .i64 0, .int .i64 0, .int .i64 0] (n * 5) := by
  apply Array.ext_getElem?
  intro k
  have hsz : (#[.bool false, .int .i64 0, .int .i64 0, .int .i64 0, .int .i64 0] : Array Value).size = 5 := rfl
  simp only [madeCells, List.getElem?_toArray, Array.getElem?_map, hsz]
  by_cases hk : k < n * 5
  · have h1 : k / 5 < (List.replicate n E0).length := by simp; omega
    have := encs_get (List.replicate n E0) (k / 5) h1 (k % 5) (Nat.mod_lt _ (by omega))
    rw [show k / 5 * 5 + k % 5 = k by omega] at this
    rw [this, Array.getElem?_range, if_pos hk]
    simp only [List.getElem_replicate, Option.map_some]
    have h5 : k % 5 < 5 := Nat.mod_lt _ (by omega)
    generalize k % 5 = r at h5
    match r, h5 with
    | 0, _ => rfl
    | 1, _ => rfl
    | 2, _ => rfl
    | 3, _ => rfl
    | 4, _ => rfl
  · rw [Array.getElem?_range, if_neg hk, List.getElem?_eq_none (by rw [encs_len]; simp; omega)]; rfl

/-- how many places -/
def sizeN (n : Int) : Nat := if n < 1 then 1 else if n > 65536 then 65536 else n.toNat
theorem sizeN_pos (n : Int) : 1 ≤ sizeN n := by unfold sizeN; split <;> (try split) <;> omega
theorem sizeN_most (n : Int) : sizeN n ≤ 65536 := by unfold sizeN; split <;> (try split) <;> omega

theorem make_any (c : Nat) (x : Int) (hx : x = c) (hc : c ≤ 65536) (w : World) :
    (Instr.makeSlice 46 (.int .i64 x) (.int .i64 x)).run Try.prog w = .ok (.slice (some ⟨w.heap.size, 0, none⟩) c c) (w.alloc (.cells (encs (List.replicate c E0)).toArray 50)) := by
  subst hx
  obtain ⟨i0, hi, hz0, hz1, hz2⟩ := info_parts Try.info50
  have := run_make (P := Try.prog) w 46 50 i0 _ Try.underlying46 hi hz0 .i64 .i64 (c : Int) (c : Int) (by omega) (by omega) (by rw [hz2]; omega) (by omega)
  rw [this, hz1, encs_E0]
  rfl

set_option maxHeartbeats 1000000 in
theorem new_walk (n : Int) (w : World) :
    Calls Try.prog 9 #[.int .i64 n] w fun e w' => e = .returned (.pointer (some ⟨w.heap.size + 1, 0, none⟩)) ∧
      (w.alloc (.cells (encs (List.replicate (sizeN n) E0)).toArray 50)).alloc (.cells #[.slice (some ⟨w.heap.size, 0, none⟩) (sizeN n) (sizeN n)] 48) = w' := by
  by_cases h1 : n < 1
  · have hs : sizeN n = 1 := by unfold sizeN; rw [if_pos h1]
    have hmk := make_any (sizeN n) 1 (by omega) (sizeN_most n)
    clear hs
    go_enter Try.func9, Try.ntmps9
    go_wp2
    go_ret
    exact ⟨rfl, rfl⟩
  · by_cases h2 : n > 65536
    · have hs : sizeN n = 65536 := by unfold sizeN; rw [if_neg h1, if_pos h2]
      have hmk := make_any (sizeN n) 65536 (by omega) (sizeN_most n)
      clear hs
      go_enter Try.func9, Try.ntmps9
      go_wp2
      go_ret
      exact ⟨rfl, rfl⟩
    · have hs : sizeN n = n.toNat := by unfold sizeN; rw [if_neg h1, if_neg h2]
      have hmk := make_any (sizeN n) n (by omega) (sizeN_most n)
      clear hs
      go_enter Try.func9, Try.ntmps9
      go_wp2
      go_ret
      exact ⟨rfl, rfl⟩

theorem new_any (n : Int) (w : World) :
    Calls Try.prog 9 #[.int .i64 n] w fun e w' => e = .returned (.pointer (some ⟨w.heap.size + 1, 0, none⟩)) ∧
      MemoAt w' (w.heap.size + 1) w.heap.size (List.replicate (sizeN n) E0) ∧ Below w.heap.size w w' := by
  refine (new_walk n w).mono ?_
  rintro e w' ⟨rfl, rfl⟩
  refine ⟨rfl, ⟨?_, ?_, by simpa using sizeN_pos n, by simpa using sizeN_most n⟩, ((Below.refl _ _).alloc (Nat.le_refl _) _).alloc (by simp) _⟩
  · rw [heap_alloc2_new]; simp
  · rw [heap_alloc2_old]
end Go.Proofs.Ytnlioepelkdgcaa
