/- count: One -/
import Derived.Test.YteifllgcpickhaaK
namespace Go.Proofs.Yteifllgcpickhaa
open Go.RowKit

/-- the least bits of the first cubes -/
def oneStep (r : Int × Bool) (c : Int × Int) : Int × Bool := if r.2 = false ∨ c.2 < r.1 then (c.2, true) else r
def oneC (cs : List (Int × Int)) (k : Nat) : Int × Bool := (cs.take k).foldl oneStep (0, false)
theorem oneC_zero (cs : List (Int × Int)) : oneC cs 0 = (0, false) := rfl
theorem oneC_succ (cs : List (Int × Int)) (k : Nat) (h : k < cs.length) : oneC cs (k + 1) = oneStep (oneC cs k) cs[k] := by
  unfold oneC
  rw [List.take_succ_eq_append_getElem h, List.foldl_append]
  rfl
theorem ccells_get (cs : List (Int × Int)) (i : Nat) (h : i < cs.length) : (ccells cs)[i * 2]? = some (.int .u64 cs[i].1) ∧ (ccells cs)[i * 2 + 1]? = some (.int .u64 cs[i].2) := by
  induction cs generalizing i with
  | nil => simp at h
  | cons c r ih =>
    have hc : ccells (c :: r) = .int .u64 c.1 :: .int .u64 c.2 :: ccells r := rfl
    rw [hc]
    cases i with
    | zero => simp
    | succ i =>
      have := ih i (by simpa using h)
      rw [show (i + 1) * 2 = i * 2 + 1 + 1 by omega]
      simpa using this
/-- a slice of cubes as it is read -/
theorem cubes_read {w : World} {n0 : Nat} {v : Value} {cs : List (Int × Int)} (h : OwnCubes w n0 v cs) : (v = .slice none 0 0 ∧ cs = []) ∨ ∃ g cap, v = .slice (some ⟨g, 0, none⟩) cs.length cap ∧ n0 ≤ g ∧ g < w.heap.size ∧ ∀ i (hi : i < cs.length), w.cell? ⟨g, i * 2, none⟩ = some (.int .u64 cs[i].1) ∧ w.cell? ⟨g, i * 2 + 1, none⟩ = some (.int .u64 cs[i].2) := by
  rcases h.2 with ⟨h1, h2⟩ | ⟨g, cap, cur, h1, h2, h3, h4, h5, h6, h7⟩
  · exact .inl ⟨h1, List.eq_nil_of_length_eq_zero h2⟩
  · refine .inr ⟨g, cap, h1, h2, (Array.getElem?_eq_some_iff.1 h3).1, fun i hi => ?_⟩
    have hg : ∀ j, j < cs.length * 2 → w.cell? ⟨g, j, none⟩ = (ccells cs)[j]? := fun j hj => by
      rw [cell_of h3, ← h7, List.getElem?_take_of_lt hj, Array.getElem?_toList]
    rw [hg _ (by omega), hg _ (by omega)]
    exact ccells_get cs i hi

set_option maxRecDepth 100000 in
set_option maxHeartbeats 1000000 in
theorem one_any (b : Nat) (l : List Nd) (f value : Int) (w : World) (hA : ArRd w b l) (hW : WF l) :
    Calls Try.prog 12 #[.pointer (some ⟨b, 0, none⟩), .int .i64 f, .int .i64 value] w fun e w' => e = .returned (.tuple #[.int .u64 (oneC (cubes l f value) (cubes l f value).length).1, .bool (oneC (cubes l f value) (cubes l f value).length).2]) ∧ Below w.heap.size w w' := by
  have hc := cubes_any b l f value w hA hW
  have hlen : (cubes l f value).length ≤ 8192 := by
    unfold cubes
    split
    · exact cub_len l value 13 f 0 0
    · simp
  generalize cubes l f value = cs at *
  have hcn : Calls Try.prog 22 #[.pointer (some ⟨b, 0, none⟩), .int .i64 f, .int .i64 value] w fun e w' => ((e = .returned (.slice none 0 0) ∧ cs = []) ∨ ∃ g cap, e = .returned (.slice (some ⟨g, 0, none⟩) cs.length cap) ∧ g < w'.heap.size ∧ ∀ i (hi : i < cs.length), w'.cell? ⟨g, i * 2, none⟩ = some (.int .u64 cs[i].1) ∧ w'.cell? ⟨g, i * 2 + 1, none⟩ = some (.int .u64 cs[i].2)) ∧ Below w.heap.size w w' := by
    refine hc.mono ?_
    rintro e w' ⟨v, he, ho, hb⟩
    refine ⟨?_, hb⟩
    rcases cubes_read ho with ⟨h1, h2⟩ | ⟨g, cap, h1, _, h2, h3⟩
    · exact .inl ⟨by rw [he, h1], h2⟩
    · exact .inr ⟨g, cap, by rw [he, h1], h2, h3⟩
  clear hc hA hW
  go_enter Try.func12, Try.ntmps12
  go_wp2_with (refine hcn.mono ?_; clear hcn; rintro e w1 ⟨(⟨rfl, rfl⟩ | ⟨g, cap, rfl, hg, hcells⟩), hB⟩)
  · refine wp_loop_rounds 1 ?_
    rw [rounds_succ]
    go_wp2
    go_ret2
    exact ⟨rfl, hB⟩
  · go_loopw [8, 9, 17] (fun x y p wr => ∃ k : Nat, k ≤ cs.length ∧ p = .int .i64 k ∧ x = .int .u64 (oneC cs k).1 ∧ y = .bool (oneC cs k).2 ∧ Below w1.heap.size w1 wr) (fun _ _ p _ => cs.length - (intOf p).toNat)
    case atStart => exact ⟨0, by omega, rfl, rfl, rfl, Below.refl _ _⟩
    case round =>
      obtain ⟨k, hk, rfl, rfl, rfl, hBr⟩ := hrel
      by_cases hkl : k < cs.length
      · have hk0 : (0 : Int) ≤ (k : Int) := by omega
        have hk1 : (k : Int) < (cs.length : Int) := by omega
        obtain ⟨e0, e1⟩ := hcells k hkl
        have d0 := (hBr.cell (p := ⟨g, k * 2, none⟩) hg).trans e0
        have d1 := (hBr.cell (p := ⟨g, k * 2 + 1, none⟩) hg).trans e1
        have hst := Lib.hid (oneC_succ cs k hkl)
        have hgr : g < wr.heap.size := Nat.lt_of_lt_of_le hg hBr.size
        clear hcells e0 e1
        generalize hr : oneC cs k = r at *
        obtain ⟨r1, r2⟩ := r
        generalize hcc : cs[k] = cc at *
        obtain ⟨m1, m2⟩ := cc
        simp only at d0 d1 ⊢
        clear hr hcc
        cases r2 with
        | false =>
          have hs := Lib.hid (show oneC cs (k + 1) = (m2, true) by rw [hst.out]; simp [oneStep])
          clear hst
          go_wp2_with fail
          go_roundw
          case rel => exact ⟨k + 1, by omega, by go_num, by rw [hs.out], by rw [hs.out], hBr.alloc hBr.size _⟩
          case measure => simp [intOf]; omega
        | true =>
          by_cases hm : m2 < r1
          · have hs := Lib.hid (show oneC cs (k + 1) = (m2, true) by rw [hst.out]; simp [oneStep, hm])
            clear hst
            go_wp2_with fail
            go_roundw
            case rel => exact ⟨k + 1, by omega, by go_num, by rw [hs.out], by rw [hs.out], hBr.alloc hBr.size _⟩
            case measure => simp [intOf]; omega
          · have hs := Lib.hid (show oneC cs (k + 1) = (r1, true) by rw [hst.out]; simp [oneStep, hm])
            have hmd : decide (m2 < r1) = false := decide_eq_false hm
            clear hst
            go_wp2_with fail
            go_roundw
            case rel => exact ⟨k + 1, by omega, by go_num, by rw [hs.out], by rw [hs.out], hBr.alloc hBr.size _⟩
            case measure => simp [intOf]; omega
      · have hk1 : ¬ (k : Int) < (cs.length : Int) := by omega
        obtain rfl : k = cs.length := by omega
        clear hcells
        go_wp2_with fail
        go_ret2
        exact ⟨rfl, hB.trans (hBr.mono hB.size)⟩
end Go.Proofs.Yteifllgcpickhaa
