/- memo: the walk of MemoClears -/
import Derived.Test.YtnlioepelkdgcaaH
namespace Go.Proofs.Ytnlioepelkdgcaa
open Go.RowKit

/-- the memo behind the first k puts -/
def after (n : Nat) (l : List Pt) : Nat → List En
  | 0 => List.replicate n E0
  | k + 1 => match l[k]? with
    | some p => putM (after n l k) p.x p.y p.z p.v
    | none => after n l k
theorem after_len (n : Nat) (l : List Pt) : ∀ k, (after n l k).length = n
  | 0 => by simp [after]
  | k + 1 => by
    rw [after]
    split
    · rw [putM_len, after_len n l k]
    · exact after_len n l k
theorem after_succ (n : Nat) (l : List Pt) (k : Nat) (h : k < l.length) : after n l (k + 1) = putM (after n l k) l[k].x l[k].y l[k].z l[k].v := by
  rw [after, List.getElem?_eq_getElem h]

theorem putm_any (b b2 : Nat) (l : List En) (x y z v : Int) (w : World) (h : MemoAt w b b2 l) :
    Calls Try.prog 11 #[.pointer (some ⟨b, 0, none⟩), .agg #[.int .i64 x, .int .i64 y, .int .i64 z], .int .i64 v] w fun e w' => e = .returned (.tuple #[]) ∧
      MemoAt w' b b2 (putM l x y z v) ∧ w.grownBy w' (some b2) := put_any b b2 l x y z v w h

theorem getM_E0 (n : Nat) (x y z : Int) : getM (List.replicate n E0) x y z = (0, false) := by
  unfold getM
  cases h : (List.replicate n E0)[slotN (List.replicate n E0).length x y z]? with
  | none => rfl
  | some en =>
    have := List.mem_of_getElem? h
    obtain ⟨_, rfl⟩ := List.mem_replicate.1 this
    rfl

theorem cnt_E0 (n : Nat) : cnt (List.replicate n E0) = 0 := by simp [cnt, E0]

set_option maxHeartbeats 4000000 in
theorem clears_some (size : Int) (b0 o0 : Nat) (cap : Nat) (l : List Pt)  (w : World) (hrd : PutsRd w (some ⟨b0, o0, none⟩) l) (_hmax : l.length ≤ 9223372036854775807) :
    Calls Try.prog 7 #[.int .i64 size, .slice (some ⟨b0, o0, none⟩) l.length cap] w fun e w' => e = .returned (.bool true) ∧ Below w.heap.size w w' := by
  by_cases h200 : l.length > 200
  · have hg : (200 : Int) < (l.length : Int) := by omega
    go_enter Try.func7, Try.ntmps7
    go_wp2_with fail
    refine (new_any size _).mono ?_
    rintro e w1 ⟨rfl, hM1, hB1⟩
    go_wp2_with fail
    refine (alive_any _).mono ?_
    rintro e w2 ⟨rfl, hB2⟩
    go_wp2_with fail
    go_ret
    exact ⟨rfl, hB1.trans (hB2.mono hB1.size)⟩
  · have hg : ¬ (200 : Int) < (l.length : Int) := by omega
    go_enter Try.func7, Try.ntmps7
    go_wp2_with fail
    refine (new_any size _).mono ?_
    rintro e w1 ⟨rfl, hM1, hB1⟩
    go_wp2_with fail
    go_loopw [30] (fun i wr => ∃ k : Nat, k ≤ l.length ∧ i = .int .i64 k ∧ MemoAt wr (w.heap.size + 1) w.heap.size (after (sizeN size) l k) ∧ Below w.heap.size w wr) (fun i _ => l.length - (intOf i).toNat)
    case atStart => exact ⟨0, by omega, rfl, hM1, hB1⟩
    case round =>
      obtain ⟨k, hk, rfl, hM, hB⟩ := hrel
      by_cases hlt : k < l.length
      · have hrd' := hrd.below (Nat.le_refl _) hB
        obtain ⟨b', off', hA, hb, hcells⟩ := hrd' (by omega)
        injection hA with hA
        injection hA with e1 e2
        subst e1; subst e2
        obtain ⟨c0, c1, c2, c3⟩ := hcells k hlt
        clear hcells hrd'
        have hput := fun W hW => putm_any (w.heap.size + 1) w.heap.size (after (sizeN size) l k) l[k].x l[k].y l[k].z l[k].v W hW
        have HN := Lib.hid (after_succ (sizeN size) l k hlt)
        have hsz := hB.size
        go_wp2_with fail
        refine (hput _ (hM.keep fun k hk => Below.heap_alloc _ _ _ hk)).mono ?_
        rintro e w2 ⟨rfl, hM2, hG2⟩
        clear hput hM
        have hB2 := below_of_grown (hB.alloc hsz _) hG2 (Nat.le_refl _) (by simp; omega)
        clear hG2
        go_wp2_with fail
        go_roundw
        case rel => exact ⟨k + 1, by omega, by go_num, by rw [HN.out]; exact hM2, hB2⟩
        case measure => simp [intOf]; omega
      · obtain rfl : k = l.length := by omega
        clear hM1 hB1
        have hrd1 := hrd.below (Nat.le_refl _) hB
        go_wp2_with fail
        refine (copy_any _ _ _ _ _ hM.rd).mono ?_
        rintro e w2 ⟨g, g2, c, rfl, hg1, hg2, hR2, hB2⟩
        have hM2 := hM.keep hB2.block
        have hq2 := hB.trans (hB2.mono hB.size)
        have hng : g ≠ w.heap.size := by have := hM.lt2; omega
        have hng2 : g2 ≠ w.heap.size := by have := hM.lt2; omega
        go_wp2_with fail
        refine (len_any _ _ _ _ _ hM2.rd).mono ?_
        rintro e w3 ⟨rfl, hB3⟩
        have hM3 := hM2.keep hB3.block
        have hR3 := hR2.below hB3 hR2.lt hR2.lt2
        have hq3 := hq2.trans (hB3.mono hq2.size)
        go_wp2_with fail
        refine (clear_any _ _ _ _ hM3).mono ?_
        rintro e w4 ⟨rfl, hM4, hG4⟩
        have hR4 : MemoRd w4 g g2 c (after (sizeN size) l l.length) :=
          ⟨(World.cell?_of_block (hG4.block g hR3.lt (fun e => hng (by injection e)))).trans hR3.cell, Nat.lt_of_lt_of_le hR3.lt hG4.size, Nat.lt_of_lt_of_le hR3.lt2 hG4.size,
            fun i j hi hj => (World.cell?_of_block (hG4.block g2 hR3.lt2 (fun e => hng2 (by injection e)))).trans (hR3.at_ i j hi hj), hR3.pos, hR3.most⟩
        have hq4 := below_of_grown hq3 hG4 (Nat.le_refl _) hq3.size
        rw [after_len] at hM4
        have hlen := after_len (sizeN size) l l.length
        generalize after (sizeN size) l l.length = L at *
        clear hM hM2 hM3 hR2 hR3 hB2 hB3 hG4 hq2 hq3 hrd1 hng hng2 hg1 hg2
        generalize w.heap.size + 1 = b at *
        go_wp2_with fail
        go_loopw [51] (fun i wr => ∃ k : Nat, k ≤ l.length ∧ i = .int .i64 k ∧ Below w4.heap.size w4 wr) (fun i _ => l.length - (intOf i).toNat)
        case atStart => exact ⟨0, by omega, rfl, Below.refl _ _⟩
        case round =>
          obtain ⟨k, hk, rfl, hBr⟩ := hrel
          have hM5 := hM4.keep hBr.block
          have hq5 := hq4.trans (hBr.mono hq4.size)
          by_cases hlt : k < l.length
          · have hrd' := hrd.below (Nat.le_refl _) hq5
            obtain ⟨b', off', hA, hb, hcells⟩ := hrd' (by omega)
            injection hA with hA
            injection hA with e1 e2
            subst e1; subst e2
            obtain ⟨c0, c1, c2, c3⟩ := hcells k hlt
            clear hcells hrd'
            have hget := fun W hW => get_any b w.heap.size (List.replicate (sizeN size) E0) l[k].x l[k].y l[k].z W hW 0 false (getM_E0 _ _ _ _)
            have hsz := hBr.size
            go_wp2_with fail
            refine (hget _ (hM5.keep fun k hk => Below.heap_alloc _ _ _ hk)).mono ?_
            rintro e w6 ⟨rfl, hB6⟩
            clear hget hM5
            have hB7 := (hBr.alloc hsz _).trans (hB6.mono (by simp; omega))
            clear hB6 hBr
            go_wp2_with fail
            go_roundw
            case rel => exact ⟨k + 1, by omega, by go_num, hB7⟩
            case measure => simp [intOf]; omega
          · clear hq4
            have hR5 := hR4.below hBr hR4.lt hR4.lt2
            clear hR4 hBr hM4
            go_wp2_with fail
            refine (alive_any _).mono ?_
            rintro e w6 ⟨rfl, hB6⟩
            have hM6 := hM5.keep hB6.block
            have hR6 := hR5.below hB6 hR5.lt hR5.lt2
            have hq6 := hq5.trans (hB6.mono hq5.size)
            clear hM5 hR5 hB6 hq5
            go_wp2_with fail
            refine (len_any _ _ _ _ _ hM6.rd).mono ?_
            rintro e w7 ⟨rfl, hB7⟩
            rw [cnt_E0]
            have hM7 := hM6.keep hB7.block
            have hR7 := hR6.below hB7 hR6.lt hR6.lt2
            have hq7 := hq6.trans (hB7.mono hq6.size)
            clear hM6 hR6 hB7 hq6
            go_wp2_with fail
            refine (len_any _ _ _ _ _ hR7).mono ?_
            rintro e w8 ⟨rfl, hB8⟩
            have hM8 := hM7.keep hB8.block
            have hR8 := hR7.below hB8 hR7.lt hR7.lt2
            have hq8 := hq7.trans (hB8.mono hq7.size)
            clear hM7 hR7 hB8 hq7
            go_wp2_with fail
            refine (size_rd _ _ _ _ _ hR8).mono ?_
            rintro e w9 ⟨rfl, rfl⟩
            rw [hlen]
            go_wp2_with fail
            refine (size_rd _ _ _ _ _ hM8.rd).mono ?_
            rintro e w9 ⟨rfl, rfl⟩
            rw [show (List.replicate (sizeN size) E0).length = sizeN size by simp]
            go_wp2_with fail
            go_ret
            exact ⟨rfl, hq8⟩

set_option maxHeartbeats 4000000 in
theorem clears_none (size : Int) (A : Option Addr) (cap : Nat) (l : List Pt) (h0 : l.length ≤ 0) (w : World) (hrd : PutsRd w A l) (_hmax : l.length ≤ 9223372036854775807) :
    Calls Try.prog 7 #[.int .i64 size, .slice A l.length cap] w fun e w' => e = .returned (.bool true) ∧ Below w.heap.size w w' := by
  by_cases h200 : l.length > 200
  · have hg : (200 : Int) < (l.length : Int) := by omega
    go_enter Try.func7, Try.ntmps7
    go_wp2_with fail
    refine (new_any size _).mono ?_
    rintro e w1 ⟨rfl, hM1, hB1⟩
    go_wp2_with fail
    refine (alive_any _).mono ?_
    rintro e w2 ⟨rfl, hB2⟩
    go_wp2_with fail
    go_ret
    exact ⟨rfl, hB1.trans (hB2.mono hB1.size)⟩
  · have hg : ¬ (200 : Int) < (l.length : Int) := by omega
    go_enter Try.func7, Try.ntmps7
    go_wp2_with fail
    refine (new_any size _).mono ?_
    rintro e w1 ⟨rfl, hM1, hB1⟩
    go_wp2_with fail
    go_loopw [30] (fun i wr => ∃ k : Nat, k ≤ l.length ∧ i = .int .i64 k ∧ MemoAt wr (w.heap.size + 1) w.heap.size (after (sizeN size) l k) ∧ Below w.heap.size w wr) (fun i _ => l.length - (intOf i).toNat)
    case atStart => exact ⟨0, by omega, rfl, hM1, hB1⟩
    case round =>
      obtain ⟨k, hk, rfl, hM, hB⟩ := hrel
      by_cases hlt : k < l.length
      · exact absurd hlt (by omega)
      · obtain rfl : k = l.length := by omega
        clear hM1 hB1
        have hrd1 := hrd.below (Nat.le_refl _) hB
        go_wp2_with fail
        refine (copy_any _ _ _ _ _ hM.rd).mono ?_
        rintro e w2 ⟨g, g2, c, rfl, hg1, hg2, hR2, hB2⟩
        have hM2 := hM.keep hB2.block
        have hq2 := hB.trans (hB2.mono hB.size)
        have hng : g ≠ w.heap.size := by have := hM.lt2; omega
        have hng2 : g2 ≠ w.heap.size := by have := hM.lt2; omega
        go_wp2_with fail
        refine (len_any _ _ _ _ _ hM2.rd).mono ?_
        rintro e w3 ⟨rfl, hB3⟩
        have hM3 := hM2.keep hB3.block
        have hR3 := hR2.below hB3 hR2.lt hR2.lt2
        have hq3 := hq2.trans (hB3.mono hq2.size)
        go_wp2_with fail
        refine (clear_any _ _ _ _ hM3).mono ?_
        rintro e w4 ⟨rfl, hM4, hG4⟩
        have hR4 : MemoRd w4 g g2 c (after (sizeN size) l l.length) :=
          ⟨(World.cell?_of_block (hG4.block g hR3.lt (fun e => hng (by injection e)))).trans hR3.cell, Nat.lt_of_lt_of_le hR3.lt hG4.size, Nat.lt_of_lt_of_le hR3.lt2 hG4.size,
            fun i j hi hj => (World.cell?_of_block (hG4.block g2 hR3.lt2 (fun e => hng2 (by injection e)))).trans (hR3.at_ i j hi hj), hR3.pos, hR3.most⟩
        have hq4 := below_of_grown hq3 hG4 (Nat.le_refl _) hq3.size
        rw [after_len] at hM4
        have hlen := after_len (sizeN size) l l.length
        generalize after (sizeN size) l l.length = L at *
        clear hM hM2 hM3 hR2 hR3 hB2 hB3 hG4 hq2 hq3 hrd1 hng hng2 hg1 hg2
        generalize w.heap.size + 1 = b at *
        go_wp2_with fail
        go_loopw [51] (fun i wr => ∃ k : Nat, k ≤ l.length ∧ i = .int .i64 k ∧ Below w4.heap.size w4 wr) (fun i _ => l.length - (intOf i).toNat)
        case atStart => exact ⟨0, by omega, rfl, Below.refl _ _⟩
        case round =>
          obtain ⟨k, hk, rfl, hBr⟩ := hrel
          have hM5 := hM4.keep hBr.block
          have hq5 := hq4.trans (hBr.mono hq4.size)
          by_cases hlt : k < l.length
          · exact absurd hlt (by omega)
          · clear hq4
            have hR5 := hR4.below hBr hR4.lt hR4.lt2
            clear hR4 hBr hM4
            go_wp2_with fail
            refine (alive_any _).mono ?_
            rintro e w6 ⟨rfl, hB6⟩
            have hM6 := hM5.keep hB6.block
            have hR6 := hR5.below hB6 hR5.lt hR5.lt2
            have hq6 := hq5.trans (hB6.mono hq5.size)
            clear hM5 hR5 hB6 hq5
            go_wp2_with fail
            refine (len_any _ _ _ _ _ hM6.rd).mono ?_
            rintro e w7 ⟨rfl, hB7⟩
            rw [cnt_E0]
            have hM7 := hM6.keep hB7.block
            have hR7 := hR6.below hB7 hR6.lt hR6.lt2
            have hq7 := hq6.trans (hB7.mono hq6.size)
            clear hM6 hR6 hB7 hq6
            go_wp2_with fail
            refine (len_any _ _ _ _ _ hR7).mono ?_
            rintro e w8 ⟨rfl, hB8⟩
            have hM8 := hM7.keep hB8.block
            have hR8 := hR7.below hB8 hR7.lt hR7.lt2
            have hq8 := hq7.trans (hB8.mono hq7.size)
            clear hM7 hR7 hB8 hq7
            go_wp2_with fail
            refine (size_rd _ _ _ _ _ hR8).mono ?_
            rintro e w9 ⟨rfl, rfl⟩
            rw [hlen]
            go_wp2_with fail
            refine (size_rd _ _ _ _ _ hM8.rd).mono ?_
            rintro e w9 ⟨rfl, rfl⟩
            rw [show (List.replicate (sizeN size) E0).length = sizeN size by simp]
            go_wp2_with fail
            go_ret
            exact ⟨rfl, hq8⟩


theorem clears_law (size : Int) (A : Option Addr) (cap : Nat) (l : List Pt) (w : World) (hrd : PutsRd w A l) (hmax : l.length ≤ maxLen ∧ l.length ≤ cap ∧ cap ≤ maxLen) :
    Calls Try.prog 7 #[.int .i64 size, .slice A l.length cap] w fun e w' => e = .returned (.bool true) ∧ Below w.heap.size w w' := by
  have _hmax : l.length ≤ 9223372036854775807 := by unfold maxLen at hmax; exact hmax.1
  rcases Nat.eq_zero_or_pos l.length with h0 | h0
  · exact clears_none size A cap l (by omega) w hrd _hmax
  · obtain ⟨b, off, rfl, _, _⟩ := hrd h0
    exact clears_some size b off cap l w hrd _hmax
end Go.Proofs.Ytnlioepelkdgcaa
