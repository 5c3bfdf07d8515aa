/- memo: the walk of MemoAll -/
import Derived.Test.YtnlioepelkdgcaaP
import Derived.Test.YtnlioepelkdgcaaO
import Derived.Deep.QuietTactic
import Derived.BigQuiet
namespace Go.Proofs.Ytnlioepelkdgcaa
open Go.RowKit

theorem KeysRd.below {w w' : World} {A : Option Addr} {l : List Pt} {B : Nat} (h : KeysRd w A l) (hB : w.heap.size ≤ B) (hb : Below B w w') : KeysRd w' A l := fun hl => by
  obtain ⟨b, off, hA, hlt, hc⟩ := h hl
  refine ⟨b, off, hA, Nat.lt_of_lt_of_le hlt hb.size, fun i hi => ?_⟩
  have hbB : b < B := by omega
  rw [hb.cell (by exact hbB), hb.cell (by exact hbB), hb.cell (by exact hbB)]
  exact hc i hi

theorem PutsRd.take {w : World} {b off : Nat} {l : List Pt} (h : PutsRd w (some ⟨b, off, none⟩) l) (k : Nat) : PutsRd w (some ⟨b, off, none⟩) (l.take k) := fun hl => by
  have hl' : 0 < l.length := by rw [List.length_take] at hl; omega
  obtain ⟨b', off', hA, hlt, hc⟩ := h hl'
  refine ⟨b', off', hA, hlt, fun i hi => ?_⟩
  rw [List.length_take] at hi
  rw [List.getElem_take]
  exact hc i (by omega)

theorem rlen_take (n cap m b off : Nat) (l : List Pt) (w : World) (hn : 1 ≤ n) (hn2 : n ≤ 65536) (hlen : l.length ≤ 100000) (hm : m ≤ l.length) (hrd : PutsRd w (some ⟨b, off, none⟩) l) :
    Calls Try.prog 13 #[.int .i64 n, .slice (some ⟨b, off, none⟩) m cap] w fun e w' => e = .returned (.int .i64 (lenTo n (l.take m) (l.take m).length)) ∧ Below w.heap.size w w' := by
  have h := rlen_any n cap (some ⟨b, off, none⟩) (l.take m) w hn hn2 (by rw [List.length_take]; omega) (hrd.take m)
  rw [show (l.take m).length = m by rw [List.length_take]; omega] at h ⊢
  exact h

set_option maxRecDepth 100000 in
set_option maxHeartbeats 8000000 in
theorem all_some_some (size : Int) (b0 o0 : Nat) (cap : Nat) (l : List Pt)  (b1 o1 : Nat) (cap1 : Nat) (l1 : List Pt)  (w : World) (hrd : PutsRd w (some ⟨b0, o0, none⟩) l) (hrk : KeysRd w (some ⟨b1, o1, none⟩) l1) (_hmax : l.length ≤ 9223372036854775807) (_hmax1 : l1.length ≤ 9223372036854775807) (_hcap : l.length ≤ cap) (_hcap2 : cap ≤ 9223372036854775807) :
    Calls Try.prog 3 #[.int .i64 size, .slice (some ⟨b0, o0, none⟩) l.length cap, .slice (some ⟨b1, o1, none⟩) l1.length cap1] w fun e w' => e = .returned (.bool true) ∧ Below w.heap.size w w' := by
  have hrd := Lib.hid hrd
  have hrk := Lib.hid hrk
  have hln := Lib.hid (after_len (sizeN size) l)
  by_cases h200 : l.length > 100
  · have hg : (100 : Int) < (l.length : Int) := by omega
    go_enter Try.func3, Try.ntmps3
    go_wp2_with fail
    refine (alive_any _).mono ?_
    rintro e w2 ⟨rfl, hB2⟩
    go_wp2_with fail
    go_ret
    exact ⟨rfl, hB2⟩
  · have hg : ¬ (100 : Int) < (l.length : Int) := by omega
    by_cases h50 : l1.length > 50
    · have hg1 : (50 : Int) < (l1.length : Int) := by omega
      go_enter Try.func3, Try.ntmps3
      go_wp2_with fail
      refine (alive_any _).mono ?_
      rintro e w2 ⟨rfl, hB2⟩
      go_wp2_with fail
      go_ret
      exact ⟨rfl, hB2⟩
    · have hg1 : ¬ (50 : Int) < (l1.length : Int) := by omega
      go_enter Try.func3, Try.ntmps3
      go_wp2_with fail
      refine (new_any size _).mono ?_
      rintro e w1 ⟨rfl, hM1, hB1⟩
      go_wp2_with fail
      refine (rsize_op _ _).mono ?_
      rintro e w1' ⟨rfl, rfl⟩
      go_wp2_with fail
      go_loopw [34] (fun i wr => ∃ k : Nat, k ≤ l.length ∧ i = .int .i64 k ∧ MemoAt wr (w.heap.size + 1) w.heap.size (after (sizeN size) l k) ∧ Below w.heap.size w wr) (fun i _ => l.length - (intOf i).toNat)
      case atStart => exact ⟨0, by omega, rfl, hM1, hB1⟩
      case round =>
        clear hM1 hB1
        obtain ⟨i, hi, rfl, hM, hB⟩ := hrel
        by_cases hlt : i < l.length
        · have hrd' := hrd.out.below (Nat.le_refl _) hB
          obtain ⟨b', off', hA, hb, hcells⟩ := hrd' (by omega)
          injection hA with hA
          injection hA with e1 e2
          subst e1; subst e2
          obtain ⟨c0, c1, c2, c3⟩ := hcells i hlt
          clear hcells hrd'
          have hput := fun W hW => putm_any (w.heap.size + 1) w.heap.size (after (sizeN size) l i) l[i].x l[i].y l[i].z l[i].v W hW
          have HN := Lib.hid (after_succ (sizeN size) l i hlt)
          have hsz := hB.size
          have hM' := hM.keep (w' := wr.alloc (.cells #[.int .i64 l[i].x, .int .i64 l[i].y, .int .i64 l[i].z, .int .i64 l[i].v] 30)) fun k hk => Below.heap_alloc _ _ _ hk
          have hq1 := hB.alloc hsz (.cells #[.int .i64 l[i].x, .int .i64 l[i].y, .int .i64 l[i].z, .int .i64 l[i].v] 30)
          clear hM hB
          go_wp2_with fail
          refine (hput _ hM').mono ?_
          rintro e w2 ⟨rfl, hM2, hG2⟩
          clear hput
          rw [← HN.out] at hM2
          have hq2 := below_of_grown hq1 hG2 (Nat.le_refl _) hq1.size
          clear hG2 hM' hq1 c0 c1 c2 c3 hb hsz
          have hS2 : MemoAt w2 (w.heap.size + 1) w.heap.size (after (sizeN size) l (i + 1)) ∧ Below w.heap.size w w2 := ⟨hM2, hq2⟩
          have hS2d : MemoAt w2.drew (w.heap.size + 1) w.heap.size (after (sizeN size) l (i + 1)) ∧ Below w.heap.size w w2.drew := ⟨⟨hM2.hd, hM2.row, hM2.pos, hM2.most⟩, hq2.drew⟩
          have hkeep : ∀ W W' : World, (MemoAt W (w.heap.size + 1) w.heap.size (after (sizeN size) l (i + 1)) ∧ Below w.heap.size w W) → Below W.heap.size W W' → (MemoAt W' (w.heap.size + 1) w.heap.size (after (sizeN size) l (i + 1)) ∧ Below w.heap.size w W') :=
            fun W W' h hb => ⟨h.1.keep hb.block, h.2.trans (hb.mono h.2.size)⟩
          have hkeep := Lib.hid hkeep
          have hlf := len_fits (sizeN size) (sizeN_pos size) l i hlt
          by_cases hmod : i % 8 = 0
          · have hm8 : ((i : Int) % 8 == 0) = true := by simp; omega
            have hrl : ∀ W, Below w.heap.size w W → Calls Try.prog 13 #[.int .i64 (sizeN size), .slice (some ⟨b0, o0, none⟩) (i + 1) cap] W fun e w' => e = .returned (.int .i64 (cnt (after (sizeN size) l (i + 1)))) ∧ Below W.heap.size W w' := fun W hW => by
              have := rlen_take (sizeN size) cap (i + 1) b0 o0 l W (sizeN_pos size) (sizeN_most size) (by omega) (by omega) (hrd.out.below (Nat.le_refl _) hW)
              rw [hlf] at this
              exact this
            have hrl := Lib.hid hrl
            clear hlf
            have hi0 : (0 : Int) ≤ (i : Int) := by omega
            have hi1 : (i : Int) + 1 ≤ (l.length : Int) := by omega
            have hi2 : i + 1 ≤ l.length := by omega
            have hi3 : i + 1 ≤ cap := by omega
            have hi4 : (i : Int) + 1 ≤ (cap : Int) := by omega
            have ht8 : (i : Int).tmod 8 = 0 := by rw [Int.tmod_eq_emod_of_nonneg hi0]; omega
            have hw1 : IntKind.i64.wrap ((i : Int) + 1) = (i : Int) + 1 := IntWalk.i64_in _ (by omega)
            have hw2 : (0 : Int) ≤ (i : Int) + 1 := by omega
            have hw3 : ((i : Int) + 1).toNat = i + 1 := by omega
            go_wp2_with fail
            go_region_held3 (fun W => MemoAt W (w.heap.size + 1) w.heap.size (after (sizeN size) l (i + 1)) ∧ Below w.heap.size w W)
              (first | assumption | exact hkeep.out _ _ (by assumption) hb)
              (first | (go_at_call 12; refine (len_any _ _ _ _ _ (MemoAt.rd (And.left (by assumption)))).mono ?_; rintro e w' ⟨rfl, hb⟩) | (go_at_call 13; refine (hrl.out _ (And.right (a := MemoAt _ (w.heap.size + 1) w.heap.size (after (sizeN size) l (i + 1))) (by assumption))).mono ?_; rintro e w' ⟨rfl, hb⟩))
            have hfin := (‹MemoAt _ (w.heap.size + 1) w.heap.size (after (sizeN size) l (i + 1)) ∧ Below w.heap.size w _›)
            clear hrl hkeep hS2 hS2d hM2 hq2 ht8 hw1 hw2 hw3
            go_wp2_with fail
            go_roundw
            case rel => exact ⟨i + 1, by omega, by go_num, hfin.1, hfin.2⟩
            case measure => simp [intOf]; omega
          · have hm8 : ((i : Int) % 8 == 0) = false := by simp; omega
            have hi0 : (0 : Int) ≤ (i : Int) := by omega
            obtain ⟨r, ht8, hre, hwr⟩ : ∃ r : Nat, (i : Int).tmod 8 = (r : Int) ∧ ((r : Int) == 0) = false ∧ IntKind.i64.wrap (r : Int) = (r : Int) :=
              ⟨i % 8, by rw [Int.tmod_eq_emod_of_nonneg hi0]; omega, by simp; omega, IntWalk.i64_in _ (by omega)⟩
            clear hlf hkeep hS2 hS2d
            go_wp2_with fail
            go_quiet (fail)
            go_wp2_with fail
            go_roundw
            case rel => exact ⟨i + 1, by omega, by go_num, ⟨hM2.hd, hM2.row, hM2.pos, hM2.most⟩, ⟨hq2.os, hq2.tape, hq2.output, hq2.size, hq2.block⟩⟩
            case measure => simp [intOf]; omega
        · obtain rfl : i = l.length := by omega
          have hgr := Lib.hid (fun x y z => getM_after (sizeN size) (sizeN_pos size) l x y z l.length)
          have hlenL := hln.out l.length
          generalize after (sizeN size) l l.length = L at *
          generalize w.heap.size + 1 = b at *
          have hlenL := Lib.hid hlenL
          go_wp2_with fail
          go_loopw [62] (fun q wr => ∃ k : Nat, k ≤ l1.length ∧ q = .int .i64 k ∧ MemoAt wr b w.heap.size L ∧ Below w.heap.size w wr) (fun q _ => l1.length - (intOf q).toNat)
          case atStart => exact ⟨0, by omega, rfl, hM, hB⟩
          case round =>
            clear hM hB
            obtain ⟨k, hk, rfl, hM, hB⟩ := hrel
            by_cases hlt2 : k < l1.length
            · have hrk' := hrk.out.below (Nat.le_refl _) hB
              obtain ⟨b', off', hA, hb, hcells⟩ := hrk' (by omega)
              injection hA with hA
              injection hA with e1 e2
              subst e1; subst e2
              obtain ⟨c0, c1, c2⟩ := hcells k hlt2
              clear hcells hrk'
              have hsz := hB.size
              have hM' := hM.keep (w' := wr.alloc (.cells #[.int .i64 l1[k].x, .int .i64 l1[k].y, .int .i64 l1[k].z] 28)) fun k hk => Below.heap_alloc _ _ _ hk
              have hq1 := hB.alloc hsz (.cells #[.int .i64 l1[k].x, .int .i64 l1[k].y, .int .i64 l1[k].z] 28)
              have d0 : (wr.alloc (.cells #[.int .i64 l1[k].x, .int .i64 l1[k].y, .int .i64 l1[k].z] 28)).cell? ⟨wr.heap.size, 0, none⟩ = some (.int .i64 l1[k].x) := by simp
              have d1 : (wr.alloc (.cells #[.int .i64 l1[k].x, .int .i64 l1[k].y, .int .i64 l1[k].z] 28)).cell? ⟨wr.heap.size, 1, none⟩ = some (.int .i64 l1[k].y) := by simp
              have d2 : (wr.alloc (.cells #[.int .i64 l1[k].x, .int .i64 l1[k].y, .int .i64 l1[k].z] 28)).cell? ⟨wr.heap.size, 2, none⟩ = some (.int .i64 l1[k].z) := by simp
              have dlt : wr.heap.size < (wr.alloc (.cells #[.int .i64 l1[k].x, .int .i64 l1[k].y, .int .i64 l1[k].z] 28)).heap.size := by simp
              have hbb : w.heap.size ≤ wr.heap.size := hsz
              clear hM hB
              obtain ⟨v1, r1, hr1⟩ : ∃ v r, getM L l1[k].x l1[k].y l1[k].z = (v, r) := ⟨_, _, rfl⟩
              have hr1 := Lib.hid hr1
              have hr2 := Lib.hid ((hgr.out l1[k].x l1[k].y l1[k].z).symm.trans hr1.out)
              go_wp2_with fail
              refine (get_any _ _ _ _ _ _ _ hM' v1 r1 hr1.out).mono ?_
              rintro e w4 ⟨rfl, hB4⟩
              have hM4 := hM'.keep hB4.block
              have hq4 := hq1.trans (hB4.mono hq1.size)
              rw [← hB4.cell (by exact dlt)] at d0 d1 d2
              have dlt4 := Nat.lt_of_lt_of_le dlt hB4.size
              clear hM' hq1 hB4 c0 c1 c2 hb hsz dlt
              generalize wr.heap.size = bx at *
              have hrg := fun W (hW : Below w.heap.size w W) => rget_any (sizeN size) cap (some ⟨b0, o0, none⟩) l l1[k].x l1[k].y l1[k].z W (sizeN_pos size) (sizeN_most size) (by omega) (hrd.out.below (Nat.le_refl _) hW)
              have hrg := Lib.hid hrg
              go_wp2_with fail
              refine (hrg.out _ hq4).mono ?_
              rintro e w5 ⟨he5, hB5⟩
              rw [hr2.out] at he5
              subst he5
              have hM5 := hM4.keep hB5.block
              have hq5 := hq4.trans (hB5.mono hq4.size)
              rw [← hB5.cell (by exact dlt4)] at d0 d1 d2
              have dlt5 := Nat.lt_of_lt_of_le dlt4 hB5.size
              clear hM4 hq4 hB5 dlt4 hrg
              have hcell := hM5.cell
              have hbl := hM5.lt
              have hpos := hM5.pos
              have hmost := hM5.most
              rw [hlenL.out] at hcell hpos hmost
              have e1 : b < w5.heap.size + 1 := by omega
              have e2 : bx < w5.heap.size + 1 := by omega
              have e3 : b < w5.heap.size + 2 := by omega
              have e4 : bx < w5.heap.size + 2 := by omega
              have hvv : (v1 != v1) = false := by simp
              have hrr : (r1 != r1) = false := by simp
              have hz := hq5.size
              go_wp2_with fail
              go_region_held3 (fun w' => w'.cell? ⟨b, 0, none⟩ = some (.slice (some ⟨w.heap.size, 0, none⟩) (sizeN size) (sizeN size)) ∧ w'.cell? ⟨bx, 0, none⟩ = some (.int .i64 l1[k].x) ∧ w'.cell? ⟨bx, 1, none⟩ = some (.int .i64 l1[k].y) ∧ w'.cell? ⟨bx, 2, none⟩ = some (.int .i64 l1[k].z))
                (first | (go_keep; done) | (and_intros <;> first | (go_keep; done) | (simp [*, World.cell?_alloc_past]; done)))
                (first | (go_at_call 16; refine (slot_any b w.heap.size (sizeN size) _ _ _ _ ?_ hpos hmost).mono ?_; (simp [*]); rintro e w' ⟨rfl, rfl⟩) | (go_at_call 17; refine (rslot_any (sizeN size) _ _ _ _ hpos hmost).mono ?_; rintro e w' ⟨rfl, rfl⟩))
              go_wp2_with fail
              go_roundw
              case rel => exact ⟨k + 1, by omega, by go_num, hM5.keep fun k hk => (grownBy_two w5 _ _ none).block k hk (by simp), ((hq5.alloc hz _).alloc (by simp; omega) _).drew⟩
              case measure => simp [intOf]; omega
            · go_wp2_with fail
              refine (alive_any _).mono ?_
              rintro e w5 ⟨rfl, hB5⟩
              have hM5 := hM.keep hB5.block
              have hq5 := hB.trans (hB5.mono hB.size)
              clear hM hB hB5
              go_wp2_with fail
              refine (size_rd _ _ _ _ _ hM5.rd).mono ?_
              rintro e w6 ⟨rfl, rfl⟩
              rw [hlenL.out]
              go_wp2_with fail
              go_ret
              exact ⟨rfl, hq5⟩

set_option maxRecDepth 100000 in
set_option maxHeartbeats 8000000 in
theorem all_some_none (size : Int) (b0 o0 : Nat) (cap : Nat) (l : List Pt)  (A1 : Option Addr) (cap1 : Nat) (l1 : List Pt) (h1 : l1.length ≤ 0) (w : World) (hrd : PutsRd w (some ⟨b0, o0, none⟩) l) (hrk : KeysRd w A1 l1) (_hmax : l.length ≤ 9223372036854775807) (_hmax1 : l1.length ≤ 9223372036854775807) (_hcap : l.length ≤ cap) (_hcap2 : cap ≤ 9223372036854775807) :
    Calls Try.prog 3 #[.int .i64 size, .slice (some ⟨b0, o0, none⟩) l.length cap, .slice A1 l1.length cap1] w fun e w' => e = .returned (.bool true) ∧ Below w.heap.size w w' := by
  have hrd := Lib.hid hrd
  have hrk := Lib.hid hrk
  have hln := Lib.hid (after_len (sizeN size) l)
  by_cases h200 : l.length > 100
  · have hg : (100 : Int) < (l.length : Int) := by omega
    go_enter Try.func3, Try.ntmps3
    go_wp2_with fail
    refine (alive_any _).mono ?_
    rintro e w2 ⟨rfl, hB2⟩
    go_wp2_with fail
    go_ret
    exact ⟨rfl, hB2⟩
  · have hg : ¬ (100 : Int) < (l.length : Int) := by omega
    by_cases h50 : l1.length > 50
    · have hg1 : (50 : Int) < (l1.length : Int) := by omega
      go_enter Try.func3, Try.ntmps3
      go_wp2_with fail
      refine (alive_any _).mono ?_
      rintro e w2 ⟨rfl, hB2⟩
      go_wp2_with fail
      go_ret
      exact ⟨rfl, hB2⟩
    · have hg1 : ¬ (50 : Int) < (l1.length : Int) := by omega
      go_enter Try.func3, Try.ntmps3
      go_wp2_with fail
      refine (new_any size _).mono ?_
      rintro e w1 ⟨rfl, hM1, hB1⟩
      go_wp2_with fail
      refine (rsize_op _ _).mono ?_
      rintro e w1' ⟨rfl, rfl⟩
      go_wp2_with fail
      go_loopw [34] (fun i wr => ∃ k : Nat, k ≤ l.length ∧ i = .int .i64 k ∧ MemoAt wr (w.heap.size + 1) w.heap.size (after (sizeN size) l k) ∧ Below w.heap.size w wr) (fun i _ => l.length - (intOf i).toNat)
      case atStart => exact ⟨0, by omega, rfl, hM1, hB1⟩
      case round =>
        clear hM1 hB1
        obtain ⟨i, hi, rfl, hM, hB⟩ := hrel
        by_cases hlt : i < l.length
        · have hrd' := hrd.out.below (Nat.le_refl _) hB
          obtain ⟨b', off', hA, hb, hcells⟩ := hrd' (by omega)
          injection hA with hA
          injection hA with e1 e2
          subst e1; subst e2
          obtain ⟨c0, c1, c2, c3⟩ := hcells i hlt
          clear hcells hrd'
          have hput := fun W hW => putm_any (w.heap.size + 1) w.heap.size (after (sizeN size) l i) l[i].x l[i].y l[i].z l[i].v W hW
          have HN := Lib.hid (after_succ (sizeN size) l i hlt)
          have hsz := hB.size
          have hM' := hM.keep (w' := wr.alloc (.cells #[.int .i64 l[i].x, .int .i64 l[i].y, .int .i64 l[i].z, .int .i64 l[i].v] 30)) fun k hk => Below.heap_alloc _ _ _ hk
          have hq1 := hB.alloc hsz (.cells #[.int .i64 l[i].x, .int .i64 l[i].y, .int .i64 l[i].z, .int .i64 l[i].v] 30)
          clear hM hB
          go_wp2_with fail
          refine (hput _ hM').mono ?_
          rintro e w2 ⟨rfl, hM2, hG2⟩
          clear hput
          rw [← HN.out] at hM2
          have hq2 := below_of_grown hq1 hG2 (Nat.le_refl _) hq1.size
          clear hG2 hM' hq1 c0 c1 c2 c3 hb hsz
          have hS2 : MemoAt w2 (w.heap.size + 1) w.heap.size (after (sizeN size) l (i + 1)) ∧ Below w.heap.size w w2 := ⟨hM2, hq2⟩
          have hS2d : MemoAt w2.drew (w.heap.size + 1) w.heap.size (after (sizeN size) l (i + 1)) ∧ Below w.heap.size w w2.drew := ⟨⟨hM2.hd, hM2.row, hM2.pos, hM2.most⟩, hq2.drew⟩
          have hkeep : ∀ W W' : World, (MemoAt W (w.heap.size + 1) w.heap.size (after (sizeN size) l (i + 1)) ∧ Below w.heap.size w W) → Below W.heap.size W W' → (MemoAt W' (w.heap.size + 1) w.heap.size (after (sizeN size) l (i + 1)) ∧ Below w.heap.size w W') :=
            fun W W' h hb => ⟨h.1.keep hb.block, h.2.trans (hb.mono h.2.size)⟩
          have hkeep := Lib.hid hkeep
          have hlf := len_fits (sizeN size) (sizeN_pos size) l i hlt
          by_cases hmod : i % 8 = 0
          · have hm8 : ((i : Int) % 8 == 0) = true := by simp; omega
            have hrl : ∀ W, Below w.heap.size w W → Calls Try.prog 13 #[.int .i64 (sizeN size), .slice (some ⟨b0, o0, none⟩) (i + 1) cap] W fun e w' => e = .returned (.int .i64 (cnt (after (sizeN size) l (i + 1)))) ∧ Below W.heap.size W w' := fun W hW => by
              have := rlen_take (sizeN size) cap (i + 1) b0 o0 l W (sizeN_pos size) (sizeN_most size) (by omega) (by omega) (hrd.out.below (Nat.le_refl _) hW)
              rw [hlf] at this
              exact this
            have hrl := Lib.hid hrl
            clear hlf
            have hi0 : (0 : Int) ≤ (i : Int) := by omega
            have hi1 : (i : Int) + 1 ≤ (l.length : Int) := by omega
            have hi2 : i + 1 ≤ l.length := by omega
            have hi3 : i + 1 ≤ cap := by omega
            have hi4 : (i : Int) + 1 ≤ (cap : Int) := by omega
            have ht8 : (i : Int).tmod 8 = 0 := by rw [Int.tmod_eq_emod_of_nonneg hi0]; omega
            have hw1 : IntKind.i64.wrap ((i : Int) + 1) = (i : Int) + 1 := IntWalk.i64_in _ (by omega)
            have hw2 : (0 : Int) ≤ (i : Int) + 1 := by omega
            have hw3 : ((i : Int) + 1).toNat = i + 1 := by omega
            go_wp2_with fail
            go_region_held3 (fun W => MemoAt W (w.heap.size + 1) w.heap.size (after (sizeN size) l (i + 1)) ∧ Below w.heap.size w W)
              (first | assumption | exact hkeep.out _ _ (by assumption) hb)
              (first | (go_at_call 12; refine (len_any _ _ _ _ _ (MemoAt.rd (And.left (by assumption)))).mono ?_; rintro e w' ⟨rfl, hb⟩) | (go_at_call 13; refine (hrl.out _ (And.right (a := MemoAt _ (w.heap.size + 1) w.heap.size (after (sizeN size) l (i + 1))) (by assumption))).mono ?_; rintro e w' ⟨rfl, hb⟩))
            have hfin := (‹MemoAt _ (w.heap.size + 1) w.heap.size (after (sizeN size) l (i + 1)) ∧ Below w.heap.size w _›)
            clear hrl hkeep hS2 hS2d hM2 hq2 ht8 hw1 hw2 hw3
            go_wp2_with fail
            go_roundw
            case rel => exact ⟨i + 1, by omega, by go_num, hfin.1, hfin.2⟩
            case measure => simp [intOf]; omega
          · have hm8 : ((i : Int) % 8 == 0) = false := by simp; omega
            have hi0 : (0 : Int) ≤ (i : Int) := by omega
            obtain ⟨r, ht8, hre, hwr⟩ : ∃ r : Nat, (i : Int).tmod 8 = (r : Int) ∧ ((r : Int) == 0) = false ∧ IntKind.i64.wrap (r : Int) = (r : Int) :=
              ⟨i % 8, by rw [Int.tmod_eq_emod_of_nonneg hi0]; omega, by simp; omega, IntWalk.i64_in _ (by omega)⟩
            clear hlf hkeep hS2 hS2d
            go_wp2_with fail
            go_quiet (fail)
            go_wp2_with fail
            go_roundw
            case rel => exact ⟨i + 1, by omega, by go_num, ⟨hM2.hd, hM2.row, hM2.pos, hM2.most⟩, ⟨hq2.os, hq2.tape, hq2.output, hq2.size, hq2.block⟩⟩
            case measure => simp [intOf]; omega
        · obtain rfl : i = l.length := by omega
          have hgr := Lib.hid (fun x y z => getM_after (sizeN size) (sizeN_pos size) l x y z l.length)
          have hlenL := hln.out l.length
          generalize after (sizeN size) l l.length = L at *
          generalize w.heap.size + 1 = b at *
          have hlenL := Lib.hid hlenL
          go_wp2_with fail
          go_loopw [62] (fun q wr => ∃ k : Nat, k ≤ l1.length ∧ q = .int .i64 k ∧ MemoAt wr b w.heap.size L ∧ Below w.heap.size w wr) (fun q _ => l1.length - (intOf q).toNat)
          case atStart => exact ⟨0, by omega, rfl, hM, hB⟩
          case round =>
            clear hM hB
            obtain ⟨k, hk, rfl, hM, hB⟩ := hrel
            by_cases hlt2 : k < l1.length
            · exact absurd hlt2 (by omega)
            · go_wp2_with fail
              refine (alive_any _).mono ?_
              rintro e w5 ⟨rfl, hB5⟩
              have hM5 := hM.keep hB5.block
              have hq5 := hB.trans (hB5.mono hB.size)
              clear hM hB hB5
              go_wp2_with fail
              refine (size_rd _ _ _ _ _ hM5.rd).mono ?_
              rintro e w6 ⟨rfl, rfl⟩
              rw [hlenL.out]
              go_wp2_with fail
              go_ret
              exact ⟨rfl, hq5⟩

set_option maxRecDepth 100000 in
set_option maxHeartbeats 8000000 in
theorem all_none_some (size : Int) (A : Option Addr) (cap : Nat) (l : List Pt) (h0 : l.length ≤ 0) (b1 o1 : Nat) (cap1 : Nat) (l1 : List Pt)  (w : World) (hrd : PutsRd w A l) (hrk : KeysRd w (some ⟨b1, o1, none⟩) l1) (_hmax : l.length ≤ 9223372036854775807) (_hmax1 : l1.length ≤ 9223372036854775807) (_hcap : l.length ≤ cap) (_hcap2 : cap ≤ 9223372036854775807) :
    Calls Try.prog 3 #[.int .i64 size, .slice A l.length cap, .slice (some ⟨b1, o1, none⟩) l1.length cap1] w fun e w' => e = .returned (.bool true) ∧ Below w.heap.size w w' := by
  have hrd := Lib.hid hrd
  have hrk := Lib.hid hrk
  have hln := Lib.hid (after_len (sizeN size) l)
  by_cases h200 : l.length > 100
  · have hg : (100 : Int) < (l.length : Int) := by omega
    go_enter Try.func3, Try.ntmps3
    go_wp2_with fail
    refine (alive_any _).mono ?_
    rintro e w2 ⟨rfl, hB2⟩
    go_wp2_with fail
    go_ret
    exact ⟨rfl, hB2⟩
  · have hg : ¬ (100 : Int) < (l.length : Int) := by omega
    by_cases h50 : l1.length > 50
    · have hg1 : (50 : Int) < (l1.length : Int) := by omega
      go_enter Try.func3, Try.ntmps3
      go_wp2_with fail
      refine (alive_any _).mono ?_
      rintro e w2 ⟨rfl, hB2⟩
      go_wp2_with fail
      go_ret
      exact ⟨rfl, hB2⟩
    · have hg1 : ¬ (50 : Int) < (l1.length : Int) := by omega
      go_enter Try.func3, Try.ntmps3
      go_wp2_with fail
      refine (new_any size _).mono ?_
      rintro e w1 ⟨rfl, hM1, hB1⟩
      go_wp2_with fail
      refine (rsize_op _ _).mono ?_
      rintro e w1' ⟨rfl, rfl⟩
      go_wp2_with fail
      go_loopw [34] (fun i wr => ∃ k : Nat, k ≤ l.length ∧ i = .int .i64 k ∧ MemoAt wr (w.heap.size + 1) w.heap.size (after (sizeN size) l k) ∧ Below w.heap.size w wr) (fun i _ => l.length - (intOf i).toNat)
      case atStart => exact ⟨0, by omega, rfl, hM1, hB1⟩
      case round =>
        clear hM1 hB1
        obtain ⟨i, hi, rfl, hM, hB⟩ := hrel
        by_cases hlt : i < l.length
        · exact absurd hlt (by omega)
        · obtain rfl : i = l.length := by omega
          have hgr := Lib.hid (fun x y z => getM_after (sizeN size) (sizeN_pos size) l x y z l.length)
          have hlenL := hln.out l.length
          generalize after (sizeN size) l l.length = L at *
          generalize w.heap.size + 1 = b at *
          have hlenL := Lib.hid hlenL
          go_wp2_with fail
          go_loopw [62] (fun q wr => ∃ k : Nat, k ≤ l1.length ∧ q = .int .i64 k ∧ MemoAt wr b w.heap.size L ∧ Below w.heap.size w wr) (fun q _ => l1.length - (intOf q).toNat)
          case atStart => exact ⟨0, by omega, rfl, hM, hB⟩
          case round =>
            clear hM hB
            obtain ⟨k, hk, rfl, hM, hB⟩ := hrel
            by_cases hlt2 : k < l1.length
            · have hrk' := hrk.out.below (Nat.le_refl _) hB
              obtain ⟨b', off', hA, hb, hcells⟩ := hrk' (by omega)
              injection hA with hA
              injection hA with e1 e2
              subst e1; subst e2
              obtain ⟨c0, c1, c2⟩ := hcells k hlt2
              clear hcells hrk'
              have hsz := hB.size
              have hM' := hM.keep (w' := wr.alloc (.cells #[.int .i64 l1[k].x, .int .i64 l1[k].y, .int .i64 l1[k].z] 28)) fun k hk => Below.heap_alloc _ _ _ hk
              have hq1 := hB.alloc hsz (.cells #[.int .i64 l1[k].x, .int .i64 l1[k].y, .int .i64 l1[k].z] 28)
              have d0 : (wr.alloc (.cells #[.int .i64 l1[k].x, .int .i64 l1[k].y, .int .i64 l1[k].z] 28)).cell? ⟨wr.heap.size, 0, none⟩ = some (.int .i64 l1[k].x) := by simp
              have d1 : (wr.alloc (.cells #[.int .i64 l1[k].x, .int .i64 l1[k].y, .int .i64 l1[k].z] 28)).cell? ⟨wr.heap.size, 1, none⟩ = some (.int .i64 l1[k].y) := by simp
              have d2 : (wr.alloc (.cells #[.int .i64 l1[k].x, .int .i64 l1[k].y, .int .i64 l1[k].z] 28)).cell? ⟨wr.heap.size, 2, none⟩ = some (.int .i64 l1[k].z) := by simp
              have dlt : wr.heap.size < (wr.alloc (.cells #[.int .i64 l1[k].x, .int .i64 l1[k].y, .int .i64 l1[k].z] 28)).heap.size := by simp
              have hbb : w.heap.size ≤ wr.heap.size := hsz
              clear hM hB
              obtain ⟨v1, r1, hr1⟩ : ∃ v r, getM L l1[k].x l1[k].y l1[k].z = (v, r) := ⟨_, _, rfl⟩
              have hr1 := Lib.hid hr1
              have hr2 := Lib.hid ((hgr.out l1[k].x l1[k].y l1[k].z).symm.trans hr1.out)
              go_wp2_with fail
              refine (get_any _ _ _ _ _ _ _ hM' v1 r1 hr1.out).mono ?_
              rintro e w4 ⟨rfl, hB4⟩
              have hM4 := hM'.keep hB4.block
              have hq4 := hq1.trans (hB4.mono hq1.size)
              rw [← hB4.cell (by exact dlt)] at d0 d1 d2
              have dlt4 := Nat.lt_of_lt_of_le dlt hB4.size
              clear hM' hq1 hB4 c0 c1 c2 hb hsz dlt
              generalize wr.heap.size = bx at *
              have hrg := fun W (hW : Below w.heap.size w W) => rget_any (sizeN size) cap A l l1[k].x l1[k].y l1[k].z W (sizeN_pos size) (sizeN_most size) (by omega) (hrd.out.below (Nat.le_refl _) hW)
              have hrg := Lib.hid hrg
              go_wp2_with fail
              refine (hrg.out _ hq4).mono ?_
              rintro e w5 ⟨he5, hB5⟩
              rw [hr2.out] at he5
              subst he5
              have hM5 := hM4.keep hB5.block
              have hq5 := hq4.trans (hB5.mono hq4.size)
              rw [← hB5.cell (by exact dlt4)] at d0 d1 d2
              have dlt5 := Nat.lt_of_lt_of_le dlt4 hB5.size
              clear hM4 hq4 hB5 dlt4 hrg
              have hcell := hM5.cell
              have hbl := hM5.lt
              have hpos := hM5.pos
              have hmost := hM5.most
              rw [hlenL.out] at hcell hpos hmost
              have e1 : b < w5.heap.size + 1 := by omega
              have e2 : bx < w5.heap.size + 1 := by omega
              have e3 : b < w5.heap.size + 2 := by omega
              have e4 : bx < w5.heap.size + 2 := by omega
              have hvv : (v1 != v1) = false := by simp
              have hrr : (r1 != r1) = false := by simp
              have hz := hq5.size
              go_wp2_with fail
              go_region_held3 (fun w' => w'.cell? ⟨b, 0, none⟩ = some (.slice (some ⟨w.heap.size, 0, none⟩) (sizeN size) (sizeN size)) ∧ w'.cell? ⟨bx, 0, none⟩ = some (.int .i64 l1[k].x) ∧ w'.cell? ⟨bx, 1, none⟩ = some (.int .i64 l1[k].y) ∧ w'.cell? ⟨bx, 2, none⟩ = some (.int .i64 l1[k].z))
                (first | (go_keep; done) | (and_intros <;> first | (go_keep; done) | (simp [*, World.cell?_alloc_past]; done)))
                (first | (go_at_call 16; refine (slot_any b w.heap.size (sizeN size) _ _ _ _ ?_ hpos hmost).mono ?_; (simp [*]); rintro e w' ⟨rfl, rfl⟩) | (go_at_call 17; refine (rslot_any (sizeN size) _ _ _ _ hpos hmost).mono ?_; rintro e w' ⟨rfl, rfl⟩))
              go_wp2_with fail
              go_roundw
              case rel => exact ⟨k + 1, by omega, by go_num, hM5.keep fun k hk => (grownBy_two w5 _ _ none).block k hk (by simp), ((hq5.alloc hz _).alloc (by simp; omega) _).drew⟩
              case measure => simp [intOf]; omega
            · go_wp2_with fail
              refine (alive_any _).mono ?_
              rintro e w5 ⟨rfl, hB5⟩
              have hM5 := hM.keep hB5.block
              have hq5 := hB.trans (hB5.mono hB.size)
              clear hM hB hB5
              go_wp2_with fail
              refine (size_rd _ _ _ _ _ hM5.rd).mono ?_
              rintro e w6 ⟨rfl, rfl⟩
              rw [hlenL.out]
              go_wp2_with fail
              go_ret
              exact ⟨rfl, hq5⟩

set_option maxRecDepth 100000 in
set_option maxHeartbeats 8000000 in
theorem all_none_none (size : Int) (A : Option Addr) (cap : Nat) (l : List Pt) (h0 : l.length ≤ 0) (A1 : Option Addr) (cap1 : Nat) (l1 : List Pt) (h1 : l1.length ≤ 0) (w : World) (hrd : PutsRd w A l) (hrk : KeysRd w A1 l1) (_hmax : l.length ≤ 9223372036854775807) (_hmax1 : l1.length ≤ 9223372036854775807) (_hcap : l.length ≤ cap) (_hcap2 : cap ≤ 9223372036854775807) :
    Calls Try.prog 3 #[.int .i64 size, .slice A l.length cap, .slice A1 l1.length cap1] w fun e w' => e = .returned (.bool true) ∧ Below w.heap.size w w' := by
  have hrd := Lib.hid hrd
  have hrk := Lib.hid hrk
  have hln := Lib.hid (after_len (sizeN size) l)
  by_cases h200 : l.length > 100
  · have hg : (100 : Int) < (l.length : Int) := by omega
    go_enter Try.func3, Try.ntmps3
    go_wp2_with fail
    refine (alive_any _).mono ?_
    rintro e w2 ⟨rfl, hB2⟩
    go_wp2_with fail
    go_ret
    exact ⟨rfl, hB2⟩
  · have hg : ¬ (100 : Int) < (l.length : Int) := by omega
    by_cases h50 : l1.length > 50
    · have hg1 : (50 : Int) < (l1.length : Int) := by omega
      go_enter Try.func3, Try.ntmps3
      go_wp2_with fail
      refine (alive_any _).mono ?_
      rintro e w2 ⟨rfl, hB2⟩
      go_wp2_with fail
      go_ret
      exact ⟨rfl, hB2⟩
    · have hg1 : ¬ (50 : Int) < (l1.length : Int) := by omega
      go_enter Try.func3, Try.ntmps3
      go_wp2_with fail
      refine (new_any size _).mono ?_
      rintro e w1 ⟨rfl, hM1, hB1⟩
      go_wp2_with fail
      refine (rsize_op _ _).mono ?_
      rintro e w1' ⟨rfl, rfl⟩
      go_wp2_with fail
      go_loopw [34] (fun i wr => ∃ k : Nat, k ≤ l.length ∧ i = .int .i64 k ∧ MemoAt wr (w.heap.size + 1) w.heap.size (after (sizeN size) l k) ∧ Below w.heap.size w wr) (fun i _ => l.length - (intOf i).toNat)
      case atStart => exact ⟨0, by omega, rfl, hM1, hB1⟩
      case round =>
        clear hM1 hB1
        obtain ⟨i, hi, rfl, hM, hB⟩ := hrel
        by_cases hlt : i < l.length
        · exact absurd hlt (by omega)
        · obtain rfl : i = l.length := by omega
          have hgr := Lib.hid (fun x y z => getM_after (sizeN size) (sizeN_pos size) l x y z l.length)
          have hlenL := hln.out l.length
          generalize after (sizeN size) l l.length = L at *
          generalize w.heap.size + 1 = b at *
          have hlenL := Lib.hid hlenL
          go_wp2_with fail
          go_loopw [62] (fun q wr => ∃ k : Nat, k ≤ l1.length ∧ q = .int .i64 k ∧ MemoAt wr b w.heap.size L ∧ Below w.heap.size w wr) (fun q _ => l1.length - (intOf q).toNat)
          case atStart => exact ⟨0, by omega, rfl, hM, hB⟩
          case round =>
            clear hM hB
            obtain ⟨k, hk, rfl, hM, hB⟩ := hrel
            by_cases hlt2 : k < l1.length
            · exact absurd hlt2 (by omega)
            · go_wp2_with fail
              refine (alive_any _).mono ?_
              rintro e w5 ⟨rfl, hB5⟩
              have hM5 := hM.keep hB5.block
              have hq5 := hB.trans (hB5.mono hB.size)
              clear hM hB hB5
              go_wp2_with fail
              refine (size_rd _ _ _ _ _ hM5.rd).mono ?_
              rintro e w6 ⟨rfl, rfl⟩
              rw [hlenL.out]
              go_wp2_with fail
              go_ret
              exact ⟨rfl, hq5⟩


theorem all_law (size : Int) (A : Option Addr) (cap : Nat) (l : List Pt) (A1 : Option Addr) (cap1 : Nat) (l1 : List Pt) (w : World) (hrd : PutsRd w A l) (hmax : l.length ≤ maxLen ∧ l.length ≤ cap ∧ cap ≤ maxLen) (hrk : KeysRd w A1 l1) (hmax1 : l1.length ≤ maxLen ∧ l1.length ≤ cap1 ∧ cap1 ≤ maxLen) :
    Calls Try.prog 3 #[.int .i64 size, .slice A l.length cap, .slice A1 l1.length cap1] w fun e w' => e = .returned (.bool true) ∧ Below w.heap.size w w' := by
  unfold maxLen at hmax hmax1
  rcases Nat.eq_zero_or_pos l.length with h0 | h0
  · rcases Nat.eq_zero_or_pos l1.length with h1 | h1
    · exact all_none_none size A cap l (by omega) A1 cap1 l1 (by omega) w hrd hrk hmax.1 hmax1.1 hmax.2.1 hmax.2.2
    · obtain ⟨b1, o1, rfl, _, _⟩ := hrk h1
      exact all_none_some size A cap l (by omega) b1 o1 cap1 l1 w hrd hrk hmax.1 hmax1.1 hmax.2.1 hmax.2.2
  · obtain ⟨b0, o0, rfl, _, _⟩ := hrd h0
    rcases Nat.eq_zero_or_pos l1.length with h1 | h1
    · exact all_some_none size b0 o0 cap l A1 cap1 l1 (by omega) w hrd hrk hmax.1 hmax1.1 hmax.2.1 hmax.2.2
    · obtain ⟨b1, o1, rfl, _, _⟩ := hrk h1
      exact all_some_some size b0 o0 cap l b1 o1 cap1 l1 w hrd hrk hmax.1 hmax1.1 hmax.2.1 hmax.2.2
end Go.Proofs.Ytnlioepelkdgcaa
