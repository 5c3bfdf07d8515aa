/- memo: the walk of MemoApart -/
import Derived.Test.YtnlioepelkdgcaaI
import Derived.Deep.DeepCutAuto
namespace Go.Proofs.Ytnlioepelkdgcaa
open Go.RowKit

theorem getM_put_other (L : List En) (x y z v a b c : Int) (h : slotN L.length a b c ≠ slotN L.length x y z) : getM (putM L x y z v) a b c = getM L a b c := by
  unfold getM putM
  rw [List.length_set, List.getElem?_set_ne (fun e => h e.symm)]

/-- what the second statement leaves: two variables -/
def Two (w : World) (p q : Pt) (s7 s8 : Value) (W : World) (bx bk : Nat) : Prop :=
  s7 = .pointer (some ⟨bx, 0, none⟩) ∧ s8 = .pointer (some ⟨bk, 0, none⟩) ∧ bx < W.heap.size ∧ bk < W.heap.size ∧
  (W.cell? ⟨bx, 0, none⟩ = some (.int .i64 p.x) ∧ W.cell? ⟨bx, 1, none⟩ = some (.int .i64 p.y) ∧ W.cell? ⟨bx, 2, none⟩ = some (.int .i64 p.z) ∧ W.cell? ⟨bx, 3, none⟩ = some (.int .i64 p.v)) ∧
  (W.cell? ⟨bk, 0, none⟩ = some (.int .i64 q.x) ∧ W.cell? ⟨bk, 1, none⟩ = some (.int .i64 q.y) ∧ W.cell? ⟨bk, 2, none⟩ = some (.int .i64 q.z)) ∧ Below w.heap.size w W

theorem three_heap (w : World) (A B C : Obj) : (((w.alloc A).alloc B).alloc C).drew.heap[w.heap.size + 1]? = some B ∧ (((w.alloc A).alloc B).alloc C).drew.heap[w.heap.size + 1 + 1]? = some C := by
  constructor
  · rw [heap_drew, Below.heap_alloc _ _ _ (by simp), heap_alloc2_new]
  · have := heap_alloc_new ((w.alloc A).alloc B) C
    simp only [World.size_alloc] at this
    exact this
theorem three_size (w : World) (A B C : Obj) : (((w.alloc A).alloc B).alloc C).drew.heap.size = w.heap.size + 1 + 1 + 1 := by simp [heap_drew]

theorem two_mk1 (w : World) (A : Obj) (p q : Pt) : Two w p q (.pointer (some ⟨w.heap.size + 1, 0, none⟩)) (.pointer (some ⟨w.heap.size + 1 + 1, 0, none⟩))
    (((w.alloc A).alloc (.cells #[.int .i64 p.x, .int .i64 p.y, .int .i64 p.z, .int .i64 p.v] 30)).alloc (.cells #[.int .i64 q.x, .int .i64 q.y, .int .i64 q.z] 28)).drew (w.heap.size + 1) (w.heap.size + 1 + 1) := by
  obtain ⟨h1, h2⟩ := three_heap w A (.cells #[.int .i64 p.x, .int .i64 p.y, .int .i64 p.z, .int .i64 p.v] 30) (.cells #[.int .i64 q.x, .int .i64 q.y, .int .i64 q.z] 28)
  have hs := three_size w A (.cells #[.int .i64 p.x, .int .i64 p.y, .int .i64 p.z, .int .i64 p.v] 30) (.cells #[.int .i64 q.x, .int .i64 q.y, .int .i64 q.z] 28)
  refine ⟨rfl, rfl, by omega, by omega, ?_, ?_, below3 w _ _ _⟩
  · simp only [World.cell?, h1]; exact ⟨rfl, rfl, rfl, rfl⟩
  · simp only [World.cell?, h2]; exact ⟨rfl, rfl, rfl⟩
theorem two_mk2 (w : World) (A : Obj) (p q : Pt) : Two w p q (.pointer (some ⟨w.heap.size + 1 + 1, 0, none⟩)) (.pointer (some ⟨w.heap.size + 1, 0, none⟩))
    (((w.alloc A).alloc (.cells #[.int .i64 q.x, .int .i64 q.y, .int .i64 q.z] 28)).alloc (.cells #[.int .i64 p.x, .int .i64 p.y, .int .i64 p.z, .int .i64 p.v] 30)).drew (w.heap.size + 1 + 1) (w.heap.size + 1) := by
  obtain ⟨h1, h2⟩ := three_heap w A (.cells #[.int .i64 q.x, .int .i64 q.y, .int .i64 q.z] 28) (.cells #[.int .i64 p.x, .int .i64 p.y, .int .i64 p.z, .int .i64 p.v] 30)
  have hs := three_size w A (.cells #[.int .i64 q.x, .int .i64 q.y, .int .i64 q.z] 28) (.cells #[.int .i64 p.x, .int .i64 p.y, .int .i64 p.z, .int .i64 p.v] 30)
  refine ⟨rfl, rfl, by omega, by omega, ?_, ?_, below3 w _ _ _⟩
  · simp only [World.cell?, h2]; exact ⟨rfl, rfl, rfl, rfl⟩
  · simp only [World.cell?, h1]; exact ⟨rfl, rfl, rfl⟩

/-- the cells of the two variables, as they stand behind what follows -/
def TwoC (p q : Pt) (W : World) (bx bk : Nat) : Prop :=
  bx < W.heap.size ∧ bk < W.heap.size ∧
  (W.cell? ⟨bx, 0, none⟩ = some (.int .i64 p.x) ∧ W.cell? ⟨bx, 1, none⟩ = some (.int .i64 p.y) ∧ W.cell? ⟨bx, 2, none⟩ = some (.int .i64 p.z) ∧ W.cell? ⟨bx, 3, none⟩ = some (.int .i64 p.v)) ∧
  (W.cell? ⟨bk, 0, none⟩ = some (.int .i64 q.x) ∧ W.cell? ⟨bk, 1, none⟩ = some (.int .i64 q.y) ∧ W.cell? ⟨bk, 2, none⟩ = some (.int .i64 q.z))
theorem TwoC.below {p q : Pt} {W W' : World} {bx bk B : Nat} (h : TwoC p q W bx bk) (hb : Below B W W') (h1 : bx < B) (h2 : bk < B) : TwoC p q W' bx bk := by
  obtain ⟨a, b, ⟨c0, c1, c2, c3⟩, d0, d1, d2⟩ := h
  exact ⟨Nat.lt_of_lt_of_le a hb.size, Nat.lt_of_lt_of_le b hb.size, ⟨(hb.cell (by exact h1)).trans c0, (hb.cell (by exact h1)).trans c1, (hb.cell (by exact h1)).trans c2, (hb.cell (by exact h1)).trans c3⟩,
    (hb.cell (by exact h2)).trans d0, (hb.cell (by exact h2)).trans d1, (hb.cell (by exact h2)).trans d2⟩
theorem TwoC.keep {p q : Pt} {W W' : World} {bx bk r : Nat} (h : TwoC p q W bx bk) (hb : W.grownBy W' (some r)) (h1 : bx ≠ r) (h2 : bk ≠ r) : TwoC p q W' bx bk := by
  obtain ⟨a, b, ⟨c0, c1, c2, c3⟩, d0, d1, d2⟩ := h
  have ea := fun j => World.cell?_of_block (a := ⟨bx, j, none⟩) (hb.block bx a (fun e => h1 (by injection e)))
  have eb := fun j => World.cell?_of_block (a := ⟨bk, j, none⟩) (hb.block bk b (fun e => h2 (by injection e)))
  exact ⟨Nat.lt_of_lt_of_le a hb.size, Nat.lt_of_lt_of_le b hb.size, ⟨(ea _).trans c0, (ea _).trans c1, (ea _).trans c2, (ea _).trans c3⟩, (eb _).trans d0, (eb _).trans d1, (eb _).trans d2⟩

set_option maxHeartbeats 4000000 in
theorem apart_some (size : Int) (b0 o0 : Nat) (cap : Nat) (l : List Pt)  (p q : Pt) (w : World) (hrd : PutsRd w (some ⟨b0, o0, none⟩) l) (_hmax : l.length ≤ 9223372036854775807) :
    Calls Try.prog 5 #[.int .i64 size, .slice (some ⟨b0, o0, none⟩) l.length cap, .agg #[.int .i64 p.x, .int .i64 p.y, .int .i64 p.z, .int .i64 p.v, .int .i64 q.x, .int .i64 q.y, .int .i64 q.z, .int .i64 q.v]] w fun e w' => e = .returned (.bool true) ∧ Below w.heap.size w w' := by
  have hrd := Lib.hid hrd
  go_enter Try.func5, Try.ntmps5
  go_upto_region 1 with fail
  go_cut [7, 8] (fun s7 s8 wx => ∃ bx bk : Nat, Two w p q s7 s8 wx bx bk)
  case first =>
    go_region
    all_goals (go_wp2_with fail; go_meet; first | exact ⟨_, _, two_mk1 w _ p q⟩ | exact ⟨_, _, two_mk2 w _ p q⟩)
  case rest =>
    obtain ⟨bx, bk, rfl, rfl, hbx, hbk, hcx, hck, hB0⟩ := hcut
    have hT0 : TwoC p q wc bx bk := ⟨hbx, hbk, hcx, hck⟩
    clear hcx hck
    by_cases h200 : l.length > 200
    · have hg : (200 : Int) < (l.length : Int) := by omega
      clear hT0
      go_wp2_with fail
      refine (new_any size _).mono ?_
      rintro e w1 ⟨rfl, hM1, hB1⟩
      go_wp2_with fail
      refine (alive_any _).mono ?_
      rintro e w2 ⟨rfl, hB2⟩
      go_wp2_with fail
      go_ret
      exact ⟨rfl, hB0.trans ((hB1.trans (hB2.mono hB1.size)).mono hB0.size)⟩
    · have hg : ¬ (200 : Int) < (l.length : Int) := by omega
      go_wp2_with fail
      refine (new_any size _).mono ?_
      rintro e w1 ⟨rfl, hM1, hB1⟩
      have hT1 := hT0.below hB1 hbx hbk
      have hq1 := hB0.trans (hB1.mono hB0.size)
      have hnx : bx ≠ wc.heap.size := by omega
      have hnk : bk ≠ wc.heap.size := by omega
      have hw0 : w.heap.size ≤ wc.heap.size := hB0.size
      clear hT0 hB0 hB1
      generalize wc.heap.size = b2 at *
      generalize b2 + 1 = b at *
      go_wp2_with fail
      go_loopw [38] (fun i wr => ∃ k : Nat, k ≤ l.length ∧ i = .int .i64 k ∧ MemoAt wr b b2 (after (sizeN size) l k) ∧ TwoC p q wr bx bk ∧ Below w.heap.size w wr) (fun i _ => l.length - (intOf i).toNat)
      case atStart => exact ⟨0, by omega, rfl, hM1, hT1, hq1⟩
      case round =>
        obtain ⟨k, hk, rfl, hM, hT, hB⟩ := hrel
        by_cases hlt : k < l.length
        · have hrd' := hrd.out.below (Nat.le_refl _) hB
          obtain ⟨b', off', hA, hb, hcells⟩ := hrd' (by omega)
          injection hA with hA
          injection hA with e1 e2
          subst e1; subst e2
          obtain ⟨c0, c1, c2, c3⟩ := hcells k hlt
          clear hcells hrd'
          have hput := fun W hW => putm_any b b2 (after (sizeN size) l k) l[k].x l[k].y l[k].z l[k].v W hW
          have HN := Lib.hid (after_succ (sizeN size) l k hlt)
          have hsz := hB.size
          go_wp2_with fail
          refine (hput _ (hM.keep fun k hk => Below.heap_alloc _ _ _ hk)).mono ?_
          rintro e w2 ⟨rfl, hM2, hG2⟩
          clear hput
          have hT2 := (hT.below ((Below.refl wr.heap.size wr).alloc (Nat.le_refl _) _) hT.1 hT.2.1).keep hG2 hnx hnk
          have hB2 := below_of_grown (hB.alloc hsz _) hG2 hw0 (by simp; omega)
          clear hG2 hM hT hM1 hT1
          go_wp2_with fail
          go_roundw
          case rel => exact ⟨k + 1, by omega, by go_num, by rw [HN.out]; exact hM2, hT2, hB2⟩
          case measure => simp [intOf]; omega
        · obtain rfl : k = l.length := by omega
          clear hM1 hT1 hq1
          have hlen := Lib.hid (after_len (sizeN size) l l.length)
          generalize after (sizeN size) l l.length = L at *
          obtain ⟨v1, r1, hr1⟩ : ∃ v r, getM L q.x q.y q.z = (v, r) := ⟨_, _, rfl⟩
          have hr1 := Lib.hid hr1
          obtain ⟨t0, t1, ⟨x0, x1, x2, x3⟩, k0, k1, k2⟩ := id hT
          go_wp2_with fail
          refine (get_any _ _ _ _ _ _ _ hM v1 r1 hr1.out).mono ?_
          rintro e w2 ⟨rfl, hB2⟩
          have hM2 := hM.keep hB2.block
          have hT2 := hT.below hB2 hT.1 hT.2.1
          have hq2 := hB.trans (hB2.mono hB.size)
          clear hM hT hB hB2 t0 t1 x0 x1 x2 x3 k0 k1 k2
          obtain ⟨t0, t1, ⟨x0, x1, x2, x3⟩, k0, k1, k2⟩ := id hT2
          go_wp2_with fail
          refine (putm_any _ _ _ _ _ _ _ _ hM2).mono ?_
          rintro e w3 ⟨rfl, hM3, hG3⟩
          have hT3 := hT2.keep hG3 hnx hnk
          have hq3 := below_of_grown hq2 hG3 hw0 hq2.size
          clear hM2 hT2 hG3 hq2 t0 t1 x0 x1 x2 x3 k0 k1 k2
          obtain ⟨v2, r2, hr2⟩ : ∃ v r, getM (putM L p.x p.y p.z p.v) q.x q.y q.z = (v, r) := ⟨_, _, rfl⟩
          have hr2 := Lib.hid hr2
          obtain ⟨t0, t1, ⟨x0, x1, x2, x3⟩, k0, k1, k2⟩ := id hT3
          go_wp2_with fail
          refine (get_any _ _ _ _ _ _ _ hM3 v2 r2 hr2.out).mono ?_
          rintro e w4 ⟨rfl, hB4⟩
          have hM4 := hM3.keep hB4.block
          have hT4 := hT3.below hB4 hT3.1 hT3.2.1
          have hq4 := hq3.trans (hB4.mono hq3.size)
          clear hM3 hT3 hB4 hq3 t0 t1 x0 x1 x2 x3 k0 k1 k2
          obtain ⟨t0, t1, ⟨x0, x1, x2, x3⟩, k0, k1, k2⟩ := id hT4
          have hcell := hM4.cell
          have hbl := hM4.lt
          have hpos := hM4.pos
          have hmost := hM4.most
          rw [putM_len] at hcell hpos hmost
          have e1 : b < w4.heap.size + 1 := by omega
          have e2 : bx < w4.heap.size + 1 := by omega
          have e3 : bk < w4.heap.size + 1 := by omega
          have e4 : b < w4.heap.size + 2 := by omega
          have e5 : bx < w4.heap.size + 2 := by omega
          have e6 : bk < w4.heap.size + 2 := by omega
          have hz := hq4.size
          have hz2 := hq4
          clear hM4 hT4
          have hrel : slotN L.length q.x q.y q.z ≠ slotN L.length p.x p.y p.z → v1 = v2 ∧ r1 = r2 := fun hne => by
            have := getM_put_other L p.x p.y p.z p.v q.x q.y q.z hne
            rw [hr1.out, hr2.out] at this
            injection this with a b
            exact ⟨a.symm, b.symm⟩
          by_cases hap : slotN L.length q.x q.y q.z = slotN L.length p.x p.y p.z
          · have hap' : ((slotN L.length q.x q.y q.z : Int) != (slotN L.length p.x p.y p.z : Int)) = false := by simp [hap]
            clear hrel hap
            go_wp2_with fail
            go_region_held3 (fun w' => w'.cell? ⟨b, 0, none⟩ = some (.slice (some ⟨b2, 0, none⟩) L.length L.length) ∧ w'.cell? ⟨bk, 0, none⟩ = some (.int .i64 q.x) ∧ w'.cell? ⟨bk, 1, none⟩ = some (.int .i64 q.y) ∧ w'.cell? ⟨bk, 2, none⟩ = some (.int .i64 q.z) ∧
                w'.cell? ⟨bx, 0, none⟩ = some (.int .i64 p.x) ∧ w'.cell? ⟨bx, 1, none⟩ = some (.int .i64 p.y) ∧ w'.cell? ⟨bx, 2, none⟩ = some (.int .i64 p.z))
              (first | (go_keep; done) | (and_intros <;> first | (go_keep; done) | (simp [*, World.cell?_alloc_past]; done)))
              (first | (go_at_call 16; refine (slot_any b b2 L.length _ _ _ _ ?_ hpos hmost).mono ?_; (simp [*]); rintro e w' ⟨rfl, rfl⟩))
            go_wp2_with fail
            refine (alive_any _).mono ?_
            rintro e w5 ⟨rfl, hB5⟩
            go_wp2_with fail
            go_ret
            exact ⟨rfl, (((hz2.alloc hz _).alloc (by simp; omega) _).drew).trans (hB5.mono (by simp; omega))⟩
          · have hap' : ((slotN L.length q.x q.y q.z : Int) != (slotN L.length p.x p.y p.z : Int)) = true := by simp; omega
            obtain ⟨rfl, rfl⟩ := hrel hap
            clear hrel hap
            go_wp2_with fail
            go_region_held3 (fun w' => w'.cell? ⟨b, 0, none⟩ = some (.slice (some ⟨b2, 0, none⟩) L.length L.length) ∧ w'.cell? ⟨bk, 0, none⟩ = some (.int .i64 q.x) ∧ w'.cell? ⟨bk, 1, none⟩ = some (.int .i64 q.y) ∧ w'.cell? ⟨bk, 2, none⟩ = some (.int .i64 q.z) ∧
                w'.cell? ⟨bx, 0, none⟩ = some (.int .i64 p.x) ∧ w'.cell? ⟨bx, 1, none⟩ = some (.int .i64 p.y) ∧ w'.cell? ⟨bx, 2, none⟩ = some (.int .i64 p.z))
              (first | (go_keep; done) | (and_intros <;> first | (go_keep; done) | (simp [*, World.cell?_alloc_past]; done)))
              (first | (go_at_call 16; refine (slot_any b b2 L.length _ _ _ _ ?_ hpos hmost).mono ?_; (simp [*]); rintro e w' ⟨rfl, rfl⟩))
            go_wp2_with fail
            refine (alive_any _).mono ?_
            rintro e w5 ⟨rfl, hB5⟩
            go_wp2_with fail
            go_ret
            exact ⟨rfl, (((hz2.alloc hz _).alloc (by simp; omega) _).drew).trans (hB5.mono (by simp; omega))⟩

set_option maxHeartbeats 4000000 in
theorem apart_none (size : Int) (A : Option Addr) (cap : Nat) (l : List Pt) (h0 : l.length ≤ 0) (p q : Pt) (w : World) (hrd : PutsRd w A l) (_hmax : l.length ≤ 9223372036854775807) :
    Calls Try.prog 5 #[.int .i64 size, .slice A l.length cap, .agg #[.int .i64 p.x, .int .i64 p.y, .int .i64 p.z, .int .i64 p.v, .int .i64 q.x, .int .i64 q.y, .int .i64 q.z, .int .i64 q.v]] w fun e w' => e = .returned (.bool true) ∧ Below w.heap.size w w' := by
  have hrd := Lib.hid hrd
  go_enter Try.func5, Try.ntmps5
  go_upto_region 1 with fail
  go_cut [7, 8] (fun s7 s8 wx => ∃ bx bk : Nat, Two w p q s7 s8 wx bx bk)
  case first =>
    go_region
    all_goals (go_wp2_with fail; go_meet; first | exact ⟨_, _, two_mk1 w _ p q⟩ | exact ⟨_, _, two_mk2 w _ p q⟩)
  case rest =>
    obtain ⟨bx, bk, rfl, rfl, hbx, hbk, hcx, hck, hB0⟩ := hcut
    have hT0 : TwoC p q wc bx bk := ⟨hbx, hbk, hcx, hck⟩
    clear hcx hck
    by_cases h200 : l.length > 200
    · have hg : (200 : Int) < (l.length : Int) := by omega
      clear hT0
      go_wp2_with fail
      refine (new_any size _).mono ?_
      rintro e w1 ⟨rfl, hM1, hB1⟩
      go_wp2_with fail
      refine (alive_any _).mono ?_
      rintro e w2 ⟨rfl, hB2⟩
      go_wp2_with fail
      go_ret
      exact ⟨rfl, hB0.trans ((hB1.trans (hB2.mono hB1.size)).mono hB0.size)⟩
    · have hg : ¬ (200 : Int) < (l.length : Int) := by omega
      go_wp2_with fail
      refine (new_any size _).mono ?_
      rintro e w1 ⟨rfl, hM1, hB1⟩
      have hT1 := hT0.below hB1 hbx hbk
      have hq1 := hB0.trans (hB1.mono hB0.size)
      have hnx : bx ≠ wc.heap.size := by omega
      have hnk : bk ≠ wc.heap.size := by omega
      have hw0 : w.heap.size ≤ wc.heap.size := hB0.size
      clear hT0 hB0 hB1
      generalize wc.heap.size = b2 at *
      generalize b2 + 1 = b at *
      go_wp2_with fail
      go_loopw [38] (fun i wr => ∃ k : Nat, k ≤ l.length ∧ i = .int .i64 k ∧ MemoAt wr b b2 (after (sizeN size) l k) ∧ TwoC p q wr bx bk ∧ Below w.heap.size w wr) (fun i _ => l.length - (intOf i).toNat)
      case atStart => exact ⟨0, by omega, rfl, hM1, hT1, hq1⟩
      case round =>
        obtain ⟨k, hk, rfl, hM, hT, hB⟩ := hrel
        by_cases hlt : k < l.length
        · exact absurd hlt (by omega)
        · obtain rfl : k = l.length := by omega
          clear hM1 hT1 hq1
          have hlen := Lib.hid (after_len (sizeN size) l l.length)
          generalize after (sizeN size) l l.length = L at *
          obtain ⟨v1, r1, hr1⟩ : ∃ v r, getM L q.x q.y q.z = (v, r) := ⟨_, _, rfl⟩
          have hr1 := Lib.hid hr1
          obtain ⟨t0, t1, ⟨x0, x1, x2, x3⟩, k0, k1, k2⟩ := id hT
          go_wp2_with fail
          refine (get_any _ _ _ _ _ _ _ hM v1 r1 hr1.out).mono ?_
          rintro e w2 ⟨rfl, hB2⟩
          have hM2 := hM.keep hB2.block
          have hT2 := hT.below hB2 hT.1 hT.2.1
          have hq2 := hB.trans (hB2.mono hB.size)
          clear hM hT hB hB2 t0 t1 x0 x1 x2 x3 k0 k1 k2
          obtain ⟨t0, t1, ⟨x0, x1, x2, x3⟩, k0, k1, k2⟩ := id hT2
          go_wp2_with fail
          refine (putm_any _ _ _ _ _ _ _ _ hM2).mono ?_
          rintro e w3 ⟨rfl, hM3, hG3⟩
          have hT3 := hT2.keep hG3 hnx hnk
          have hq3 := below_of_grown hq2 hG3 hw0 hq2.size
          clear hM2 hT2 hG3 hq2 t0 t1 x0 x1 x2 x3 k0 k1 k2
          obtain ⟨v2, r2, hr2⟩ : ∃ v r, getM (putM L p.x p.y p.z p.v) q.x q.y q.z = (v, r) := ⟨_, _, rfl⟩
          have hr2 := Lib.hid hr2
          obtain ⟨t0, t1, ⟨x0, x1, x2, x3⟩, k0, k1, k2⟩ := id hT3
          go_wp2_with fail
          refine (get_any _ _ _ _ _ _ _ hM3 v2 r2 hr2.out).mono ?_
          rintro e w4 ⟨rfl, hB4⟩
          have hM4 := hM3.keep hB4.block
          have hT4 := hT3.below hB4 hT3.1 hT3.2.1
          have hq4 := hq3.trans (hB4.mono hq3.size)
          clear hM3 hT3 hB4 hq3 t0 t1 x0 x1 x2 x3 k0 k1 k2
          obtain ⟨t0, t1, ⟨x0, x1, x2, x3⟩, k0, k1, k2⟩ := id hT4
          have hcell := hM4.cell
          have hbl := hM4.lt
          have hpos := hM4.pos
          have hmost := hM4.most
          rw [putM_len] at hcell hpos hmost
          have e1 : b < w4.heap.size + 1 := by omega
          have e2 : bx < w4.heap.size + 1 := by omega
          have e3 : bk < w4.heap.size + 1 := by omega
          have e4 : b < w4.heap.size + 2 := by omega
          have e5 : bx < w4.heap.size + 2 := by omega
          have e6 : bk < w4.heap.size + 2 := by omega
          have hz := hq4.size
          have hz2 := hq4
          clear hM4 hT4
          have hrel : slotN L.length q.x q.y q.z ≠ slotN L.length p.x p.y p.z → v1 = v2 ∧ r1 = r2 := fun hne => by
            have := getM_put_other L p.x p.y p.z p.v q.x q.y q.z hne
            rw [hr1.out, hr2.out] at this
            injection this with a b
            exact ⟨a.symm, b.symm⟩
          by_cases hap : slotN L.length q.x q.y q.z = slotN L.length p.x p.y p.z
          · have hap' : ((slotN L.length q.x q.y q.z : Int) != (slotN L.length p.x p.y p.z : Int)) = false := by simp [hap]
            clear hrel hap
            go_wp2_with fail
            go_region_held3 (fun w' => w'.cell? ⟨b, 0, none⟩ = some (.slice (some ⟨b2, 0, none⟩) L.length L.length) ∧ w'.cell? ⟨bk, 0, none⟩ = some (.int .i64 q.x) ∧ w'.cell? ⟨bk, 1, none⟩ = some (.int .i64 q.y) ∧ w'.cell? ⟨bk, 2, none⟩ = some (.int .i64 q.z) ∧
                w'.cell? ⟨bx, 0, none⟩ = some (.int .i64 p.x) ∧ w'.cell? ⟨bx, 1, none⟩ = some (.int .i64 p.y) ∧ w'.cell? ⟨bx, 2, none⟩ = some (.int .i64 p.z))
              (first | (go_keep; done) | (and_intros <;> first | (go_keep; done) | (simp [*, World.cell?_alloc_past]; done)))
              (first | (go_at_call 16; refine (slot_any b b2 L.length _ _ _ _ ?_ hpos hmost).mono ?_; (simp [*]); rintro e w' ⟨rfl, rfl⟩))
            go_wp2_with fail
            refine (alive_any _).mono ?_
            rintro e w5 ⟨rfl, hB5⟩
            go_wp2_with fail
            go_ret
            exact ⟨rfl, (((hz2.alloc hz _).alloc (by simp; omega) _).drew).trans (hB5.mono (by simp; omega))⟩
          · have hap' : ((slotN L.length q.x q.y q.z : Int) != (slotN L.length p.x p.y p.z : Int)) = true := by simp; omega
            obtain ⟨rfl, rfl⟩ := hrel hap
            clear hrel hap
            go_wp2_with fail
            go_region_held3 (fun w' => w'.cell? ⟨b, 0, none⟩ = some (.slice (some ⟨b2, 0, none⟩) L.length L.length) ∧ w'.cell? ⟨bk, 0, none⟩ = some (.int .i64 q.x) ∧ w'.cell? ⟨bk, 1, none⟩ = some (.int .i64 q.y) ∧ w'.cell? ⟨bk, 2, none⟩ = some (.int .i64 q.z) ∧
                w'.cell? ⟨bx, 0, none⟩ = some (.int .i64 p.x) ∧ w'.cell? ⟨bx, 1, none⟩ = some (.int .i64 p.y) ∧ w'.cell? ⟨bx, 2, none⟩ = some (.int .i64 p.z))
              (first | (go_keep; done) | (and_intros <;> first | (go_keep; done) | (simp [*, World.cell?_alloc_past]; done)))
              (first | (go_at_call 16; refine (slot_any b b2 L.length _ _ _ _ ?_ hpos hmost).mono ?_; (simp [*]); rintro e w' ⟨rfl, rfl⟩))
            go_wp2_with fail
            refine (alive_any _).mono ?_
            rintro e w5 ⟨rfl, hB5⟩
            go_wp2_with fail
            go_ret
            exact ⟨rfl, (((hz2.alloc hz _).alloc (by simp; omega) _).drew).trans (hB5.mono (by simp; omega))⟩


theorem apart_law (size : Int) (A : Option Addr) (cap : Nat) (l : List Pt) (p q : Pt) (w : World) (hrd : PutsRd w A l) (hmax : l.length ≤ maxLen ∧ l.length ≤ cap ∧ cap ≤ maxLen) :
    Calls Try.prog 5 #[.int .i64 size, .slice A l.length cap, .agg #[.int .i64 p.x, .int .i64 p.y, .int .i64 p.z, .int .i64 p.v, .int .i64 q.x, .int .i64 q.y, .int .i64 q.z, .int .i64 q.v]] w fun e w' => e = .returned (.bool true) ∧ Below w.heap.size w w' := by
  have _hmax : l.length ≤ 9223372036854775807 := by unfold maxLen at hmax; exact hmax.1
  rcases Nat.eq_zero_or_pos l.length with h0 | h0
  · exact apart_none size A cap l (by omega) p q w hrd _hmax
  · obtain ⟨b, off, rfl, _, _⟩ := hrd h0
    exact apart_some size b off cap l p q w hrd _hmax
end Go.Proofs.Ytnlioepelkdgcaa
