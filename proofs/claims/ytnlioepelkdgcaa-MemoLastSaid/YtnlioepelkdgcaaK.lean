/- memo: the walk of MemoLast -/
import Derived.Test.YtnlioepelkdgcaaJ
namespace Go.Proofs.Ytnlioepelkdgcaa
open Go.RowKit

theorem Pt.is_iff (p : Pt) (x y z : Int) : p.is x y z = true ↔ p.x = x ∧ p.y = y ∧ p.z = z := by simp [Pt.is]

theorem getM_put_same (L : List En) (x y z v : Int) (h : 1 ≤ L.length) : getM (putM L x y z v) x y z = (v, true) := by
  unfold getM putM
  have hs : slotN L.length x y z < L.length := Nat.mod_lt _ h
  rw [List.length_set, List.getElem?_set_self hs]
  simp [getV, getB]
theorem getM_put_slot (L : List En) (x y z v a b c : Int) (h : 1 ≤ L.length) (he : slotN L.length x y z = slotN L.length a b c) (hne : ¬ (x = a ∧ y = b ∧ z = c)) : getM (putM L x y z v) a b c = (0, false) := by
  unfold getM putM
  have hs : slotN L.length x y z < L.length := Nat.mod_lt _ h
  rw [List.length_set, ← he, List.getElem?_set_self hs]
  have hf : (x == a && (y == b && z == c)) = false := by
    cases hq : (x == a && (y == b && z == c))
    · rfl
    · exact absurd (by simpa using hq) hne
  simp only [getV, getB, hf, Bool.and_false]
  rfl

/-- what stands is what the reference tells -/
theorem getM_after (n : Nat) (hn : 1 ≤ n) (l : List Pt) (x y z : Int) : ∀ k, getM (after n l k) x y z = refGet n l x y z k
  | 0 => by rw [after, getM_E0, refGet]
  | k + 1 => by
    rw [after, refGet]
    cases h : l[k]? with
    | none => exact getM_after n hn l x y z k
    | some p =>
      have hlen := after_len n l k
      simp only []
      by_cases hs : slotN n p.x p.y p.z = slotN n x y z
      · rw [if_pos hs]
        by_cases hi : p.is x y z = true
        · rw [if_pos hi]
          obtain ⟨rfl, rfl, rfl⟩ := (Pt.is_iff p x y z).1 hi
          exact getM_put_same _ _ _ _ _ (by omega)
        · rw [if_neg hi]
          exact getM_put_slot _ _ _ _ _ _ _ _ (by omega) (by rw [hlen]; exact hs) (fun h => hi ((Pt.is_iff p x y z).2 h))
      · rw [if_neg hs, getM_put_other _ _ _ _ _ _ _ _ (by rw [hlen]; exact fun e => hs e.symm)]
        exact getM_after n hn l x y z k

/-- the value that was put last for k's key, among those from k on and before m -/
def scanTo (l : List Pt) (k : Nat) : Nat → Int
  | 0 => l[k]?.elim 0 (·.v)
  | m + 1 => if k ≤ m ∧ l[m]?.elim false (fun p => l[k]?.elim false (fun q => p.is q.x q.y q.z)) = true then l[m]?.elim 0 (·.v) else scanTo l k m
theorem scanTo_start (l : List Pt) (k : Nat) (hk : k < l.length) : ∀ m, m ≤ k → scanTo l k m = l[k].v
  | 0, _ => by rw [scanTo, List.getElem?_eq_getElem hk]; rfl
  | m + 1, h => by rw [scanTo, if_neg (fun h' => by omega)]; exact scanTo_start l k hk m (by omega)
theorem scanTo_succ (l : List Pt) (k m : Nat) (hk : k < l.length) (hm : m < l.length) (hkm : k ≤ m) (r : Bool) (hr : l[m].is l[k].x l[k].y l[k].z = r) : scanTo l k (m + 1) = if r then l[m].v else scanTo l k m := by
  rw [scanTo, List.getElem?_eq_getElem hm, List.getElem?_eq_getElem hk]
  simp only [Option.elim_some, hr]
  cases r <;> simp [hkm]

theorem refGet_scan (n : Nat) (l : List Pt) (k : Nat) (hk : k < l.length) : ∀ m, k < m → m ≤ l.length → ∀ v, refGet n l l[k].x l[k].y l[k].z m = (v, true) → v = scanTo l k m
  | m + 1, hkm, hml, v, h => by
    have hm : m < l.length := by omega
    rw [scanTo_succ l k m hk hm (by omega) _ rfl]
    rw [refGet, List.getElem?_eq_getElem hm] at h
    simp only [] at h
    split at h
    · split at h
      · rename_i h2
        rw [if_pos h2]
        injection h with h _
        exact h.symm
      · injection h with _ h
        cases h
    · rename_i h1
      have hne : ¬ l[m].is l[k].x l[k].y l[k].z = true := fun e => by
        obtain ⟨a, b, c⟩ := (Pt.is_iff _ _ _ _).1 e
        exact h1 (by rw [a, b, c])
      rw [if_neg hne]
      have hkm2 : k ≠ m := fun e => by subst e; exact h1 rfl
      exact refGet_scan n l k hk m (by omega) (by omega) v h

theorem last_fits (n : Nat) (hn : 1 ≤ n) (l : List Pt) (k m : Nat) (hk : k < l.length) (hkm : k < m) (hml : m ≤ l.length) (v : Int) (h : getM (after n l m) l[k].x l[k].y l[k].z = (v, true)) : v = scanTo l k m := by
  rw [getM_after n hn] at h
  exact refGet_scan n l k hk m hkm hml v h

set_option maxRecDepth 100000 in
set_option maxHeartbeats 8000000 in
theorem last_some (size : Int) (b0 o0 : Nat) (cap : Nat) (l : List Pt)  (w : World) (hrd : PutsRd w (some ⟨b0, o0, none⟩) l) (_hmax : l.length ≤ 9223372036854775807) :
    Calls Try.prog 4 #[.int .i64 size, .slice (some ⟨b0, o0, none⟩) l.length cap] w fun e w' => e = .returned (.bool true) ∧ Below w.heap.size w w' := by
  have hrd := Lib.hid hrd
  have hln := Lib.hid (after_len (sizeN size) l)
  by_cases h200 : l.length > 200
  · have hg : (200 : Int) < (l.length : Int) := by omega
    go_enter Try.func4, Try.ntmps4
    go_wp2_with fail
    refine (new_any size _).mono ?_
    rintro e w1 ⟨rfl, hM1, hB1⟩
    go_wp2_with fail
    refine (alive_any _).mono ?_
    rintro e w2 ⟨rfl, hB2⟩
    go_wp2_with fail
    go_ret
    exact ⟨rfl, hB1.trans (hB2.mono hB1.size)⟩
  · have hg : ¬ (200 : Int) < (l.length : Int) := by omega
    go_enter Try.func4, Try.ntmps4
    go_wp2_with fail
    refine (new_any size _).mono ?_
    rintro e w1 ⟨rfl, hM1, hB1⟩
    go_wp2_with fail
    go_loopw [31] (fun i wr => ∃ k : Nat, k ≤ l.length ∧ i = .int .i64 k ∧ MemoAt wr (w.heap.size + 1) w.heap.size (after (sizeN size) l k) ∧ Below w.heap.size w wr) (fun i _ => l.length - (intOf i).toNat)
    case atStart => exact ⟨0, by omega, rfl, hM1, hB1⟩
    case round =>
      clear hM1 hB1
      obtain ⟨i, hi, rfl, hM, hB⟩ := hrel
      by_cases hlt : i < l.length
      · have hrd' := hrd.out.below (Nat.le_refl _) hB
        obtain ⟨b', off', hA, hb, hcells⟩ := hrd' (by omega)
        injection hA with hA
        injection hA with e1 e2
        subst e1; subst e2
        obtain ⟨c0, c1, c2, c3⟩ := hcells i hlt
        clear hcells hrd'
        have hput := fun W hW => putm_any (w.heap.size + 1) w.heap.size (after (sizeN size) l i) l[i].x l[i].y l[i].z l[i].v W hW
        have HN := Lib.hid (after_succ (sizeN size) l i hlt)
        have hsz := hB.size
        have hM' := hM.keep (w' := wr.alloc (.cells #[.int .i64 l[i].x, .int .i64 l[i].y, .int .i64 l[i].z, .int .i64 l[i].v] 30)) fun k hk => Below.heap_alloc _ _ _ hk
        have hT' : TwoC l[i] l[i] (wr.alloc (.cells #[.int .i64 l[i].x, .int .i64 l[i].y, .int .i64 l[i].z, .int .i64 l[i].v] 30)) wr.heap.size wr.heap.size := by
          simp only [TwoC, World.cell?, heap_alloc_new, World.size_alloc]
          exact ⟨by omega, by omega, ⟨rfl, rfl, rfl, rfl⟩, rfl, rfl, rfl⟩
        have hq1 := hB.alloc hsz (.cells #[.int .i64 l[i].x, .int .i64 l[i].y, .int .i64 l[i].z, .int .i64 l[i].v] 30)
        have hbxne : wr.heap.size ≠ w.heap.size := by have := hM.lt; omega
        have hbxlt : w.heap.size ≤ wr.heap.size := hsz
        clear hM hB
        go_wp2_with fail
        refine (hput _ hM').mono ?_
        rintro e w2 ⟨rfl, hM2, hG2⟩
        clear hput
        rw [← HN.out] at hM2
        have hT2 := hT'.keep hG2 hbxne hbxne
        have hq2 := below_of_grown hq1 hG2 (Nat.le_refl _) hq1.size
        clear hG2 hM' hT' hq1 c0 c1 c2 c3 hb hsz
        generalize wr.heap.size = bx at *
        have hgs : getM (after (sizeN size) l (i + 1)) l[i].x l[i].y l[i].z = (l[i].v, true) := by
          rw [HN.out]; exact getM_put_same _ _ _ _ _ (by rw [hln.out]; exact sizeN_pos size)
        have hgs := Lib.hid hgs
        obtain ⟨t0, t1, ⟨x0, x1, x2, x3⟩, k0, k1, k2⟩ := id hT2
        go_wp2_with fail
        refine (get_any _ _ _ _ _ _ _ hM2 l[i].v true hgs.out).mono ?_
        rintro e w3 ⟨rfl, hB3⟩
        have hM3 := hM2.keep hB3.block
        have hT3 := hT2.below hB3 hT2.1 hT2.2.1
        have hq3 := hq2.trans (hB3.mono hq2.size)
        clear hM2 hT2 hB3 hq2 t0 t1 x0 x1 x2 x3 k0 k1 k2
        obtain ⟨t0, t1, ⟨x0, x1, x2, x3⟩, k0, k1, k2⟩ := id hT3
        go_wp2_with fail
        clear hT3 t0 t1 x0 x1 x2 x3 k0 k1 k2
        obtain ⟨wo, rfl⟩ : ∃ wo : World, wo = wr := ⟨_, rfl⟩
        go_loopw [58] (fun q wr => ∃ k : Nat, k ≤ i ∧ q = .int .i64 k ∧ MemoAt wr (w.heap.size + 1) w.heap.size (after (sizeN size) l (i + 1)) ∧ Below w.heap.size w wr) (fun q _ => i - (intOf q).toNat)
        case atStart => exact ⟨0, by omega, rfl, hM3, hq3⟩
        case round =>
          clear hM3 hq3
          obtain ⟨k, hk, rfl, hM, hB⟩ := hrel
          by_cases hki : k < i
          · have hkl : k < l.length := by omega
            have hrd' := hrd.out.below (Nat.le_refl _) hB
            obtain ⟨b', off', hA, hb, hcells⟩ := hrd' (by omega)
            injection hA with hA
            injection hA with e1 e2
            subst e1; subst e2
            obtain ⟨c0, c1, c2, c3⟩ := hcells k hkl
            clear hcells hrd'
            have hk0 : (0 : Int) ≤ (k : Int) := by omega
            have hk1 : (k : Int) < (l.length : Int) := by omega
            obtain ⟨v1, r1, hr1⟩ : ∃ v r, getM (after (sizeN size) l (i + 1)) l[k].x l[k].y l[k].z = (v, r) := ⟨_, _, rfl⟩
            have hr1 := Lib.hid hr1
            go_wp2_with fail
            refine (get_any _ _ _ _ _ _ _ hM v1 r1 hr1.out).mono ?_
            rintro e w4 ⟨rfl, hB4⟩
            have hM4 := hM.keep hB4.block
            have hq4 := hB.trans (hB4.mono hB.size)
            clear hM hB hB4 c0 c1 c2 c3 hb
            have hrd' := hrd.out.below (Nat.le_refl _) hq4
            obtain ⟨b', off', hA, hb, hcells⟩ := hrd' (by omega)
            injection hA with hA
            injection hA with e1 e2
            subst e1; subst e2
            obtain ⟨c0, c1, c2, c3⟩ := hcells k hkl
            have hcells := Lib.hid hcells
            clear hrd'
            have hst := Lib.hid (scanTo_start l k hkl k (Nat.le_refl _))
            have hlast := Lib.hid (fun h => last_fits (sizeN size) (sizeN_pos size) l k (i + 1) hkl (by omega) (by omega) v1 (hr1.out.trans h))
            have hw4 := Below.refl w4.heap.size w4
            go_wp2_with fail
            obtain ⟨wo2, rfl⟩ : ∃ wo : World, wo = wr := ⟨_, rfl⟩
            go_loopw [13, 14] (fun s j wr => ∃ m : Nat, k ≤ m ∧ m ≤ i + 1 ∧ j = .int .i64 m ∧ s = .int .i64 (scanTo l k m) ∧ Below w4.heap.size w4 wr) (fun _ j _ => i + 1 - (intOf j).toNat)
            case atStart => exact ⟨k, by omega, by omega, rfl, by rw [hst.out], hw4⟩
            case round =>
              obtain ⟨m, hkm, hmi, rfl, rfl, hB5⟩ := hrel
              by_cases hmle : m ≤ i
              · have hml : m < l.length := by omega
                obtain ⟨d0, d1, d2, d3⟩ := hcells.out m hml
                rw [← hB5.cell (by exact hb)] at d0 d1 d2 d3 c0 c1 c2
                have hm0 : (0 : Int) ≤ (m : Int) := by omega
                have hm1 : (m : Int) < (l.length : Int) := by omega
                have hmi1 : (m : Int) ≤ (i : Int) := by omega
                have hsc := fun r hr => scanTo_succ l k m hkl hml hkm r hr
                clear hw4 hM4 hq4
                cases hi2 : l[m].is l[k].x l[k].y l[k].z
                · have hek : ∀ w, (binOp .eql 28 (.agg #[.int .i64 l[m].x, .int .i64 l[m].y, .int .i64 l[m].z]) (.agg #[.int .i64 l[k].x, .int .i64 l[k].y, .int .i64 l[k].z])).run Try.prog w = .ok (.bool false) w := fun w => by
                    rw [eql_key 28 Try.underlying28]; exact congrArg (fun q => Result.ok (Value.bool q) w) hi2
                  have HS := Lib.hid (hsc _ hi2)
                  clear hsc hi2
                  go_wp2_with fail
                  go_region_held3 (fun w' => w'.cell? ⟨b0, o0 + m * 4, none⟩ = some (.int .i64 l[m].x) ∧ w'.cell? ⟨b0, o0 + m * 4 + 1, none⟩ = some (.int .i64 l[m].y) ∧ w'.cell? ⟨b0, o0 + m * 4 + 2, none⟩ = some (.int .i64 l[m].z) ∧
                      w'.cell? ⟨b0, o0 + k * 4, none⟩ = some (.int .i64 l[k].x) ∧ w'.cell? ⟨b0, o0 + k * 4 + 1, none⟩ = some (.int .i64 l[k].y) ∧ w'.cell? ⟨b0, o0 + k * 4 + 2, none⟩ = some (.int .i64 l[k].z)) (go_keep) (fail)
                  go_wp2_with fail
                  go_roundw
                  case rel => exact ⟨m + 1, by omega, by omega, by go_num, by rw [HS.out]; simp, hB5.drew⟩
                  case measure => simp [intOf]; omega
                · have hek : ∀ w, (binOp .eql 28 (.agg #[.int .i64 l[m].x, .int .i64 l[m].y, .int .i64 l[m].z]) (.agg #[.int .i64 l[k].x, .int .i64 l[k].y, .int .i64 l[k].z])).run Try.prog w = .ok (.bool true) w := fun w => by
                    rw [eql_key 28 Try.underlying28]; exact congrArg (fun q => Result.ok (Value.bool q) w) hi2
                  have HS := Lib.hid (hsc _ hi2)
                  clear hsc hi2
                  go_wp2_with fail
                  go_region_held3 (fun w' => w'.cell? ⟨b0, o0 + m * 4, none⟩ = some (.int .i64 l[m].x) ∧ w'.cell? ⟨b0, o0 + m * 4 + 1, none⟩ = some (.int .i64 l[m].y) ∧ w'.cell? ⟨b0, o0 + m * 4 + 2, none⟩ = some (.int .i64 l[m].z) ∧
                      w'.cell? ⟨b0, o0 + k * 4, none⟩ = some (.int .i64 l[k].x) ∧ w'.cell? ⟨b0, o0 + k * 4 + 1, none⟩ = some (.int .i64 l[k].y) ∧ w'.cell? ⟨b0, o0 + k * 4 + 2, none⟩ = some (.int .i64 l[k].z)) (go_keep) (fail)
                  go_wp2_with fail
                  go_roundw
                  case rel => exact ⟨m + 1, by omega, by omega, by go_num, by rw [HS.out]; simp, hB5.drew⟩
                  case measure => simp [intOf]; omega
              · obtain rfl : m = i + 1 := by omega
                have hM5 := hM4.keep hB5.block
                have hq5 := hq4.trans (hB5.mono hq4.size)
                clear hM4 hq4 hB5 hw4 c0 c1 c2 c3
                cases r1
                · go_wp2_with fail
                  go_roundw
                  case rel => exact ⟨k + 1, by omega, by go_num, hM5, hq5⟩
                  case measure => simp [intOf]; omega
                · have hv : (v1 != scanTo l k (i + 1)) = false := by rw [hlast.out rfl]; simp
                  go_wp2_with fail
                  go_roundw
                  case rel => exact ⟨k + 1, by omega, by go_num, hM5, hq5⟩
                  case measure => simp [intOf]; omega
          · obtain rfl : k = i := by omega
            go_wp2_with fail
            go_roundw
            case rel => exact ⟨k + 1, by omega, by go_num, hM, hB⟩
            case measure => simp [intOf]; omega
      · obtain rfl : i = l.length := by omega
        go_wp2_with fail
        refine (alive_any _).mono ?_
        rintro e w5 ⟨rfl, hB5⟩
        go_wp2_with fail
        go_ret
        exact ⟨rfl, hB.trans (hB5.mono hB.size)⟩

set_option maxRecDepth 100000 in
set_option maxHeartbeats 8000000 in
theorem last_none (size : Int) (A : Option Addr) (cap : Nat) (l : List Pt) (h0 : l.length ≤ 0) (w : World) (hrd : PutsRd w A l) (_hmax : l.length ≤ 9223372036854775807) :
    Calls Try.prog 4 #[.int .i64 size, .slice A l.length cap] w fun e w' => e = .returned (.bool true) ∧ Below w.heap.size w w' := by
  have hrd := Lib.hid hrd
  have hln := Lib.hid (after_len (sizeN size) l)
  by_cases h200 : l.length > 200
  · have hg : (200 : Int) < (l.length : Int) := by omega
    go_enter Try.func4, Try.ntmps4
    go_wp2_with fail
    refine (new_any size _).mono ?_
    rintro e w1 ⟨rfl, hM1, hB1⟩
    go_wp2_with fail
    refine (alive_any _).mono ?_
    rintro e w2 ⟨rfl, hB2⟩
    go_wp2_with fail
    go_ret
    exact ⟨rfl, hB1.trans (hB2.mono hB1.size)⟩
  · have hg : ¬ (200 : Int) < (l.length : Int) := by omega
    go_enter Try.func4, Try.ntmps4
    go_wp2_with fail
    refine (new_any size _).mono ?_
    rintro e w1 ⟨rfl, hM1, hB1⟩
    go_wp2_with fail
    go_loopw [31] (fun i wr => ∃ k : Nat, k ≤ l.length ∧ i = .int .i64 k ∧ MemoAt wr (w.heap.size + 1) w.heap.size (after (sizeN size) l k) ∧ Below w.heap.size w wr) (fun i _ => l.length - (intOf i).toNat)
    case atStart => exact ⟨0, by omega, rfl, hM1, hB1⟩
    case round =>
      clear hM1 hB1
      obtain ⟨i, hi, rfl, hM, hB⟩ := hrel
      by_cases hlt : i < l.length
      · exact absurd hlt (by omega)
      · obtain rfl : i = l.length := by omega
        go_wp2_with fail
        refine (alive_any _).mono ?_
        rintro e w5 ⟨rfl, hB5⟩
        go_wp2_with fail
        go_ret
        exact ⟨rfl, hB.trans (hB5.mono hB.size)⟩


theorem last_law (size : Int) (A : Option Addr) (cap : Nat) (l : List Pt) (w : World) (hrd : PutsRd w A l) (hmax : l.length ≤ maxLen ∧ l.length ≤ cap ∧ cap ≤ maxLen) :
    Calls Try.prog 4 #[.int .i64 size, .slice A l.length cap] w fun e w' => e = .returned (.bool true) ∧ Below w.heap.size w w' := by
  have _hmax : l.length ≤ 9223372036854775807 := by unfold maxLen at hmax; exact hmax.1
  rcases Nat.eq_zero_or_pos l.length with h0 | h0
  · exact last_none size A cap l (by omega) w hrd _hmax
  · obtain ⟨b, off, rfl, _, _⟩ := hrd h0
    exact last_some size b off cap l w hrd _hmax
end Go.Proofs.Ytnlioepelkdgcaa
