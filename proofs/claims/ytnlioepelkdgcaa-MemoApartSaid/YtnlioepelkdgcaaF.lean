/- memo: the walks of the reference's Get and Len -/
import Derived.Test.YtnlioepelkdgcaaE
namespace Go.Proofs.Ytnlioepelkdgcaa
open Go.RowKit

/-- what was put -/
structure Pt where
  x : Int
  y : Int
  z : Int
  v : Int

/-- a slice of what was put, as it lies in memory -/
def PutsRd (w : World) (A : Option Addr) (l : List Pt) : Prop :=
  0 < l.length → ∃ b off, A = some ⟨b, off, none⟩ ∧ b < w.heap.size ∧ ∀ i (h : i < l.length),
    w.cell? ⟨b, off + i * 4, none⟩ = some (.int .i64 l[i].x) ∧ w.cell? ⟨b, off + i * 4 + 1, none⟩ = some (.int .i64 l[i].y) ∧ w.cell? ⟨b, off + i * 4 + 2, none⟩ = some (.int .i64 l[i].z) ∧ w.cell? ⟨b, off + i * 4 + 3, none⟩ = some (.int .i64 l[i].v)

theorem PutsRd.below {w w' : World} {A : Option Addr} {l : List Pt} {B : Nat} (h : PutsRd w A l) (hB : w.heap.size ≤ B) (hb : Below B w w') : PutsRd w' A l := fun hl => by
  obtain ⟨b, off, hA, hlt, hc⟩ := h hl
  refine ⟨b, off, hA, Nat.lt_of_lt_of_le hlt hb.size, fun i hi => ?_⟩
  have hbB : b < B := by omega
  rw [hb.cell (by exact hbB), hb.cell (by exact hbB), hb.cell (by exact hbB), hb.cell (by exact hbB)]
  exact hc i hi

def Pt.is (p : Pt) (x y z : Int) : Bool := p.x == x && (p.y == y && p.z == z)

/-- the last one of the first k that was put into the place -/
def refGet (n : Nat) (l : List Pt) (x y z : Int) : Nat → Int × Bool
  | 0 => (0, false)
  | k + 1 => match l[k]? with
    | none => refGet n l x y z k
    | some p => if slotN n p.x p.y p.z = slotN n x y z then (if p.is x y z then (p.v, true) else (0, false)) else refGet n l x y z k

def RefGetEnd (w : World) (r : Int × Bool) (e : Ending) (w' : World) : Prop := e = .returned (.tuple #[.int .i64 r.1, .bool r.2]) ∧ Below w.heap.size w w'

def SameGet (n : Nat) (l : List Pt) (x y z : Int) (k : Nat) : Prop := refGet n l x y z l.length = refGet n l x y z k

theorem refGet_other {n : Nat} {l : List Pt} {x y z : Int} {k : Nat} (h : SameGet n l x y z (k + 1)) (hk : k < l.length) (hne : slotN n l[k].x l[k].y l[k].z ≠ slotN n x y z) : SameGet n l x y z k := by
  unfold SameGet at *
  rw [h, refGet, List.getElem?_eq_getElem hk]
  simp only [if_neg hne]
theorem refGet_here {n : Nat} {l : List Pt} {x y z : Int} {k : Nat} (h : SameGet n l x y z (k + 1)) (hk : k < l.length) (he : slotN n l[k].x l[k].y l[k].z = slotN n x y z) :
    refGet n l x y z l.length = if l[k].is x y z then (l[k].v, true) else (0, false) := by
  unfold SameGet at *
  rw [h, refGet, List.getElem?_eq_getElem hk]
  simp only [if_pos he]

theorem refGet_end {n : Nat} {l : List Pt} {x y z : Int} {w w' : World} (h : SameGet n l x y z 0) (hb : Below w.heap.size w w') :
    RefGetEnd w (refGet n l x y z l.length) (.returned (.tuple #[.int .i64 0, .bool false])) w' := by
  unfold SameGet at h
  rw [h]; exact ⟨rfl, hb⟩

theorem refGet_found {n : Nat} {l : List Pt} {x y z : Int} {k : Nat} {w w' : World} (h : SameGet n l x y z (k + 1)) (hk : k < l.length) (he : slotN n l[k].x l[k].y l[k].z = slotN n x y z) (hi : l[k].is x y z = true) (hb : Below w.heap.size w w') :
    RefGetEnd w (refGet n l x y z l.length) (.returned (.tuple #[.int .i64 l[k].v, .bool true])) w' := by
  rw [refGet_here h hk he, if_pos hi]; exact ⟨rfl, hb⟩
theorem refGet_else {n : Nat} {l : List Pt} {x y z : Int} {k : Nat} {w w' : World} (h : SameGet n l x y z (k + 1)) (hk : k < l.length) (he : slotN n l[k].x l[k].y l[k].z = slotN n x y z) (hi : l[k].is x y z = false) (hb : Below w.heap.size w w') :
    RefGetEnd w (refGet n l x y z l.length) (.returned (.tuple #[.int .i64 0, .bool false])) w' := by
  rw [refGet_here h hk he, if_neg (by rw [hi]; simp)]; exact ⟨rfl, hb⟩

set_option maxHeartbeats 2000000 in
theorem rget_walk (n b off cap : Nat) (l : List Pt) (x y z : Int) (w : World) (hn : 1 ≤ n) (hn2 : n ≤ 65536) (hlen : l.length ≤ 100000) (hlt : b < w.heap.size)
    (hrd : PutsRd w (some ⟨b, off, none⟩) l) :
    Calls Try.prog 15 #[.int .i64 n, .slice (some ⟨b, off, none⟩) l.length cap, .agg #[.int .i64 x, .int .i64 y, .int .i64 z]] w (RefGetEnd w (refGet n l x y z l.length)) := by
  have HP := Lib.hid (hrd.below (Nat.le_refl _) ((Below.refl w.heap.size w).alloc (by simp) (.cells #[.int .i64 x, .int .i64 y, .int .i64 z] 28)))
  clear hrd
  go_enter Try.func15, Try.ntmps15
  go_wp2
  go_loopw [8] (fun i wr => ∃ k : Nat, k ≤ l.length ∧ i = .int .i64 ((k : Int) - 1) ∧ SameGet n l x y z k ∧ Below (w.heap.size + 1) (w.alloc (.cells #[.int .i64 x, .int .i64 y, .int .i64 z] 28)) wr) (fun i _ => (intOf i + 1).toNat)
  case atStart => exact ⟨l.length, Nat.le_refl _, rfl, rfl, Below.refl _ _⟩
  case round =>
    obtain ⟨k, hk, rfl, hsame, hB⟩ := hrel
    have hBB : Below w.heap.size w wr := ((Below.refl _ _).alloc (Nat.le_refl _) _).trans (hB.mono (Nat.le_succ _))
    cases k with
    | zero =>
      have fin := refGet_end hsame hBB
      clear hB hBB hsame
      go_wp2
      go_ret2
      exact fin
    | succ k =>
      have e : (((k + 1 : Nat) : Int) - 1) = (k : Int) := by omega
      rw [e]
      clear e
      have hkl : k < l.length := by omega
      obtain ⟨b', off', hA, _, hcells⟩ := HP.out (by omega)
      injection hA with hA
      injection hA with h1 h2
      subst h1; subst h2
      have hbs : b < w.heap.size + 1 := by omega
      obtain ⟨c0, c1, c2, c3⟩ := hcells k hkl
      rw [← hB.cell (by exact hbs)] at c0 c1 c2 c3
      have hbx : w.heap.size < w.heap.size + 1 := by omega
      have d0 : wr.cell? ⟨w.heap.size, 0, none⟩ = some (.int .i64 x) := by rw [hB.cell (by exact hbx)]; simp
      have d1 : wr.cell? ⟨w.heap.size, 1, none⟩ = some (.int .i64 y) := by rw [hB.cell (by exact hbx)]; simp
      have d2 : wr.cell? ⟨w.heap.size, 2, none⟩ = some (.int .i64 z) := by rw [hB.cell (by exact hbx)]; simp
      have hsz : w.heap.size + 1 ≤ wr.heap.size := by have := hB.size; simpa using this
      have hg1 : b < wr.heap.size := by omega
      have hg2 : w.heap.size < wr.heap.size := by omega
      have hg3 : b < wr.heap.size + 1 := by omega
      have hg4 : w.heap.size < wr.heap.size + 1 := by omega
      have hg5 : b < wr.heap.size + 2 := by omega
      have hg6 : w.heap.size < wr.heap.size + 2 := by omega
      clear hcells HP
      have hk0 : (0 : Int) ≤ (k : Int) := by omega
      have hk1 : (k : Int) < (l.length : Int) := by omega
      have hek := fun w => eql_key 28 Try.underlying28 w l[k].x l[k].y l[k].z x y z
      by_cases hs : slotN n l[k].x l[k].y l[k].z = slotN n x y z
      · have hs' : ((slotN n l[k].x l[k].y l[k].z : Int) == (slotN n x y z : Int)) = true := by simp [hs]
        have hszz : w.heap.size ≤ wr.heap.size := by omega
        by_cases hi : l[k].is x y z = true
        · have hek' : ∀ w, (binOp .eql 28 (.agg #[.int .i64 l[k].x, .int .i64 l[k].y, .int .i64 l[k].z]) (.agg #[.int .i64 x, .int .i64 y, .int .i64 z])).run Try.prog w = .ok (.bool true) w := fun w => by
            rw [hek w]; exact congrArg (fun q => Result.ok (Value.bool q) w) hi
          have fin := fun W (hb : Below w.heap.size w W) => refGet_found hsame hkl hs hi hb
          clear hsame hs hi hek hB
          go_wp2_with fail
          go_region_held3 (fun w' => w'.cell? ⟨b, off + k * 4, none⟩ = some (.int .i64 l[k].x) ∧ w'.cell? ⟨b, off + k * 4 + 1, none⟩ = some (.int .i64 l[k].y) ∧ w'.cell? ⟨b, off + k * 4 + 2, none⟩ = some (.int .i64 l[k].z) ∧
            w'.cell? ⟨w.heap.size, 0, none⟩ = some (.int .i64 x) ∧ w'.cell? ⟨w.heap.size, 1, none⟩ = some (.int .i64 y) ∧ w'.cell? ⟨w.heap.size, 2, none⟩ = some (.int .i64 z))
          (first | (go_keep; done) | (and_intros <;> first | (go_keep; done) | (simp [*, World.cell?_alloc_past]; done)))
          (first | (go_at_call 17; refine (rslot_any n _ _ _ _ hn hn2).mono ?_; rintro e w' ⟨rfl, rfl⟩))
          go_wp2_with fail
          go_region_held3 (fun w' => w'.cell? ⟨b, off + k * 4, none⟩ = some (.int .i64 l[k].x) ∧ w'.cell? ⟨b, off + k * 4 + 1, none⟩ = some (.int .i64 l[k].y) ∧ w'.cell? ⟨b, off + k * 4 + 2, none⟩ = some (.int .i64 l[k].z) ∧
            w'.cell? ⟨w.heap.size, 0, none⟩ = some (.int .i64 x) ∧ w'.cell? ⟨w.heap.size, 1, none⟩ = some (.int .i64 y) ∧ w'.cell? ⟨w.heap.size, 2, none⟩ = some (.int .i64 z))
          (first | (go_keep; done) | (and_intros <;> first | (go_keep; done) | (simp [*, World.cell?_alloc_past]; done)))
          (first | (go_at_call 17; refine (rslot_any n _ _ _ _ hn hn2).mono ?_; rintro e w' ⟨rfl, rfl⟩))
          go_wp2
          go_ret2
          exact fin _ (((hBB.alloc hszz _).alloc (by simp; omega) _).drew.drew)
        · have hi : l[k].is x y z = false := by simpa using hi
          have hek' : ∀ w, (binOp .eql 28 (.agg #[.int .i64 l[k].x, .int .i64 l[k].y, .int .i64 l[k].z]) (.agg #[.int .i64 x, .int .i64 y, .int .i64 z])).run Try.prog w = .ok (.bool false) w := fun w => by
            rw [hek w]; exact congrArg (fun q => Result.ok (Value.bool q) w) hi
          have fin := fun W (hb : Below w.heap.size w W) => refGet_else hsame hkl hs hi hb
          clear hsame hs hi hek hB
          go_wp2_with fail
          go_region_held3 (fun w' => w'.cell? ⟨b, off + k * 4, none⟩ = some (.int .i64 l[k].x) ∧ w'.cell? ⟨b, off + k * 4 + 1, none⟩ = some (.int .i64 l[k].y) ∧ w'.cell? ⟨b, off + k * 4 + 2, none⟩ = some (.int .i64 l[k].z) ∧
            w'.cell? ⟨w.heap.size, 0, none⟩ = some (.int .i64 x) ∧ w'.cell? ⟨w.heap.size, 1, none⟩ = some (.int .i64 y) ∧ w'.cell? ⟨w.heap.size, 2, none⟩ = some (.int .i64 z))
          (first | (go_keep; done) | (and_intros <;> first | (go_keep; done) | (simp [*, World.cell?_alloc_past]; done)))
          (first | (go_at_call 17; refine (rslot_any n _ _ _ _ hn hn2).mono ?_; rintro e w' ⟨rfl, rfl⟩))
          go_wp2_with fail
          go_region_held3 (fun w' => w'.cell? ⟨b, off + k * 4, none⟩ = some (.int .i64 l[k].x) ∧ w'.cell? ⟨b, off + k * 4 + 1, none⟩ = some (.int .i64 l[k].y) ∧ w'.cell? ⟨b, off + k * 4 + 2, none⟩ = some (.int .i64 l[k].z) ∧
            w'.cell? ⟨w.heap.size, 0, none⟩ = some (.int .i64 x) ∧ w'.cell? ⟨w.heap.size, 1, none⟩ = some (.int .i64 y) ∧ w'.cell? ⟨w.heap.size, 2, none⟩ = some (.int .i64 z))
          (first | (go_keep; done) | (and_intros <;> first | (go_keep; done) | (simp [*, World.cell?_alloc_past]; done)))
          (first | (go_at_call 17; refine (rslot_any n _ _ _ _ hn hn2).mono ?_; rintro e w' ⟨rfl, rfl⟩))
          go_wp2
          go_ret2
          exact fin _ (((hBB.alloc hszz _).alloc (by simp; omega) _).drew.drew)
      · have hs' : ((slotN n l[k].x l[k].y l[k].z : Int) == (slotN n x y z : Int)) = false := by simp; omega
        have hnext := refGet_other hsame hkl hs
        clear hsame hs hek
        go_wp2_with fail
        go_region_held3 (fun w' => w'.cell? ⟨b, off + k * 4, none⟩ = some (.int .i64 l[k].x) ∧ w'.cell? ⟨b, off + k * 4 + 1, none⟩ = some (.int .i64 l[k].y) ∧ w'.cell? ⟨b, off + k * 4 + 2, none⟩ = some (.int .i64 l[k].z) ∧
            w'.cell? ⟨w.heap.size, 0, none⟩ = some (.int .i64 x) ∧ w'.cell? ⟨w.heap.size, 1, none⟩ = some (.int .i64 y) ∧ w'.cell? ⟨w.heap.size, 2, none⟩ = some (.int .i64 z))
          (first | (go_keep; done) | (and_intros <;> first | (go_keep; done) | (simp [*, World.cell?_alloc_past]; done)))
          (first | (go_at_call 17; refine (rslot_any n _ _ _ _ hn hn2).mono ?_; rintro e w' ⟨rfl, rfl⟩))
        go_wp2
        go_roundw
        case rel => exact ⟨k, by omega, rfl, hnext, ((hB.alloc hsz _).alloc (by simp; omega) _).drew⟩
        case measure => simp [intOf]
theorem rget_any (n cap : Nat) (A : Option Addr) (l : List Pt) (x y z : Int) (w : World) (hn : 1 ≤ n) (hn2 : n ≤ 65536) (hlen : l.length ≤ 100000) (hrd : PutsRd w A l) :
    Calls Try.prog 15 #[.int .i64 n, .slice A l.length cap, .agg #[.int .i64 x, .int .i64 y, .int .i64 z]] w (RefGetEnd w (refGet n l x y z l.length)) := by
  rcases Nat.eq_zero_or_pos l.length with h0 | h0
  · obtain rfl := List.eq_nil_of_length_eq_zero h0
    clear hrd h0 hlen
    show Calls Try.prog 15 #[.int .i64 n, .slice A 0 cap, .agg #[.int .i64 x, .int .i64 y, .int .i64 z]] w (RefGetEnd w (0, false))
    have fin : RefGetEnd w (0, false) (.returned (.tuple #[.int .i64 0, .bool false])) (w.alloc (.cells #[.int .i64 x, .int .i64 y, .int .i64 z] 28)) := ⟨rfl, (Below.refl _ _).alloc (Nat.le_refl _) _⟩
    go_enter Try.func15, Try.ntmps15
    go_wp2
    refine wp_loop_rounds 1 ?_
    rw [rounds_succ]
    go_wp2
    go_ret2
    exact fin
  · obtain ⟨b, off, rfl, hlt, _⟩ := hrd h0
    exact rget_walk n b off cap l x y z w hn hn2 hlen hlt hrd

/-- is l[m] the first of its place, as far as j? -/
def firstTo (n : Nat) (l : List Pt) (m : Nat) : Nat → Bool
  | 0 => true
  | j + 1 => firstTo n l m j && !(slotN n (l[j]?.elim 0 (·.x)) (l[j]?.elim 0 (·.y)) (l[j]?.elim 0 (·.z)) == slotN n (l[m]?.elim 0 (·.x)) (l[m]?.elim 0 (·.y)) (l[m]?.elim 0 (·.z)))
def lenTo (n : Nat) (l : List Pt) : Nat → Nat
  | 0 => 0
  | m + 1 => lenTo n l m + if firstTo n l m m then 1 else 0
theorem lenTo_le (n : Nat) (l : List Pt) : ∀ m, lenTo n l m ≤ m
  | 0 => Nat.le_refl _
  | m + 1 => by have := lenTo_le n l m; rw [lenTo]; split <;> omega
theorem firstTo_succ (n : Nat) (l : List Pt) (m j : Nat) (hm : m < l.length) (hj : j < l.length) (r : Bool) (hr : (slotN n l[j].x l[j].y l[j].z == slotN n l[m].x l[m].y l[m].z) = r) : firstTo n l m (j + 1) = (firstTo n l m j && !r) := by
  rw [firstTo, List.getElem?_eq_getElem hm, List.getElem?_eq_getElem hj, ← hr]; rfl

def Is (v : Value) (b : Bool) : Prop := v = .bool b

set_option maxHeartbeats 2000000 in
theorem rlen_walk (n b off cap : Nat) (l : List Pt) (w : World) (hn : 1 ≤ n) (hn2 : n ≤ 65536) (hlen : l.length ≤ 100000) (hlt : b < w.heap.size)
    (hrd : PutsRd w (some ⟨b, off, none⟩) l) :
    Calls Try.prog 13 #[.int .i64 n, .slice (some ⟨b, off, none⟩) l.length cap] w fun e w' => e = .returned (.int .i64 (lenTo n l l.length)) ∧ Below w.heap.size w w' := by
  have HP := Lib.hid hrd
  clear hrd
  go_enter Try.func13, Try.ntmps13
  go_wp2
  go_loopw [5, 6] (fun c i wr => ∃ m : Nat, m ≤ l.length ∧ i = .int .i64 m ∧ c = .int .i64 (lenTo n l m) ∧ Below w.heap.size w wr) (fun _ i _ => l.length - (intOf i).toNat)
  case atStart => exact ⟨0, by omega, rfl, rfl, Below.refl _ _⟩
  case round =>
    obtain ⟨m, hm, rfl, rfl, hB⟩ := hrel
    have hll := lenTo_le n l m
    by_cases hml : m < l.length
    · go_wp2
      obtain ⟨wo, rfl⟩ : ∃ wo : World, wo = wr := ⟨_, rfl⟩
      go_loopw [7, 8] (fun f j wr => ∃ k : Nat, k ≤ m ∧ j = .int .i64 k ∧ f = .bool (firstTo n l m k) ∧ Below w.heap.size w wr) (fun _ j _ => m - (intOf j).toNat)
      case atStart => exact ⟨0, by omega, rfl, rfl, hB⟩
      case round =>
        obtain ⟨k, hk, rfl, rfl, hB2⟩ := hrel
        by_cases hkm : k < m
        · obtain ⟨b', off', hA, _, hcells⟩ := HP.out (by omega)
          injection hA with hA
          injection hA with h1 h2
          subst h1; subst h2
          obtain ⟨c0, c1, c2, c3⟩ := hcells k (by omega)
          obtain ⟨d0, d1, d2, d3⟩ := hcells m hml
          rw [← hB2.cell (by exact hlt)] at c0 c1 c2 c3 d0 d1 d2 d3
          clear hcells HP
          have hsz := hB2.size
          have hg1 : b < wr.heap.size := by omega
          have hg3 : b < wr.heap.size + 1 := by omega
          have hg5 : b < wr.heap.size + 2 := by omega
          have hk0 : (0 : Int) ≤ (k : Int) := by omega
          have hk1 : (k : Int) < (l.length : Int) := by omega
          have hm0 : (0 : Int) ≤ (m : Int) := by omega
          have hm1 : (m : Int) < (l.length : Int) := by omega
          have hkl : k < l.length := by omega
          have hkl : k < l.length := by omega
          have hnx := fun r hr => firstTo_succ n l m k hml hkl r hr
          by_cases hs : slotN n l[k].x l[k].y l[k].z = slotN n l[m].x l[m].y l[m].z
          · have hs' : ((slotN n l[k].x l[k].y l[k].z : Int) == (slotN n l[m].x l[m].y l[m].z : Int)) = true := by simp [hs]
            have HN := Lib.hid (hnx true (by simp [hs]))
            clear hnx hs
            go_wp2_with fail
            go_region_held3 (fun w' => w'.cell? ⟨b, off + k * 4, none⟩ = some (.int .i64 l[k].x) ∧ w'.cell? ⟨b, off + k * 4 + 1, none⟩ = some (.int .i64 l[k].y) ∧ w'.cell? ⟨b, off + k * 4 + 2, none⟩ = some (.int .i64 l[k].z) ∧
                w'.cell? ⟨b, off + m * 4, none⟩ = some (.int .i64 l[m].x) ∧ w'.cell? ⟨b, off + m * 4 + 1, none⟩ = some (.int .i64 l[m].y) ∧ w'.cell? ⟨b, off + m * 4 + 2, none⟩ = some (.int .i64 l[m].z))
              (first | (go_keep; done) | (and_intros <;> first | (go_keep; done) | (simp [*, World.cell?_alloc_past]; done)))
              (first | (go_at_call 17; refine (rslot_any n _ _ _ _ hn hn2).mono ?_; rintro e w' ⟨rfl, rfl⟩))
            go_wp2
            go_roundw
            case rel => exact ⟨k + 1, by omega, by go_num, by rw [HN.out]; simp, ((hB2.alloc hsz _).alloc (by simp; omega) _).drew⟩
            case measure => simp [intOf]; omega
          · have hs' : ((slotN n l[k].x l[k].y l[k].z : Int) == (slotN n l[m].x l[m].y l[m].z : Int)) = false := by simp; omega
            have HN := Lib.hid (hnx false (by simp [hs]))
            clear hnx hs
            go_wp2_with fail
            go_region_held3 (fun w' => w'.cell? ⟨b, off + k * 4, none⟩ = some (.int .i64 l[k].x) ∧ w'.cell? ⟨b, off + k * 4 + 1, none⟩ = some (.int .i64 l[k].y) ∧ w'.cell? ⟨b, off + k * 4 + 2, none⟩ = some (.int .i64 l[k].z) ∧
                w'.cell? ⟨b, off + m * 4, none⟩ = some (.int .i64 l[m].x) ∧ w'.cell? ⟨b, off + m * 4 + 1, none⟩ = some (.int .i64 l[m].y) ∧ w'.cell? ⟨b, off + m * 4 + 2, none⟩ = some (.int .i64 l[m].z))
              (first | (go_keep; done) | (and_intros <;> first | (go_keep; done) | (simp [*, World.cell?_alloc_past]; done)))
              (first | (go_at_call 17; refine (rslot_any n _ _ _ _ hn hn2).mono ?_; rintro e w' ⟨rfl, rfl⟩))
            go_wp2
            go_roundw
            case rel => exact ⟨k + 1, by omega, by go_num, by rw [HN.out]; simp, ((hB2.alloc hsz _).alloc (by simp; omega) _).drew⟩
            case measure => simp [intOf]; omega
        · obtain rfl : k = m := by omega
          have HN := Lib.hid (show lenTo n l (k + 1) = lenTo n l k + if firstTo n l k k then 1 else 0 from rfl)
          cases hf : firstTo n l k k
          · rw [hf] at HN
            clear hf
            go_wp2
            go_roundw
            case rel => exact ⟨k + 1, by omega, by go_num, by rw [HN.out]; simp, hB2⟩
            case measure => simp [intOf]; omega
          · rw [hf] at HN
            clear hf
            go_wp2
            go_roundw
            case rel => exact ⟨k + 1, by omega, by go_num, by rw [HN.out]; simp, hB2⟩
            case measure => simp [intOf]; omega
    · obtain rfl : m = l.length := by omega
      go_wp2
      go_ret
      exact ⟨rfl, hB⟩

theorem rlen_any (n cap : Nat) (A : Option Addr) (l : List Pt) (w : World) (hn : 1 ≤ n) (hn2 : n ≤ 65536) (hlen : l.length ≤ 100000) (hrd : PutsRd w A l) :
    Calls Try.prog 13 #[.int .i64 n, .slice A l.length cap] w fun e w' => e = .returned (.int .i64 (lenTo n l l.length)) ∧ Below w.heap.size w w' := by
  rcases Nat.eq_zero_or_pos l.length with h0 | h0
  · obtain rfl := List.eq_nil_of_length_eq_zero h0
    clear hrd h0 hlen
    show Calls Try.prog 13 #[.int .i64 n, .slice A 0 cap] w fun e w' => e = .returned (.int .i64 0) ∧ Below w.heap.size w w'
    go_enter Try.func13, Try.ntmps13
    go_wp2
    refine wp_loop_rounds 1 ?_
    rw [rounds_succ]
    go_wp2
    go_ret
    exact ⟨rfl, Below.refl _ _⟩
  · obtain ⟨b, off, rfl, hlt, _⟩ := hrd h0
    exact rlen_walk n b off cap l w hn hn2 hlen hlt hrd
end Go.Proofs.Ytnlioepelkdgcaa
