/- memo: the walks of New, Put, Get -/
import Derived.Test.YtnlioepelkdgcaaA
import Derived.Deep.RegionHeld3
import Derived.Deep.MidRow
namespace Go.Proofs.Ytnlioepelkdgcaa
open Go.RowKit

/-- what stands in a place -/
structure En where
  is : Bool
  x : Int
  y : Int
  z : Int
  v : Int

def En.cells (e : En) : List Value := [.bool e.is, .int .i64 e.x, .int .i64 e.y, .int .i64 e.z, .int .i64 e.v]
def encs (l : List En) : List Value := l.flatMap En.cells
theorem encs_len (l : List En) : (encs l).length = l.length * 5 := by
  induction l with
  | nil => rfl
  | cons e r ih => simp [encs, En.cells] at *; omega

theorem encs_get (l : List En) (i : Nat) (h : i < l.length) (j : Nat) (hj : j < 5) : (encs l)[i * 5 + j]? = (l[i]).cells[j]? := by
  induction l generalizing i with
  | nil => simp at h
  | cons e r ih =>
    have hc : (encs (e :: r)) = e.cells ++ encs r := rfl
    have hl : e.cells.length = 5 := rfl
    rw [hc]
    cases i with
    | zero => rw [List.getElem?_append_left (by omega)]; simp
    | succ i =>
      rw [List.getElem?_append_right (by omega), hl]
      have := ih i (by simpa using h)
      rw [show (i + 1) * 5 + j - 5 = i * 5 + j by omega, this]
      simp

/-- a memo in memory: its head in block b, its places in block b2 -/
structure MemoAt (w : World) (b b2 : Nat) (l : List En) : Prop where
  hd : w.heap[b]? = some (.cells #[.slice (some ⟨b2, 0, none⟩) l.length l.length] 48 (0, 0))
  row : w.heap[b2]? = some (.cells (encs l).toArray 50 (0, 0))
  pos : 1 ≤ l.length
  most : l.length ≤ 65536

theorem MemoAt.ne {w : World} {b b2 : Nat} {l : List En} (h : MemoAt w b b2 l) : b ≠ b2 := by
  intro e; subst e
  have := h.hd.symm.trans h.row
  simp at this
theorem MemoAt.lt {w : World} {b b2 : Nat} {l : List En} (h : MemoAt w b b2 l) : b < w.heap.size := (Array.getElem?_eq_some_iff.1 h.hd).1
theorem MemoAt.lt2 {w : World} {b b2 : Nat} {l : List En} (h : MemoAt w b b2 l) : b2 < w.heap.size := (Array.getElem?_eq_some_iff.1 h.row).1
theorem MemoAt.cell {w : World} {b b2 : Nat} {l : List En} (h : MemoAt w b b2 l) : w.cell? ⟨b, 0, none⟩ = some (.slice (some ⟨b2, 0, none⟩) l.length l.length) := by
  simp [World.cell?, h.hd]
theorem MemoAt.frz {w : World} {b b2 : Nat} {l : List En} (h : MemoAt w b b2 l) (j : Nat) : w.frozen? ⟨b2, j, none⟩ = false := by
  simp [World.frozen?, h.row]
theorem MemoAt.at {w : World} {b b2 : Nat} {l : List En} (h : MemoAt w b b2 l) (i j : Nat) (hi : i < l.length) (hj : j < 5) : w.cell? ⟨b2, i * 5 + j, none⟩ = (l[i]).cells[j]? := by
  simp [World.cell?, h.row, encs_get l i hi j hj]
theorem MemoAt.keep {w w' : World} {b b2 : Nat} {l : List En} (h : MemoAt w b b2 l) (hb : ∀ k, k < w.heap.size → w'.heap[k]? = w.heap[k]?) : MemoAt w' b b2 l :=
  ⟨(hb b h.lt).trans h.hd, (hb b2 h.lt2).trans h.row, h.pos, h.most⟩

theorem heap_congr {w W : World} (hs : W.heap.size = w.heap.size) {k : Nat} (hk : W.heap[k]? = w.heap[k]?) (o : Obj) : (W.alloc o).heap[k]? = (w.alloc o).heap[k]? := by
  show (W.heap.push o)[k]? = (w.heap.push o)[k]?
  rw [Array.getElem?_push, Array.getElem?_push, hs, hk]

theorem size_setCell' (w : World) (a : Addr) (v : Value) : (w.setCell a v).heap.size = w.heap.size := by simp [World.setCell]

theorem put_keep (w : World) (b2 o0 o1 o2 o3 o4 : Nat) (v0 v1 v2 v3 v4 : Value) (A B : Obj) (a : Addr) (x : Option Value) (ha : b2 ≠ a.block) (h : ((w.alloc A).alloc B).cell? a = x) :
    (((((((w.setCell ⟨b2, o0, none⟩ v0).setCell ⟨b2, o1, none⟩ v1).setCell ⟨b2, o2, none⟩ v2).setCell ⟨b2, o3, none⟩ v3).setCell ⟨b2, o4, none⟩ v4).alloc A).alloc B).drew.cell? a = x := by
  rw [World.cell?_drew, ← h]
  refine World.cell?_of_block (heap_congr (by simp) (heap_congr (by simp) ?_ _) _)
  have ha' : a.block ≠ b2 := fun e => ha e.symm
  rw [Below.heap_setCell _ _ _ _ (by exact ha'), Below.heap_setCell _ _ _ _ (by exact ha'), Below.heap_setCell _ _ _ _ (by exact ha'), Below.heap_setCell _ _ _ _ (by exact ha'), Below.heap_setCell _ _ _ _ (by exact ha')]

abbrev putCells (w : World) (b2 o : Nat) (x y z v : Int) : World :=
  ((((w.setCell ⟨b2, o, none⟩ (.bool true)).setCell ⟨b2, o + 1, none⟩ (.int .i64 x)).setCell ⟨b2, o + 2, none⟩ (.int .i64 y)).setCell ⟨b2, o + 3, none⟩ (.int .i64 z)).setCell ⟨b2, o + 4, none⟩ (.int .i64 v)

set_option maxHeartbeats 1000000 in
theorem put_walk (b b2 : Nat) (l : List En) (x y z v : Int) (w : World) (h : MemoAt w b b2 l) :
    Calls Try.prog 11 #[.pointer (some ⟨b, 0, none⟩), .agg #[.int .i64 x, .int .i64 y, .int .i64 z], .int .i64 v] w fun e w' => e = .returned (.tuple #[]) ∧
      (((putCells w b2 (slotN l.length x y z * 5) x y z v).alloc (.cells #[.int .i64 x, .int .i64 y, .int .i64 z] 32)).alloc (.cells #[.int .i64 x, .int .i64 y, .int .i64 z] 32)).drew = w' := by
  have hlt := h.lt
  have hlt' : b < w.heap.size + 1 := by omega
  have hlt2 := h.lt2
  have hlt2' : b2 < w.heap.size + 1 := by omega
  have hne := h.ne.symm
  have hne1 : b2 ≠ w.heap.size := by omega
  have hne2 : b2 ≠ w.heap.size + 1 := by omega
  have hc := h.cell
  have hsl : slotN l.length x y z < l.length := Nat.mod_lt _ h.pos
  have c0 := h.at _ 0 hsl (by omega)
  have c1 := h.at _ 1 hsl (by omega)
  have c2 := h.at _ 2 hsl (by omega)
  have c3 := h.at _ 3 hsl (by omega)
  have c4 := h.at _ 4 hsl (by omega)
  simp only [En.cells, Nat.add_zero, List.getElem?_cons_zero, List.getElem?_cons_succ] at c0 c1 c2 c3 c4
  have fz := fun j => h.frz j
  have hpos := h.pos
  have hmost := h.most
  clear h
  go_enter Try.func11, Try.ntmps11
  go_wp2_with fail
  go_region_held3 (fun w' => w'.cell? ⟨b, 0, none⟩ = some (.slice (some ⟨b2, 0, none⟩) l.length l.length) ∧ w'.cell? ⟨w.heap.size, 0, none⟩ = some (.int .i64 x) ∧ w'.cell? ⟨w.heap.size, 1, none⟩ = some (.int .i64 y) ∧ w'.cell? ⟨w.heap.size, 2, none⟩ = some (.int .i64 z))
    (first | (go_keep; done) | (and_intros <;> (refine put_keep _ _ _ _ _ _ _ _ _ _ _ _ _ _ _ _ ?_ ?_ <;> first | assumption | go_keep)))
    (first | (go_at_call 16; refine (slot_any b b2 l.length x y z _ ?_ hpos hmost).mono ?_; (simp [*]); rintro e w' ⟨rfl, rfl⟩))
  go_wp2
  go_end0
  exact ⟨rfl, rfl⟩
theorem encs_set (l : List En) (i : Nat) (h : i < l.length) (e : En) :
    (((((encs l).set (i * 5) (.bool e.is)).set (i * 5 + 1) (.int .i64 e.x)).set (i * 5 + 2) (.int .i64 e.y)).set (i * 5 + 3) (.int .i64 e.z)).set (i * 5 + 4) (.int .i64 e.v) = encs (l.set i e) := by
  induction l generalizing i with
  | nil => simp at h
  | cons d r ih =>
    have hc : (encs (d :: r)) = .bool d.is :: .int .i64 d.x :: .int .i64 d.y :: .int .i64 d.z :: .int .i64 d.v :: encs r := rfl
    rw [hc]
    cases i with
    | zero => rfl
    | succ i =>
      have := ih i (by simpa using h)
      rw [show (i + 1) * 5 = i * 5 + 1 + 1 + 1 + 1 + 1 by omega]
      simp only [List.set_cons_succ]
      rw [this]; rfl

theorem heap_set1 {w w' : World} {b2 i : Nat} {cs : Array Value} {t : TypeId} {v : Value} (hw : w' = w.setCell ⟨b2, i, none⟩ v) (h : w.heap[b2]? = some (.cells cs t (0, 0))) :
    w'.heap[b2]? = some (.cells (cs.setIfInBounds i v) t (0, 0)) := by subst hw; exact heap_setCell_same w b2 i cs t v h

theorem heap_putCells (w : World) (b2 : Nat) (l : List En) (i : Nat) (hi : i < l.length) (x y z v : Int) (h : w.heap[b2]? = some (.cells (encs l).toArray 50 (0, 0))) :
    (putCells w b2 (i * 5) x y z v).heap[b2]? = some (.cells (encs (l.set i ⟨true, x, y, z, v⟩)).toArray 50 (0, 0)) := by
  unfold putCells
  generalize hw1 : w.setCell ⟨b2, i * 5, none⟩ (.bool true) = w1
  generalize hw2 : w1.setCell ⟨b2, i * 5 + 1, none⟩ (.int .i64 x) = w2
  generalize hw3 : w2.setCell ⟨b2, i * 5 + 2, none⟩ (.int .i64 y) = w3
  generalize hw4 : w3.setCell ⟨b2, i * 5 + 3, none⟩ (.int .i64 z) = w4
  generalize hw5 : w4.setCell ⟨b2, i * 5 + 4, none⟩ (.int .i64 v) = w5
  rw [heap_set1 hw5.symm (heap_set1 hw4.symm (heap_set1 hw3.symm (heap_set1 hw2.symm (heap_set1 hw1.symm h)))), ← encs_set l i hi ⟨true, x, y, z, v⟩]
  simp only [List.setIfInBounds_toArray]

theorem heap_two (w : World) (A B : Obj) (k : Nat) (hk : k < w.heap.size) : ((w.alloc A).alloc B).drew.heap[k]? = w.heap[k]? := by
  rw [heap_drew, Below.heap_alloc _ _ _ (by rw [World.size_alloc]; omega), Below.heap_alloc _ _ _ hk]
theorem size_two (w : World) (A B : Obj) : w.heap.size ≤ ((w.alloc A).alloc B).drew.heap.size := by
  rw [heap_drew, World.size_alloc, World.size_alloc]; omega

theorem grownBy_two (w : World) (A B : Obj) (r : Option Nat) : w.grownBy ((w.alloc A).alloc B).drew r := ⟨rfl, rfl, rfl, size_two w A B, fun k hk _ => heap_two w A B k hk⟩
theorem grownBy_trans {a b c : World} {r : Option Nat} (h : a.grownBy b r) (k : b.grownBy c r) : a.grownBy c r :=
  ⟨k.os.trans h.os, k.tape.trans h.tape, k.output.trans h.output, Nat.le_trans h.size k.size, fun i hi hr => (k.block i (Nat.lt_of_lt_of_le hi h.size) hr).trans (h.block i hi hr)⟩

theorem grownBy_setCell1 (w : World) (b i : Nat) (v : Value) : w.grownBy (w.setCell ⟨b, i, none⟩ v) (some b) :=
  ⟨rfl, rfl, rfl, by simp, fun k _ hk => Below.heap_setCell _ _ _ _ (fun e => hk (by rw [e]))⟩

theorem grownBy_putCells (w : World) (b2 o : Nat) (x y z v : Int) : w.grownBy (putCells w b2 o x y z v) (some b2) :=
  grownBy_trans (grownBy_trans (grownBy_trans (grownBy_trans (grownBy_setCell1 w b2 _ _) (grownBy_setCell1 _ b2 _ _)) (grownBy_setCell1 _ b2 _ _)) (grownBy_setCell1 _ b2 _ _)) (grownBy_setCell1 _ b2 _ _)

theorem put_any (b b2 : Nat) (l : List En) (x y z v : Int) (w : World) (h : MemoAt w b b2 l) :
    Calls Try.prog 11 #[.pointer (some ⟨b, 0, none⟩), .agg #[.int .i64 x, .int .i64 y, .int .i64 z], .int .i64 v] w fun e w' => e = .returned (.tuple #[]) ∧
      MemoAt w' b b2 (l.set (slotN l.length x y z) ⟨true, x, y, z, v⟩) ∧ w.grownBy w' (some b2) := by
  refine (put_walk b b2 l x y z v w h).mono ?_
  rintro e w' ⟨rfl, rfl⟩
  have hsl : slotN l.length x y z < l.length := Nat.mod_lt _ h.pos
  have hr := heap_putCells w b2 l _ hsl x y z v h.row
  have hg := grownBy_putCells w b2 (slotN l.length x y z * 5) x y z v
  generalize putCells w b2 (slotN l.length x y z * 5) x y z v = w1 at hr hg
  have hg3 := grownBy_trans hg (grownBy_two w1 (.cells #[.int .i64 x, .int .i64 y, .int .i64 z] 32) (.cells #[.int .i64 x, .int .i64 y, .int .i64 z] 32) (some b2))
  refine ⟨rfl, ⟨?_, ?_, by simpa using h.pos, by simpa using h.most⟩, hg3⟩
  · rw [hg3.block b h.lt (fun e => h.ne (by injection e)), h.hd]; simp
  · rw [heap_two w1 _ _ b2 (Nat.lt_of_lt_of_le h.lt2 hg.size), hr]
end Go.Proofs.Ytnlioepelkdgcaa
