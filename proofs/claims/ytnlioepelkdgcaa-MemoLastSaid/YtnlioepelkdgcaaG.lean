/- memo: the walk of alive -/
import Derived.Test.YtnlioepelkdgcaaF
namespace Go.Proofs.Ytnlioepelkdgcaa
open Go.RowKit

/-- what is told of a key by a memo -/
def getM (l : List En) (x y z : Int) : Int × Bool :=
  match l[slotN l.length x y z]? with
  | some en => (getV en.is (en.x == x && (en.y == y && en.z == z)) en.v, getB en.is (en.x == x && (en.y == y && en.z == z)))
  | none => (0, false)
/-- a memo, a value put -/
def putM (l : List En) (x y z v : Int) : List En := l.set (slotN l.length x y z) ⟨true, x, y, z, v⟩
theorem putM_len (l : List En) (x y z v : Int) : (putM l x y z v).length = l.length := by simp [putM]

theorem get_any (b b2 : Nat) (l : List En) (x y z : Int) (w : World) (h : MemoAt w b b2 l) (v : Int) (r : Bool) (hr : getM l x y z = (v, r)) :
    Calls Try.prog 14 #[.pointer (some ⟨b, 0, none⟩), .agg #[.int .i64 x, .int .i64 y, .int .i64 z]] w fun e w' => e = .returned (.tuple #[.int .i64 v, .bool r]) ∧ Below w.heap.size w w' := by
  have hsl : slotN l.length x y z < l.length := Nat.mod_lt _ h.pos
  have hen := List.getElem?_eq_getElem hsl
  unfold getM at hr
  rw [hen] at hr
  injection hr with h1 h2
  rw [← h1, ← h2]
  exact get_walk b b2 l x y z w h _ hen _ rfl

/-- the memo stands where nothing below B has turned -/
theorem below_of_grown {B : Nat} {w w1 w2 : World} {r : Nat} (h : Below B w w1) (hg : w1.grownBy w2 (some r)) (hr : B ≤ r) (hs : B ≤ w1.heap.size) : Below B w w2 :=
  h.grown hg hs (fun k hk => by injection hk with hk; omega)

set_option maxHeartbeats 2000000 in
theorem alive_any (w : World) : Calls Try.prog 8 #[] w fun e w' => e = .returned (.bool true) ∧ Below w.heap.size w w' := by
  go_enter Try.func8, Try.ntmps8
  go_wp2_with fail
  refine (new_any 1 _).mono ?_
  rintro e w1 ⟨rfl, hM1, hB1⟩
  rw [show List.replicate (sizeN 1) E0 = [E0] from rfl] at hM1
  go_wp2_with fail
  refine (put_any _ _ _ 1 2 3 7 _ hM1).mono ?_
  rintro e w2 ⟨rfl, hM2, hG2⟩
  rw [show [E0].set (slotN [E0].length 1 2 3) ⟨true, 1, 2, 3, 7⟩ = [⟨true, 1, 2, 3, 7⟩] from rfl] at hM2
  go_wp2_with fail
  refine (get_any _ _ _ 1 2 3 _ hM2 7 true rfl).mono ?_
  rintro e w3 ⟨rfl, hB3⟩
  have hM3 := hM2.keep hB3.block
  go_wp2_with fail
  refine (put_any _ _ _ 0 0 0 8 _ hM3).mono ?_
  rintro e w4 ⟨rfl, hM4, hG4⟩
  rw [show ([⟨true, 1, 2, 3, 7⟩] : List En).set (slotN ([⟨true, 1, 2, 3, 7⟩] : List En).length 0 0 0) ⟨true, 0, 0, 0, 8⟩ = [⟨true, 0, 0, 0, 8⟩] from rfl] at hM4
  go_wp2_with fail
  refine (get_any _ _ _ 1 2 3 _ hM4 0 false rfl).mono ?_
  rintro e w5 ⟨rfl, hB5⟩
  have hM5 := hM4.keep hB5.block
  go_wp2_with fail
  refine (len_any _ _ _ _ _ hM5.rd).mono ?_
  rintro e w6 ⟨rfl, hB6⟩
  have hM6 := hM5.keep hB6.block
  go_wp2_with fail
  refine (clear_any _ _ _ _ hM6).mono ?_
  rintro e w7 ⟨rfl, hM7, hG7⟩
  rw [show List.replicate ([⟨true, 0, 0, 0, 8⟩] : List En).length E0 = [E0] from rfl] at hM7
  rw [show cnt [⟨true, 0, 0, 0, 8⟩] = 1 from rfl]
  have hlt : w.heap.size ≤ w1.heap.size := hB1.size
  have q2 := below_of_grown hB1 hG2 (Nat.le_refl _) hB1.size
  have q3 := q2.trans (hB3.mono q2.size)
  have q4 := below_of_grown q3 hG4 (Nat.le_refl _) q3.size
  have q5 := q4.trans (hB5.mono q4.size)
  have q6 := q5.trans (hB6.mono q5.size)
  have q7 := below_of_grown q6 hG7 (Nat.le_refl _) q6.size
  clear hM1 hM2 hM3 hM4 hM5 hM6 hB1 hB3 hB5 hB6 hG2 hG4 hG7 q2 q3 q4 q5 q6
  go_wp2_with fail
  refine (len_any _ _ _ _ _ hM7.rd).mono ?_
  rintro e w8 ⟨rfl, hB8⟩
  have hM8 := hM7.keep hB8.block
  rw [show cnt [E0] = 0 from rfl]
  go_wp2_with fail
  refine (size_rd _ _ _ _ _ hM8.rd).mono ?_
  rintro e w9 ⟨rfl, rfl⟩
  rw [show ([E0] : List En).length = 1 from rfl]
  go_wp2_with fail
  go_ret
  exact ⟨rfl, q7.trans (hB8.mono q7.size)⟩
end Go.Proofs.Ytnlioepelkdgcaa
