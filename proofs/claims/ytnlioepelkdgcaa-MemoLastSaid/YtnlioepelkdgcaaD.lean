/- memo: the walks of Get, Len, Clear -/
import Derived.Test.YtnlioepelkdgcaaC
import Derived.ChangeKeysEq
namespace Go.Proofs.Ytnlioepelkdgcaa
open Go.RowKit

theorem Try.info3' : (Try.prog.info? 3).map (fun i => (i.zero, i.size, i.bytes)) = some (some (.int .i64 0), 1, 8) := by kernel_rfl

theorem below3 (w : World) (A B C : Obj) : Below w.heap.size w (((w.alloc A).alloc B).alloc C).drew :=
  ((((Below.refl _ _).alloc (Nat.le_refl _) _).alloc (by simp) _).alloc (by simp; omega) _).drew

theorem eq3 (t d : Nat) (ht : Try.prog.underlying t = some (.array 3 3)) (w : World) (a b c x y z : Int) :
    (Op.equalIn (d + 2) t (.agg #[.int .i64 a, .int .i64 b, .int .i64 c]) (.agg #[.int .i64 x, .int .i64 y, .int .i64 z])).run Try.prog w = .ok (a == x && (b == y && c == z)) w := by
  have hs : Try.prog.cellsOf 3 = 1 := by kernel_rfl
  have hg : ∀ w, (isAgg 3).run Try.prog w = .ok false w := fun _ => by kernel_rfl
  have hq : ∀ (u v : Int) w, (Op.equalIn (d + 1) 3 (.int .i64 u) (.int .i64 v)).run Try.prog w = .ok (u == v) w := fun u v w => run_equalIn_int w d 3 .i64 .i64 u v Try.underlying3
  obtain ⟨i, hi, _⟩ := info_parts Try.info3'
  rw [run_equalIn_array w (d + 1) _ _ ht hi, hs]
  have hr : List.range 3 = [0, 1, 2] := rfl
  rw [hr]
  simp only [Op.eqItems, Sem.run_bind, part, hg, Result.andThen_ok, Bool.false_eq_true, if_false, Nat.mul_one, List.getElem?_toArray, List.getElem?_cons_zero, List.getElem?_cons_succ, Sem.run_pure, hq]
  by_cases h1 : a = x <;> by_cases h2 : b = y <;> by_cases h3 : c = z <;> simp [h1, h2, h3, hq]
theorem neq_key (t : Nat) (ht : Try.prog.underlying t = some (.array 3 3)) (w : World) (a b c x y z : Int) : (binOp .neq t (.agg #[.int .i64 a, .int .i64 b, .int .i64 c]) (.agg #[.int .i64 x, .int .i64 y, .int .i64 z])).run Try.prog w = .ok (.bool (!(a == x && (b == y && c == z)))) w := by
  rw [run_neq_struct, show (10000 : Nat) = 9998 + 2 from rfl, eq3 t _ ht]; rfl
theorem eql_key (t : Nat) (ht : Try.prog.underlying t = some (.array 3 3)) (w : World) (a b c x y z : Int) : (binOp .eql t (.agg #[.int .i64 a, .int .i64 b, .int .i64 c]) (.agg #[.int .i64 x, .int .i64 y, .int .i64 z])).run Try.prog w = .ok (.bool (a == x && (b == y && c == z))) w := by
  rw [run_eql_struct, show (10000 : Nat) = 9998 + 2 from rfl, eq3 t _ ht]; rfl
def getB (bo r : Bool) : Bool := bo && r
def getV (bo r : Bool) (v : Int) : Int := if bo && r then v else 0

set_option maxHeartbeats 1000000 in
theorem get_walk (b b2 : Nat) (l : List En) (x y z : Int) (w : World) (h : MemoAt w b b2 l) (en : En) (hen : l[slotN l.length x y z]? = some en) (bo : Bool) (hno : en.is = bo) :
    Calls Try.prog 14 #[.pointer (some ⟨b, 0, none⟩), .agg #[.int .i64 x, .int .i64 y, .int .i64 z]] w fun e w' => e = .returned (.tuple #[.int .i64 (getV bo (en.x == x && (en.y == y && en.z == z)) en.v), .bool (getB bo (en.x == x && (en.y == y && en.z == z)))]) ∧ Below w.heap.size w w' := by
  have hlt := h.lt
  have hlt' : b < w.heap.size + 1 := by omega
  have hlt2 := h.lt2
  have hlt2' : b2 < w.heap.size + 1 := by omega
  have hlt'' : b < w.heap.size + 2 := by omega
  have hlt2'' : b2 < w.heap.size + 2 := by omega
  have hx1 : b ≠ w.heap.size := by omega
  have hx2 : b ≠ w.heap.size + 1 := by omega
  have hx3 : b ≠ w.heap.size + 2 := by omega
  have hy1 : b2 ≠ w.heap.size := by omega
  have hy2 : b2 ≠ w.heap.size + 1 := by omega
  have hy3 : b2 ≠ w.heap.size + 2 := by omega
  have hc := h.cell
  have hsl : slotN l.length x y z < l.length := Nat.mod_lt _ h.pos
  rw [List.getElem?_eq_getElem hsl] at hen
  have hen' : l[slotN l.length x y z] = en := by injection hen
  have c0 := h.at _ 0 hsl (by omega)
  have c1 := h.at _ 1 hsl (by omega)
  have c2 := h.at _ 2 hsl (by omega)
  have c3 := h.at _ 3 hsl (by omega)
  have c4 := h.at _ 4 hsl (by omega)
  rw [hen'] at c0 c1 c2 c3 c4
  simp only [En.cells, Nat.add_zero, List.getElem?_cons_zero, List.getElem?_cons_succ] at c0 c1 c2 c3 c4
  rw [hno] at c0
  have hpos := h.pos
  have hmost := h.most
  clear h hen hen' hno
  have hnk := fun w => neq_key 32 Try.underlying32 w en.x en.y en.z x y z
  generalize (en.x == x && (en.y == y && en.z == z)) = r at hnk ⊢
  have hnk' : ∀ w, (binOp .neq 32 (.agg #[.int .i64 en.x, .int .i64 en.y, .int .i64 en.z]) (.agg #[.int .i64 x, .int .i64 y, .int .i64 z])).run Try.prog w = .ok (.bool (!r)) w := hnk
  clear hnk
  go_enter Try.func14, Try.ntmps14
  go_wp2_with fail
  go_region_held3 (fun w' => w'.cell? ⟨b, 0, none⟩ = some (.slice (some ⟨b2, 0, none⟩) l.length l.length) ∧ w'.cell? ⟨w.heap.size, 0, none⟩ = some (.int .i64 x) ∧ w'.cell? ⟨w.heap.size, 1, none⟩ = some (.int .i64 y) ∧ w'.cell? ⟨w.heap.size, 2, none⟩ = some (.int .i64 z)
      ∧ w'.cell? ⟨b2, slotN l.length x y z * 5, none⟩ = some (.bool bo) ∧ w'.cell? ⟨b2, slotN l.length x y z * 5 + 1, none⟩ = some (.int .i64 en.x) ∧ w'.cell? ⟨b2, slotN l.length x y z * 5 + 2, none⟩ = some (.int .i64 en.y)
      ∧ w'.cell? ⟨b2, slotN l.length x y z * 5 + 3, none⟩ = some (.int .i64 en.z) ∧ w'.cell? ⟨b2, slotN l.length x y z * 5 + 4, none⟩ = some (.int .i64 en.v))
    (first | (go_keep; done) | (and_intros <;> first | (go_keep; done) | (simp [*, World.cell?_alloc_past]; done)))
    (first | (go_at_call 16; refine (slot_any b b2 l.length x y z _ ?_ hpos hmost).mono ?_; (simp [*]); rintro e w' ⟨rfl, rfl⟩))
  all_goals go_wp2
  all_goals go_ret2
  all_goals exact ⟨by simp_all [getB, getV], below3 w _ _ _⟩
end Go.Proofs.Ytnlioepelkdgcaa
