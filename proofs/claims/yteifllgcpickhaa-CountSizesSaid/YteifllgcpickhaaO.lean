/- count: the arguments opened -/
import Derived.Test.YteifllgcpickhaaBC
import Derived.ProofKit
import Derived.OpenShut
import Derived.Deep.Slices
namespace Go.Proofs.Yteifllgcpickhaa
open Go.ChangeShapes Go.WideShapes Go.ChangeAt Go.RowKit Go.Deep

theorem Try.own : ownKnob Try.prog.godebug = none := by kernel_rfl
theorem Try.laidOut : laidOutB Try.prog = true := by kernel_rfl
theorem Try.cells3 : Try.prog.cellsOf 3 = 1 := by kernel_rfl
theorem Try.cells60 : Try.prog.cellsOf 60 = 3 := by kernel_rfl

section
variable {H : Type} {enc : TypeId × Value → H}

set_option maxRecDepth 100000 in
theorem trod_op {w : World} {base fuel : Nat} {spare : Nat → Bool} {held : Bool} {cs : List Value} {x : DataW H × List MemPlace} (hl : cs.length = 3)
    (h : DataW.trod enc Try.prog w base spare held fuel 60 cs = some x) : ∃ p : Nd, cs = [.int .i64 p.v, .int .i64 p.lo, .int .i64 p.hi] := by
  obtain ⟨ys, n', hn', hy, hlen, hyl, hf⟩ := DataW.trod_struct Try.underlying60 h
  have g0 : DataW.trod enc Try.prog w base spare held n' 3 (List.take (Try.prog.cellsOf 3) (List.drop 0 cs)) = ys[0]? := hf 0 _ rfl
  have g1 : DataW.trod enc Try.prog w base spare held n' 3 (List.take (Try.prog.cellsOf 3) (List.drop 1 cs)) = ys[1]? := hf 1 _ rfl
  have g2 : DataW.trod enc Try.prog w base spare held n' 3 (List.take (Try.prog.cellsOf 3) (List.drop 2 cs)) = ys[2]? := hf 2 _ rfl
  have hyl2 : ys.length = 3 := hyl
  rw [Try.cells3] at g0 g1 g2
  match cs, hl with
  | [c0, c1, c2], _ =>
    rw [List.getElem?_eq_getElem (by omega)] at g0 g1 g2
    obtain ⟨x, e0, _, _⟩ := DataW.trod_int Try.underlying3 g0
    obtain ⟨y, e1, _, _⟩ := DataW.trod_int Try.underlying3 g1
    obtain ⟨z, e2, _, _⟩ := DataW.trod_int Try.underlying3 g2
    simp at e0 e1 e2
    exact ⟨⟨x, y, z⟩, by simp [e0, e1, e2]⟩

set_option maxRecDepth 100000 in
theorem open_pair {w : World} {base b0 : Nat} {r : Reach} {spare : Nat → Bool} {held : Bool} {t : TypeId} {v : Value} {d : DataW H} {ps : List MemPlace} (hu : Try.prog.underlying t = some (.array 2 3)) (hC : Try.prog.cellsOf t = 2)
    (hv : Value.okWide Try.prog w r b0 t v) (h : DataW.Trod enc Try.prog w base spare held t v d ps) : ∃ x y, v = .agg #[.int .i64 x, .int .i64 y] := by
  simp only [Value.okWide, hu] at hv
  obtain ⟨cs, rfl, hsz, _⟩ := hv
  obtain ⟨fuel, hf⟩ := h
  rw [hC] at hsz
  obtain ⟨xs, m, _, _, _, hxl, hg⟩ := DataW.trod_array hu hf
  obtain ⟨l⟩ := cs
  match l, hsz with
  | [c0, c1], _ =>
    have g0 := hg 0 (by omega)
    have g1 := hg 1 (by omega)
    rw [Try.cells3] at g0 g1
    rw [List.getElem?_eq_getElem (by omega)] at g0 g1
    obtain ⟨x, e0, _, _⟩ := DataW.trod_int Try.underlying3 g0
    obtain ⟨y, e1, _, _⟩ := DataW.trod_int Try.underlying3 g1
    simp [Value.cells] at e0 e1
    exact ⟨x, y, by rw [e0, e1]⟩

set_option maxRecDepth 100000 in
theorem open_ops {w : World} {b0 : Nat} {r : Reach} {v : Value} {d : DataW H} {ps : List MemPlace}
    (hv : Value.okWide Try.prog w r b0 22 v) (h : DataW.Trod enc Try.prog w 0 (fun _ => true) true 22 v d ps) :
    ∃ A cap l, v = .slice A (List.length l) cap ∧ (List.length l ≤ maxLen ∧ l.length ≤ cap ∧ cap ≤ maxLen) ∧ OpsRd w A l := by
  obtain ⟨A, len, cap, rfl⟩ := okWide_slice Try.underlying22 hv
  obtain ⟨fuel, hf⟩ := h
  rcases open_slice Try.underlying22 hf with ⟨hcs, _⟩ | ⟨a, len', cap', m, n, D, Pl, hcs, hb, hl, hm, hmm, hx, hi⟩
  · simp [Value.cells] at hcs
    obtain ⟨rfl, rfl, rfl⟩ := hcs
    exact ⟨none, 0, [], rfl, ⟨Nat.zero_le _, Nat.zero_le _, Nat.zero_le _⟩, fun h => absurd h (by simp)⟩
  · simp [Value.cells] at hcs
    obtain ⟨rfl, rfl, rfl⟩ := hcs
    have hall : ∀ i, i < len → ∃ p : Nd, ∀ j v, [Value.int .i64 p.v, .int .i64 p.lo, .int .i64 p.hi][j]? = some v → w.cell? (a.add (i * 3 + j)) = some v := fun i hil => by
      obtain ⟨cs', hc, ht'⟩ := hi i (by rw [hmm]; split <;> omega)
      rw [Try.cells60] at hc
      obtain ⟨_, hcl, hat⟩ := World.cells?_some hc
      obtain ⟨p, rfl⟩ := trod_op hcl ht'
      refine ⟨p, fun j v hj => ?_⟩
      have hj4 : j < 3 := by
        have := (List.getElem?_eq_some_iff.1 hj).1
        simpa using this
      rw [← Go.Deep.add_add, hat j hj4, hj]
    obtain ⟨f, hf'⟩ := choose_lt hall
    refine ⟨some a, cap, (List.range len).map f, by simp, ⟨by simp; omega, by simp; omega, hm⟩, fun hl0 => ?_⟩
    have h00 := hf' 0 (by simpa using hl0) 0 _ rfl
    obtain ⟨b, off, spot⟩ := a
    have hspot : spot = none := by simpa [Addr.add] using World.cell?_spot h00
    subst hspot
    refine ⟨b, off, rfl, by have := World.block_lt_of_cell? w _ h00; simpa [Addr.add] using this, fun i hil => ?_⟩
    have hil' : i < len := by simpa using hil
    have g := hf' i hil'
    simp only [Addr.add_mid, ← Nat.add_assoc] at g
    simp only [List.getElem_map, List.getElem_range]
    exact ⟨g 0 _ rfl, g 1 _ rfl, g 2 _ rfl⟩
end
end Go.Proofs.Yteifllgcpickhaa
