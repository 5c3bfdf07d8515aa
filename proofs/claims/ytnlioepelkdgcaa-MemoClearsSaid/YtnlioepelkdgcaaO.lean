/- memo: the arguments opened -/
import Derived.Test.YtnlioepelkdgcaaF
import Derived.ProofKit
import Derived.OpenShut
import Derived.Deep.Slices
namespace Go.Proofs.Ytnlioepelkdgcaa
open Go.ChangeShapes Go.WideShapes Go.ChangeAt Go.RowKit Go.Deep

theorem Try.own : ownKnob Try.prog.godebug = none := by kernel_rfl
theorem Try.laidOut : laidOutB Try.prog = true := by kernel_rfl
theorem Try.cells3 : Try.prog.cellsOf 3 = 1 := by kernel_rfl
theorem Try.cells28 : Try.prog.cellsOf 28 = 3 := by kernel_rfl
theorem Try.cells30 : Try.prog.cellsOf 30 = 4 := by kernel_rfl

section
variable {H : Type} {enc : TypeId × Value → H}

theorem trod_three {w : World} {base fuel : Nat} {spare : Nat → Bool} {held : Bool} {t : TypeId} {cs : List Value} {x : DataW H × List MemPlace} (hu : Try.prog.underlying t = some (.array 3 3)) (hl : cs.length = 3)
    (h : DataW.trod enc Try.prog w base spare held fuel t cs = some x) : ∃ x y z, cs = [.int .i64 x, .int .i64 y, .int .i64 z] := by
  obtain ⟨xs, m, _, _, _, hxl, hg⟩ := DataW.trod_array hu h
  match cs, hl with
  | [c0, c1, c2], _ =>
    have g0 := hg 0 (by omega)
    have g1 := hg 1 (by omega)
    have g2 := hg 2 (by omega)
    rw [Try.cells3] at g0 g1 g2
    rw [List.getElem?_eq_getElem (by omega)] at g0 g1 g2
    obtain ⟨x, e0, _, _⟩ := DataW.trod_int Try.underlying3 g0
    obtain ⟨y, e1, _, _⟩ := DataW.trod_int Try.underlying3 g1
    obtain ⟨z, e2, _, _⟩ := DataW.trod_int Try.underlying3 g2
    simp at e0 e1 e2
    exact ⟨x, y, z, by rw [e0, e1, e2]⟩

theorem open_three {w : World} {base b0 : Nat} {r : Reach} {spare : Nat → Bool} {held : Bool} {t : TypeId} {v : Value} {d : DataW H} {ps : List MemPlace} (hu : Try.prog.underlying t = some (.array 3 3)) (hC : Try.prog.cellsOf t = 3)
    (hv : Value.okWide Try.prog w r b0 t v) (h : DataW.Trod enc Try.prog w base spare held t v d ps) : ∃ x y z, v = .agg #[.int .i64 x, .int .i64 y, .int .i64 z] := by
  simp only [Value.okWide, hu] at hv
  obtain ⟨cs, rfl, hsz, _⟩ := hv
  obtain ⟨fuel, hf⟩ := h
  rw [hC] at hsz
  obtain ⟨x, y, z, e⟩ := trod_three hu (by simpa [Value.cells] using hsz) hf
  refine ⟨x, y, z, ?_⟩
  simp only [Value.cells] at e
  rw [← Array.toArray_toList (xs := cs), e]

theorem trod_put {w : World} {base fuel : Nat} {spare : Nat → Bool} {held : Bool} {cs : List Value} {x : DataW H × List MemPlace} (hl : cs.length = 4)
    (h : DataW.trod enc Try.prog w base spare held fuel 30 cs = some x) : ∃ p : Pt, cs = [.int .i64 p.x, .int .i64 p.y, .int .i64 p.z, .int .i64 p.v] := by
  obtain ⟨ys, n', hn', hy, hlen, hyl, hf⟩ := DataW.trod_struct Try.underlying30 h
  have g0 : DataW.trod enc Try.prog w base spare held n' 28 (List.take (Try.prog.cellsOf 28) (List.drop 0 cs)) = ys[0]? := hf 0 _ rfl
  have g1 : DataW.trod enc Try.prog w base spare held n' 3 (List.take (Try.prog.cellsOf 3) (List.drop 3 cs)) = ys[1]? := hf 1 _ rfl
  have hyl2 : ys.length = 2 := hyl
  rw [Try.cells28] at g0
  rw [Try.cells3] at g1
  match cs, hl with
  | [c0, c1, c2, c3], _ =>
    rw [List.getElem?_eq_getElem (by omega)] at g0 g1
    obtain ⟨x, y, z, e⟩ := trod_three Try.underlying28 (by simp) g0
    obtain ⟨v, e3, _, _⟩ := DataW.trod_int Try.underlying3 g1
    simp at e e3
    exact ⟨⟨x, y, z, v⟩, by simp [e, e3]⟩

instance : Inhabited Pt := ⟨⟨0, 0, 0, 0⟩⟩

theorem open_puts {w : World} {b0 : Nat} {r : Reach} {v : Value} {d : DataW H} {ps : List MemPlace}
    (hv : Value.okWide Try.prog w r b0 22 v) (h : DataW.Trod enc Try.prog w 0 (fun _ => true) true 22 v d ps) :
    ∃ A cap l, v = .slice A (List.length l) cap ∧ (List.length l ≤ maxLen ∧ l.length ≤ cap ∧ cap ≤ maxLen) ∧ PutsRd w A l := by
  obtain ⟨A, len, cap, rfl⟩ := okWide_slice Try.underlying22 hv
  obtain ⟨fuel, hf⟩ := h
  rcases open_slice Try.underlying22 hf with ⟨hcs, _⟩ | ⟨a, len', cap', m, n, D, Pl, hcs, hb, hl, hm, hmm, hx, hi⟩
  · simp [Value.cells] at hcs
    obtain ⟨rfl, rfl, rfl⟩ := hcs
    exact ⟨none, 0, [], rfl, ⟨Nat.zero_le _, Nat.zero_le _, Nat.zero_le _⟩, fun h => absurd h (by simp)⟩
  · simp [Value.cells] at hcs
    obtain ⟨rfl, rfl, rfl⟩ := hcs
    have hall : ∀ i, i < len → ∃ p : Pt, ∀ j v, [Value.int .i64 p.x, .int .i64 p.y, .int .i64 p.z, .int .i64 p.v][j]? = some v → w.cell? (a.add (i * 4 + j)) = some v := fun i hil => by
      obtain ⟨cs', hc, ht'⟩ := hi i (by rw [hmm]; split <;> omega)
      rw [Try.cells30] at hc
      obtain ⟨_, hcl, hat⟩ := World.cells?_some hc
      obtain ⟨p, rfl⟩ := trod_put hcl ht'
      refine ⟨p, fun j v hj => ?_⟩
      have hj4 : j < 4 := by
        have := (List.getElem?_eq_some_iff.1 hj).1
        simpa using this
      rw [← Go.Deep.add_add, hat j hj4, hj]
    obtain ⟨f, hf'⟩ := choose_lt hall
    refine ⟨some a, cap, (List.range len).map f, by simp, ⟨by simp; omega, by simp; omega, hm⟩, fun hl0 => ?_⟩
    have h00 := hf' 0 (by simpa using hl0) 0 _ rfl
    obtain ⟨b, off, spot⟩ := a
    have hspot : spot = none := by simpa [Addr.add] using World.cell?_spot h00
    subst hspot
    refine ⟨b, off, rfl, by have := World.block_lt_of_cell? w _ h00; simpa [Addr.add] using this, fun i hil => ?_⟩
    have hil' : i < len := by simpa using hil
    have g := hf' i hil'
    simp only [Addr.add_mid, ← Nat.add_assoc] at g
    simp only [List.getElem_map, List.getElem_range]
    exact ⟨g 0 _ rfl, g 1 _ rfl, g 2 _ rfl, g 3 _ rfl⟩

/-- a slice of keys, as it lies in memory -/
def KeysRd (w : World) (A : Option Addr) (l : List Pt) : Prop :=
  0 < l.length → ∃ b off, A = some ⟨b, off, none⟩ ∧ b < w.heap.size ∧ ∀ i (h : i < l.length),
    w.cell? ⟨b, off + i * 3, none⟩ = some (.int .i64 l[i].x) ∧ w.cell? ⟨b, off + i * 3 + 1, none⟩ = some (.int .i64 l[i].y) ∧ w.cell? ⟨b, off + i * 3 + 2, none⟩ = some (.int .i64 l[i].z)

theorem open_keys {w : World} {b0 : Nat} {r : Reach} {v : Value} {d : DataW H} {ps : List MemPlace}
    (hv : Value.okWide Try.prog w r b0 23 v) (h : DataW.Trod enc Try.prog w 0 (fun _ => true) true 23 v d ps) :
    ∃ A cap l, v = .slice A (List.length l) cap ∧ (List.length l ≤ maxLen ∧ l.length ≤ cap ∧ cap ≤ maxLen) ∧ KeysRd w A l := by
  obtain ⟨A, len, cap, rfl⟩ := okWide_slice Try.underlying23 hv
  obtain ⟨fuel, hf⟩ := h
  rcases open_slice Try.underlying23 hf with ⟨hcs, _⟩ | ⟨a, len', cap', m, n, D, Pl, hcs, hb, hl, hm, hmm, hx, hi⟩
  · simp [Value.cells] at hcs
    obtain ⟨rfl, rfl, rfl⟩ := hcs
    exact ⟨none, 0, [], rfl, ⟨Nat.zero_le _, Nat.zero_le _, Nat.zero_le _⟩, fun h => absurd h (by simp)⟩
  · simp [Value.cells] at hcs
    obtain ⟨rfl, rfl, rfl⟩ := hcs
    have hall : ∀ i, i < len → ∃ p : Pt, ∀ j v, [Value.int .i64 p.x, .int .i64 p.y, .int .i64 p.z][j]? = some v → w.cell? (a.add (i * 3 + j)) = some v := fun i hil => by
      obtain ⟨cs', hc, ht'⟩ := hi i (by rw [hmm]; split <;> omega)
      rw [Try.cells28] at hc
      obtain ⟨_, hcl, hat⟩ := World.cells?_some hc
      obtain ⟨x, y, z, rfl⟩ := trod_three Try.underlying28 hcl ht'
      refine ⟨⟨x, y, z, 0⟩, fun j v hj => ?_⟩
      have hj4 : j < 3 := by
        have := (List.getElem?_eq_some_iff.1 hj).1
        simpa using this
      rw [← Go.Deep.add_add, hat j hj4, hj]
    obtain ⟨f, hf'⟩ := choose_lt hall
    refine ⟨some a, cap, (List.range len).map f, by simp, ⟨by simp; omega, by simp; omega, hm⟩, fun hl0 => ?_⟩
    have h00 := hf' 0 (by simpa using hl0) 0 _ rfl
    obtain ⟨b, off, spot⟩ := a
    have hspot : spot = none := by simpa [Addr.add] using World.cell?_spot h00
    subst hspot
    refine ⟨b, off, rfl, by have := World.block_lt_of_cell? w _ h00; simpa [Addr.add] using this, fun i hil => ?_⟩
    have hil' : i < len := by simpa using hil
    have g := hf' i hil'
    simp only [Addr.add_mid, ← Nat.add_assoc] at g
    simp only [List.getElem_map, List.getElem_range]
    exact ⟨g 0 _ rfl, g 1 _ rfl, g 2 _ rfl⟩

/-- two puts, by value -/
theorem open_two {w : World} {base b0 : Nat} {r : Reach} {spare : Nat → Bool} {held : Bool} {v : Value} {d : DataW H} {ps : List MemPlace}
    (hv : Value.okWide Try.prog w r b0 42 v) (h : DataW.Trod enc Try.prog w base spare held 42 v d ps) :
    ∃ p q : Pt, v = .agg #[.int .i64 p.x, .int .i64 p.y, .int .i64 p.z, .int .i64 p.v, .int .i64 q.x, .int .i64 q.y, .int .i64 q.z, .int .i64 q.v] := by
  simp only [Value.okWide, Try.underlying42] at hv
  obtain ⟨cs, rfl, hsz, _⟩ := hv
  obtain ⟨fuel, hf⟩ := h
  rw [show Try.prog.cellsOf 42 = 8 by kernel_rfl] at hsz
  obtain ⟨xs, m, _, _, _, hxl, hg⟩ := DataW.trod_array Try.underlying42 hf
  obtain ⟨l⟩ := cs
  match l, hsz with
  | [c0, c1, c2, c3, c4, c5, c6, c7], _ =>
    have g0 := hg 0 (by omega)
    have g1 := hg 1 (by omega)
    rw [Try.cells30] at g0 g1
    rw [List.getElem?_eq_getElem (by omega)] at g0 g1
    obtain ⟨p, e0⟩ := trod_put (by simp [Value.cells]) g0
    obtain ⟨q, e1⟩ := trod_put (by simp [Value.cells]) g1
    simp [Value.cells] at e0 e1
    exact ⟨p, q, by simp [e0, e1]⟩
end
end Go.Proofs.Ytnlioepelkdgcaa
