/- count: the arena as it is read; the walks of Term, Value, IsTerm, Get, Has, Var -/
import Derived.Test.YteifllgcpickhaaRows
import Derived.WalkKit
import Derived.WalkSpells
import Derived.WalkLawsBesides
import Derived.Lib.Hide
import Derived.Deep.RegionHeld3
import Derived.Deep.MidRow
import Derived.Deep.QuietTactic
import Derived.BigQuiet
namespace Go.Proofs.Yteifllgcpickhaa
open Go.RowKit

/-- a node -/
structure Nd where
  v : Int
  lo : Int
  hi : Int
  deriving DecidableEq

instance : Inhabited Nd := ⟨⟨0, 0, 0⟩⟩

def Nd.cells (n : Nd) : List Value := [.int .i64 n.v, .int .i64 n.lo, .int .i64 n.hi]
def ncells (l : List Nd) : List Value := l.flatMap Nd.cells
theorem ncells_len (l : List Nd) : (ncells l).length = l.length * 3 := by
  induction l with
  | nil => rfl
  | cons e r ih => simp [ncells, Nd.cells] at *; omega
theorem ncells_get (l : List Nd) (i : Nat) (h : i < l.length) (j : Nat) (hj : j < 3) : (ncells l)[i * 3 + j]? = (l[i]).cells[j]? := by
  induction l generalizing i with
  | nil => simp at h
  | cons e r ih =>
    have hc : (ncells (e :: r)) = e.cells ++ ncells r := rfl
    have hl : e.cells.length = 3 := rfl
    rw [hc]
    cases i with
    | zero => rw [List.getElem?_append_left (by omega)]; simp
    | succ i =>
      rw [List.getElem?_append_right (by omega), hl]
      have := ih i (by simpa using h)
      rw [show (i + 1) * 3 + j - 3 = i * 3 + j by omega, this]
      simp

/-- a row of nodes in memory, whatever its spare room -/
def NodesAt (w : World) (A : Option Addr) (l : List Nd) : Prop :=
  0 < l.length → ∃ b, A = some ⟨b, 0, none⟩ ∧ b < w.heap.size ∧ ∀ i (h : i < l.length),
    w.cell? ⟨b, i * 3, none⟩ = some (.int .i64 l[i].v) ∧ w.cell? ⟨b, i * 3 + 1, none⟩ = some (.int .i64 l[i].lo) ∧ w.cell? ⟨b, i * 3 + 2, none⟩ = some (.int .i64 l[i].hi)
theorem NodesAt.below {w w' : World} {A : Option Addr} {l : List Nd} {B : Nat} (h : NodesAt w A l) (hB : w.heap.size ≤ B) (hb : Below B w w') : NodesAt w' A l := fun hl => by
  obtain ⟨b, hA, hlt, hc⟩ := h hl
  refine ⟨b, hA, Nat.lt_of_lt_of_le hlt hb.size, fun i hi => ?_⟩
  have hbB : b < B := by omega
  rw [hb.cell (by exact hbB), hb.cell (by exact hbB), hb.cell (by exact hbB)]
  exact hc i hi

/-- the program's arena, as far as it is read: its second cell leads to its nodes -/
structure ArRd (w : World) (b : Nat) (l : List Nd) : Prop where
  lt : b < w.heap.size
  len : l.length ≤ 1000
  row : ∃ A cap, w.cell? ⟨b, 1, none⟩ = some (.slice A l.length cap) ∧ NodesAt w A l
theorem ArRd.below {w w' : World} {b B : Nat} {l : List Nd} (h : ArRd w b l) (hB : w.heap.size ≤ B) (hb : Below B w w') : ArRd w' b l := by
  obtain ⟨A, cap, hc, hn⟩ := h.row
  exact ⟨Nat.lt_of_lt_of_le h.lt hb.size, h.len, A, cap, (hb.cell (Nat.lt_of_lt_of_le h.lt hB)).trans hc, hn.below hB hb⟩

theorem wrap_u64 (x : Int) : IntKind.u64.wrap x = x % 18446744073709551616 := by
  simp [IntKind.wrap, IntKind.bits, IntKind.signed]

def low : Int := -1099511627777

theorem term_most (w : World) : Calls Try.prog 43 #[.int .i64 1099511627776] w fun e w' => e = .returned (.int .i64 (-1099511627777)) ∧ w = w' := by
  go_enter Try.func43, Try.ntmps43
  go_wp2
  go_ret
  exact ⟨rfl, rfl⟩

/-- what a ref stands for -/
def valN (f : Int) : Int := if f ≥ 0 ∨ f < low then 0 else -1 - f
theorem valN_neg (f : Int) (h : f < 0) (h2 : low ≤ f) : valN f = -1 - f := by unfold valN; rw [if_neg (by omega)]

theorem value_any (f : Int) (w : World) : Calls Try.prog 25 #[.int .i64 f] w fun e w' => e = .returned (.int .i64 (valN f)) ∧ w = w' := by
  by_cases h : f ≥ 0
  · have hv : valN f = 0 := by unfold valN; rw [if_pos (Or.inl h)]
    rw [hv]
    clear hv
    go_enter Try.func25, Try.ntmps25
    go_wp2_with fail
    go_ret
    exact ⟨rfl, rfl⟩
  · by_cases h2 : f < -1099511627777
    · have hv : valN f = 0 := by unfold valN low; rw [if_pos (Or.inr h2)]
      rw [hv]
      clear hv
      go_enter Try.func25, Try.ntmps25
      go_wp2_with fail
      refine (term_most _).mono ?_
      rintro e w' ⟨rfl, rfl⟩
      go_wp2_with fail
      go_ret
      exact ⟨rfl, rfl⟩
    · have hv : valN f = -1 - f := by unfold valN low; rw [if_neg (by omega)]
      rw [hv]
      clear hv
      go_enter Try.func25, Try.ntmps25
      go_wp2_with fail
      refine (term_most _).mono ?_
      rintro e w' ⟨rfl, rfl⟩
      go_wp2_with fail
      go_ret
      exact ⟨rfl, rfl⟩

theorem isterm_any (f : Int) (w : World) : Calls Try.prog 34 #[.int .i64 f] w fun e w' => e = .returned (.bool (decide (f < 0))) ∧ w = w' := by
  go_enter Try.func34, Try.ntmps34
  go_wp2_with fail
  go_ret
  exact ⟨rfl, rfl⟩

/-- a node, and whether there is one -/
def getN (l : List Nd) (f : Int) : Nd × Bool := if 0 ≤ f ∧ f < l.length then (l[f.toNat]?.getD default, true) else (⟨0, 0, 0⟩, false)
theorem getN_some (l : List Nd) (k : Nat) (h : k < l.length) : getN l k = (l[k], true) := by
  unfold getN; rw [if_pos (by omega)]; simp [h]
theorem getN_none (l : List Nd) (f : Int) (h : ¬ (0 ≤ f ∧ f < l.length)) : getN l f = (⟨0, 0, 0⟩, false) := by
  unfold getN; rw [if_neg h]

def GetEnd (w : World) (r : Nd × Bool) (e : Ending) (w' : World) : Prop :=
  e = .returned (.tuple #[.agg #[.int .i64 r.1.v, .int .i64 r.1.lo, .int .i64 r.1.hi], .bool r.2]) ∧ Below w.heap.size w w'

set_option maxHeartbeats 1000000 in
theorem get_some (b : Nat) (l : List Nd) (k : Nat) (hk : k < l.length) (w : World) (h : ArRd w b l) :
    Calls Try.prog 38 #[.pointer (some ⟨b, 0, none⟩), .int .i64 k] w (GetEnd w (l[k], true)) := by
  obtain ⟨A, cap, hc, hn⟩ := h.row
  obtain ⟨lb, rfl, hlb, hcells⟩ := hn (by omega)
  obtain ⟨c0, c1, c2⟩ := hcells k hk
  have hlen := h.len
  have hlt := h.lt
  have hfin : ∀ O, GetEnd w (l[k], true) (.returned (.tuple #[.agg #[.int .i64 l[k].v, .int .i64 l[k].lo, .int .i64 l[k].hi], .bool true])) (w.alloc O) := fun O => ⟨rfl, (Below.refl _ _).alloc (Nat.le_refl _) _⟩
  have hk0 : ¬ (k : Int) < 0 := by omega
  have hk1 : ¬ (k : Int) ≥ (l.length : Int) := by omega
  clear h hn hcells
  go_enter Try.func38, Try.ntmps38
  go_wp2
  exact bodyPost_ret (v := .tuple #[.agg #[.int .i64 _, .int .i64 _, .int .i64 _], .bool true]) (by simp [results, Try.results38, go_sem]) rfl (hfin _)

set_option maxHeartbeats 1000000 in
theorem get_none (b : Nat) (l : List Nd) (f : Int) (hf : ¬ (0 ≤ f ∧ f < l.length)) (w : World) (h : ArRd w b l) :
    Calls Try.prog 38 #[.pointer (some ⟨b, 0, none⟩), .int .i64 f] w (GetEnd w (⟨0, 0, 0⟩, false)) := by
  obtain ⟨A, cap, hc, hn⟩ := h.row
  have hlen := h.len
  have hlt := h.lt
  have hfin : ∀ O, GetEnd w (⟨0, 0, 0⟩, false) (.returned (.tuple #[.agg #[.int .i64 0, .int .i64 0, .int .i64 0], .bool false])) (w.alloc O) := fun O => ⟨rfl, (Below.refl _ _).alloc (Nat.le_refl _) _⟩
  clear h hn
  by_cases h0 : f < 0
  · clear hf
    go_enter Try.func38, Try.ntmps38
    go_wp2
    exact bodyPost_ret (v := .tuple #[.agg #[.int .i64 _, .int .i64 _, .int .i64 _], .bool false]) (by simp [results, Try.results38, go_sem]) rfl (hfin _)
  · have h1 : f ≥ (l.length : Int) := by omega
    clear hf
    go_enter Try.func38, Try.ntmps38
    go_wp2
    exact bodyPost_ret (v := .tuple #[.agg #[.int .i64 _, .int .i64 _, .int .i64 _], .bool false]) (by simp [results, Try.results38, go_sem]) rfl (hfin _)

theorem get_any (b : Nat) (l : List Nd) (f : Int) (w : World) (h : ArRd w b l) :
    Calls Try.prog 38 #[.pointer (some ⟨b, 0, none⟩), .int .i64 f] w (GetEnd w (getN l f)) := by
  by_cases hf : 0 ≤ f ∧ f < l.length
  · obtain ⟨k, rfl⟩ : ∃ k : Nat, f = k := ⟨f.toNat, by omega⟩
    rw [getN_some l k (by omega)]
    exact get_some b l k (by omega) w h
  · rw [getN_none l f hf]
    exact get_none b l f hf w h

def hasB (l : List Nd) (f : Int) : Bool := decide (low ≤ f) && decide (f < l.length)
def varOf (l : List Nd) (f : Int) : Int := if 0 ≤ f ∧ f < l.length then (l[f.toNat]?.getD default).v else 12

set_option maxHeartbeats 1000000 in
theorem has_any (b : Nat) (l : List Nd) (f : Int) (w : World) (h : ArRd w b l) :
    Calls Try.prog 24 #[.pointer (some ⟨b, 0, none⟩), .int .i64 f] w fun e w' => e = .returned (.bool (hasB l f)) ∧ w = w' := by
  obtain ⟨A, cap, hc, hn⟩ := h.row
  have hlen := h.len
  have hlt := h.lt
  clear h hn
  by_cases h1 : f ≥ -1099511627777
  · have hv : hasB l f = decide (f < (l.length : Int)) := by unfold hasB low; simp; omega
    rw [hv]; clear hv
    go_enter Try.func24, Try.ntmps24
    go_wp2_with fail
    refine (term_most _).mono ?_
    rintro e w1 ⟨rfl, rfl⟩
    go_wp2_with fail
    go_ret
    exact ⟨rfl, rfl⟩
  · have hv : hasB l f = false := by unfold hasB low; simp; omega
    rw [hv]; clear hv
    go_enter Try.func24, Try.ntmps24
    go_wp2_with fail
    refine (term_most _).mono ?_
    rintro e w1 ⟨rfl, rfl⟩
    go_wp2_with fail
    go_ret
    exact ⟨rfl, rfl⟩

set_option maxHeartbeats 1000000 in
theorem var_any (b : Nat) (l : List Nd) (f : Int) (w : World) (h : ArRd w b l) :
    Calls Try.prog 35 #[.pointer (some ⟨b, 0, none⟩), .int .i64 f] w fun e w' => e = .returned (.int .i64 (varOf l f)) ∧ Below w.heap.size w w' := by
  have hg := get_any b l f w h
  by_cases hf : 0 ≤ f ∧ f < l.length
  · have hv : varOf l f = (l[f.toNat]?.getD default).v := by unfold varOf; rw [if_pos hf]
    have hgn : getN l f = (l[f.toNat]?.getD default, true) := by unfold getN; rw [if_pos hf]
    rw [hv]
    rw [hgn] at hg
    generalize l[f.toNat]?.getD default = n at hg
    clear hv hgn hf
    go_enter Try.func35, Try.ntmps35
    go_wp2_with fail
    refine hg.mono ?_
    rintro e w1 ⟨rfl, hB⟩
    go_wp2_with fail
    go_ret

    exact ⟨rfl, hB.alloc hB.size _⟩
  · have hv : varOf l f = 12 := by unfold varOf; rw [if_neg hf]
    rw [getN_none l f hf] at hg
    rw [hv]
    clear hv hf
    go_enter Try.func35, Try.ntmps35
    go_wp2_with fail
    refine hg.mono ?_
    rintro e w1 ⟨rfl, hB⟩
    go_wp2_with fail
    go_ret

    exact ⟨rfl, hB.alloc hB.size _⟩
end Go.Proofs.Yteifllgcpickhaa
