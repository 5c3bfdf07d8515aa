/- count: the document's arena as it is read: lowest, Value, Has, Var -/
import Derived.Test.YteifllgcpickhaaL
namespace Go.Proofs.Yteifllgcpickhaa
open Go.RowKit

theorem rlowest (w : World) : Calls Try.prog 48 #[] w fun e w' => e = .returned (.int .i64 (-1099511627777)) ∧ w = w' := by
  go_enter Try.func48, Try.ntmps48
  go_wp2
  go_ret
  exact ⟨rfl, rfl⟩

theorem rvalue_any (f : Int) (w : World) : Calls Try.prog 42 #[.int .i64 f] w fun e w' => e = .returned (.int .i64 (valN f)) ∧ w = w' := by
  by_cases h : f ≥ 0
  · have hv : valN f = 0 := by unfold valN; rw [if_pos (Or.inl h)]
    rw [hv]
    clear hv
    go_enter Try.func42, Try.ntmps42
    go_wp2_with fail
    go_ret
    exact ⟨rfl, rfl⟩
  · by_cases h2 : f < -1099511627777
    · have hv : valN f = 0 := by unfold valN low; rw [if_pos (Or.inr h2)]
      rw [hv]
      clear hv
      go_enter Try.func42, Try.ntmps42
      go_wp2_with fail
      refine (rlowest _).mono ?_
      rintro e w' ⟨rfl, rfl⟩
      go_wp2_with fail
      go_ret
      exact ⟨rfl, rfl⟩
    · have hv : valN f = -1 - f := by unfold valN low; rw [if_neg (by omega)]
      have e1 : IntKind.i64.wrap (0 - f) = 0 - f := by rw [IntKind.wrap_i64]; omega
      have e1' : IntKind.i64.wrap (-f) = -f := by rw [IntKind.wrap_i64]; omega
      have e2 : IntKind.i64.wrap (0 - f - 1) = -1 - f := by rw [IntKind.wrap_i64]; omega
      have e3 : IntKind.i64.wrap (-f - 1) = -1 - f := by rw [IntKind.wrap_i64]; omega
      rw [hv]
      clear hv
      go_enter Try.func42, Try.ntmps42
      go_wp2_with fail
      refine (rlowest _).mono ?_
      rintro e w' ⟨rfl, rfl⟩
      go_wp2_with fail
      go_ret
      exact ⟨by simp <;> omega, rfl⟩

set_option maxHeartbeats 1000000 in
theorem rhas_any (lim : Int) (A : Option Addr) (cap : Nat) (l : List Nd) (f : Int) (w : World) :
    Calls Try.prog 31 #[.agg #[.int .i64 lim, .slice A l.length cap], .int .i64 f] w fun e w' => e = .returned (.bool (hasB l f)) ∧ Below w.heap.size w w' := by
  by_cases h1 : f ≥ -1099511627777
  · have hv : hasB l f = decide (f < (l.length : Int)) := by unfold hasB low; simp; omega
    rw [hv]; clear hv
    go_enter Try.func31, Try.ntmps31
    go_wp2_with fail
    refine (rlowest _).mono ?_
    rintro e w1 ⟨rfl, rfl⟩
    go_wp2_with fail
    go_ret
    exact ⟨rfl, (Below.refl _ _).alloc (Nat.le_refl _) _⟩
  · have hv : hasB l f = false := by unfold hasB low; simp; omega
    rw [hv]; clear hv
    go_enter Try.func31, Try.ntmps31
    go_wp2_with fail
    refine (rlowest _).mono ?_
    rintro e w1 ⟨rfl, rfl⟩
    go_wp2_with fail
    go_ret
    exact ⟨rfl, (Below.refl _ _).alloc (Nat.le_refl _) _⟩

set_option maxHeartbeats 1000000 in
theorem rvar_any (lim : Int) (A : Option Addr) (cap : Nat) (l : List Nd) (f : Int) (w : World) (hn : NodesAt w A l) :
    Calls Try.prog 44 #[.agg #[.int .i64 lim, .slice A l.length cap], .int .i64 f] w fun e w' => e = .returned (.int .i64 (varOf l f)) ∧ Below w.heap.size w w' := by
  by_cases h0 : f < 0
  · have hv : varOf l f = 12 := by unfold varOf; rw [if_neg (by omega)]
    rw [hv]; clear hv
    go_enter Try.func44, Try.ntmps44
    go_wp2_with fail
    go_ret
    exact ⟨rfl, (Below.refl _ _).alloc (Nat.le_refl _) _⟩
  · by_cases h1 : f ≥ (l.length : Int)
    · have hv : varOf l f = 12 := by unfold varOf; rw [if_neg (by omega)]
      rw [hv]; clear hv
      go_enter Try.func44, Try.ntmps44
      go_wp2_with fail
      go_ret
      exact ⟨rfl, (Below.refl _ _).alloc (Nat.le_refl _) _⟩
    · obtain ⟨k, rfl⟩ : ∃ k : Nat, f = k := ⟨f.toNat, by omega⟩
      have hk : k < l.length := by omega
      obtain ⟨lb, rfl, hlb, hcells⟩ := hn (by omega)
      obtain ⟨c0, c1, c2⟩ := hcells k hk
      have hv : varOf l k = l[k].v := by unfold varOf; rw [if_pos (by omega)]; simp [hk]
      rw [hv]; clear hv hcells hn
      go_enter Try.func44, Try.ntmps44
      go_wp2_with fail
      go_ret
      exact ⟨rfl, (Below.refl _ _).alloc (Nat.le_refl _) _⟩
end Go.Proofs.Yteifllgcpickhaa
