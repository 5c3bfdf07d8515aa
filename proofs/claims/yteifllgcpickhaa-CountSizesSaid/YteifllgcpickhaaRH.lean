/- count: the document's One -/
import Derived.Test.YteifllgcpickhaaRF
import Derived.Test.YteifllgcpickhaaP4
import Derived.Outline
namespace Go.Proofs.Yteifllgcpickhaa
open Go.RowKit

/-- the document's arena in its box -/
theorem ref_box (w : World) (lim : Int) (A : Option Addr) (l : List Nd) (cap : Nat) :
    Below w.heap.size w (w.alloc (.cells #[.int .i64 lim, .slice A l.length cap] 27)) ∧ (w.alloc (.cells #[.int .i64 lim, .slice A l.length cap] 27)).cell? ⟨w.heap.size, 0, none⟩ = some (.int .i64 lim) ∧ (w.alloc (.cells #[.int .i64 lim, .slice A l.length cap] 27)).cell? ⟨w.heap.size, 1, none⟩ = some (.slice A l.length cap) ∧ w.heap.size < (w.alloc (.cells #[.int .i64 lim, .slice A l.length cap] 27)).heap.size := by
  have q := World.alloc_heap_new w (.cells #[.int .i64 lim, .slice A l.length cap] 27)
  exact ⟨(Below.refl _ _).alloc (Nat.le_refl _) _, cell_of (i := 0) q, cell_of (i := 1) q, by simp⟩
theorem tell_rd {lim : Int} {A : Option Addr} {cap : Nat} {l : List Nd} (hW : WF l) (hlen : l.length ≤ 1000) (f : Int) (w : World) (hn : NodesAt w A l) :
    Calls Try.prog 32 #[.agg #[.int .i64 lim, .slice A l.length cap], .int .i64 f] w fun e w' => ∃ g c, e = .returned (.slice (some ⟨g, 0, none⟩) 4096 c) ∧ g < w'.heap.size ∧ (∀ i, i < 4096 → w'.cell? ⟨g, i, none⟩ = some (.int .i64 (tellN l f i))) ∧ Below w.heap.size w w' := by
  refine (tell_any hW hlen f w hn).mono ?_
  rintro e w' ⟨v, rfl, ho, hb⟩
  rcases ints_read ho with ⟨_, h2⟩ | ⟨g, c, rfl, _, hg, hc⟩
  · have := tellL_len l f 4096
    rw [h2] at this
    simp at this
  · refine ⟨g, c, by rw [tellL_len], hg, fun i hi => ?_, hb⟩
    rw [hc i (by rw [tellL_len]; exact hi)]
    simp [tellL, tellN]

def firstV (l : List Nd) (f value : Int) (r : Int × Bool) : Prop := (r = (0, false) ∧ ∀ x : Nat, x < 4096 → tellN l f x ≠ value) ∨ ∃ x : Nat, x < 4096 ∧ r = ((x : Int), true) ∧ tellN l f x = value ∧ ∀ y : Nat, y < x → tellN l f y ≠ value

set_option maxRecDepth 100000 in
set_option maxHeartbeats 2000000 in
theorem rone_yes {lim : Int} {A : Option Addr} {cap : Nat} {l : List Nd} (hW : WF l) (hlen : l.length ≤ 1000) (f value : Int) (w : World) (hn : NodesAt w A l) (hh : hasB l f = true) (x : Nat) (hx : x < 4096) (hxv : tellN l f x = value) (hbef : ∀ y : Nat, y < x → tellN l f y ≠ value) :
    Calls Try.prog 13 #[.agg #[.int .i64 lim, .slice A l.length cap], .int .i64 f, .int .i64 value] w fun e w' => e = .returned (.tuple #[.int .u64 (x : Int), .bool true]) ∧ Below w.heap.size w w' := by
  obtain ⟨hB, q0, q1, hlt⟩ := ref_box w lim A l cap
  have hn1 := hn.below (Nat.le_refl _) hB
  have cH := fun W => rhas_any lim A cap l f W
  rw [hh] at cH
  have cT : ∀ W, Below w.heap.size w W → _ := fun W hb => tell_rd (lim := lim) (cap := cap) hW hlen f W (hn.below (Nat.le_refl _) hb)
  have hbefh := Lib.hid hbef
  have hxvh := Lib.hid hxv
  have hwx : IntKind.u64.wrap (x : Int) = x := by rw [wrap_u64]; omega
  clear hbef hxv hh hn1
  obtain ⟨w1, hw1⟩ : ∃ w1, w.alloc (.cells #[.int .i64 lim, .slice A l.length cap] 27) = w1 := ⟨_, rfl⟩
  rw [hw1] at hB q0 q1 hlt
  go_enter Try.func13, Try.ntmps13
  go_wp2_with (first
    | (go_at_call 31; refine (cH _).mono ?_; rintro e w3 ⟨rfl, hb⟩; have p0 := (hb.cell (p := ⟨w.heap.size, 0, none⟩) hlt).trans q0; have p1 := (hb.cell (p := ⟨w.heap.size, 1, none⟩) hlt).trans q1; have hB3 := hB.trans (hb.mono hB.size))
    | (go_at_call 32; refine (cT _ hB3).mono ?_; clear cT; rintro e w4 ⟨g, c, rfl, hg, hcells, hb4⟩; have hch := Lib.hid hcells; clear hcells))
  have hB4 := hB3.trans (hb4.mono hB3.size)
  go_loopw [9] (fun p wr => ∃ (i : Nat), i ≤ x ∧ p = .int .i64 i ∧ wr = w4) (fun p _ => x - (intOf p).toNat)
  case atStart => exact ⟨0, by omega, rfl, rfl⟩
  case round =>
    obtain ⟨i, hi, rfl, hww⟩ := hrel
    obtain rfl : w4 = wr := hww.symm
    have e0 := hch.out i (by omega)
    have i0 : (i : Int) < 4096 := by omega
    have i1 : (0 : Int) ≤ (i : Int) := by omega
    by_cases hix : i < x
    · have hne := hbefh.out i hix
      generalize tellN l f i = t at *
      have hne' : (t == value) = false := by simpa using hne
      go_wp2_with fail
      go_roundw
      case rel => exact ⟨i + 1, by omega, by go_num, trivial⟩
      case measure => simp [intOf]; omega
    · obtain rfl : i = x := by omega
      rw [hxvh.out] at e0
      go_wp2_with fail
      go_ret2
      exact ⟨rfl, hB4⟩

set_option maxRecDepth 100000 in
set_option maxHeartbeats 2000000 in
theorem rone_no {lim : Int} {A : Option Addr} {cap : Nat} {l : List Nd} (hW : WF l) (hlen : l.length ≤ 1000) (f value : Int) (w : World) (hn : NodesAt w A l) (hh : hasB l f = true) (hbef : ∀ y : Nat, y < 4096 → tellN l f y ≠ value) :
    Calls Try.prog 13 #[.agg #[.int .i64 lim, .slice A l.length cap], .int .i64 f, .int .i64 value] w fun e w' => e = .returned (.tuple #[.int .u64 0, .bool false]) ∧ Below w.heap.size w w' := by
  obtain ⟨hB, q0, q1, hlt⟩ := ref_box w lim A l cap
  have cH := fun W => rhas_any lim A cap l f W
  rw [hh] at cH
  have cT : ∀ W, Below w.heap.size w W → _ := fun W hb => tell_rd (lim := lim) (cap := cap) hW hlen f W (hn.below (Nat.le_refl _) hb)
  have hbefh := Lib.hid hbef
  clear hbef hh
  obtain ⟨w1, hw1⟩ : ∃ w1, w.alloc (.cells #[.int .i64 lim, .slice A l.length cap] 27) = w1 := ⟨_, rfl⟩
  rw [hw1] at hB q0 q1 hlt
  go_enter Try.func13, Try.ntmps13
  go_wp2_with (first
    | (go_at_call 31; refine (cH _).mono ?_; rintro e w3 ⟨rfl, hb⟩; have p0 := (hb.cell (p := ⟨w.heap.size, 0, none⟩) hlt).trans q0; have p1 := (hb.cell (p := ⟨w.heap.size, 1, none⟩) hlt).trans q1; have hB3 := hB.trans (hb.mono hB.size))
    | (go_at_call 32; refine (cT _ hB3).mono ?_; clear cT; rintro e w4 ⟨g, c, rfl, hg, hcells, hb4⟩; have hch := Lib.hid hcells; clear hcells))
  have hB4 := hB3.trans (hb4.mono hB3.size)
  go_loopw [9] (fun p wr => ∃ (i : Nat), i ≤ 4096 ∧ p = .int .i64 i ∧ wr = w4) (fun p _ => 4096 - (intOf p).toNat)
  case atStart => exact ⟨0, by omega, rfl, rfl⟩
  case round =>
    obtain ⟨i, hi, rfl, hww⟩ := hrel
    obtain rfl : w4 = wr := hww.symm
    by_cases hix : i < 4096
    · have e0 := hch.out i hix
      have i0 : (i : Int) < 4096 := by omega
      have i1 : (0 : Int) ≤ (i : Int) := by omega
      have hne := hbefh.out i hix
      generalize tellN l f i = t at *
      have hne' : (t == value) = false := by simpa using hne
      go_wp2_with fail
      go_roundw
      case rel => exact ⟨i + 1, by omega, by go_num, trivial⟩
      case measure => simp [intOf]; omega
    · obtain rfl : i = 4096 := by omega
      go_wp2_with fail
      go_ret2
      exact ⟨rfl, hB4⟩

theorem rone_hasno {lim : Int} {A : Option Addr} {cap : Nat} {l : List Nd} (f value : Int) (w : World) (hh : hasB l f = false) :
    Calls Try.prog 13 #[.agg #[.int .i64 lim, .slice A l.length cap], .int .i64 f, .int .i64 value] w fun e w' => e = .returned (.tuple #[.int .u64 0, .bool false]) ∧ Below w.heap.size w w' := by
  obtain ⟨hB, q0, q1, hlt⟩ := ref_box w lim A l cap
  have cH := fun W => rhas_any lim A cap l f W
  rw [hh] at cH
  obtain ⟨w1, hw1⟩ : ∃ w1, w.alloc (.cells #[.int .i64 lim, .slice A l.length cap] 27) = w1 := ⟨_, rfl⟩
  rw [hw1] at hB q0 q1 hlt
  go_enter Try.func13, Try.ntmps13
  go_wp2_with (go_at_call 31; refine (cH _).mono ?_; rintro e w3 ⟨rfl, hb⟩)
  go_ret2
  exact ⟨rfl, hB.trans (hb.mono hB.size)⟩

/-- what One answers, the program's and the document's -/
theorem rone_any {lim : Int} {A : Option Addr} {cap : Nat} {l : List Nd} (hW : WF l) (hlen : l.length ≤ 1000) (f value : Int) (w : World) (hn : NodesAt w A l) :
    Calls Try.prog 13 #[.agg #[.int .i64 lim, .slice A l.length cap], .int .i64 f, .int .i64 value] w fun e w' => e = .returned (.tuple #[.int .u64 (oneC (cubes l f value) (cubes l f value).length).1, .bool (oneC (cubes l f value) (cubes l f value).length).2]) ∧ Below w.heap.size w w' := by
  cases hh : hasB l f with
  | false =>
    have hc : cubes l f value = [] := by unfold cubes; rw [hh]; rfl
    rw [hc]
    exact rone_hasno f value w hh
  | true =>
    have hc : cubes l f value = cub l value 13 f 0 0 := by unfold cubes; rw [if_pos hh]
    rw [hc]
    rcases one_plain hW value f with ⟨h1, h2⟩ | ⟨x, hx, h1, h2, h3⟩
    · rw [h1]
      exact rone_no hW hlen f value w hn hh (fun y _ => h2 y)
    · rw [h1]
      exact rone_yes hW hlen f value w hn hh x hx h2 h3
end Go.Proofs.Yteifllgcpickhaa
