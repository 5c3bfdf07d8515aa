/- count: the document's Mk -/
import Derived.Test.YteifllgcpickhaaZ
import Derived.Outline
namespace Go.Proofs.Yteifllgcpickhaa
open Go.RowKit

/-- the document's arena: its nodes, in a row of their own -/
def RefAt (w : World) (A : Option Addr) (cap : Nat) (l : List Nd) : Prop := (l = [] ∧ A = none ∧ cap = 0) ∨ (0 < l.length ∧ NodesAt w A l)
theorem RefAt.nodes {w : World} {A : Option Addr} {cap : Nat} {l : List Nd} (h : RefAt w A cap l) : NodesAt w A l := by
  rcases h with ⟨rfl, _, _⟩ | ⟨_, h⟩
  · intro hl; simp at hl
  · exact h
theorem RefAt.below {w w' : World} {A : Option Addr} {cap : Nat} {l : List Nd} (h : RefAt w A cap l) (hb : Below w.heap.size w w') : RefAt w' A cap l := by
  rcases h with h | ⟨h1, h2⟩
  · exact .inl h
  · exact .inr ⟨h1, h2.below (Nat.le_refl _) hb⟩

def RMkEnd (w : World) (lim : Int) (A : Option Addr) (l : List Nd) (r : List Nd × Int) (e : Ending) (w' : World) : Prop :=
  ∃ A' cap' er, e = .returned (.tuple #[.agg #[.int .i64 lim, .slice A' r.1.length cap'], .int .i64 r.2, .int .i64 er]) ∧ RefAt w' A' cap' r.1 ∧ Below w.heap.size w w' ∧ ((A' = A ∧ r.1 = l) ∨ ∃ g, A' = some ⟨g, 0, none⟩ ∧ w.heap.size ≤ g)

set_option maxRecDepth 100000 in
set_option maxHeartbeats 1000000 in
theorem rmk_var (lim : Int) (A : Option Addr) (cap : Nat) (l : List Nd) (v lo hi : Int) (w : World) (h : RefAt w A cap l) (hv : v < 0 ∨ v > 11) :
    Calls Try.prog 29 #[.agg #[.int .i64 lim, .slice A l.length cap], .int .i64 v, .int .i64 lo, .int .i64 hi] w (RMkEnd w lim A l (l, 0)) := by
  have hfin : ∀ x w', Below w.heap.size w w' → RMkEnd w lim A l (l, 0) (.returned (.tuple #[.agg #[.int .i64 lim, .slice A l.length cap], .int .i64 0, .int .i64 x])) w' := fun x w' hb => ⟨A, cap, x, rfl, h.below hb, hb, .inl ⟨rfl, rfl⟩⟩
  have hfinh := Lib.hid hfin
  generalize RMkEnd w lim A l (l, 0) = R at *
  clear hfin h
  rcases hv with hv | hv
  · go_enter Try.func29, Try.ntmps29
    go_wp2_with fail
    exact bodyPost_ret (v := .tuple #[.agg #[.int .i64 lim, .slice A l.length cap], .int .i64 0, .int .i64 52]) (by simp [results, Try.results29, go_sem]) rfl (hfinh.out _ _ (((Below.refl _ _).alloc (Nat.le_refl _) _).alloc (by simp) _))
  · have hv0 : ¬ v < 0 := by omega
    go_enter Try.func29, Try.ntmps29
    go_wp2_with fail
    exact bodyPost_ret (v := .tuple #[.agg #[.int .i64 lim, .slice A l.length cap], .int .i64 0, .int .i64 52]) (by simp [results, Try.results29, go_sem]) rfl (hfinh.out _ _ (((Below.refl _ _).alloc (Nat.le_refl _) _).alloc (by simp) _))

theorem frozen_of {W : World} {b i : Nat} {c : Array Value} {t : TypeId} (h : W.heap[b]? = some (.cells c t (0, 0))) : W.frozen? ⟨b, i, none⟩ = false := by simp [World.frozen?, h]
/-- what Mk keeps while it asks -/
structure RQ (w : World) (lim : Int) (A : Option Addr) (cap : Nat) (l : List Nd) (W : World) : Prop where
  bel : Below w.heap.size w W
  c0 : W.cell? ⟨w.heap.size, 0, none⟩ = some (.int .i64 lim)
  c1 : W.cell? ⟨w.heap.size, 1, none⟩ = some (.slice A l.length cap)
  d0 : W.cell? ⟨w.heap.size + 1, 0, none⟩ = some (.int .i64 0)
  d1 : W.cell? ⟨w.heap.size + 1, 1, none⟩ = some (.slice none 0 0)
  f0 : W.frozen? ⟨w.heap.size + 1, 0, none⟩ = false
  f1 : W.frozen? ⟨w.heap.size + 1, 1, none⟩ = false
  g1 : W.frozen? ⟨w.heap.size, 1, none⟩ = false
  sz : w.heap.size + 2 ≤ W.heap.size
theorem RQ.below {w W W' : World} {lim : Int} {A : Option Addr} {cap : Nat} {l : List Nd} (h : RQ w lim A cap l W) (hb : Below W.heap.size W W') : RQ w lim A cap l W' := by
  have hs := h.sz
  have k0 : w.heap.size < W.heap.size := by omega
  have k1 : w.heap.size + 1 < W.heap.size := by omega
  exact ⟨h.bel.trans (hb.mono h.bel.size), (hb.cell (p := ⟨w.heap.size, 0, none⟩) k0).trans h.c0, (hb.cell (p := ⟨w.heap.size, 1, none⟩) k0).trans h.c1, (hb.cell (p := ⟨w.heap.size + 1, 0, none⟩) k1).trans h.d0, (hb.cell (p := ⟨w.heap.size + 1, 1, none⟩) k1).trans h.d1,
    (hb.frozen (p := ⟨w.heap.size + 1, 0, none⟩) k1).trans h.f0, (hb.frozen (p := ⟨w.heap.size + 1, 1, none⟩) k1).trans h.f1, (hb.frozen (p := ⟨w.heap.size, 1, none⟩) k0).trans h.g1, Nat.le_trans hs hb.size⟩
theorem RQ.new (w : World) (lim : Int) (A : Option Addr) (cap : Nat) (l : List Nd) : RQ w lim A cap l ((w.alloc (.cells #[.int .i64 lim, .slice A l.length cap] 27)).alloc (.cells #[.int .i64 0, .slice none 0 0] 27)) := by
  have q1 := World.alloc_heap_new (w.alloc (.cells #[.int .i64 lim, .slice A l.length cap] 27)) (.cells #[.int .i64 0, .slice none 0 0] 27)
  have q0 := (Below.heap_alloc (w.alloc (.cells #[.int .i64 lim, .slice A l.length cap] 27)) (.cells #[.int .i64 0, .slice none 0 0] 27) w.heap.size (by simp)).trans (World.alloc_heap_new w (.cells #[.int .i64 lim, .slice A l.length cap] 27))
  rw [World.size_alloc] at q1
  exact ⟨((Below.refl _ _).alloc (Nat.le_refl _) _).alloc (by simp) _, cell_of (i := 0) q0, cell_of (i := 1) q0, cell_of (i := 0) q1, cell_of (i := 1) q1, frozen_of q1, frozen_of q1, frozen_of q0, by simp⟩
theorem rq_has {w W : World} {lim : Int} {A : Option Addr} {cap : Nat} {l : List Nd} (h : RQ w lim A cap l W) (x : Int) : Calls Try.prog 31 #[.agg #[.int .i64 lim, .slice A l.length cap], .int .i64 x] W fun e w' => e = .returned (.bool (hasB l x)) ∧ RQ w lim A cap l w' :=
  (rhas_any lim A cap l x W).mono (fun _ _ q => ⟨q.1, h.below q.2⟩)
theorem rq_var {w W : World} {lim : Int} {A : Option Addr} {cap : Nat} {l : List Nd} (hr : RefAt w A cap l) (h : RQ w lim A cap l W) (x : Int) : Calls Try.prog 44 #[.agg #[.int .i64 lim, .slice A l.length cap], .int .i64 x] W fun e w' => e = .returned (.int .i64 (varOf l x)) ∧ RQ w lim A cap l w' :=
  (rvar_any lim A cap l x W (hr.below h.bel).nodes).mono (fun _ _ q => ⟨q.1, h.below q.2⟩)

set_option maxRecDepth 100000 in
set_option maxHeartbeats 1000000 in
theorem rmk_order (lim : Int) (A : Option Addr) (cap : Nat) (l : List Nd) (v lo hi : Int) (w : World) (h : RefAt w A cap l) (hv0 : 0 ≤ v) (hv1 : v ≤ 11) (hno : ¬ okMk l v lo hi) :
    Calls Try.prog 29 #[.agg #[.int .i64 lim, .slice A l.length cap], .int .i64 v, .int .i64 lo, .int .i64 hi] w (RMkEnd w lim A l (l, 0)) := by
  have hfin : ∀ x w', Below w.heap.size w w' → RMkEnd w lim A l (l, 0) (.returned (.tuple #[.agg #[.int .i64 lim, .slice A l.length cap], .int .i64 0, .int .i64 x])) w' := fun x w' hb => ⟨A, cap, x, rfl, h.below hb, hb, .inl ⟨rfl, rfl⟩⟩
  have hfinh := Lib.hid hfin
  generalize RMkEnd w lim A l (l, 0) = R at *
  have hq0 := RQ.new w lim A cap l
  have cH := fun W (hq : RQ w lim A cap l W) => rq_has hq
  have cV := fun W (hq : RQ w lim A cap l W) => rq_var h hq
  have e0 := hq0.c0
  have e1 := hq0.c1
  clear hfin h
  have n0 : ¬ v < 0 := by omega
  have n1 : ¬ v > 11 := by omega
  have cHlo := fun W hq => cH W hq lo
  have cHhi := fun W hq => cH W hq hi
  have cVlo := fun W hq => cV W hq lo
  have cVhi := fun W hq => cV W hq hi
  clear cH cV
  cases q1 : hasB l lo with
  | false =>
    rw [q1] at cHlo
    clear cHhi cVlo cVhi hno q1
    go_enter Try.func29, Try.ntmps29
    go_wp2_with (first
      | (go_at_call_of 31 (Value.int .i64 lo); refine (cHlo _ hq0).mono ?_; clear cHlo; rintro e w2 ⟨rfl, hq2⟩; have c0 := hq2.c0; have c1 := hq2.c1; have d0 := hq2.d0; have d1 := hq2.d1; have f0 := hq2.f0; have f1 := hq2.f1))
    exact bodyPost_ret (v := .tuple #[.agg #[.int .i64 lim, .slice A l.length cap], .int .i64 0, .int .i64 51]) (by simp [results, Try.results29, go_sem, d0, d1]) rfl (hfinh.out _ _ ((hq2.bel.setCell (p := ⟨w.heap.size + 1, 0, none⟩) (by simp) _).setCell (p := ⟨w.heap.size + 1, 1, none⟩) (by simp) _))
  | true =>
    rw [q1] at cHlo
    cases q2 : hasB l hi with
    | false =>
      rw [q2] at cHhi
      clear cVlo cVhi hno q1 q2
      go_enter Try.func29, Try.ntmps29
      go_wp2_with (first
        | (go_at_call_of 31 (Value.int .i64 lo); refine (cHlo _ hq0).mono ?_; clear cHlo; rintro e w2 ⟨rfl, hq2⟩; have c0 := hq2.c0; have c1 := hq2.c1; have d0 := hq2.d0; have d1 := hq2.d1; have f0 := hq2.f0; have f1 := hq2.f1)
        | (go_at_call_of 31 (Value.int .i64 hi); refine (cHhi _ hq2).mono ?_; clear cHhi; rintro e w3 ⟨rfl, hq3⟩; have c0 := hq3.c0; have c1 := hq3.c1; have d0 := hq3.d0; have d1 := hq3.d1; have f0 := hq3.f0; have f1 := hq3.f1))
      exact bodyPost_ret (v := .tuple #[.agg #[.int .i64 lim, .slice A l.length cap], .int .i64 0, .int .i64 51]) (by simp [results, Try.results29, go_sem, d0, d1]) rfl (hfinh.out _ _ ((hq3.bel.setCell (p := ⟨w.heap.size + 1, 0, none⟩) (by simp) _).setCell (p := ⟨w.heap.size + 1, 1, none⟩) (by simp) _))
    | true =>
      rw [q2] at cHhi
      by_cases q3 : varOf l lo ≤ v
      · clear cVhi hno q1 q2
        go_enter Try.func29, Try.ntmps29
        go_wp2_with (first
          | (go_at_call_of 31 (Value.int .i64 lo); refine (cHlo _ hq0).mono ?_; clear cHlo; rintro e w2 ⟨rfl, hq2⟩; have c0 := hq2.c0; have c1 := hq2.c1; have d0 := hq2.d0; have d1 := hq2.d1; have f0 := hq2.f0; have f1 := hq2.f1)
          | (go_at_call_of 31 (Value.int .i64 hi); refine (cHhi _ hq2).mono ?_; clear cHhi; rintro e w3 ⟨rfl, hq3⟩; have c0 := hq3.c0; have c1 := hq3.c1; have d0 := hq3.d0; have d1 := hq3.d1; have f0 := hq3.f0; have f1 := hq3.f1)
          | (go_at_call_of 44 (Value.int .i64 lo); refine (cVlo _ hq3).mono ?_; clear cVlo; rintro e w4 ⟨rfl, hq4⟩; have c0 := hq4.c0; have c1 := hq4.c1; have d0 := hq4.d0; have d1 := hq4.d1; have f0 := hq4.f0; have f1 := hq4.f1))
        exact bodyPost_ret (v := .tuple #[.agg #[.int .i64 lim, .slice A l.length cap], .int .i64 0, .int .i64 51]) (by simp [results, Try.results29, go_sem, d0, d1]) rfl (hfinh.out _ _ ((hq4.bel.setCell (p := ⟨w.heap.size + 1, 0, none⟩) (by simp) _).setCell (p := ⟨w.heap.size + 1, 1, none⟩) (by simp) _))
      · by_cases q4 : varOf l hi ≤ v
        · clear hno q1 q2
          go_enter Try.func29, Try.ntmps29
          go_wp2_with (first
            | (go_at_call_of 31 (Value.int .i64 lo); refine (cHlo _ hq0).mono ?_; clear cHlo; rintro e w2 ⟨rfl, hq2⟩; have c0 := hq2.c0; have c1 := hq2.c1; have d0 := hq2.d0; have d1 := hq2.d1; have f0 := hq2.f0; have f1 := hq2.f1)
            | (go_at_call_of 31 (Value.int .i64 hi); refine (cHhi _ hq2).mono ?_; clear cHhi; rintro e w3 ⟨rfl, hq3⟩; have c0 := hq3.c0; have c1 := hq3.c1; have d0 := hq3.d0; have d1 := hq3.d1; have f0 := hq3.f0; have f1 := hq3.f1)
            | (go_at_call_of 44 (Value.int .i64 lo); refine (cVlo _ hq3).mono ?_; clear cVlo; rintro e w4 ⟨rfl, hq4⟩; have c0 := hq4.c0; have c1 := hq4.c1; have d0 := hq4.d0; have d1 := hq4.d1; have f0 := hq4.f0; have f1 := hq4.f1)
            | (go_at_call_of 44 (Value.int .i64 hi); refine (cVhi _ hq4).mono ?_; clear cVhi; rintro e w5 ⟨rfl, hq5⟩; have c0 := hq5.c0; have c1 := hq5.c1; have d0 := hq5.d0; have d1 := hq5.d1; have f0 := hq5.f0; have f1 := hq5.f1))
          exact bodyPost_ret (v := .tuple #[.agg #[.int .i64 lim, .slice A l.length cap], .int .i64 0, .int .i64 51]) (by simp [results, Try.results29, go_sem, d0, d1]) rfl (hfinh.out _ _ ((hq5.bel.setCell (p := ⟨w.heap.size + 1, 0, none⟩) (by simp) _).setCell (p := ⟨w.heap.size + 1, 1, none⟩) (by simp) _))
        · exact absurd ⟨hv0, hv1, q1, q2, by omega, by omega⟩ hno

theorem rmk_ok_start (lim : Int) (A : Option Addr) (cap : Nat) (l : List Nd) (v lo hi : Int) (w : World) (h : RefAt w A cap l) (hk : okMk l v lo hi) :
    (∀ W, RQ w lim A cap l W → Calls Try.prog 31 #[.agg #[.int .i64 lim, .slice A l.length cap], .int .i64 lo] W fun e w' => e = .returned (.bool true) ∧ RQ w lim A cap l w') ∧
    (∀ W, RQ w lim A cap l W → Calls Try.prog 31 #[.agg #[.int .i64 lim, .slice A l.length cap], .int .i64 hi] W fun e w' => e = .returned (.bool true) ∧ RQ w lim A cap l w') ∧
    (∀ W, RQ w lim A cap l W → Calls Try.prog 44 #[.agg #[.int .i64 lim, .slice A l.length cap], .int .i64 lo] W fun e w' => e = .returned (.int .i64 (varOf l lo)) ∧ RQ w lim A cap l w') ∧
    (∀ W, RQ w lim A cap l W → Calls Try.prog 44 #[.agg #[.int .i64 lim, .slice A l.length cap], .int .i64 hi] W fun e w' => e = .returned (.int .i64 (varOf l hi)) ∧ RQ w lim A cap l w') := by
  obtain ⟨_, _, q1, q2, _, _⟩ := hk
  refine ⟨fun W hq => ?_, fun W hq => ?_, fun W hq => rq_var h hq lo, fun W hq => rq_var h hq hi⟩
  · have := rq_has hq lo
    rw [q1] at this
    exact this
  · have := rq_has hq hi
    rw [q2] at this
    exact this

set_option maxRecDepth 100000 in
set_option maxHeartbeats 1000000 in
theorem rmk_same (lim : Int) (A : Option Addr) (cap : Nat) (l : List Nd) (v lo : Int) (w : World) (h : RefAt w A cap l) (hk : okMk l v lo lo) :
    Calls Try.prog 29 #[.agg #[.int .i64 lim, .slice A l.length cap], .int .i64 v, .int .i64 lo, .int .i64 lo] w (RMkEnd w lim A l (l, lo)) := by
  have hfin : ∀ x w', Below w.heap.size w w' → RMkEnd w lim A l (l, lo) (.returned (.tuple #[.agg #[.int .i64 lim, .slice A l.length cap], .int .i64 lo, .int .i64 x])) w' := fun x w' hb => ⟨A, cap, x, rfl, h.below hb, hb, .inl ⟨rfl, rfl⟩⟩
  have hfinh := Lib.hid hfin
  generalize RMkEnd w lim A l (l, lo) = R at *
  have hq0 := RQ.new w lim A cap l
  obtain ⟨cHlo, cHhi, cVlo, cVhi⟩ := rmk_ok_start lim A cap l v lo lo w h hk
  obtain ⟨hv0, hv1, _, _, hl1, _⟩ := hk
  have e0 := hq0.c0
  have e1 := hq0.c1
  have n0 : ¬ v < 0 := by omega
  have n1 : ¬ v > 11 := by omega
  have n2 : ¬ varOf l lo ≤ v := by omega
  clear hfin h cHhi cVhi
  go_enter Try.func29, Try.ntmps29
  go_wp2_with (first
    | (go_at_call 31; refine (cHlo _ hq0).mono ?_; rintro e w2 ⟨rfl, hq2⟩; have c0 := hq2.c0; have c1 := hq2.c1; have d0 := hq2.d0; have d1 := hq2.d1; have f0 := hq2.f0; have f1 := hq2.f1; clear hq0)
    | (go_at_call 31; refine (cHlo _ hq2).mono ?_; rintro e w3 ⟨rfl, hq3⟩; have c0 := hq3.c0; have c1 := hq3.c1; have d0 := hq3.d0; have d1 := hq3.d1; have f0 := hq3.f0; have f1 := hq3.f1; clear hq2)
    | (go_at_call 44; refine (cVlo _ hq3).mono ?_; rintro e w4 ⟨rfl, hq4⟩; have c0 := hq4.c0; have c1 := hq4.c1; have d0 := hq4.d0; have d1 := hq4.d1; have f0 := hq4.f0; have f1 := hq4.f1; clear hq3)
    | (go_at_call 44; refine (cVlo _ hq4).mono ?_; rintro e w5 ⟨rfl, hq5⟩; have c0 := hq5.c0; have c1 := hq5.c1; have d0 := hq5.d0; have d1 := hq5.d1; have f0 := hq5.f0; have f1 := hq5.f1; clear hq4))
  exact bodyPost_ret (v := .tuple #[.agg #[.int .i64 lim, .slice A l.length cap], .int .i64 lo, .int .i64 0]) (by simp [results, Try.results29, go_sem, d0, d1]) rfl (hfinh.out _ _ ((hq5.bel.setCell (p := ⟨w.heap.size + 1, 0, none⟩) (by simp) _).setCell (p := ⟨w.heap.size + 1, 1, none⟩) (by simp) _))
end Go.Proofs.Yteifllgcpickhaa
