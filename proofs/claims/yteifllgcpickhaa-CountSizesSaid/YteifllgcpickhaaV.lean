/- count: wrong -/
import Derived.Test.YteifllgcpickhaaU
namespace Go.Proofs.Yteifllgcpickhaa
open Go.RowKit

/-- may such a node be? -/
def okMk (l : List Nd) (v lo hi : Int) : Prop := 0 ≤ v ∧ v ≤ 11 ∧ hasB l lo = true ∧ hasB l hi = true ∧ v < varOf l lo ∧ v < varOf l hi

def WrongEnd (w : World) (ok : Prop) (e : Ending) (w' : World) : Prop := (∃ x, e = .returned x ∧ ((ok ∧ x = .nilIface) ∨ (¬ ok ∧ ∃ p, x = .iface 86 p))) ∧ Below w.heap.size w w'

set_option maxRecDepth 100000 in
set_option maxHeartbeats 1000000 in
theorem wrong_any (b : Nat) (l : List Nd) (v lo hi : Int) (w : World) (hA : ArRd w b l) :
    Calls Try.prog 45 #[.pointer (some ⟨b, 0, none⟩), .int .i64 v, .int .i64 lo, .int .i64 hi] w (WrongEnd w (okMk l v lo hi)) := by
  have hno : ¬ okMk l v lo hi → ∀ p w', Below w.heap.size w w' → WrongEnd w (okMk l v lo hi) (.returned (.iface 86 p)) w' := fun h p w' hb => ⟨⟨_, rfl, .inr ⟨h, p, rfl⟩⟩, hb⟩
  have hyes : okMk l v lo hi → ∀ w', Below w.heap.size w w' → WrongEnd w (okMk l v lo hi) (.returned .nilIface) w' := fun h w' hb => ⟨⟨_, rfl, .inl ⟨h, rfl⟩⟩, hb⟩
  have hal : ∀ O, Below w.heap.size w (w.alloc O) := fun O => (Below.refl _ w).alloc (Nat.le_refl _) _
  have hnoh := Lib.hid hno
  have hyesh := Lib.hid hyes
  clear hno hyes
  by_cases h0 : v < 0
  · have hk : ¬ okMk l v lo hi := fun h => by unfold okMk at h; omega
    generalize WrongEnd w (okMk l v lo hi) = R at hnoh hyesh ⊢
    have hf := Lib.hid (hnoh.out hk)
    clear hnoh hyesh hk
    go_enter Try.func45, Try.ntmps45
    go_wp2_with fail
    exact hf.out _ _ (hal _)
  · by_cases h1 : v ≥ 12
    · have hk : ¬ okMk l v lo hi := fun h => by unfold okMk at h; omega
      generalize WrongEnd w (okMk l v lo hi) = R at hnoh hyesh ⊢
      have hf := Lib.hid (hnoh.out hk)
      clear hnoh hyesh hk
      go_enter Try.func45, Try.ntmps45
      go_wp2_with fail
      exact hf.out _ _ (hal _)
    · have hHl := has_any b l lo w hA
      have hHh := has_any b l hi w hA
      cases q1 : hasB l lo with
      | false =>
        have hk : ¬ okMk l v lo hi := fun h => by unfold okMk at h; rw [q1] at h; exact absurd h.2.2.1 (by decide)
        generalize WrongEnd w (okMk l v lo hi) = R at hnoh hyesh ⊢
        have hf := Lib.hid (hnoh.out hk)
        rw [q1] at hHl
        clear hnoh hyesh hk q1
        go_enter Try.func45, Try.ntmps45
        go_wp2_with (refine hHl.mono ?_; clear hHl; rintro e w1 ⟨rfl, rfl⟩)
        exact hf.out _ _ (hal _)
      | true =>
        rw [q1] at hHl
        cases q2 : hasB l hi with
        | false =>
          have hk : ¬ okMk l v lo hi := fun h => by unfold okMk at h; rw [q2] at h; exact absurd h.2.2.2.1 (by decide)
          generalize WrongEnd w (okMk l v lo hi) = R at hnoh hyesh ⊢
          have hf := Lib.hid (hnoh.out hk)
          rw [q2] at hHh
          clear hnoh hyesh hk q1 q2
          go_enter Try.func45, Try.ntmps45
          go_wp2_with (first
            | (go_at_call_of 24 (Value.int .i64 lo); refine hHl.mono ?_; clear hHl; rintro e w1 ⟨rfl, rfl⟩)
            | (go_at_call_of 24 (Value.int .i64 hi); refine hHh.mono ?_; clear hHh; rintro e w1 ⟨rfl, rfl⟩))
          exact hf.out _ _ (hal _)
        | true =>
          rw [q2] at hHh
          have hVl := var_any b l lo w hA
          have hVh : ∀ w', Below w.heap.size w w' → Calls Try.prog 35 #[.pointer (some ⟨b, 0, none⟩), .int .i64 hi] w' fun e w2 => e = .returned (.int .i64 (varOf l hi)) ∧ Below w.heap.size w w2 := fun w' hb => (var_any b l hi w' (hA.below (Nat.le_refl _) hb)).mono (fun e w2 h => ⟨h.1, hb.trans (h.2.mono hb.size)⟩)
          by_cases q3 : varOf l lo ≤ v
          · have hk : ¬ okMk l v lo hi := fun h => by unfold okMk at h; omega
            generalize WrongEnd w (okMk l v lo hi) = R at hnoh hyesh ⊢
            have hf := Lib.hid (hnoh.out hk)
            clear hnoh hyesh hk q1 q2
            go_enter Try.func45, Try.ntmps45
            go_wp2_with (first
              | (go_at_call_of 24 (Value.int .i64 lo); refine hHl.mono ?_; clear hHl; rintro e w1 ⟨rfl, rfl⟩)
              | (go_at_call_of 24 (Value.int .i64 hi); refine hHh.mono ?_; clear hHh; rintro e w1 ⟨rfl, rfl⟩)
              | (go_at_call_of 35 (Value.int .i64 lo); refine hVl.mono ?_; clear hVl; rintro e w2 ⟨rfl, hb2⟩)
              | (go_at_call_of 35 (Value.int .i64 hi); refine (hVh _ hb2).mono ?_; clear hVh; rintro e w3 ⟨rfl, hb3⟩))
            exact hf.out _ _ (hb2.alloc hb2.size _)
          · by_cases q4 : varOf l hi ≤ v
            · have hk : ¬ okMk l v lo hi := fun h => by unfold okMk at h; omega
              generalize WrongEnd w (okMk l v lo hi) = R at hnoh hyesh ⊢
              have hf := Lib.hid (hnoh.out hk)
              clear hnoh hyesh hk q1 q2
              go_enter Try.func45, Try.ntmps45
              go_wp2_with (first
                | (go_at_call_of 24 (Value.int .i64 lo); refine hHl.mono ?_; clear hHl; rintro e w1 ⟨rfl, rfl⟩)
                | (go_at_call_of 24 (Value.int .i64 hi); refine hHh.mono ?_; clear hHh; rintro e w1 ⟨rfl, rfl⟩)
                | (go_at_call_of 35 (Value.int .i64 lo); refine hVl.mono ?_; clear hVl; rintro e w2 ⟨rfl, hb2⟩)
                | (go_at_call_of 35 (Value.int .i64 hi); refine (hVh _ hb2).mono ?_; clear hVh; rintro e w3 ⟨rfl, hb3⟩))
              exact hf.out _ _ (hb3.alloc hb3.size _)
            · have hk : okMk l v lo hi := ⟨by omega, by omega, q1, q2, by omega, by omega⟩
              generalize WrongEnd w (okMk l v lo hi) = R at hnoh hyesh ⊢
              have hf := Lib.hid (hyesh.out hk)
              clear hnoh hyesh hk q1 q2
              go_enter Try.func45, Try.ntmps45
              go_wp2_with (first
                | (go_at_call_of 24 (Value.int .i64 lo); refine hHl.mono ?_; clear hHl; rintro e w1 ⟨rfl, rfl⟩)
                | (go_at_call_of 24 (Value.int .i64 hi); refine hHh.mono ?_; clear hHh; rintro e w1 ⟨rfl, rfl⟩)
                | (go_at_call_of 35 (Value.int .i64 lo); refine hVl.mono ?_; clear hVl; rintro e w2 ⟨rfl, hb2⟩)
                | (go_at_call_of 35 (Value.int .i64 hi); refine (hVh _ hb2).mono ?_; clear hVh; rintro e w3 ⟨rfl, hb3⟩))
              exact hf.out _ hb3
end Go.Proofs.Yteifllgcpickhaa
