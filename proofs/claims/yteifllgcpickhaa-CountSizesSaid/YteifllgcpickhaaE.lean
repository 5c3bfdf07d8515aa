/- count: Size, by the loop's law -/
import Derived.Test.YteifllgcpickhaaD
namespace Go.Proofs.Yteifllgcpickhaa
open Go.RowKit
attribute [local go_sem] Oper.semAt_some

theorem boxed_stepd {W W' : World} {n1 b0 B : Nat} {t : TypeId} {v : Value} (h : Boxed W B t v) (hs : Stepd n1 b0 W W') (hB : B < n1) : Boxed W' B t v := (hs.same B h.lt (.inl hB)).trans h
theorem boxed_ftok {W : World} {b0 : Nat} {t : TypeId} {k : IntKind} {x : Int} (h : Boxed W b0 t (.int k x)) : FtOk b0 W := fun i hi => by
  obtain ⟨o, z, len, cap, hc⟩ := hi
  rw [h.cell] at hc
  cases hc
theorem boxed_noft {W : World} {b0 : Nat} {t : TypeId} {k : IntKind} {x : Int} (h : Boxed W b0 t (.int k x)) (i : Nat) : ¬ Ft b0 W i := fun hi => by
  obtain ⟨o, z, len, cap, hc⟩ := hi
  rw [h.cell] at hc
  cases hc
theorem Kept.setBox {W : World} {b0 : Nat} {t : TypeId} {k k' : IntKind} {x y : Int} (h : Boxed W b0 t (.int k x)) : Kept b0 W (W.setCell ⟨b0, 0, none⟩ (.int k' y)) :=
  have h2 := h.set (.int k' y)
  ⟨rfl, rfl, rfl, by simp [World.setCell], fun i hs => ⟨Below.heap_setCell _ _ _ _ (by simpa using hs.2.1), by simpa [World.setCell] using hs.1, hs.2.1, boxed_noft h2 i⟩⟩

/-- how many of them are nodes -/
def cntN (pre : List Int) : Int := ((pre.filter (fun x => decide (0 ≤ x))).length : Int)
theorem cntN_snoc (pre : List Int) (x : Int) : cntN (pre ++ [x]) = if x < 0 then cntN pre else cntN pre + 1 := by
  unfold cntN
  rw [List.filter_append]
  by_cases h : x < 0
  · rw [if_pos h]; simp [show ¬ 0 ≤ x by omega]
  · rw [if_neg h]; simp [show 0 ≤ x by omega]
theorem cntN_le (pre : List Int) : 0 ≤ cntN pre ∧ cntN pre ≤ pre.length := by
  unfold cntN
  have := List.length_filter_le (fun x => decide (0 ≤ x)) pre
  omega

set_option maxRecDepth 100000 in
set_option maxHeartbeats 4000000 in
theorem size_any (b : Nat) (l : List Nd) (f : Int) (w : World) (hA : ArRd w b l) (hW : WF l) :
    Calls Try.prog 18 #[.pointer (some ⟨b, 0, none⟩), .int .i64 f] w fun e W' => e = .returned (.int .i64 (cntN (reach l f))) ∧ Below w.heap.size w W' := by
  refine (callsIn_wide (n := 3)).1 ?_
  refine callsIn_of_wp_marks Try.func18 rfl trivial ?_ rfl
  simp only [Try.ntmps18, List.size_toArray, List.length_cons, List.length_nil, Nat.reduceAdd, Nat.reduceSub, Array.replicate_succ, Array.replicate_zero, List.push_toArray, List.append_toArray, List.nil_append, List.cons_append]
  have hfn : ∀ k, Fence.wide.fn k := fun _ => trivial
  gi_wp2_with (refine (callsIn_wide.2 (each_any _ _ _)).mono ?_; rintro e w' ⟨rfl, rfl⟩)
  have bS := ((Boxed.new w 3 (.int .i64 0)).alloc (.cells #[.pointer (some ⟨b, 0, none⟩)] 24)).alloc (.cells #[.int .i64 f] 3)
  have bA := (Boxed.new (w.alloc (.cells #[.int .i64 0] 3)) 24 (.pointer (some ⟨b, 0, none⟩))).alloc (.cells #[.int .i64 f] 3)
  have bF := Boxed.new ((w.alloc (.cells #[.int .i64 0] 3)).alloc (.cells #[.pointer (some ⟨b, 0, none⟩)] 24)) 3 (.int .i64 f)
  have hB0 : Below w.heap.size w (((w.alloc (.cells #[.int .i64 0] 3)).alloc (.cells #[.pointer (some ⟨b, 0, none⟩)] 24)).alloc (.cells #[.int .i64 f] 3)) := (((Below.refl _ w).alloc (Nat.le_refl _) _).alloc (by simp) _).alloc (by simp; omega) _
  have hsz : (((w.alloc (.cells #[.int .i64 0] 3)).alloc (.cells #[.pointer (some ⟨b, 0, none⟩)] 24)).alloc (.cells #[.int .i64 f] 3)).heap.size = w.heap.size + 3 := by simp
  simp only [World.size_alloc] at bA bF ⊢
  obtain ⟨W0, hW0⟩ : ∃ W0, ((w.alloc (.cells #[.int .i64 0] 3)).alloc (.cells #[.pointer (some ⟨b, 0, none⟩)] 24)).alloc (.cells #[.int .i64 f] 3) = W0 := ⟨_, rfl⟩
  rw [hW0] at bS bA bF hB0 hsz ⊢
  clear hW0
  have hseq := each_seq (b0 := w.heap.size) (Ba := w.heap.size + 1) (Bf := w.heap.size + 1 + 1) (f := f) (w0 := w) (w := W0) hA hW (fun k hk => ⟨by omega, by omega, boxed_noft bS _⟩) hB0 (by omega) ⟨by omega, by omega, boxed_noft bS _⟩ bA.cell (by omega) bF.cell
  refine range_mine (gf := 50) (lb := #[.pointer (some ⟨w.heap.size + 1, 0, none⟩), .pointer (some ⟨w.heap.size + 1 + 1, 0, none⟩)]) rfl (enters_of Try.func50 (by kernel_rfl) rfl) hseq (fun _ => rfl) (by omega)
    (fun pre W => Boxed W w.heap.size 3 (.int .i64 (cntN pre)) ∧ Below w.heap.size w W ∧ pre.length ≤ 100000)
    (fun _ _ _ => False)
    (fun s W W' hs hst => ⟨boxed_stepd hs.1 hst (by omega), hs.2.1.trans (hst.below (by omega) hs.2.1.size), hs.2.2⟩)
    (fun _ _ _ _ hs _ => hs) (fun _ _ _ hs => hs.elim) (fun pre W hs => boxed_ftok hs.1) ⟨bS, hB0, by simp⟩
    (fun x a' _ => a' = { tmps := #[.pointer (some ⟨b, 0, none⟩), .int .i64 f, undef, undef, .int .i64 0, .pointer (some ⟨w.heap.size, 0, none⟩), .int .i64 x, .pointer (some ⟨b, 0, none⟩), .int .i64 f, .func (.func 50) #[] #[.pointer (some ⟨w.heap.size + 1, 0, none⟩), .pointer (some ⟨w.heap.size + 1 + 1, 0, none⟩)], .int .i64 x, undef, undef, undef, undef, undef, undef], defers := [] })
    (fun _ _ _ _ _ _ h _ _ => h) ?assign ?body ?done ?stop
  case assign =>
    intro l m pre x W K hi _ hK
    gi_wp2
    exact hK _ _ (Kept.refl _ _) hi rfl
  case body =>
    rintro l m pre x a' W ⟨hb, hBW, hlen⟩ hl rfl
    have hc := hb.cell
    have hf := hb.frozen
    have hle := cntN_le pre
    have hsn := cntN_snoc pre x
    have hwr : IntKind.i64.wrap (cntN pre + 1) = cntN pre + 1 := by rw [IntKind.wrap_i64]; omega
    by_cases hx : x < 0
    · rw [if_pos hx] at hsn
      gi_wp2_with (refine ⟨wdeep _, ?_⟩; refine (CallsIn.inRound l (callsIn_wide.2 (isterm_any x W))).mono ?_; rintro e w' ⟨rfl, rfl⟩)
      exact ⟨Kept.refl _ _, by rw [hsn]; exact hb, hBW, by simp; omega⟩
    · rw [if_neg hx] at hsn
      have hd : decide (x < 0) = false := decide_eq_false hx
      gi_wp2_with (refine ⟨wdeep _, ?_⟩; refine (CallsIn.inRound l (callsIn_wide.2 (isterm_any x W))).mono ?_; rintro e w' ⟨rfl, rfl⟩)
      exact ⟨Kept.setBox hb, by rw [hsn]; exact hb.set _, hBW.setCell (p := ⟨w.heap.size, 0, none⟩) (Nat.le_refl _) _, by simp; omega⟩
  case done =>
    rintro D W hD ⟨hb, hBW, _⟩ hK _
    have hc := hb.cell
    gi_wp2
    refine ⟨by simp, .inl ⟨_, _, rfl, run_takeDeferred hK, ?_⟩⟩
    exact ⟨_, results_tmp rfl _ _ _, rfl, hBW.trans (belowK_b (w := w) (Nat.le_refl _) W D _ _ (by omega) hK rfl rfl)⟩
  case stop =>
    rintro D c pre W _ _ h _
    exact h.elim
end Go.Proofs.Yteifllgcpickhaa
