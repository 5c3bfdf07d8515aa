/- count: a loop that collects, by the loop's law; Values -/
import Derived.Test.YteifllgcpickhaaE
namespace Go.Proofs.Yteifllgcpickhaa
open Go.RowKit
attribute [local go_sem] Oper.semAt_some

theorem ft_iff {W : World} {b0 : Nat} {t : TypeId} {v : Value} (h : Boxed W b0 t v) (k : Nat) : Ft b0 W k ↔ v.ownBlock = some k := by
  unfold Ft
  rw [h.cell]
  constructor
  · rintro ⟨o, z, len, cap, hc⟩
    cases hc
    rfl
  · intro hk
    unfold Value.ownBlock at hk
    split at hk
    · rename_i a l c
      obtain ⟨bl, o, z⟩ := a
      simp at hk
      subst hk
      exact ⟨o, z, l, c, rfl⟩
    · cases hk
theorem row_lt {W : World} {n e size k : Nat} {v : Value} {xs : List Value} (h : W.ownsRow n e size v k xs) (i : Nat) (hi : v.ownBlock = some i) : i < W.heap.size := by
  rcases h.2 with ⟨rfl, _⟩ | ⟨g, cap, cur, rfl, _, hg, _⟩
  · cases hi
  · simp [Value.ownBlock] at hi
    subst hi
    exact (Array.getElem?_eq_some_iff.1 hg).1
theorem row_ftok {W : World} {b0 n e size k : Nat} {t : TypeId} {v : Value} {xs : List Value} (hv : Boxed W b0 t v) (h : W.ownsRow n e size v k xs) : FtOk b0 W := fun i hi => row_lt h i ((ft_iff hv i).1 hi)
theorem row_stepd {W W' : World} {n1 b0 n e size k : Nat} {t : TypeId} {v : Value} {xs : List Value} (hv : Boxed W b0 t v) (h : W.ownsRow n e size v k xs) (hs : Stepd n1 b0 W W') : W'.ownsRow n e size v k xs := by
  refine ⟨h.1, ?_⟩
  rcases h.2 with h0 | ⟨g, cap, cur, rfl, h1, h2, h3⟩
  · exact .inl h0
  · exact .inr ⟨g, cap, cur, rfl, h1, (hs.same g (row_lt h g rfl) (.inr ((ft_iff hv g).2 rfl))).trans h2, h3⟩

theorem appendedB {W w1 : World} {n0 b0 : Nat} {t e : TypeId} {size : Nat} {v v' : Value} {k m : Nat} {xs ys : List Value} {tmp : Obj}
    (hv : Boxed W b0 t v) (hte : t ≠ e) (hrow : W.ownsRow n0 e size v k xs) (hn0 : n0 ≤ W.heap.size) (hB : n0 ≤ b0)
    (hown' : w1.ownsRow n0 e size v' m ys) (hgrow : (W.alloc tmp).grownBy w1 v.ownBlock) (hat : v'.ownBlock = v.ownBlock ∨ v'.ownBlock = some (W.alloc tmp).heap.size) :
    Boxed w1 b0 t v ∧ Boxed (w1.setCell ⟨b0, 0, none⟩ v') b0 t v' ∧ (w1.setCell ⟨b0, 0, none⟩ v').ownsRow n0 e size v' m ys ∧ Kept b0 W (w1.setCell ⟨b0, 0, none⟩ v') ∧ Below n0 W (w1.setCell ⟨b0, 0, none⟩ v') := by
  obtain ⟨h1, h2, h3, _, h5⟩ := hv.appended hte hrow hn0 hB hown' hgrow
  refine ⟨h1, h2, h3, ⟨h5.os, h5.tape, h5.output, h5.size, fun i hs => ?_⟩, h5⟩
  have hne : some i ≠ v.ownBlock := fun e => hs.2.2 ((ft_iff hv i).2 e.symm)
  refine ⟨?_, Nat.lt_of_lt_of_le hs.1 h5.size, hs.2.1, fun hf => ?_⟩
  · rw [Below.heap_setCell _ _ _ _ (by simpa using hs.2.1), hgrow.block i (by have := hs.1; simp; omega) hne, Below.heap_alloc _ _ _ hs.1]
  · rcases hat with e | e
    · exact hne (by rw [← e]; exact ((ft_iff h2 i).1 hf).symm)
    · have := (ft_iff h2 i).1 hf
      rw [e] at this
      simp at this
      have := hs.1
      omega

/-- append as one step of a region that draws its order -/
theorem stepIn_append {F : Fence} {n : Nat} {P : Program} {ops : Array Oper} {o : Oper} {a : Act} {w w1 : World} {v' : Value} {K : Act → World → Prop} {Q : Exit → Act → World → Prop} {E : Prop}
    (s x : Operand) (t : TypeId) (hop : o.op = Op.call { callee := Callee.builtin Builtin.append, args := #[s, x], argTypes := #[t, t] }) (hwant : Region.wanted o (yielded ops a.tmps) = true)
    (hrun : (Builtin.append_ #[t, t] o.type #[a.eval s, a.eval x]).run P w = .ok v' w1) (hK : K (a.put o.dst v') w1) :
    if Region.wanted o (yielded ops a.tmps) = true then Oper.wpIn F n P o a w K Q else E := by
  rw [if_pos hwant]
  unfold Oper.wpIn
  refine ⟨by simp [Oper.about, hop, resolve, Target.leads, Sem.run_pure], ?_⟩
  rw [Oper.semAt_plain F _ _ (by rw [hop]; intro c hc'; cases hc')]
  simp [execOp, hop, resolve, invoke, builtin, hrun, Result.andThen]
  exact hK

/-- what the terminals among them stand for -/
def vals (pre : List Int) : List Int := (pre.filter (fun x => decide (x < 0))).map valN
theorem vals_snoc (pre : List Int) (x : Int) : vals (pre ++ [x]) = if x < 0 then vals pre ++ [valN x] else vals pre := by
  unfold vals
  rw [List.filter_append]
  by_cases h : x < 0
  · rw [if_pos h]; simp [h]
  · rw [if_neg h]; simp [h]
theorem vals_len (pre : List Int) : (vals pre).length ≤ pre.length := by
  unfold vals
  rw [List.length_map]
  exact List.length_filter_le _ _
theorem Try.info3 : (Try.prog.info? 3).map (fun i => (i.zero, i.size, i.bytes)) = some (some (.int .i64 0), 1, 8) := by kernel_rfl

/-- a slice of ints of the call's own -/
def OwnInts (w : World) (n0 : Nat) (v : Value) (xs : List Int) : Prop := w.ownsRow n0 3 1 v xs.length (xs.map (.int .i64))

def SortOk : Prop := ∀ (n0 : Nat) (v : Value) (xs : List Int) (w : World), OwnInts w n0 v xs → xs.length ≤ 100000 →
  Calls Try.prog 40 #[v] w fun e w' => e = .returned (.tuple #[]) ∧ OwnInts w' n0 v (xs.mergeSort (fun x y => decide (x ≤ y))) ∧ w.grownBy w' v.ownBlock

set_option maxRecDepth 100000 in
set_option maxHeartbeats 4000000 in
theorem values_any (hsort : SortOk) (b : Nat) (l : List Nd) (f : Int) (w : World) (hA : ArRd w b l) (hW : WF l) :
    Calls Try.prog 16 #[.pointer (some ⟨b, 0, none⟩), .int .i64 f] w fun e W' => ∃ v, e = .returned v ∧ OwnInts W' w.heap.size v ((vals (reach l f)).mergeSort (fun x y => decide (x ≤ y))) ∧ Below w.heap.size w W' := by
  refine (callsIn_wide (n := 3)).1 ?_
  refine callsIn_of_wp_marks Try.func16 rfl trivial ?_ rfl
  simp only [Try.ntmps16, List.size_toArray, List.length_cons, List.length_nil, Nat.reduceAdd, Nat.reduceSub, Array.replicate_succ, Array.replicate_zero, List.push_toArray, List.append_toArray, List.nil_append, List.cons_append]
  have hfn : ∀ k, Fence.wide.fn k := fun _ => trivial
  gi_wp2_with (refine (callsIn_wide.2 (each_any _ _ _)).mono ?_; rintro e w' ⟨rfl, rfl⟩)
  have bS := ((Boxed.new w 39 (.slice none 0 0)).alloc (.cells #[.pointer (some ⟨b, 0, none⟩)] 24)).alloc (.cells #[.int .i64 f] 3)
  have bA := (Boxed.new (w.alloc (.cells #[.slice none 0 0] 39)) 24 (.pointer (some ⟨b, 0, none⟩))).alloc (.cells #[.int .i64 f] 3)
  have bF := Boxed.new ((w.alloc (.cells #[.slice none 0 0] 39)).alloc (.cells #[.pointer (some ⟨b, 0, none⟩)] 24)) 3 (.int .i64 f)
  have hB0 : Below w.heap.size w (((w.alloc (.cells #[.slice none 0 0] 39)).alloc (.cells #[.pointer (some ⟨b, 0, none⟩)] 24)).alloc (.cells #[.int .i64 f] 3)) := (((Below.refl _ w).alloc (Nat.le_refl _) _).alloc (by simp) _).alloc (by simp; omega) _
  have hsz : (((w.alloc (.cells #[.slice none 0 0] 39)).alloc (.cells #[.pointer (some ⟨b, 0, none⟩)] 24)).alloc (.cells #[.int .i64 f] 3)).heap.size = w.heap.size + 3 := by simp
  simp only [World.size_alloc] at bA bF ⊢
  obtain ⟨W0, hW0⟩ : ∃ W0, ((w.alloc (.cells #[.slice none 0 0] 39)).alloc (.cells #[.pointer (some ⟨b, 0, none⟩)] 24)).alloc (.cells #[.int .i64 f] 3) = W0 := ⟨_, rfl⟩
  rw [hW0] at bS bA bF hB0 hsz ⊢
  clear hW0
  have hno : ∀ k, ¬ Ft w.heap.size W0 k := fun k hk => by have := (ft_iff bS k).1 hk; cases this
  have hseq := each_seq (b0 := w.heap.size) (Ba := w.heap.size + 1) (Bf := w.heap.size + 1 + 1) (f := f) (w0 := w) (w := W0) hA hW (fun k hk => ⟨by omega, by omega, hno _⟩) hB0 (by omega) ⟨by omega, by omega, hno _⟩ bA.cell (by omega) bF.cell
  refine range_mine (gf := 50) (lb := #[.pointer (some ⟨w.heap.size + 1, 0, none⟩), .pointer (some ⟨w.heap.size + 1 + 1, 0, none⟩)]) rfl (enters_of Try.func50 (by kernel_rfl) rfl) hseq (fun _ => rfl) (by omega)
    (fun pre W => (∃ v, Boxed W w.heap.size 39 v ∧ OwnInts W w.heap.size v (vals pre)) ∧ Below w.heap.size w W ∧ pre.length ≤ 100000)
    (fun _ _ _ => False)
    (fun s W W' hs hst => by
      obtain ⟨⟨v, h1, h2⟩, h3, h4⟩ := hs
      exact ⟨⟨v, boxed_stepd h1 hst (by omega), row_stepd h1 h2 hst⟩, h3.trans (hst.below (by omega) h3.size), h4⟩)
    (fun _ _ _ _ hs _ => hs) (fun _ _ _ hs => hs.elim) (fun pre W hs => by obtain ⟨⟨v, h1, h2⟩, _⟩ := hs; exact row_ftok h1 h2) ⟨⟨_, bS, ⟨rfl, .inl ⟨rfl, rfl⟩⟩⟩, hB0, by simp⟩
    (fun x a' _ => a' = { tmps := #[.pointer (some ⟨b, 0, none⟩), .int .i64 f, undef, undef, .slice none 0 0, .pointer (some ⟨w.heap.size, 0, none⟩), .int .i64 x, .pointer (some ⟨b, 0, none⟩), .int .i64 f, .func (.func 50) #[] #[.pointer (some ⟨w.heap.size + 1, 0, none⟩), .pointer (some ⟨w.heap.size + 1 + 1, 0, none⟩)], .int .i64 x, undef, undef, undef, undef, undef, undef, undef, undef, undef, undef], defers := [] })
    (fun _ _ _ _ _ _ h _ _ => h) ?assign ?body ?done ?stop
  case assign =>
    intro l m pre x W K hi _ hK
    gi_wp2
    exact hK _ _ (Kept.refl _ _) hi rfl
  case body =>
    rintro l m pre x a' W ⟨⟨v, hb, hr⟩, hBW, hlen⟩ hl rfl
    have hc := hb.cell
    have hf := hb.frozen
    have hle := vals_len pre
    have hsn := vals_snoc pre x
    have hmx : Try.prog.follows .mixedOrders = true := by kernel_rfl
    by_cases hx : x < 0
    · rw [if_pos hx] at hsn
      obtain ⟨i0, hi, hz0, hz1, hz2⟩ := info_parts Try.info3
      have hlv : (vals pre).length ≤ 100000 := by omega
      have hWs := hBW.size
      gi_wp2_with (refine ⟨wdeep _, ?_⟩; refine (CallsIn.inRound l (callsIn_wide.2 (isterm_any x W))).mono ?_; rintro e w' ⟨rfl, rfl⟩)
      obtain ⟨v', w1, hrun, hown', hgrow, _, hat⟩ := run_append_own_at (P := Try.prog) (W.alloc (.cells #[.int .i64 (valN x)] 3)).drew w.heap.size 39 39 3 i0 _ 1 8 Try.underlying39 hi hz0 hz1 hz2 rfl (by decide) v _ _ (show World.ownsRow (W.alloc (.cells #[.int .i64 (valN x)] 3)) _ _ _ _ _ _ from hr.alloc _) ⟨W.heap.size, 0, none⟩ 1 1 [.int .i64 (valN x)] rfl (cell_one_new _ _ _) (by simp [Value.oneCell']) (by unfold maxLen; omega) (by omega) (by simp; omega)
      obtain ⟨g', cap', rfl⟩ := ownsRow_succ hown'
      obtain ⟨hv1, hv2, hr2, hk2, hb2⟩ := appendedB hb (by decide) hr (by omega) (Nat.le_refl _) hown' (show (W.alloc (.cells #[.int .i64 (valN x)] 3)).grownBy w1 _ from ⟨hgrow.os, hgrow.tape, hgrow.output, hgrow.size, hgrow.block⟩) hat
      have hc1 := hv1.cell
      have hf1 := hv1.frozen
      have hca := (hb.alloc (.cells #[.int .i64 (valN x)] 3)).cell
      refine wpIn_region_any hmx ?_
      change wpAnyIn _ _ _ _ _ _ _ _ _ (World.drew _)
      refine wpAnyIn_ready (rs := [0, 1]) (by kernel_rfl) (by simp) (AllReadyIn.cons rfl (fun K hK => ?_) (AllReadyIn.cons rfl (fun K hK => ?_) AllReadyIn.nil))
      · go_simp
        refine hK _ _ ?_
        clear hK K
        refine wpAnyIn_ready (rs := [1]) (by kernel_rfl) (by simp) (AllReadyIn.cons rfl (fun K hK => ?_) AllReadyIn.nil)
        go_simp
        refine hK _ _ ?_
        clear hK K
        refine wpAnyIn_ready (rs := [2]) (by kernel_rfl) (by simp) (AllReadyIn.cons rfl (fun K hK => ?_) AllReadyIn.nil)
        go_simp
        refine ⟨wdeep _, ?_⟩
        refine (CallsIn.inRound l (callsIn_wide.2 (value_any x _))).mono ?_
        rintro e w' ⟨rfl, rfl⟩
        refine hK _ _ ?_
        clear hK K
        refine wpAnyIn_ready (rs := [3]) (by kernel_rfl) (by simp) (AllReadyIn.cons rfl (fun K hK => ?_) AllReadyIn.nil)
        go_simp
        refine hK _ _ ?_
        clear hK K
        refine wpAnyIn_ready (rs := [4]) (by kernel_rfl) (by simp) (AllReadyIn.cons rfl (fun K hK => ?_) AllReadyIn.nil)
        refine stepIn_append _ _ 39 rfl (by kernel_rfl) hrun ?_
        refine hK _ _ ?_
        clear hK K
        refine wpAnyIn_ready (rs := [5]) (by kernel_rfl) (by simp) (AllReadyIn.cons rfl (fun K hK => ?_) AllReadyIn.nil)
        go_simp
        refine hK _ _ ?_
        clear hK K
        refine wpAnyIn_done (by kernel_rfl) ?_ _
        exact ⟨hk2, ⟨_, hv2, by unfold OwnInts; rw [hsn, List.length_append, List.map_append]; exact hr2⟩, hBW.trans hb2, by simp; omega⟩
      · go_simp
        refine hK _ _ ?_
        clear hK K
        refine wpAnyIn_ready (rs := [0, 2]) (by kernel_rfl) (by simp) (AllReadyIn.cons rfl (fun K hK => ?_) (AllReadyIn.cons rfl (fun K hK => ?_) AllReadyIn.nil))
        · go_simp
          refine hK _ _ ?_
          clear hK K
          refine wpAnyIn_ready (rs := [2]) (by kernel_rfl) (by simp) (AllReadyIn.cons rfl (fun K hK => ?_) AllReadyIn.nil)
          go_simp
          refine ⟨wdeep _, ?_⟩
          refine (CallsIn.inRound l (callsIn_wide.2 (value_any x _))).mono ?_
          rintro e w' ⟨rfl, rfl⟩
          refine hK _ _ ?_
          clear hK K
          refine wpAnyIn_ready (rs := [3]) (by kernel_rfl) (by simp) (AllReadyIn.cons rfl (fun K hK => ?_) AllReadyIn.nil)
          go_simp
          refine hK _ _ ?_
          clear hK K
          refine wpAnyIn_ready (rs := [4]) (by kernel_rfl) (by simp) (AllReadyIn.cons rfl (fun K hK => ?_) AllReadyIn.nil)
          refine stepIn_append _ _ 39 rfl (by kernel_rfl) hrun ?_
          refine hK _ _ ?_
          clear hK K
          refine wpAnyIn_ready (rs := [5]) (by kernel_rfl) (by simp) (AllReadyIn.cons rfl (fun K hK => ?_) AllReadyIn.nil)
          go_simp
          refine hK _ _ ?_
          clear hK K
          refine wpAnyIn_done (by kernel_rfl) ?_ _
          exact ⟨hk2, ⟨_, hv2, by unfold OwnInts; rw [hsn, List.length_append, List.map_append]; exact hr2⟩, hBW.trans hb2, by simp; omega⟩
        · go_simp
          refine ⟨wdeep _, ?_⟩
          refine (CallsIn.inRound l (callsIn_wide.2 (value_any x _))).mono ?_
          rintro e w' ⟨rfl, rfl⟩
          refine hK _ _ ?_
          clear hK K
          refine wpAnyIn_ready (rs := [0, 3]) (by kernel_rfl) (by simp) (AllReadyIn.cons rfl (fun K hK => ?_) (AllReadyIn.cons rfl (fun K hK => ?_) AllReadyIn.nil))
          · go_simp
            refine hK _ _ ?_
            clear hK K
            refine wpAnyIn_ready (rs := [3]) (by kernel_rfl) (by simp) (AllReadyIn.cons rfl (fun K hK => ?_) AllReadyIn.nil)
            go_simp
            refine hK _ _ ?_
            clear hK K
            refine wpAnyIn_ready (rs := [4]) (by kernel_rfl) (by simp) (AllReadyIn.cons rfl (fun K hK => ?_) AllReadyIn.nil)
            refine stepIn_append _ _ 39 rfl (by kernel_rfl) hrun ?_
            refine hK _ _ ?_
            clear hK K
            refine wpAnyIn_ready (rs := [5]) (by kernel_rfl) (by simp) (AllReadyIn.cons rfl (fun K hK => ?_) AllReadyIn.nil)
            go_simp
            refine hK _ _ ?_
            clear hK K
            refine wpAnyIn_done (by kernel_rfl) ?_ _
            exact ⟨hk2, ⟨_, hv2, by unfold OwnInts; rw [hsn, List.length_append, List.map_append]; exact hr2⟩, hBW.trans hb2, by simp; omega⟩
          · go_simp
            refine hK _ _ ?_
            clear hK K
            refine wpAnyIn_ready (rs := [0]) (by kernel_rfl) (by simp) (AllReadyIn.cons rfl (fun K hK => ?_) AllReadyIn.nil)
            go_simp
            refine hK _ _ ?_
            clear hK K
            refine wpAnyIn_ready (rs := [4]) (by kernel_rfl) (by simp) (AllReadyIn.cons rfl (fun K hK => ?_) AllReadyIn.nil)
            refine stepIn_append _ _ 39 rfl (by kernel_rfl) hrun ?_
            refine hK _ _ ?_
            clear hK K
            refine wpAnyIn_ready (rs := [5]) (by kernel_rfl) (by simp) (AllReadyIn.cons rfl (fun K hK => ?_) AllReadyIn.nil)
            go_simp
            refine hK _ _ ?_
            clear hK K
            refine wpAnyIn_done (by kernel_rfl) ?_ _
            exact ⟨hk2, ⟨_, hv2, by unfold OwnInts; rw [hsn, List.length_append, List.map_append]; exact hr2⟩, hBW.trans hb2, by simp; omega⟩
    · rw [if_neg hx] at hsn
      have hd : decide (x < 0) = false := decide_eq_false hx
      gi_wp2_with (refine ⟨wdeep _, ?_⟩; refine (CallsIn.inRound l (callsIn_wide.2 (isterm_any x W))).mono ?_; rintro e w' ⟨rfl, rfl⟩)
      exact ⟨Kept.refl _ _, ⟨v, hb, by rw [hsn]; exact hr⟩, hBW, by simp; omega⟩
  case done =>
    rintro D W hD ⟨⟨v, hb, hr⟩, hBW, hlen⟩ hK _
    have hc := hb.cell
    have hs : ∀ m, CallsIn Fence.wide m Try.prog 40 #[v] W fun e w' => e = .returned (.tuple #[]) ∧ (OwnInts w' w.heap.size v ((vals (reach l f)).mergeSort (fun x y => decide (x ≤ y))) ∧ Below w.heap.size w w') ∧ w'.cell? ⟨w.heap.size, 0, none⟩ = some v ∧ w'.heap[D]? = some (.deferred (some [])) := fun m => by
      refine (callsIn_wide.2 (hsort w.heap.size v _ W hr (by have := vals_len (reach l f); omega))).mono ?_
      rintro e w' ⟨he, h1, h2⟩
      refine ⟨he, ⟨h1, hBW.grown h2 hBW.size (fun k hk => ?_)⟩, (hb.kept h2 (hb.not_row (by decide) hr)).cell, (h2.block D (Array.getElem?_eq_some_iff.1 hK).1 (fun e => ?_)).trans hK⟩
      · rcases hr.2 with ⟨rfl, _⟩ | ⟨g, cap, cur, rfl, hg, _⟩
        · cases hk
        · simp [Value.ownBlock] at hk; omega
      · rcases hr.2 with ⟨rfl, _⟩ | ⟨g, cap, cur, rfl, _, hg, _⟩
        · cases e
        · simp [Value.ownBlock] at e
          subst e
          rw [hg] at hK
          cases hK
    gi_wp2_with (refine (hs _).mono ?_; clear hs; rintro e w2 ⟨rfl, hr2, hc2, hK2⟩)
    refine ⟨by simp, .inl ⟨_, _, rfl, run_takeDeferred hK2, ?_⟩⟩
    refine ⟨_, results_tmp rfl _ _ _, v, rfl, ?_⟩
    exact ⟨ownsRow_putObj hr2.1 _ hK2 rfl, hr2.2.trans (belowK_b (w := w) (Nat.le_refl _) w2 D _ _ (by omega) hK2 rfl rfl)⟩
  case stop =>
    rintro D c pre W _ _ h _
    exact h.elim
end Go.Proofs.Yteifllgcpickhaa
