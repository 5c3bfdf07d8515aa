/- count: Sat -/
import Derived.Test.YteifllgcpickhaaI
namespace Go.Proofs.Yteifllgcpickhaa
open Go.RowKit
attribute [local go_sem] Oper.semAt_some
attribute [local go_sem] run_store_func

theorem dn_self {l : List Nd} (hW : WF l) : ∀ (n : Nat) (vis : List Int) (f : Int), 12 - varOf l f < n → f ∈ dn l n vis f := by
  intro n vis f h
  cases n with
  | zero =>
    exfalso
    have := varOf_le hW f
    omega
  | succ n =>
    unfold dn
    split
    · assumption
    · split
      · exact (dn_prefix l n _ _).subset ((dn_prefix l n _ _).subset (by simp))
      · simp
theorem dn_closed {l : List Nd} (hW : WF l) : ∀ (n : Nat) (vis : List Int) (f : Int), 12 - varOf l f < n → ∀ x ∈ dn l n vis f, x ∈ vis ∨ ((0 ≤ x ∧ x < l.length) → (l[x.toNat]?.getD default).lo ∈ dn l n vis f ∧ (l[x.toNat]?.getD default).hi ∈ dn l n vis f) := by
  intro n
  induction n with
  | zero =>
    intro vis f h
    exfalso
    have := varOf_le hW f
    omega
  | succ n ih =>
    intro vis f h x hx
    by_cases hv : f ∈ vis
    · have hd : dn l (n + 1) vis f = vis := by unfold dn; rw [if_pos hv]
      rw [hd] at hx
      exact .inl hx
    · by_cases hf : 0 ≤ f ∧ f < l.length
      · have hd : dn l (n + 1) vis f = dn l n (dn l n (vis ++ [f]) (l[f.toNat]?.getD default).lo) (l[f.toNat]?.getD default).hi := by conv => lhs; unfold dn; rw [if_neg hv, if_pos hf]
        rw [hd] at hx ⊢
        obtain ⟨v, lo, hi, e, _, hvf, h1, h2, h3, h4, h5, h6⟩ := node_kids hW hf
        rw [e] at hx ⊢
        simp only at hx ⊢
        have hsub := (dn_prefix l n (dn l n (vis ++ [f]) lo) hi).subset
        rcases ih _ hi (by omega) x hx with h7 | h7
        · rcases ih _ lo (by omega) x h7 with h8 | h8
          · rcases List.mem_append.1 h8 with h9 | h9
            · exact .inl h9
            · right
              intro _
              simp at h9
              subst h9
              rw [e]
              exact ⟨hsub (dn_self hW n _ lo (by omega)), dn_self hW n _ hi (by omega)⟩
          · right
            intro hn
            exact ⟨hsub (h8 hn).1, hsub (h8 hn).2⟩
        · exact .inr h7
      · have hd : dn l (n + 1) vis f = vis ++ [f] := by unfold dn; rw [if_neg hv, if_neg hf]
        rw [hd] at hx
        rcases List.mem_append.1 hx with h7 | h7
        · exact .inl h7
        · right
          intro hn
          simp at h7
          subst h7
          exact absurd hn hf

theorem lowv_of {l : List Nd} {n : Int} {V : List Int} (hc : ∀ x ∈ V, (0 ≤ x ∧ x < l.length) → (l[x.toNat]?.getD default).lo ∈ V ∧ (l[x.toNat]?.getD default).hi ∈ V) (hv : ∀ x ∈ V, (0 ≤ x ∧ x < l.length) → (l[x.toNat]?.getD default).v < n) :
    ∀ (k : Nat) (x : Int), x ∈ V → lowv l n k x := by
  intro k
  induction k with
  | zero => intro x _; trivial
  | succ k ih =>
    intro x hx
    unfold lowv
    split
    · rename_i hn
      exact ⟨hv x hx hn, ih _ (hc x hx hn).1, ih _ (hc x hx hn).2⟩
    · trivial

/-- a ref that is a node whose variable is no bit of n -/
def badN (l : List Nd) (n x : Int) : Prop := 0 ≤ x ∧ n ≤ varOf l x
theorem lowv_reach {l : List Nd} (hW : WF l) {n f : Int} (hh : hasB l f = true) (hg : ∀ x ∈ reach l f, ¬ badN l n x) : lowv l n 13 f := by
  have h12 := varOf_nonneg hW f
  have hr : reach l f = dn l 13 [] f := by unfold reach; rw [if_pos hh]
  rw [hr] at hg
  refine lowv_of (V := dn l 13 [] f) (fun x hx hn => ?_) (fun x hx hn => ?_) 13 f (dn_self hW 13 [] f (by omega))
  · rcases dn_closed hW 13 [] f (by omega) x hx with h | h
    · cases h
    · exact h hn
  · obtain ⟨v, lo, hi, e, _, hvf, _⟩ := node_kids hW hn
    have := hg x hx
    unfold badN at this
    rw [e]
    simp only
    omega

open Classical in
/-- for how many numbers of so many bits a value is told -/
noncomputable def satR (l : List Nd) (f value n : Int) : Int :=
  if n < 0 ∨ 12 < n ∨ hasB l f = false ∨ ∃ x ∈ reach l f, badN l n x then 0 else satF l value n f * 2 ^ (lvl l n f).toNat

/-- the world in which below is called first -/
def satWorld (W : World) (p4 p7 p6 : Nat) : World :=
  (((((W.alloc (.cells #[.func (.func 36) #[] #[.pointer (some ⟨p4, 0, none⟩), .pointer (some ⟨p7, 0, none⟩)]] 54)).alloc (.map #[] 0)).alloc (.cells #[.map (some (W.heap.size + 1))] 71)).alloc (.cells #[.nilFunc] 54)).setCell ⟨W.heap.size + 1 + 1 + 1, 0, none⟩ (.func (.func 37) #[] #[.pointer (some ⟨W.heap.size + 1 + 1, 0, none⟩), .pointer (some ⟨p4, 0, none⟩), .pointer (some ⟨W.heap.size + 1 + 1 + 1, 0, none⟩), .pointer (some ⟨W.heap.size, 0, none⟩), .pointer (some ⟨p6, 0, none⟩)]))
theorem satWorld_facts (W : World) (p4 p7 p6 : Nat) :
    W.grownBy (satWorld W p4 p7 p6) none ∧ (satWorld W p4 p7 p6).heap.size = W.heap.size + 4 ∧ Boxed (satWorld W p4 p7 p6) W.heap.size 54 (.func (.func 36) #[] #[.pointer (some ⟨p4, 0, none⟩), .pointer (some ⟨p7, 0, none⟩)]) ∧ (satWorld W p4 p7 p6).heap[W.heap.size + 1]? = some (.map #[] 0) ∧
    Boxed (satWorld W p4 p7 p6) (W.heap.size + 1 + 1) 71 (.map (some (W.heap.size + 1))) ∧ Boxed (satWorld W p4 p7 p6) (W.heap.size + 1 + 1 + 1) 54 (.func (.func 37) #[] #[.pointer (some ⟨W.heap.size + 1 + 1, 0, none⟩), .pointer (some ⟨p4, 0, none⟩), .pointer (some ⟨W.heap.size + 1 + 1 + 1, 0, none⟩), .pointer (some ⟨W.heap.size, 0, none⟩), .pointer (some ⟨p6, 0, none⟩)]) := by
  have b3 := Boxed.new W 54 (.func (.func 36) #[] #[.pointer (some ⟨p4, 0, none⟩), .pointer (some ⟨p7, 0, none⟩)])
  have bm := World.alloc_heap_new (W.alloc (.cells #[.func (.func 36) #[] #[.pointer (some ⟨p4, 0, none⟩), .pointer (some ⟨p7, 0, none⟩)]] 54)) (.map #[] 0)
  have b4 := Boxed.new ((W.alloc (.cells #[.func (.func 36) #[] #[.pointer (some ⟨p4, 0, none⟩), .pointer (some ⟨p7, 0, none⟩)]] 54)).alloc (.map #[] 0)) 71 (.map (some (W.heap.size + 1)))
  have b5 := Boxed.new (((W.alloc (.cells #[.func (.func 36) #[] #[.pointer (some ⟨p4, 0, none⟩), .pointer (some ⟨p7, 0, none⟩)]] 54)).alloc (.map #[] 0)).alloc (.cells #[.map (some (W.heap.size + 1))] 71)) 54 .nilFunc
  simp only [World.size_alloc] at b4 b5 bm
  refine ⟨⟨rfl, rfl, rfl, by simp [satWorld, World.setCell]; omega, fun k hk _ => ?_⟩, by simp [satWorld, World.setCell], ?_, ?_, ?_, ?_⟩
  · unfold satWorld
    rw [Below.heap_setCell _ _ _ _ (by simp; omega), Below.heap_alloc _ _ _ (by simp; omega), Below.heap_alloc _ _ _ (by simp; omega), Below.heap_alloc _ _ _ (by simp; omega), Below.heap_alloc _ _ _ hk]
  · exact (((b3.alloc _).alloc _).alloc _).kept (grownBy_setCell' _ _ _) (by simp; omega)
  · unfold satWorld
    rw [Below.heap_setCell _ _ _ _ (by simp), Below.heap_alloc _ _ _ (by simp), Below.heap_alloc _ _ _ (by simp)]
    exact bm
  · exact (b4.alloc _).kept (grownBy_setCell' _ _ _) (by simp)
  · exact b5.set _
theorem boxed_below {W W' : World} {B : Nat} {t : TypeId} {v : Value} (h : Boxed W B t v) (hb : Below W.heap.size W W') : Boxed W' B t v := (hb.block B h.lt).trans h

set_option maxRecDepth 100000 in
set_option maxHeartbeats 4000000 in
theorem sat_any (b : Nat) (l : List Nd) (f value n : Int) (w : World) (hA : ArRd w b l) (hW : WF l) :
    Calls Try.prog 14 #[.pointer (some ⟨b, 0, none⟩), .int .i64 f, .int .i64 value, .int .i64 n] w fun e W' => e = .returned (.int .i64 (satR l f value n)) ∧ Below w.heap.size w W' := by
  refine (callsIn_wide (n := 3)).1 ?_
  refine callsIn_of_wp_marks Try.func14 rfl trivial ?_ rfl
  simp only [Try.ntmps14, List.size_toArray, List.length_cons, List.length_nil, Nat.reduceAdd, Nat.reduceSub, Array.replicate_succ, Array.replicate_zero, List.push_toArray, List.append_toArray, List.nil_append, List.cons_append]
  have hfn : ∀ k, Fence.wide.fn k := fun _ => trivial
  have q4 := (((Boxed.new w 24 (.pointer (some ⟨b, 0, none⟩))).alloc (.cells #[.int .i64 value] 3)).alloc (.cells #[.int .i64 n] 3)).alloc (.cells #[.int .i64 0] 3)
  have q6 := ((Boxed.new (w.alloc (.cells #[.pointer (some ⟨b, 0, none⟩)] 24)) 3 (.int .i64 value)).alloc (.cells #[.int .i64 n] 3)).alloc (.cells #[.int .i64 0] 3)
  have q7 := (Boxed.new ((w.alloc (.cells #[.pointer (some ⟨b, 0, none⟩)] 24)).alloc (.cells #[.int .i64 value] 3)) 3 (.int .i64 n)).alloc (.cells #[.int .i64 0] 3)
  have q8 := Boxed.new (((w.alloc (.cells #[.pointer (some ⟨b, 0, none⟩)] 24)).alloc (.cells #[.int .i64 value] 3)).alloc (.cells #[.int .i64 n] 3)) 3 (.int .i64 0)
  have hB0 : Below w.heap.size w ((((w.alloc (.cells #[.pointer (some ⟨b, 0, none⟩)] 24)).alloc (.cells #[.int .i64 value] 3)).alloc (.cells #[.int .i64 n] 3)).alloc (.cells #[.int .i64 0] 3)) := ((((Below.refl _ w).alloc (Nat.le_refl _) _).alloc (by simp) _).alloc (by simp; omega) _).alloc (by simp; omega) _
  have hsz : ((((w.alloc (.cells #[.pointer (some ⟨b, 0, none⟩)] 24)).alloc (.cells #[.int .i64 value] 3)).alloc (.cells #[.int .i64 n] 3)).alloc (.cells #[.int .i64 0] 3)).heap.size = w.heap.size + 4 := by simp
  simp only [World.size_alloc] at q6 q7 q8
  obtain ⟨W0, hw⟩ : ∃ W0, ((((w.alloc (.cells #[.pointer (some ⟨b, 0, none⟩)] 24)).alloc (.cells #[.int .i64 value] 3)).alloc (.cells #[.int .i64 n] 3)).alloc (.cells #[.int .i64 0] 3)) = W0 := ⟨_, rfl⟩
  rw [hw] at q4 q6 q7 q8 hB0 hsz
  have c4 := q4.cell
  have c7 := q7.cell
  have c8 := q8.cell
  have f8 := q8.frozen
  have hres : ∀ (v : Int) (W : World) tmps, tmps.getD 8 undef = .pointer (some ⟨w.heap.size + 1 + 1 + 1, 0, none⟩) → W.cell? ⟨w.heap.size + 1 + 1 + 1, 0, none⟩ = some (.int .i64 v) → (results Try.f14 tmps).run Try.prog W = .ok (.int .i64 v) W := by
    intro v W tmps h1 h2
    have h1' : tmps[8]?.getD undef = .pointer (some ⟨w.heap.size + 1 + 1 + 1, 0, none⟩) := by simpa using h1
    simp [results, Try.f14, go_sem, h1', h2]
  have hres0 : ∀ tmps, tmps.getD 8 undef = .pointer (some ⟨w.heap.size + 1 + 1 + 1, 0, none⟩) → (results Try.f14 tmps).run Try.prog (W0.setCell ⟨w.heap.size + 1 + 1 + 1, 0, none⟩ (.int .i64 0)) = .ok (.int .i64 0) (W0.setCell ⟨w.heap.size + 1 + 1 + 1, 0, none⟩ (.int .i64 0)) := fun tmps h => hres 0 _ tmps h (q8.set _).cell
  have hBs : Below w.heap.size w (W0.setCell ⟨w.heap.size + 1 + 1 + 1, 0, none⟩ (.int .i64 0)) := hB0.setCell (p := ⟨w.heap.size + 1 + 1 + 1, 0, none⟩) (by simp; omega) _
  have hres0' := Lib.hid hres0
  have hres' := Lib.hid hres
  clear hres hres0
  have hszh := Lib.hid hsz
  clear hsz
  by_cases h0 : n < 0
  · have hs : satR l f value n = 0 := by unfold satR; rw [if_pos (.inl h0)]
    rw [hs]
    gi_wp2_with fail
    exact ⟨_, hres0'.out _ rfl, rfl, hBs⟩
  · by_cases h1 : n > 12
    · have hs : satR l f value n = 0 := by unfold satR; rw [if_pos (.inr (.inl h1))]
      rw [hs]
      gi_wp2_with fail
      exact ⟨_, hres0'.out _ rfl, rfl, hBs⟩
    · cases hh : hasB l f with
      | false =>
        have hs : satR l f value n = 0 := by unfold satR; rw [if_pos (.inr (.inr (.inl hh)))]
        rw [hs]
        gi_wp2_with (refine (callsIn_wide.2 (has_any b l f W0 (hA.below (Nat.le_refl _) hB0))).mono ?_; rw [hh]; rintro e w' ⟨rfl, rfl⟩)
        exact ⟨_, hres0'.out _ rfl, rfl, hBs⟩
      | true =>
        gi_wp2_with (first
          | (refine (callsIn_wide.2 (has_any b l f W0 (hA.below (Nat.le_refl _) hB0))).mono ?_; rw [hh]; rintro e w' ⟨rfl, rfl⟩)
          | (refine (callsIn_wide.2 (each_any _ _ _)).mono ?_; rintro e w' ⟨rfl, rfl⟩))
        have hsz := hszh.out
        have r8 := (q8.alloc (.cells #[.pointer (some ⟨b, 0, none⟩)] 24)).alloc (.cells #[.int .i64 f] 3)
        have r7 := (q7.alloc (.cells #[.pointer (some ⟨b, 0, none⟩)] 24)).alloc (.cells #[.int .i64 f] 3)
        have r6 := (q6.alloc (.cells #[.pointer (some ⟨b, 0, none⟩)] 24)).alloc (.cells #[.int .i64 f] 3)
        have r4 := (q4.alloc (.cells #[.pointer (some ⟨b, 0, none⟩)] 24)).alloc (.cells #[.int .i64 f] 3)
        have rA := (Boxed.new W0 24 (.pointer (some ⟨b, 0, none⟩))).alloc (.cells #[.int .i64 f] 3)
        have rF := Boxed.new (W0.alloc (.cells #[.pointer (some ⟨b, 0, none⟩)] 24)) 3 (.int .i64 f)
        simp only [World.size_alloc] at rA rF
        have hB1 : Below w.heap.size w ((W0.alloc (.cells #[.pointer (some ⟨b, 0, none⟩)] 24)).alloc (.cells #[.int .i64 f] 3)) := (hB0.alloc hB0.size _).alloc (by simp; omega) _
        have hs1 : ((W0.alloc (.cells #[.pointer (some ⟨b, 0, none⟩)] 24)).alloc (.cells #[.int .i64 f] 3)).heap.size = W0.heap.size + 2 := by simp
        generalize ((W0.alloc (.cells #[.pointer (some ⟨b, 0, none⟩)] 24)).alloc (.cells #[.int .i64 f] 3)) = W1 at r8 r7 r6 r4 rA rF hB1 hs1 ⊢
        have hseq := each_seq (b0 := w.heap.size + 1 + 1 + 1) (Ba := W0.heap.size) (Bf := W0.heap.size + 1) (f := f) (w0 := w) (w := W1) hA hW (fun k hk => ⟨by omega, by omega, boxed_noft r8 _⟩) hB1 (by omega) ⟨by omega, by omega, boxed_noft r8 _⟩ rA.cell (by omega) rF.cell
        clear hw c4 c7 c8 f8
        refine range_mine (gf := 50) (lb := #[.pointer (some ⟨W0.heap.size, 0, none⟩), .pointer (some ⟨W0.heap.size + 1, 0, none⟩)]) rfl (enters_of Try.func50 (by kernel_rfl) rfl) hseq (fun _ => rfl) (by omega)
          (fun pre W => Boxed W (w.heap.size + 1 + 1 + 1) 3 (.int .i64 0) ∧ Boxed W w.heap.size 24 (.pointer (some ⟨b, 0, none⟩)) ∧ Boxed W (w.heap.size + 1) 3 (.int .i64 value) ∧ Boxed W (w.heap.size + 1 + 1) 3 (.int .i64 n) ∧ Below w.heap.size w W ∧ ∀ x ∈ pre, ¬ badN l n x)
          (fun c pre W => c = .ret ∧ Boxed W (w.heap.size + 1 + 1 + 1) 3 (.int .i64 0) ∧ Below w.heap.size w W ∧ ∃ x ∈ pre, badN l n x)
          (fun s W W' hs hst => ⟨boxed_stepd hs.1 hst (by omega), boxed_stepd hs.2.1 hst (by omega), boxed_stepd hs.2.2.1 hst (by omega), boxed_stepd hs.2.2.2.1 hst (by omega), hs.2.2.2.2.1.trans (hst.below (by omega) hs.2.2.2.2.1.size), hs.2.2.2.2.2⟩)
          (fun c s W W' hs hst => ⟨hs.1, boxed_stepd hs.2.1 hst (by omega), hs.2.2.1.trans (hst.below (by omega) hs.2.2.1.size), hs.2.2.2⟩)
          (fun _ _ _ _ => trivial) (fun pre W hs => boxed_ftok hs.1) ⟨r8, r4, r6, r7, hB1, by simp⟩
          (fun x a' _ => a' = { tmps := #[.pointer (some ⟨b, 0, none⟩), .int .i64 f, .int .i64 value, .int .i64 n, .pointer (some ⟨w.heap.size, 0, none⟩), undef, .pointer (some ⟨w.heap.size + 1, 0, none⟩), .pointer (some ⟨w.heap.size + 1 + 1, 0, none⟩), .pointer (some ⟨w.heap.size + 1 + 1 + 1, 0, none⟩), .int .i64 x, undef, undef, undef, .int .i64 n, .bool false, .bool false, .int .i64 n, .bool false, .bool false, .bool false, .pointer (some ⟨b, 0, none⟩), .int .i64 f, .bool true, .bool false, .bool false, .pointer (some ⟨b, 0, none⟩), .int .i64 f, .func (.func 50) #[] #[.pointer (some ⟨W0.heap.size, 0, none⟩), .pointer (some ⟨W0.heap.size + 1, 0, none⟩)], .int .i64 x, undef, undef, undef, undef, undef, undef, undef, undef, undef, undef, undef, undef, undef, undef, undef, undef, undef, undef, undef, undef], defers := [] })
          (fun _ _ _ _ _ _ h _ _ => h) ?assign ?body ?done ?stop
        case assign =>
          intro l' m pre x W K hi _ hK
          clear hsz hs1
          gi_wp2
          exact hK _ _ (Kept.refl _ _) hi rfl
        case body =>
          rintro l' m pre x a' W ⟨i8, i4, i6, i7, hBW, hpre⟩ hl rfl
          clear hsz hs1
          have d4 := i4.cell
          have d7 := i7.cell
          have hmx : Try.prog.follows .mixedOrders = true := by kernel_rfl
          have hbw : w.heap.size + 1 + 1 + 1 < W.heap.size := i8.lt
          by_cases hx : x < 0
          · gi_wp2_with fail
            refine wpIn_region_any hmx ?_
            change wpAnyIn _ _ _ _ _ _ _ _ _ (World.drew _)
            refine wpAnyIn_ready (rs := [0]) (by kernel_rfl) (by simp) (AllReadyIn.cons rfl (fun K hK => ?_) AllReadyIn.nil)
            go_simp
            refine hK _ _ ?_
            clear hK K
            refine wpAnyIn_ready (rs := [1]) (by kernel_rfl) (by simp) (AllReadyIn.cons rfl (fun K hK => ?_) AllReadyIn.nil)
            go_simp
            refine ⟨wdeep _, ?_⟩
            refine (CallsIn.inRound l' (callsIn_wide.2 (isterm_any x _))).mono ?_
            rintro e w' ⟨rfl, rfl⟩
            refine hK _ _ ?_
            clear hK K
            refine wpAnyIn_ready (rs := [2]) (by kernel_rfl) (by simp) (AllReadyIn.cons rfl (fun K hK => ?_) AllReadyIn.nil)
            go_simp
            refine hK _ _ ?_
            clear hK K
            refine wpAnyIn_ready (rs := [3]) (by kernel_rfl) (by simp) (AllReadyIn.cons rfl (fun K hK => ?_) AllReadyIn.nil)
            go_simp
            refine hK _ _ ?_
            clear hK K
            refine wpAnyIn_ready (rs := [4, 5, 7]) (by kernel_rfl) (by simp) (AllReadyIn.cons rfl (fun K hK => ?_) (AllReadyIn.cons rfl (fun K hK => ?_) (AllReadyIn.cons rfl (fun K hK => ?_) AllReadyIn.nil)))
            · go_simp
              refine hK _ _ ?_
              clear hK K
              refine wpAnyIn_ready (rs := [5, 7]) (by kernel_rfl) (by simp) (AllReadyIn.cons rfl (fun K hK => ?_) (AllReadyIn.cons rfl (fun K hK => ?_) AllReadyIn.nil))
              · go_simp
                refine hK _ _ ?_
                clear hK K
                refine wpAnyIn_ready (rs := [6, 7]) (by kernel_rfl) (by simp) (AllReadyIn.cons rfl (fun K hK => ?_) (AllReadyIn.cons rfl (fun K hK => ?_) AllReadyIn.nil))
                · go_simp
                  refine hK _ _ ?_
                  clear hK K
                  refine wpAnyIn_ready (rs := [7]) (by kernel_rfl) (by simp) (AllReadyIn.cons rfl (fun K hK => ?_) AllReadyIn.nil)
                  go_simp
                  refine hK _ _ ?_
                  clear hK K
                  refine wpAnyIn_ready (rs := [8]) (by kernel_rfl) (by simp) (AllReadyIn.cons rfl (fun K hK => ?_) AllReadyIn.nil)
                  go_simp
                  refine hK _ _ ?_
                  clear hK K
                  refine wpAnyIn_ready (rs := [9]) (by kernel_rfl) (by simp) (AllReadyIn.cons rfl (fun K hK => ?_) AllReadyIn.nil)
                  go_simp
                  refine hK _ _ ?_
                  clear hK K
                  refine wpAnyIn_done (by kernel_rfl) ?_ _
                  gi_wp2
                  exact ⟨Kept.drewN W 1, i8, i4, i6, i7, hBW.drew, fun y hy => (List.mem_append.1 hy).elim (hpre y) (fun h => by simp at h; subst h; unfold badN; omega)⟩
                · go_simp
                  refine hK _ _ ?_
                  clear hK K
                  refine wpAnyIn_ready (rs := [6]) (by kernel_rfl) (by simp) (AllReadyIn.cons rfl (fun K hK => ?_) AllReadyIn.nil)
                  go_simp
                  refine hK _ _ ?_
                  clear hK K
                  refine wpAnyIn_ready (rs := [8]) (by kernel_rfl) (by simp) (AllReadyIn.cons rfl (fun K hK => ?_) AllReadyIn.nil)
                  go_simp
                  refine hK _ _ ?_
                  clear hK K
                  refine wpAnyIn_ready (rs := [9]) (by kernel_rfl) (by simp) (AllReadyIn.cons rfl (fun K hK => ?_) AllReadyIn.nil)
                  go_simp
                  refine hK _ _ ?_
                  clear hK K
                  refine wpAnyIn_done (by kernel_rfl) ?_ _
                  gi_wp2
                  exact ⟨Kept.drewN W 1, i8, i4, i6, i7, hBW.drew, fun y hy => (List.mem_append.1 hy).elim (hpre y) (fun h => by simp at h; subst h; unfold badN; omega)⟩
              · go_simp
                refine hK _ _ ?_
                clear hK K
                refine wpAnyIn_ready (rs := [5]) (by kernel_rfl) (by simp) (AllReadyIn.cons rfl (fun K hK => ?_) AllReadyIn.nil)
                go_simp
                refine hK _ _ ?_
                clear hK K
                refine wpAnyIn_ready (rs := [6]) (by kernel_rfl) (by simp) (AllReadyIn.cons rfl (fun K hK => ?_) AllReadyIn.nil)
                go_simp
                refine hK _ _ ?_
                clear hK K
                refine wpAnyIn_ready (rs := [8]) (by kernel_rfl) (by simp) (AllReadyIn.cons rfl (fun K hK => ?_) AllReadyIn.nil)
                go_simp
                refine hK _ _ ?_
                clear hK K
                refine wpAnyIn_ready (rs := [9]) (by kernel_rfl) (by simp) (AllReadyIn.cons rfl (fun K hK => ?_) AllReadyIn.nil)
                go_simp
                refine hK _ _ ?_
                clear hK K
                refine wpAnyIn_done (by kernel_rfl) ?_ _
                gi_wp2
                exact ⟨Kept.drewN W 1, i8, i4, i6, i7, hBW.drew, fun y hy => (List.mem_append.1 hy).elim (hpre y) (fun h => by simp at h; subst h; unfold badN; omega)⟩
            · go_simp
              refine hK _ _ ?_
              clear hK K
              refine wpAnyIn_ready (rs := [4, 7]) (by kernel_rfl) (by simp) (AllReadyIn.cons rfl (fun K hK => ?_) (AllReadyIn.cons rfl (fun K hK => ?_) AllReadyIn.nil))
              · go_simp
                refine hK _ _ ?_
                clear hK K
                refine wpAnyIn_ready (rs := [6, 7]) (by kernel_rfl) (by simp) (AllReadyIn.cons rfl (fun K hK => ?_) (AllReadyIn.cons rfl (fun K hK => ?_) AllReadyIn.nil))
                · go_simp
                  refine hK _ _ ?_
                  clear hK K
                  refine wpAnyIn_ready (rs := [7]) (by kernel_rfl) (by simp) (AllReadyIn.cons rfl (fun K hK => ?_) AllReadyIn.nil)
                  go_simp
                  refine hK _ _ ?_
                  clear hK K
                  refine wpAnyIn_ready (rs := [8]) (by kernel_rfl) (by simp) (AllReadyIn.cons rfl (fun K hK => ?_) AllReadyIn.nil)
                  go_simp
                  refine hK _ _ ?_
                  clear hK K
                  refine wpAnyIn_ready (rs := [9]) (by kernel_rfl) (by simp) (AllReadyIn.cons rfl (fun K hK => ?_) AllReadyIn.nil)
                  go_simp
                  refine hK _ _ ?_
                  clear hK K
                  refine wpAnyIn_done (by kernel_rfl) ?_ _
                  gi_wp2
                  exact ⟨Kept.drewN W 1, i8, i4, i6, i7, hBW.drew, fun y hy => (List.mem_append.1 hy).elim (hpre y) (fun h => by simp at h; subst h; unfold badN; omega)⟩
                · go_simp
                  refine hK _ _ ?_
                  clear hK K
                  refine wpAnyIn_ready (rs := [6]) (by kernel_rfl) (by simp) (AllReadyIn.cons rfl (fun K hK => ?_) AllReadyIn.nil)
                  go_simp
                  refine hK _ _ ?_
                  clear hK K
                  refine wpAnyIn_ready (rs := [8]) (by kernel_rfl) (by simp) (AllReadyIn.cons rfl (fun K hK => ?_) AllReadyIn.nil)
                  go_simp
                  refine hK _ _ ?_
                  clear hK K
                  refine wpAnyIn_ready (rs := [9]) (by kernel_rfl) (by simp) (AllReadyIn.cons rfl (fun K hK => ?_) AllReadyIn.nil)
                  go_simp
                  refine hK _ _ ?_
                  clear hK K
                  refine wpAnyIn_done (by kernel_rfl) ?_ _
                  gi_wp2
                  exact ⟨Kept.drewN W 1, i8, i4, i6, i7, hBW.drew, fun y hy => (List.mem_append.1 hy).elim (hpre y) (fun h => by simp at h; subst h; unfold badN; omega)⟩
              · go_simp
                refine hK _ _ ?_
                clear hK K
                refine wpAnyIn_ready (rs := [4]) (by kernel_rfl) (by simp) (AllReadyIn.cons rfl (fun K hK => ?_) AllReadyIn.nil)
                go_simp
                refine hK _ _ ?_
                clear hK K
                refine wpAnyIn_ready (rs := [6]) (by kernel_rfl) (by simp) (AllReadyIn.cons rfl (fun K hK => ?_) AllReadyIn.nil)
                go_simp
                refine hK _ _ ?_
                clear hK K
                refine wpAnyIn_ready (rs := [8]) (by kernel_rfl) (by simp) (AllReadyIn.cons rfl (fun K hK => ?_) AllReadyIn.nil)
                go_simp
                refine hK _ _ ?_
                clear hK K
                refine wpAnyIn_ready (rs := [9]) (by kernel_rfl) (by simp) (AllReadyIn.cons rfl (fun K hK => ?_) AllReadyIn.nil)
                go_simp
                refine hK _ _ ?_
                clear hK K
                refine wpAnyIn_done (by kernel_rfl) ?_ _
                gi_wp2
                exact ⟨Kept.drewN W 1, i8, i4, i6, i7, hBW.drew, fun y hy => (List.mem_append.1 hy).elim (hpre y) (fun h => by simp at h; subst h; unfold badN; omega)⟩
            · go_simp
              refine hK _ _ ?_
              clear hK K
              refine wpAnyIn_ready (rs := [4, 5]) (by kernel_rfl) (by simp) (AllReadyIn.cons rfl (fun K hK => ?_) (AllReadyIn.cons rfl (fun K hK => ?_) AllReadyIn.nil))
              · go_simp
                refine hK _ _ ?_
                clear hK K
                refine wpAnyIn_ready (rs := [5]) (by kernel_rfl) (by simp) (AllReadyIn.cons rfl (fun K hK => ?_) AllReadyIn.nil)
                go_simp
                refine hK _ _ ?_
                clear hK K
                refine wpAnyIn_ready (rs := [6]) (by kernel_rfl) (by simp) (AllReadyIn.cons rfl (fun K hK => ?_) AllReadyIn.nil)
                go_simp
                refine hK _ _ ?_
                clear hK K
                refine wpAnyIn_ready (rs := [8]) (by kernel_rfl) (by simp) (AllReadyIn.cons rfl (fun K hK => ?_) AllReadyIn.nil)
                go_simp
                refine hK _ _ ?_
                clear hK K
                refine wpAnyIn_ready (rs := [9]) (by kernel_rfl) (by simp) (AllReadyIn.cons rfl (fun K hK => ?_) AllReadyIn.nil)
                go_simp
                refine hK _ _ ?_
                clear hK K
                refine wpAnyIn_done (by kernel_rfl) ?_ _
                gi_wp2
                exact ⟨Kept.drewN W 1, i8, i4, i6, i7, hBW.drew, fun y hy => (List.mem_append.1 hy).elim (hpre y) (fun h => by simp at h; subst h; unfold badN; omega)⟩
              · go_simp
                refine hK _ _ ?_
                clear hK K
                refine wpAnyIn_ready (rs := [4]) (by kernel_rfl) (by simp) (AllReadyIn.cons rfl (fun K hK => ?_) AllReadyIn.nil)
                go_simp
                refine hK _ _ ?_
                clear hK K
                refine wpAnyIn_ready (rs := [6]) (by kernel_rfl) (by simp) (AllReadyIn.cons rfl (fun K hK => ?_) AllReadyIn.nil)
                go_simp
                refine hK _ _ ?_
                clear hK K
                refine wpAnyIn_ready (rs := [8]) (by kernel_rfl) (by simp) (AllReadyIn.cons rfl (fun K hK => ?_) AllReadyIn.nil)
                go_simp
                refine hK _ _ ?_
                clear hK K
                refine wpAnyIn_ready (rs := [9]) (by kernel_rfl) (by simp) (AllReadyIn.cons rfl (fun K hK => ?_) AllReadyIn.nil)
                go_simp
                refine hK _ _ ?_
                clear hK K
                refine wpAnyIn_done (by kernel_rfl) ?_ _
                gi_wp2
                exact ⟨Kept.drewN W 1, i8, i4, i6, i7, hBW.drew, fun y hy => (List.mem_append.1 hy).elim (hpre y) (fun h => by simp at h; subst h; unfold badN; omega)⟩
          · have hd : decide (x < 0) = false := decide_eq_false hx
            have hvar : Calls Try.prog 35 #[.pointer (some ⟨b, 0, none⟩), .int .i64 x] W.drew fun e w' => e = .returned (.int .i64 (varOf l x)) ∧ Below W.heap.size W w' ∧ w'.cell? ⟨w.heap.size + 1 + 1, 0, none⟩ = some (.int .i64 n) := by
              refine (var_any b l x W.drew (hA.below (Nat.le_refl _) hBW.drew)).mono ?_
              rintro e w' ⟨he, hb⟩
              have hb' : Below W.heap.size W w' := ⟨hb.os, hb.tape, hb.output, hb.size, hb.block⟩
              exact ⟨he, hb', (hb'.cell (p := ⟨w.heap.size + 1 + 1, 0, none⟩) i7.lt).trans d7⟩
            by_cases hv : varOf l x ≥ n
            · gi_wp2_with fail
              refine wpIn_region_any hmx ?_
              change wpAnyIn _ _ _ _ _ _ _ _ _ (World.drew _)
              refine wpAnyIn_ready (rs := [0]) (by kernel_rfl) (by simp) (AllReadyIn.cons rfl (fun K hK => ?_) AllReadyIn.nil)
              go_simp
              refine hK _ _ ?_
              clear hK K
              refine wpAnyIn_ready (rs := [1]) (by kernel_rfl) (by simp) (AllReadyIn.cons rfl (fun K hK => ?_) AllReadyIn.nil)
              go_simp
              refine ⟨wdeep _, ?_⟩
              refine (CallsIn.inRound l' (callsIn_wide.2 (isterm_any x _))).mono ?_
              rintro e w' ⟨rfl, rfl⟩
              refine hK _ _ ?_
              clear hK K
              refine wpAnyIn_ready (rs := [2]) (by kernel_rfl) (by simp) (AllReadyIn.cons rfl (fun K hK => ?_) AllReadyIn.nil)
              go_simp
              refine hK _ _ ?_
              clear hK K
              refine wpAnyIn_ready (rs := [3]) (by kernel_rfl) (by simp) (AllReadyIn.cons rfl (fun K hK => ?_) AllReadyIn.nil)
              go_simp
              refine hK _ _ ?_
              clear hK K
              refine wpAnyIn_ready (rs := [4, 5, 7]) (by kernel_rfl) (by simp) (AllReadyIn.cons rfl (fun K hK => ?_) (AllReadyIn.cons rfl (fun K hK => ?_) (AllReadyIn.cons rfl (fun K hK => ?_) AllReadyIn.nil)))
              · go_simp
                refine hK _ _ ?_
                clear hK K
                refine wpAnyIn_ready (rs := [5, 7]) (by kernel_rfl) (by simp) (AllReadyIn.cons rfl (fun K hK => ?_) (AllReadyIn.cons rfl (fun K hK => ?_) AllReadyIn.nil))
                · go_simp
                  refine hK _ _ ?_
                  clear hK K
                  refine wpAnyIn_ready (rs := [6, 7]) (by kernel_rfl) (by simp) (AllReadyIn.cons rfl (fun K hK => ?_) (AllReadyIn.cons rfl (fun K hK => ?_) AllReadyIn.nil))
                  · go_simp
                    refine ⟨wdeep _, ?_⟩
                    refine (CallsIn.inRound l' (callsIn_wide.2 hvar)).mono ?_
                    rintro e w' ⟨rfl, hb6, hc6⟩
                    refine hK _ _ ?_
                    clear hK K
                    refine wpAnyIn_ready (rs := [7]) (by kernel_rfl) (by simp) (AllReadyIn.cons rfl (fun K hK => ?_) AllReadyIn.nil)
                    go_simp
                    refine hK _ _ ?_
                    clear hK K
                    refine wpAnyIn_ready (rs := [8]) (by kernel_rfl) (by simp) (AllReadyIn.cons rfl (fun K hK => ?_) AllReadyIn.nil)
                    go_simp
                    refine hK _ _ ?_
                    clear hK K
                    refine wpAnyIn_ready (rs := [9]) (by kernel_rfl) (by simp) (AllReadyIn.cons rfl (fun K hK => ?_) AllReadyIn.nil)
                    go_simp
                    refine hK _ _ ?_
                    clear hK K
                    refine wpAnyIn_done (by kernel_rfl) ?_ _
                    have i8' := boxed_below i8 hb6
                    have e8 := i8'.cell
                    have g8 := i8'.frozen
                    gi_wp2
                    exact ⟨(Kept.of_below hb6 hbw).trans (Kept.setBox i8'), rfl, i8'.set _, (hBW.trans (hb6.mono hBW.size)).setCell (p := ⟨w.heap.size + 1 + 1 + 1, 0, none⟩) (by simp; omega) _, x, by simp, by unfold badN; omega⟩
                  · go_simp
                    refine hK _ _ ?_
                    clear hK K
                    refine wpAnyIn_ready (rs := [6]) (by kernel_rfl) (by simp) (AllReadyIn.cons rfl (fun K hK => ?_) AllReadyIn.nil)
                    go_simp
                    refine ⟨wdeep _, ?_⟩
                    refine (CallsIn.inRound l' (callsIn_wide.2 hvar)).mono ?_
                    rintro e w' ⟨rfl, hb6, hc6⟩
                    refine hK _ _ ?_
                    clear hK K
                    refine wpAnyIn_ready (rs := [8]) (by kernel_rfl) (by simp) (AllReadyIn.cons rfl (fun K hK => ?_) AllReadyIn.nil)
                    go_simp
                    refine hK _ _ ?_
                    clear hK K
                    refine wpAnyIn_ready (rs := [9]) (by kernel_rfl) (by simp) (AllReadyIn.cons rfl (fun K hK => ?_) AllReadyIn.nil)
                    go_simp
                    refine hK _ _ ?_
                    clear hK K
                    refine wpAnyIn_done (by kernel_rfl) ?_ _
                    have i8' := boxed_below i8 hb6
                    have e8 := i8'.cell
                    have g8 := i8'.frozen
                    gi_wp2
                    exact ⟨(Kept.of_below hb6 hbw).trans (Kept.setBox i8'), rfl, i8'.set _, (hBW.trans (hb6.mono hBW.size)).setCell (p := ⟨w.heap.size + 1 + 1 + 1, 0, none⟩) (by simp; omega) _, x, by simp, by unfold badN; omega⟩
                · go_simp
                  refine hK _ _ ?_
                  clear hK K
                  refine wpAnyIn_ready (rs := [5]) (by kernel_rfl) (by simp) (AllReadyIn.cons rfl (fun K hK => ?_) AllReadyIn.nil)
                  go_simp
                  refine hK _ _ ?_
                  clear hK K
                  refine wpAnyIn_ready (rs := [6]) (by kernel_rfl) (by simp) (AllReadyIn.cons rfl (fun K hK => ?_) AllReadyIn.nil)
                  go_simp
                  refine ⟨wdeep _, ?_⟩
                  refine (CallsIn.inRound l' (callsIn_wide.2 hvar)).mono ?_
                  rintro e w' ⟨rfl, hb6, hc6⟩
                  refine hK _ _ ?_
                  clear hK K
                  refine wpAnyIn_ready (rs := [8]) (by kernel_rfl) (by simp) (AllReadyIn.cons rfl (fun K hK => ?_) AllReadyIn.nil)
                  go_simp
                  refine hK _ _ ?_
                  clear hK K
                  refine wpAnyIn_ready (rs := [9]) (by kernel_rfl) (by simp) (AllReadyIn.cons rfl (fun K hK => ?_) AllReadyIn.nil)
                  go_simp
                  refine hK _ _ ?_
                  clear hK K
                  refine wpAnyIn_done (by kernel_rfl) ?_ _
                  have i8' := boxed_below i8 hb6
                  have e8 := i8'.cell
                  have g8 := i8'.frozen
                  gi_wp2
                  exact ⟨(Kept.of_below hb6 hbw).trans (Kept.setBox i8'), rfl, i8'.set _, (hBW.trans (hb6.mono hBW.size)).setCell (p := ⟨w.heap.size + 1 + 1 + 1, 0, none⟩) (by simp; omega) _, x, by simp, by unfold badN; omega⟩
              · go_simp
                refine hK _ _ ?_
                clear hK K
                refine wpAnyIn_ready (rs := [4, 7]) (by kernel_rfl) (by simp) (AllReadyIn.cons rfl (fun K hK => ?_) (AllReadyIn.cons rfl (fun K hK => ?_) AllReadyIn.nil))
                · go_simp
                  refine hK _ _ ?_
                  clear hK K
                  refine wpAnyIn_ready (rs := [6, 7]) (by kernel_rfl) (by simp) (AllReadyIn.cons rfl (fun K hK => ?_) (AllReadyIn.cons rfl (fun K hK => ?_) AllReadyIn.nil))
                  · go_simp
                    refine ⟨wdeep _, ?_⟩
                    refine (CallsIn.inRound l' (callsIn_wide.2 hvar)).mono ?_
                    rintro e w' ⟨rfl, hb6, hc6⟩
                    refine hK _ _ ?_
                    clear hK K
                    refine wpAnyIn_ready (rs := [7]) (by kernel_rfl) (by simp) (AllReadyIn.cons rfl (fun K hK => ?_) AllReadyIn.nil)
                    go_simp
                    refine hK _ _ ?_
                    clear hK K
                    refine wpAnyIn_ready (rs := [8]) (by kernel_rfl) (by simp) (AllReadyIn.cons rfl (fun K hK => ?_) AllReadyIn.nil)
                    go_simp
                    refine hK _ _ ?_
                    clear hK K
                    refine wpAnyIn_ready (rs := [9]) (by kernel_rfl) (by simp) (AllReadyIn.cons rfl (fun K hK => ?_) AllReadyIn.nil)
                    go_simp
                    refine hK _ _ ?_
                    clear hK K
                    refine wpAnyIn_done (by kernel_rfl) ?_ _
                    have i8' := boxed_below i8 hb6
                    have e8 := i8'.cell
                    have g8 := i8'.frozen
                    gi_wp2
                    exact ⟨(Kept.of_below hb6 hbw).trans (Kept.setBox i8'), rfl, i8'.set _, (hBW.trans (hb6.mono hBW.size)).setCell (p := ⟨w.heap.size + 1 + 1 + 1, 0, none⟩) (by simp; omega) _, x, by simp, by unfold badN; omega⟩
                  · go_simp
                    refine hK _ _ ?_
                    clear hK K
                    refine wpAnyIn_ready (rs := [6]) (by kernel_rfl) (by simp) (AllReadyIn.cons rfl (fun K hK => ?_) AllReadyIn.nil)
                    go_simp
                    refine ⟨wdeep _, ?_⟩
                    refine (CallsIn.inRound l' (callsIn_wide.2 hvar)).mono ?_
                    rintro e w' ⟨rfl, hb6, hc6⟩
                    refine hK _ _ ?_
                    clear hK K
                    refine wpAnyIn_ready (rs := [8]) (by kernel_rfl) (by simp) (AllReadyIn.cons rfl (fun K hK => ?_) AllReadyIn.nil)
                    go_simp
                    refine hK _ _ ?_
                    clear hK K
                    refine wpAnyIn_ready (rs := [9]) (by kernel_rfl) (by simp) (AllReadyIn.cons rfl (fun K hK => ?_) AllReadyIn.nil)
                    go_simp
                    refine hK _ _ ?_
                    clear hK K
                    refine wpAnyIn_done (by kernel_rfl) ?_ _
                    have i8' := boxed_below i8 hb6
                    have e8 := i8'.cell
                    have g8 := i8'.frozen
                    gi_wp2
                    exact ⟨(Kept.of_below hb6 hbw).trans (Kept.setBox i8'), rfl, i8'.set _, (hBW.trans (hb6.mono hBW.size)).setCell (p := ⟨w.heap.size + 1 + 1 + 1, 0, none⟩) (by simp; omega) _, x, by simp, by unfold badN; omega⟩
                · go_simp
                  refine hK _ _ ?_
                  clear hK K
                  refine wpAnyIn_ready (rs := [4]) (by kernel_rfl) (by simp) (AllReadyIn.cons rfl (fun K hK => ?_) AllReadyIn.nil)
                  go_simp
                  refine hK _ _ ?_
                  clear hK K
                  refine wpAnyIn_ready (rs := [6]) (by kernel_rfl) (by simp) (AllReadyIn.cons rfl (fun K hK => ?_) AllReadyIn.nil)
                  go_simp
                  refine ⟨wdeep _, ?_⟩
                  refine (CallsIn.inRound l' (callsIn_wide.2 hvar)).mono ?_
                  rintro e w' ⟨rfl, hb6, hc6⟩
                  refine hK _ _ ?_
                  clear hK K
                  refine wpAnyIn_ready (rs := [8]) (by kernel_rfl) (by simp) (AllReadyIn.cons rfl (fun K hK => ?_) AllReadyIn.nil)
                  go_simp
                  refine hK _ _ ?_
                  clear hK K
                  refine wpAnyIn_ready (rs := [9]) (by kernel_rfl) (by simp) (AllReadyIn.cons rfl (fun K hK => ?_) AllReadyIn.nil)
                  go_simp
                  refine hK _ _ ?_
                  clear hK K
                  refine wpAnyIn_done (by kernel_rfl) ?_ _
                  have i8' := boxed_below i8 hb6
                  have e8 := i8'.cell
                  have g8 := i8'.frozen
                  gi_wp2
                  exact ⟨(Kept.of_below hb6 hbw).trans (Kept.setBox i8'), rfl, i8'.set _, (hBW.trans (hb6.mono hBW.size)).setCell (p := ⟨w.heap.size + 1 + 1 + 1, 0, none⟩) (by simp; omega) _, x, by simp, by unfold badN; omega⟩
              · go_simp
                refine hK _ _ ?_
                clear hK K
                refine wpAnyIn_ready (rs := [4, 5]) (by kernel_rfl) (by simp) (AllReadyIn.cons rfl (fun K hK => ?_) (AllReadyIn.cons rfl (fun K hK => ?_) AllReadyIn.nil))
                · go_simp
                  refine hK _ _ ?_
                  clear hK K
                  refine wpAnyIn_ready (rs := [5]) (by kernel_rfl) (by simp) (AllReadyIn.cons rfl (fun K hK => ?_) AllReadyIn.nil)
                  go_simp
                  refine hK _ _ ?_
                  clear hK K
                  refine wpAnyIn_ready (rs := [6]) (by kernel_rfl) (by simp) (AllReadyIn.cons rfl (fun K hK => ?_) AllReadyIn.nil)
                  go_simp
                  refine ⟨wdeep _, ?_⟩
                  refine (CallsIn.inRound l' (callsIn_wide.2 hvar)).mono ?_
                  rintro e w' ⟨rfl, hb6, hc6⟩
                  refine hK _ _ ?_
                  clear hK K
                  refine wpAnyIn_ready (rs := [8]) (by kernel_rfl) (by simp) (AllReadyIn.cons rfl (fun K hK => ?_) AllReadyIn.nil)
                  go_simp
                  refine hK _ _ ?_
                  clear hK K
                  refine wpAnyIn_ready (rs := [9]) (by kernel_rfl) (by simp) (AllReadyIn.cons rfl (fun K hK => ?_) AllReadyIn.nil)
                  go_simp
                  refine hK _ _ ?_
                  clear hK K
                  refine wpAnyIn_done (by kernel_rfl) ?_ _
                  have i8' := boxed_below i8 hb6
                  have e8 := i8'.cell
                  have g8 := i8'.frozen
                  gi_wp2
                  exact ⟨(Kept.of_below hb6 hbw).trans (Kept.setBox i8'), rfl, i8'.set _, (hBW.trans (hb6.mono hBW.size)).setCell (p := ⟨w.heap.size + 1 + 1 + 1, 0, none⟩) (by simp; omega) _, x, by simp, by unfold badN; omega⟩
                · go_simp
                  refine hK _ _ ?_
                  clear hK K
                  refine wpAnyIn_ready (rs := [4]) (by kernel_rfl) (by simp) (AllReadyIn.cons rfl (fun K hK => ?_) AllReadyIn.nil)
                  go_simp
                  refine hK _ _ ?_
                  clear hK K
                  refine wpAnyIn_ready (rs := [6]) (by kernel_rfl) (by simp) (AllReadyIn.cons rfl (fun K hK => ?_) AllReadyIn.nil)
                  go_simp
                  refine ⟨wdeep _, ?_⟩
                  refine (CallsIn.inRound l' (callsIn_wide.2 hvar)).mono ?_
                  rintro e w' ⟨rfl, hb6, hc6⟩
                  refine hK _ _ ?_
                  clear hK K
                  refine wpAnyIn_ready (rs := [8]) (by kernel_rfl) (by simp) (AllReadyIn.cons rfl (fun K hK => ?_) AllReadyIn.nil)
                  go_simp
                  refine hK _ _ ?_
                  clear hK K
                  refine wpAnyIn_ready (rs := [9]) (by kernel_rfl) (by simp) (AllReadyIn.cons rfl (fun K hK => ?_) AllReadyIn.nil)
                  go_simp
                  refine hK _ _ ?_
                  clear hK K
                  refine wpAnyIn_done (by kernel_rfl) ?_ _
                  have i8' := boxed_below i8 hb6
                  have e8 := i8'.cell
                  have g8 := i8'.frozen
                  gi_wp2
                  exact ⟨(Kept.of_below hb6 hbw).trans (Kept.setBox i8'), rfl, i8'.set _, (hBW.trans (hb6.mono hBW.size)).setCell (p := ⟨w.heap.size + 1 + 1 + 1, 0, none⟩) (by simp; omega) _, x, by simp, by unfold badN; omega⟩
            · have hvd : decide (n ≤ varOf l x) = false := decide_eq_false (by omega)
              gi_wp2_with fail
              refine wpIn_region_any hmx ?_
              change wpAnyIn _ _ _ _ _ _ _ _ _ (World.drew _)
              refine wpAnyIn_ready (rs := [0]) (by kernel_rfl) (by simp) (AllReadyIn.cons rfl (fun K hK => ?_) AllReadyIn.nil)
              go_simp
              refine hK _ _ ?_
              clear hK K
              refine wpAnyIn_ready (rs := [1]) (by kernel_rfl) (by simp) (AllReadyIn.cons rfl (fun K hK => ?_) AllReadyIn.nil)
              go_simp
              refine ⟨wdeep _, ?_⟩
              refine (CallsIn.inRound l' (callsIn_wide.2 (isterm_any x _))).mono ?_
              rintro e w' ⟨rfl, rfl⟩
              refine hK _ _ ?_
              clear hK K
              refine wpAnyIn_ready (rs := [2]) (by kernel_rfl) (by simp) (AllReadyIn.cons rfl (fun K hK => ?_) AllReadyIn.nil)
              go_simp
              refine hK _ _ ?_
              clear hK K
              refine wpAnyIn_ready (rs := [3]) (by kernel_rfl) (by simp) (AllReadyIn.cons rfl (fun K hK => ?_) AllReadyIn.nil)
              go_simp
              refine hK _ _ ?_
              clear hK K
              refine wpAnyIn_ready (rs := [4, 5, 7]) (by kernel_rfl) (by simp) (AllReadyIn.cons rfl (fun K hK => ?_) (AllReadyIn.cons rfl (fun K hK => ?_) (AllReadyIn.cons rfl (fun K hK => ?_) AllReadyIn.nil)))
              · go_simp
                refine hK _ _ ?_
                clear hK K
                refine wpAnyIn_ready (rs := [5, 7]) (by kernel_rfl) (by simp) (AllReadyIn.cons rfl (fun K hK => ?_) (AllReadyIn.cons rfl (fun K hK => ?_) AllReadyIn.nil))
                · go_simp
                  refine hK _ _ ?_
                  clear hK K
                  refine wpAnyIn_ready (rs := [6, 7]) (by kernel_rfl) (by simp) (AllReadyIn.cons rfl (fun K hK => ?_) (AllReadyIn.cons rfl (fun K hK => ?_) AllReadyIn.nil))
                  · go_simp
                    refine ⟨wdeep _, ?_⟩
                    refine (CallsIn.inRound l' (callsIn_wide.2 hvar)).mono ?_
                    rintro e w' ⟨rfl, hb6, hc6⟩
                    refine hK _ _ ?_
                    clear hK K
                    refine wpAnyIn_ready (rs := [7]) (by kernel_rfl) (by simp) (AllReadyIn.cons rfl (fun K hK => ?_) AllReadyIn.nil)
                    go_simp
                    refine hK _ _ ?_
                    clear hK K
                    refine wpAnyIn_ready (rs := [8]) (by kernel_rfl) (by simp) (AllReadyIn.cons rfl (fun K hK => ?_) AllReadyIn.nil)
                    go_simp
                    refine hK _ _ ?_
                    clear hK K
                    refine wpAnyIn_ready (rs := [9]) (by kernel_rfl) (by simp) (AllReadyIn.cons rfl (fun K hK => ?_) AllReadyIn.nil)
                    go_simp
                    refine hK _ _ ?_
                    clear hK K
                    refine wpAnyIn_done (by kernel_rfl) ?_ _
                    gi_wp2
                    exact ⟨Kept.of_below hb6 hbw, boxed_below i8 hb6, boxed_below i4 hb6, boxed_below i6 hb6, boxed_below i7 hb6, hBW.trans (hb6.mono hBW.size), fun y hy => (List.mem_append.1 hy).elim (hpre y) (fun h => by simp at h; subst h; unfold badN; omega)⟩
                  · go_simp
                    refine hK _ _ ?_
                    clear hK K
                    refine wpAnyIn_ready (rs := [6]) (by kernel_rfl) (by simp) (AllReadyIn.cons rfl (fun K hK => ?_) AllReadyIn.nil)
                    go_simp
                    refine ⟨wdeep _, ?_⟩
                    refine (CallsIn.inRound l' (callsIn_wide.2 hvar)).mono ?_
                    rintro e w' ⟨rfl, hb6, hc6⟩
                    refine hK _ _ ?_
                    clear hK K
                    refine wpAnyIn_ready (rs := [8]) (by kernel_rfl) (by simp) (AllReadyIn.cons rfl (fun K hK => ?_) AllReadyIn.nil)
                    go_simp
                    refine hK _ _ ?_
                    clear hK K
                    refine wpAnyIn_ready (rs := [9]) (by kernel_rfl) (by simp) (AllReadyIn.cons rfl (fun K hK => ?_) AllReadyIn.nil)
                    go_simp
                    refine hK _ _ ?_
                    clear hK K
                    refine wpAnyIn_done (by kernel_rfl) ?_ _
                    gi_wp2
                    exact ⟨Kept.of_below hb6 hbw, boxed_below i8 hb6, boxed_below i4 hb6, boxed_below i6 hb6, boxed_below i7 hb6, hBW.trans (hb6.mono hBW.size), fun y hy => (List.mem_append.1 hy).elim (hpre y) (fun h => by simp at h; subst h; unfold badN; omega)⟩
                · go_simp
                  refine hK _ _ ?_
                  clear hK K
                  refine wpAnyIn_ready (rs := [5]) (by kernel_rfl) (by simp) (AllReadyIn.cons rfl (fun K hK => ?_) AllReadyIn.nil)
                  go_simp
                  refine hK _ _ ?_
                  clear hK K
                  refine wpAnyIn_ready (rs := [6]) (by kernel_rfl) (by simp) (AllReadyIn.cons rfl (fun K hK => ?_) AllReadyIn.nil)
                  go_simp
                  refine ⟨wdeep _, ?_⟩
                  refine (CallsIn.inRound l' (callsIn_wide.2 hvar)).mono ?_
                  rintro e w' ⟨rfl, hb6, hc6⟩
                  refine hK _ _ ?_
                  clear hK K
                  refine wpAnyIn_ready (rs := [8]) (by kernel_rfl) (by simp) (AllReadyIn.cons rfl (fun K hK => ?_) AllReadyIn.nil)
                  go_simp
                  refine hK _ _ ?_
                  clear hK K
                  refine wpAnyIn_ready (rs := [9]) (by kernel_rfl) (by simp) (AllReadyIn.cons rfl (fun K hK => ?_) AllReadyIn.nil)
                  go_simp
                  refine hK _ _ ?_
                  clear hK K
                  refine wpAnyIn_done (by kernel_rfl) ?_ _
                  gi_wp2
                  exact ⟨Kept.of_below hb6 hbw, boxed_below i8 hb6, boxed_below i4 hb6, boxed_below i6 hb6, boxed_below i7 hb6, hBW.trans (hb6.mono hBW.size), fun y hy => (List.mem_append.1 hy).elim (hpre y) (fun h => by simp at h; subst h; unfold badN; omega)⟩
              · go_simp
                refine hK _ _ ?_
                clear hK K
                refine wpAnyIn_ready (rs := [4, 7]) (by kernel_rfl) (by simp) (AllReadyIn.cons rfl (fun K hK => ?_) (AllReadyIn.cons rfl (fun K hK => ?_) AllReadyIn.nil))
                · go_simp
                  refine hK _ _ ?_
                  clear hK K
                  refine wpAnyIn_ready (rs := [6, 7]) (by kernel_rfl) (by simp) (AllReadyIn.cons rfl (fun K hK => ?_) (AllReadyIn.cons rfl (fun K hK => ?_) AllReadyIn.nil))
                  · go_simp
                    refine ⟨wdeep _, ?_⟩
                    refine (CallsIn.inRound l' (callsIn_wide.2 hvar)).mono ?_
                    rintro e w' ⟨rfl, hb6, hc6⟩
                    refine hK _ _ ?_
                    clear hK K
                    refine wpAnyIn_ready (rs := [7]) (by kernel_rfl) (by simp) (AllReadyIn.cons rfl (fun K hK => ?_) AllReadyIn.nil)
                    go_simp
                    refine hK _ _ ?_
                    clear hK K
                    refine wpAnyIn_ready (rs := [8]) (by kernel_rfl) (by simp) (AllReadyIn.cons rfl (fun K hK => ?_) AllReadyIn.nil)
                    go_simp
                    refine hK _ _ ?_
                    clear hK K
                    refine wpAnyIn_ready (rs := [9]) (by kernel_rfl) (by simp) (AllReadyIn.cons rfl (fun K hK => ?_) AllReadyIn.nil)
                    go_simp
                    refine hK _ _ ?_
                    clear hK K
                    refine wpAnyIn_done (by kernel_rfl) ?_ _
                    gi_wp2
                    exact ⟨Kept.of_below hb6 hbw, boxed_below i8 hb6, boxed_below i4 hb6, boxed_below i6 hb6, boxed_below i7 hb6, hBW.trans (hb6.mono hBW.size), fun y hy => (List.mem_append.1 hy).elim (hpre y) (fun h => by simp at h; subst h; unfold badN; omega)⟩
                  · go_simp
                    refine hK _ _ ?_
                    clear hK K
                    refine wpAnyIn_ready (rs := [6]) (by kernel_rfl) (by simp) (AllReadyIn.cons rfl (fun K hK => ?_) AllReadyIn.nil)
                    go_simp
                    refine ⟨wdeep _, ?_⟩
                    refine (CallsIn.inRound l' (callsIn_wide.2 hvar)).mono ?_
                    rintro e w' ⟨rfl, hb6, hc6⟩
                    refine hK _ _ ?_
                    clear hK K
                    refine wpAnyIn_ready (rs := [8]) (by kernel_rfl) (by simp) (AllReadyIn.cons rfl (fun K hK => ?_) AllReadyIn.nil)
                    go_simp
                    refine hK _ _ ?_
                    clear hK K
                    refine wpAnyIn_ready (rs := [9]) (by kernel_rfl) (by simp) (AllReadyIn.cons rfl (fun K hK => ?_) AllReadyIn.nil)
                    go_simp
                    refine hK _ _ ?_
                    clear hK K
                    refine wpAnyIn_done (by kernel_rfl) ?_ _
                    gi_wp2
                    exact ⟨Kept.of_below hb6 hbw, boxed_below i8 hb6, boxed_below i4 hb6, boxed_below i6 hb6, boxed_below i7 hb6, hBW.trans (hb6.mono hBW.size), fun y hy => (List.mem_append.1 hy).elim (hpre y) (fun h => by simp at h; subst h; unfold badN; omega)⟩
                · go_simp
                  refine hK _ _ ?_
                  clear hK K
                  refine wpAnyIn_ready (rs := [4]) (by kernel_rfl) (by simp) (AllReadyIn.cons rfl (fun K hK => ?_) AllReadyIn.nil)
                  go_simp
                  refine hK _ _ ?_
                  clear hK K
                  refine wpAnyIn_ready (rs := [6]) (by kernel_rfl) (by simp) (AllReadyIn.cons rfl (fun K hK => ?_) AllReadyIn.nil)
                  go_simp
                  refine ⟨wdeep _, ?_⟩
                  refine (CallsIn.inRound l' (callsIn_wide.2 hvar)).mono ?_
                  rintro e w' ⟨rfl, hb6, hc6⟩
                  refine hK _ _ ?_
                  clear hK K
                  refine wpAnyIn_ready (rs := [8]) (by kernel_rfl) (by simp) (AllReadyIn.cons rfl (fun K hK => ?_) AllReadyIn.nil)
                  go_simp
                  refine hK _ _ ?_
                  clear hK K
                  refine wpAnyIn_ready (rs := [9]) (by kernel_rfl) (by simp) (AllReadyIn.cons rfl (fun K hK => ?_) AllReadyIn.nil)
                  go_simp
                  refine hK _ _ ?_
                  clear hK K
                  refine wpAnyIn_done (by kernel_rfl) ?_ _
                  gi_wp2
                  exact ⟨Kept.of_below hb6 hbw, boxed_below i8 hb6, boxed_below i4 hb6, boxed_below i6 hb6, boxed_below i7 hb6, hBW.trans (hb6.mono hBW.size), fun y hy => (List.mem_append.1 hy).elim (hpre y) (fun h => by simp at h; subst h; unfold badN; omega)⟩
              · go_simp
                refine hK _ _ ?_
                clear hK K
                refine wpAnyIn_ready (rs := [4, 5]) (by kernel_rfl) (by simp) (AllReadyIn.cons rfl (fun K hK => ?_) (AllReadyIn.cons rfl (fun K hK => ?_) AllReadyIn.nil))
                · go_simp
                  refine hK _ _ ?_
                  clear hK K
                  refine wpAnyIn_ready (rs := [5]) (by kernel_rfl) (by simp) (AllReadyIn.cons rfl (fun K hK => ?_) AllReadyIn.nil)
                  go_simp
                  refine hK _ _ ?_
                  clear hK K
                  refine wpAnyIn_ready (rs := [6]) (by kernel_rfl) (by simp) (AllReadyIn.cons rfl (fun K hK => ?_) AllReadyIn.nil)
                  go_simp
                  refine ⟨wdeep _, ?_⟩
                  refine (CallsIn.inRound l' (callsIn_wide.2 hvar)).mono ?_
                  rintro e w' ⟨rfl, hb6, hc6⟩
                  refine hK _ _ ?_
                  clear hK K
                  refine wpAnyIn_ready (rs := [8]) (by kernel_rfl) (by simp) (AllReadyIn.cons rfl (fun K hK => ?_) AllReadyIn.nil)
                  go_simp
                  refine hK _ _ ?_
                  clear hK K
                  refine wpAnyIn_ready (rs := [9]) (by kernel_rfl) (by simp) (AllReadyIn.cons rfl (fun K hK => ?_) AllReadyIn.nil)
                  go_simp
                  refine hK _ _ ?_
                  clear hK K
                  refine wpAnyIn_done (by kernel_rfl) ?_ _
                  gi_wp2
                  exact ⟨Kept.of_below hb6 hbw, boxed_below i8 hb6, boxed_below i4 hb6, boxed_below i6 hb6, boxed_below i7 hb6, hBW.trans (hb6.mono hBW.size), fun y hy => (List.mem_append.1 hy).elim (hpre y) (fun h => by simp at h; subst h; unfold badN; omega)⟩
                · go_simp
                  refine hK _ _ ?_
                  clear hK K
                  refine wpAnyIn_ready (rs := [4]) (by kernel_rfl) (by simp) (AllReadyIn.cons rfl (fun K hK => ?_) AllReadyIn.nil)
                  go_simp
                  refine hK _ _ ?_
                  clear hK K
                  refine wpAnyIn_ready (rs := [6]) (by kernel_rfl) (by simp) (AllReadyIn.cons rfl (fun K hK => ?_) AllReadyIn.nil)
                  go_simp
                  refine ⟨wdeep _, ?_⟩
                  refine (CallsIn.inRound l' (callsIn_wide.2 hvar)).mono ?_
                  rintro e w' ⟨rfl, hb6, hc6⟩
                  refine hK _ _ ?_
                  clear hK K
                  refine wpAnyIn_ready (rs := [8]) (by kernel_rfl) (by simp) (AllReadyIn.cons rfl (fun K hK => ?_) AllReadyIn.nil)
                  go_simp
                  refine hK _ _ ?_
                  clear hK K
                  refine wpAnyIn_ready (rs := [9]) (by kernel_rfl) (by simp) (AllReadyIn.cons rfl (fun K hK => ?_) AllReadyIn.nil)
                  go_simp
                  refine hK _ _ ?_
                  clear hK K
                  refine wpAnyIn_done (by kernel_rfl) ?_ _
                  gi_wp2
                  exact ⟨Kept.of_below hb6 hbw, boxed_below i8 hb6, boxed_below i4 hb6, boxed_below i6 hb6, boxed_below i7 hb6, hBW.trans (hb6.mono hBW.size), fun y hy => (List.mem_append.1 hy).elim (hpre y) (fun h => by simp at h; subst h; unfold badN; omega)⟩
        case done =>
          rintro D W hD ⟨i8, i4, i6, i7, hBW, hgood⟩ hK _
          clear hseq
          have hsat : satR l f value n = satF l value n f * 2 ^ (lvl l n f).toNat := by
            unfold satR
            rw [if_neg]
            rintro (h | h | h | ⟨x, h2, h3⟩)
            · omega
            · omega
            · rw [hh] at h; cases h
            · exact hgood x h2 h3
          have hlow := lowv_reach hW hh hgood
          have h12 := varOf_nonneg hW f
          have hv12 := varOf_le hW f
          obtain ⟨s0, s1⟩ := satF_bound hW value n (by omega) (by omega) 13 f (by omega) hlow
          have hl0 : 0 ≤ lvl l n f := by unfold lvl; omega
          have hl1 : lvl l n f ≤ n := by unfold lvl; omega
          have hs4 : satF l value n f * 2 ^ (lvl l n f).toNat ≤ 4096 := by
            have q : (0 : Int) ≤ 2 ^ (lvl l n f).toNat := Int.pow_nonneg (by decide)
            have m := Int.mul_le_mul_of_nonneg_right s1 q
            rw [← Int.pow_add, show (n - lvl l n f).toNat + (lvl l n f).toNat = n.toNat by omega] at m
            exact Int.le_trans m (pow_small _ (by omega))
          have hs5 : 0 ≤ satF l value n f * 2 ^ (lvl l n f).toNat := Int.mul_nonneg s0 (Int.pow_nonneg (by decide))
          have hwr : IntKind.i64.wrap (satF l value n f * 2 ^ (lvl l n f).toNat) = satF l value n f * 2 ^ (lvl l n f).toNat := by rw [IntKind.wrap_i64]; omega
          obtain ⟨hg, hsw, b10, bm, b11, b12⟩ := satWorld_facts W w.heap.size (w.heap.size + 1 + 1) (w.heap.size + 1)
          have hbl : Below W.heap.size W (satWorld W w.heap.size (w.heap.size + 1 + 1) (w.heap.size + 1)) := ⟨hg.os, hg.tape, hg.output, hg.size, fun k hk => hg.block k hk (by simp)⟩
          have j8 := boxed_below i8 hbl
          have j4 := boxed_below i4 hbl
          have j6 := boxed_below i6 hbl
          have j7 := boxed_below i7 hbl
          have hlt8 := i8.lt
          have hDl := (Array.getElem?_eq_some_iff.1 hK).1
          have hK5 : (satWorld W w.heap.size (w.heap.size + 1 + 1) (w.heap.size + 1)).heap[D]? = some (.deferred (some [])) := (hbl.block D hDl).trans hK
          have hse : SEnv b (W.heap.size + 1) (W.heap.size + 1 + 1) w.heap.size (W.heap.size + 1 + 1 + 1) W.heap.size (w.heap.size + 1) (w.heap.size + 1 + 1) value n w (satWorld W w.heap.size (w.heap.size + 1 + 1) (w.heap.size + 1)) :=
            ⟨hBW.trans (hbl.mono (by omega)), by omega, by omega, by omega, by omega, by omega, by omega, by omega, by omega, by omega, by omega, by omega, by omega, by omega, by omega, b11.cell, j4.cell, b12.cell, b10.cell, j6.cell, j7.cell⟩
          have hme : Memo l value n (W.heap.size + 1) 0 (.map []) (satWorld W w.heap.size (w.heap.size + 1 + 1) (w.heap.size + 1)) := by
            have h0 := World.ownsMap_made (W.alloc (.cells #[.func (.func 36) #[] #[.pointer (some ⟨w.heap.size, 0, none⟩), .pointer (some ⟨w.heap.size + 1 + 1, 0, none⟩)]] 54)) Try.prog 3 (plainElem (H := Unit) Try.prog 3)
            rw [World.size_alloc] at h0
            refine Memo.turn ⟨h0, fun x hx => by simp [Maps.has] at hx⟩ ?_
            rw [bm]
            have := World.alloc_heap_new (W.alloc (.cells #[.func (.func 36) #[] #[.pointer (some ⟨w.heap.size, 0, none⟩), .pointer (some ⟨w.heap.size + 1 + 1, 0, none⟩)]] 54)) (.map #[] 0)
            rw [World.size_alloc] at this
            exact this.symm
          -- the two calls
          have cB : ∀ m, CallsIn Fence.wide m Try.prog 37 #[.int .i64 f, .pointer (some ⟨W.heap.size + 1 + 1, 0, none⟩), .pointer (some ⟨w.heap.size, 0, none⟩), .pointer (some ⟨W.heap.size + 1 + 1 + 1, 0, none⟩), .pointer (some ⟨W.heap.size, 0, none⟩), .pointer (some ⟨w.heap.size + 1, 0, none⟩)] (satWorld W w.heap.size (w.heap.size + 1 + 1) (w.heap.size + 1)).drew fun e w'' => e = .returned (.int .i64 (satF l value n f)) ∧ Turn (W.heap.size + 1) (satWorld W w.heap.size (w.heap.size + 1 + 1) (w.heap.size + 1)) w'' ∧ w''.cell? ⟨W.heap.size, 0, none⟩ = some (.func (.func 36) #[] #[.pointer (some ⟨w.heap.size, 0, none⟩), .pointer (some ⟨w.heap.size + 1 + 1, 0, none⟩)]) := fun m => by
            refine callsIn_wide.2 ((sub_in (k := 13) (W := (satWorld W w.heap.size (w.heap.size + 1 + 1) (w.heap.size + 1)).drew) hA hW (by omega) (by omega) f 0 (.map []) (by omega) hh hlow (by decide) (hse.turn (Turn.drewN _ 1)) (hme.turn rfl)).mono ?_)
            rintro e w'' ⟨he, ht, _⟩
            have ht' : Turn (W.heap.size + 1) (satWorld W w.heap.size (w.heap.size + 1 + 1) (w.heap.size + 1)) w'' := (Turn.drewN _ 1).trans ht
            exact ⟨he, ht', (hse.turn ht').cl⟩
          have cL : ∀ m w'', Turn (W.heap.size + 1) (satWorld W w.heap.size (w.heap.size + 1 + 1) (w.heap.size + 1)) w'' → CallsIn Fence.wide m Try.prog 36 #[.int .i64 f, .pointer (some ⟨w.heap.size, 0, none⟩), .pointer (some ⟨w.heap.size + 1 + 1, 0, none⟩)] w'' fun e w3 => e = .returned (.int .i64 (lvl l n f)) ∧ Boxed w3 (w.heap.size + 1 + 1 + 1) 3 (.int .i64 0) ∧ Below w.heap.size w w3 ∧ w3.heap[D]? = some (.deferred (some [])) ∧ w3.cell? ⟨w.heap.size + 1 + 1 + 1, 0, none⟩ = some (.int .i64 0) ∧ w3.frozen? ⟨w.heap.size + 1 + 1 + 1, 0, none⟩ = false := fun m w'' ht => by
            have hs2 := hse.turn ht
            refine callsIn_wide.2 ((level_any b l n f _ _ w'' (hA.below (Nat.le_refl _) hs2.bel) hs2.ca hs2.la hs2.cn hs2.ln).mono ?_)
            rintro e w3 ⟨he, hb⟩
            have ht3 := ht.trans (Turn.of_below hb)
            have k8 : Boxed w3 (w.heap.size + 1 + 1 + 1) 3 (.int .i64 0) := (ht3.same _ j8.lt (by omega)).trans j8
            exact ⟨he, k8, (hse.turn ht3).bel, (ht3.same _ (Array.getElem?_eq_some_iff.1 hK5).1 (by omega)).trans hK5, k8.cell, k8.frozen⟩
          have q10 := b10.cell
          have q12 := b12.cell
          have bcc0 := Boxed.new (((W.alloc (.cells #[.func (.func 36) #[] #[.pointer (some ⟨w.heap.size, 0, none⟩), .pointer (some ⟨w.heap.size + 1 + 1, 0, none⟩)]] 54)).alloc (.map #[] 0)).alloc (.cells #[.map (some (W.heap.size + 1))] 71)) 54 .nilFunc
          simp only [World.size_alloc] at bcc0
          have bcc := bcc0.cell
          have bcf := bcc0.frozen
          have hmm := @run_makeMap Try.prog
          have hmx : Try.prog.follows .mixedOrders = true := by kernel_rfl
          have hsl : satF l value n f * 2 ^ (lvl l n f).toNat = satR l f value n := hsat.symm
          obtain ⟨W5, hw5⟩ : ∃ W5, satWorld W w.heap.size (w.heap.size + 1 + 1) (w.heap.size + 1) = W5 := ⟨_, rfl⟩
          rw [hw5] at cB cL q10 q12
          unfold satWorld at hw5
          have hDw : w.heap.size ≤ D := by omega
          have hmin : min (lvl l n f).toNat 64 = (lvl l n f).toNat := by omega
          have hDne : D ≠ w.heap.size + 1 + 1 + 1 := by omega
          clear bcc0 hse hme hK5 j8 j4 j6 j7 hbl hg bm b10 b11 b12 hsw hlow hgood s0 s1 hs4 hs5 hsat hDl hlt8 hK i8 i4 i6 i7 hBW hsz hs1 h12 hv12 hl1
          generalize hss : satR l f value n = sr at *
          rw [hsl] at hwr
          generalize satF l value n f = sf at *
          generalize lvl l n f = lf at *
          have hll : ¬ lf < 0 := by omega
          gi_wp2_with fail
          refine Code.wpIn_mono NoPanic.imp ?_
          gi_region_with_o (first
            | (gi_at_call 37; refine (cB _).mono ?_; rintro e w'' ⟨rfl, ht, q10'⟩)
            | (gi_at_call 36; refine (cL _ _ ht).mono ?_; rintro e w3 ⟨rfl, k8, kB, kD, e8, g8⟩))
          all_goals refine NoPanic.normal ?_
          all_goals gi_wp2_with fail
          all_goals
            have hK' : (w3.setCell ⟨w.heap.size + 1 + 1 + 1, 0, none⟩ (.int .i64 sr)).heap[D]? = some (.deferred (some [])) := (Below.heap_setCell _ _ _ _ (by simpa using hDne)).trans kD
            have hc := cell_kept (k8.set (.int .i64 sr)).cell (grownBy_putObj' _ D (.deferred none)) (fun r e => by cases e; exact ⟨_, hK', rfl⟩)
            refine ⟨by simp, .inl ⟨_, _, rfl, run_takeDeferred hK', ?_⟩⟩
            exact ⟨_, hres'.out sr _ _ rfl hc, by rw [hss], (kB.setCell (p := ⟨w.heap.size + 1 + 1 + 1, 0, none⟩) (by simp; omega) _).trans (belowK_b (w := w) (Nat.le_refl _) _ D _ _ hDw hK' rfl rfl)⟩
        case stop =>
          rintro D c pre W hD hpre ⟨rfl, hb, hBW, x, hx, hbad⟩ hK
          have hs : satR l f value n = 0 := by unfold satR; rw [if_pos (.inr (.inr (.inr ⟨x, hpre.subset hx, hbad⟩)))]
          have hc := cell_kept hb.cell (grownBy_putObj' W D (.deferred none)) (fun r e => by cases e; exact ⟨_, hK, rfl⟩)
          gi_wp2
          refine ⟨by simp, .inl ⟨_, _, rfl, run_takeDeferred hK, ?_⟩⟩
          exact ⟨_, hres'.out 0 _ _ rfl hc, by rw [hs], hBW.trans (belowK_b (w := w) (Nat.le_refl _) W D _ _ (by omega) hK rfl rfl)⟩
end Go.Proofs.Yteifllgcpickhaa
