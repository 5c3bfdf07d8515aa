/- count: Cubes -/
import Derived.Test.YteifllgcpickhaaG
namespace Go.Proofs.Yteifllgcpickhaa
open Go.RowKit
attribute [local go_sem] Oper.semAt_some
attribute [local go_sem] run_store_func

theorem varOf_le {l : List Nd} (hW : WF l) (f : Int) : varOf l f ≤ 12 := by
  unfold varOf
  split
  · rename_i h
    have := (hW f.toNat (by omega)).2.1
    simp [show f.toNat < l.length by omega]
    omega
  · omega
theorem pow_step (m : Int) (v u : Int) (h0 : 0 ≤ v) (hu : v < u) (hm : m < 2 ^ v.toNat) : m + 2 ^ v.toNat < 2 ^ u.toNat := by
  have h1 : (2 : Nat) ^ (v.toNat + 1) ≤ 2 ^ u.toNat := Nat.pow_le_pow_right (by omega) (by omega)
  rw [Nat.pow_succ] at h1
  have c1 : ((2 : Int) ^ v.toNat) = ((2 ^ v.toNat : Nat) : Int) := by simp
  have c2 : ((2 : Int) ^ u.toNat) = ((2 ^ u.toNat : Nat) : Int) := by simp
  rw [c1] at hm ⊢
  rw [c2]
  omega

theorem ways_seq {l : List Nd} {b b0 : Nat} {value : Int} {w0 : World} (hA : ArRd w0 b l) (hW : WF l) :
    ∀ (n : Nat) (f mk bt : Int) (w : World) (B1 B2 B3 B4 : Nat), 12 - varOf l f < n → 0 ≤ mk → mk < 2 ^ (varOf l f).toNat → 0 ≤ bt → bt < 2 ^ (varOf l f).toNat → WEnv b b0 B1 B2 B3 B4 f value mk bt w0 w →
    SeqB False Try.prog 54 #[.pointer (some ⟨B1, 0, none⟩), .pointer (some ⟨B2, 0, none⟩), .pointer (some ⟨B3, 0, none⟩), .pointer (some ⟨B4, 0, none⟩)] encC (cub l value n f mk bt) (cub l value n f mk bt).length b0 w := by
  intro n
  induction n with
  | zero =>
    intro f mk bt w B1 B2 B3 B4 hn
    have := varOf_le hW f
    omega
  | succ n ih =>
    intro f mk bt w B1 B2 B3 B4 hn hm0 hm1 hb0 hb1 he
    by_cases hf : 0 ≤ f ∧ f < l.length
    · have hlt : f.toNat < l.length := by omega
      obtain ⟨h1, h2, h3, h4, h5, h6⟩ := hW f.toNat hlt
      have hg : getN l f = (⟨l[f.toNat].v, l[f.toNat].lo, l[f.toNat].hi⟩, true) := by
        unfold getN; rw [if_pos hf]; simp [hlt]
      have hvf : varOf l f = l[f.toNat].v := by unfold varOf; rw [if_pos hf]; simp [hlt]
      rw [hvf] at hn hm1 hb1
      have hpos : (0 : Int) < 2 ^ l[f.toNat].v.toNat := by have := pow_le l[f.toNat].v.toNat (by omega); omega
      refine ways_node n hA he hf hg h1 h2 hm0 hm1 hb0 hb1 ?_ ?_
      · intro w' C1 C2 C3 C4 e
        exact ih _ _ _ w' C1 C2 C3 C4 (by omega) (by omega) (pow_step _ _ _ h1 h5 hm1) hb0 (Int.lt_of_le_of_lt (by omega) (pow_step _ _ _ h1 h5 hb1)) e
      · intro w' C1 C2 C3 C4 e
        exact ih _ _ _ w' C1 C2 C3 C4 (by omega) (by omega) (pow_step _ _ _ h1 h6 hm1) (by omega) (pow_step _ _ _ h1 h6 hb1) e
    · exact ways_term n hA he hf

theorem cub_len (l : List Nd) (value : Int) : ∀ n f m b, (cub l value n f m b).length ≤ 2 ^ n
  | 0, _, _, _ => by simp [cub]
  | n + 1, f, m, b => by
    have hp : 2 ^ n > 0 := Nat.pow_pos (by omega)
    unfold cub
    split
    · have h1 := cub_len l value n (l[f.toNat]?.getD default).lo (m + 2 ^ (l[f.toNat]?.getD default).v.toNat) b
      have h2 := cub_len l value n (l[f.toNat]?.getD default).hi (m + 2 ^ (l[f.toNat]?.getD default).v.toNat) (b + 2 ^ (l[f.toNat]?.getD default).v.toNat)
      rw [List.length_append]
      omega
    · split
      · simp; omega
      · simp

/-- all ways to a value -/
def cubes (l : List Nd) (f value : Int) : List (Int × Int) := if hasB l f = true then cub l value 13 f 0 0 else []
def ccells (cs : List (Int × Int)) : List Value := cs.flatMap fun c => [.int .u64 c.1, .int .u64 c.2]
theorem ccells_len (cs : List (Int × Int)) : (ccells cs).length = cs.length * 2 := by
  induction cs with
  | nil => rfl
  | cons c r ih => simp [ccells] at *; omega
/-- a slice of cubes of the call's own -/
def OwnCubes (w : World) (n0 : Nat) (v : Value) (cs : List (Int × Int)) : Prop := w.ownsRow n0 51 2 v cs.length (ccells cs)
theorem Try.info51 : (Try.prog.info? 51).map (fun i => (i.zero, i.size, i.bytes)) = some (some (.agg #[.int .u64 0, .int .u64 0]), 2, 16) := by kernel_rfl

theorem cells_new2 (W : World) (x y : Value) (t : TypeId) : ∀ j u, [x, y][j]? = some u → (W.alloc (.cells #[x, y] t)).cell? ((⟨W.heap.size, 0, none⟩ : Addr).add j) = some u := by
  intro j u h
  have hadd : (⟨W.heap.size, 0, none⟩ : Addr).add j = ⟨W.heap.size, j, none⟩ := by
    unfold Addr.add
    split <;> simp_all
  rw [hadd, cell_of (World.alloc_heap_new W _)]
  rw [← Array.getElem?_toList]
  exact h

set_option maxRecDepth 100000 in
set_option maxHeartbeats 4000000 in
theorem cubes_any (b : Nat) (l : List Nd) (f value : Int) (w : World) (hA : ArRd w b l) (hW : WF l) :
    Calls Try.prog 22 #[.pointer (some ⟨b, 0, none⟩), .int .i64 f, .int .i64 value] w fun e W' => ∃ v, e = .returned v ∧ OwnCubes W' w.heap.size v (cubes l f value) ∧ Below w.heap.size w W' := by
  refine (callsIn_wide (n := 3)).1 ?_
  refine callsIn_of_wp_marks Try.func22 rfl trivial ?_ rfl
  simp only [Try.ntmps22, List.size_toArray, List.length_cons, List.length_nil, Nat.reduceAdd, Nat.reduceSub, Array.replicate_succ, Array.replicate_zero, List.push_toArray, List.append_toArray, List.nil_append, List.cons_append]
  have hfn : ∀ k, Fence.wide.fn k := fun _ => trivial
  have hA1 : ArRd (w.alloc (.cells #[.slice none 0 0] 45)) b l := hA.below (Nat.le_refl _) ((Below.refl _ w).alloc (Nat.le_refl _) _)
  cases hh : hasB l f with
  | false =>
    have hc : cubes l f value = [] := by unfold cubes; rw [hh]; rfl
    rw [hc]
    gi_wp2_with (refine (callsIn_wide.2 (has_any b l f _ hA1)).mono ?_; rw [hh]; rintro e w' ⟨rfl, rfl⟩)
    exact ⟨_, results_tmp rfl _ _ _, _, rfl, ⟨rfl, .inl ⟨rfl, rfl⟩⟩, (Below.refl _ w).alloc (Nat.le_refl _) _⟩
  | true =>
    have hc : cubes l f value = cub l value 13 f 0 0 := by unfold cubes; rw [if_pos hh]
    have hcl := cub_len l value 13 f 0 0
    have h12 := varOf_nonneg hW f
    rw [hc]
    gi_wp2_with (first
      | (refine (callsIn_wide.2 (has_any b l f _ hA1)).mono ?_; rw [hh]; rintro e w' ⟨rfl, rfl⟩)
      | (refine (callsIn_wide.2 (ways_any _ _ _ _ _ _)).mono ?_; rintro e w' ⟨rfl, rfl⟩))
    have q0 := ((((Boxed.new w 45 (.slice none 0 0)).alloc (.cells #[.pointer (some ⟨b, 0, none⟩)] 24)).alloc (.cells #[.int .i64 f] 3)).alloc (.cells #[.int .i64 value] 3)).alloc (.cells #[.int .u64 0, .int .u64 0] 51)
    have q1 := (((Boxed.new (w.alloc (.cells #[.slice none 0 0] 45)) 24 (.pointer (some ⟨b, 0, none⟩))).alloc (.cells #[.int .i64 f] 3)).alloc (.cells #[.int .i64 value] 3)).alloc (.cells #[.int .u64 0, .int .u64 0] 51)
    have q2 := ((Boxed.new ((w.alloc (.cells #[.slice none 0 0] 45)).alloc (.cells #[.pointer (some ⟨b, 0, none⟩)] 24)) 3 (.int .i64 f)).alloc (.cells #[.int .i64 value] 3)).alloc (.cells #[.int .u64 0, .int .u64 0] 51)
    have q3 := (Boxed.new (((w.alloc (.cells #[.slice none 0 0] 45)).alloc (.cells #[.pointer (some ⟨b, 0, none⟩)] 24)).alloc (.cells #[.int .i64 f] 3)) 3 (.int .i64 value)).alloc (.cells #[.int .u64 0, .int .u64 0] 51)
    have q4 := World.alloc_heap_new ((((w.alloc (.cells #[.slice none 0 0] 45)).alloc (.cells #[.pointer (some ⟨b, 0, none⟩)] 24)).alloc (.cells #[.int .i64 f] 3)).alloc (.cells #[.int .i64 value] 3)) (.cells #[.int .u64 0, .int .u64 0] 51)
    have hB0 : Below w.heap.size w (((((w.alloc (.cells #[.slice none 0 0] 45)).alloc (.cells #[.pointer (some ⟨b, 0, none⟩)] 24)).alloc (.cells #[.int .i64 f] 3)).alloc (.cells #[.int .i64 value] 3)).alloc (.cells #[.int .u64 0, .int .u64 0] 51)) :=
      (((((Below.refl _ w).alloc (Nat.le_refl _) _).alloc (by simp) _).alloc (by simp; omega) _).alloc (by simp; omega) _).alloc (by simp; omega) _
    have hsz : (((((w.alloc (.cells #[.slice none 0 0] 45)).alloc (.cells #[.pointer (some ⟨b, 0, none⟩)] 24)).alloc (.cells #[.int .i64 f] 3)).alloc (.cells #[.int .i64 value] 3)).alloc (.cells #[.int .u64 0, .int .u64 0] 51)).heap.size = w.heap.size + 5 := by simp
    simp only [World.size_alloc] at q1 q2 q3 q4 ⊢
    generalize (((((w.alloc (.cells #[.slice none 0 0] 45)).alloc (.cells #[.pointer (some ⟨b, 0, none⟩)] 24)).alloc (.cells #[.int .i64 f] 3)).alloc (.cells #[.int .i64 value] 3)).alloc (.cells #[.int .u64 0, .int .u64 0] 51)) = W0 at q0 q1 q2 q3 q4 hB0 hsz ⊢
    have hno : ∀ k, ¬ Ft w.heap.size W0 k := fun k hk => by have := (ft_iff q0 k).1 hk; cases this
    have hwe : WEnv b w.heap.size (w.heap.size + 1) (w.heap.size + 1 + 1) (w.heap.size + 1 + 1 + 1) (w.heap.size + 1 + 1 + 1 + 1) f value 0 0 w W0 :=
      ⟨fun k hk => ⟨by omega, by omega, hno _⟩, hB0, ⟨by omega, by omega, hno _⟩, ⟨by omega, by omega, hno _⟩, ⟨by omega, by omega, hno _⟩, ⟨by omega, by omega, hno _⟩, q1.cell, q2.cell, q3.cell, cell_of (i := 0) q4, cell_of (i := 1) q4, by omega⟩
    have hpow : (0 : Int) < 2 ^ (varOf l f).toNat := Int.pow_pos (by decide)
    have hseq := ways_seq (value := value) hA hW 13 f 0 0 W0 _ _ _ _ (by omega) (by omega) hpow (by omega) hpow hwe
    generalize hcs : cub l value 13 f 0 0 = cs at hseq hcl ⊢
    refine range_mine (gf := 54) (lb := #[.pointer (some ⟨w.heap.size + 1, 0, none⟩), .pointer (some ⟨w.heap.size + 1 + 1, 0, none⟩), .pointer (some ⟨w.heap.size + 1 + 1 + 1, 0, none⟩), .pointer (some ⟨w.heap.size + 1 + 1 + 1 + 1, 0, none⟩)]) rfl (enters_of Try.func54 (by kernel_rfl) rfl) hseq (fun _ => rfl) (by omega)
      (fun pre W => (∃ v, Boxed W w.heap.size 45 v ∧ OwnCubes W w.heap.size v pre) ∧ Below w.heap.size w W)
      (fun _ _ _ => False)
      (fun s W W' hs hst => by
        obtain ⟨⟨v, h1, h2⟩, h3⟩ := hs
        exact ⟨⟨v, boxed_stepd h1 hst (by omega), row_stepd h1 h2 hst⟩, h3.trans (hst.below (by omega) h3.size)⟩)
      (fun _ _ _ _ hs _ => hs) (fun _ _ _ hs => hs.elim) (fun pre W hs => by obtain ⟨⟨v, h1, h2⟩, _⟩ := hs; exact row_ftok h1 h2) ⟨⟨_, q0, ⟨rfl, .inl ⟨rfl, rfl⟩⟩⟩, hB0⟩
      (fun x a' W' => ∃ Bx, W'.heap[Bx]? = some (.cells #[.int .u64 x.1, .int .u64 x.2] 51 (0, 0)) ∧ a' = { tmps := #[.pointer (some ⟨b, 0, none⟩), .int .i64 f, .int .i64 value, undef, undef, undef, .slice none 0 0, .pointer (some ⟨w.heap.size, 0, none⟩), .pointer (some ⟨Bx, 0, none⟩), .pointer (some ⟨b, 0, none⟩), .int .i64 f, .bool true, .pointer (some ⟨b, 0, none⟩), .int .i64 f, .int .i64 value, .agg #[.int .u64 0, .int .u64 0], .func (.func 54) #[] #[.pointer (some ⟨w.heap.size + 1, 0, none⟩), .pointer (some ⟨w.heap.size + 1 + 1, 0, none⟩), .pointer (some ⟨w.heap.size + 1 + 1 + 1, 0, none⟩), .pointer (some ⟨w.heap.size + 1 + 1 + 1 + 1, 0, none⟩)], .agg #[.int .u64 x.1, .int .u64 x.2], undef, undef, undef, undef, undef], defers := [] })
      (fun x a' W' l o o' h hl ho => by
        obtain ⟨Bx, h1, h2⟩ := h
        exact ⟨Bx, (World.putObj_heap_other (fun e => by subst e; rw [h1] at hl; cases hl; cases ho)).trans h1, h2⟩) ?assign ?body ?done ?stop
    case assign =>
      rintro l' m' pre x W' K ⟨⟨v, h1, h2⟩, h3⟩ _ hK
      dsimp only [encC]
      gi_wp2
      exact hK _ _ (Kept.alloc _ _ h1.lt) ⟨⟨v, h1.alloc _, h2.alloc _⟩, h3.alloc h3.size _⟩ ⟨W'.heap.size, World.alloc_heap_new _ _, rfl⟩
    case body =>
      rintro l' m' pre x a' W ⟨⟨v, hb, hr⟩, hBW⟩ hl ⟨Bx, hBx, rfl⟩
      have hc := hb.cell
      have hcx0 := cell_of (i := 0) hBx
      have hcx1 := cell_of (i := 1) hBx
      obtain ⟨i0, hi, hz0, hz1, hz2⟩ := info_parts Try.info51
      have hWs := hBW.size
      gi_wp2_with (gi_at_builtin; refine wpListIn_append_own_at _ rfl _ _ 45 rfl w.heap.size 51 i0 _ 2 16 Try.underlying45 hi hz0 hz1 hz2 rfl (by decide) _ _ _ rfl (hr.alloc _) ⟨W.heap.size, 0, none⟩ 1 1 [.int .u64 x.1, .int .u64 x.2] rfl rfl (cells_new2 _ _ _ _) (by simp [Value.oneCell']) (by unfold maxLen; omega) (by omega) (by simp; omega) ?_; intro v' w1 hown' hgrow _ hat
                   obtain ⟨g', cap', rfl⟩ := ownsRow_succ hown'
                   obtain ⟨hv1, hv2, hr2, hk2, hb2⟩ := appendedB hb (by decide) hr (by omega) (Nat.le_refl _) hown' hgrow hat
                   have hc1 := hv1.cell
                   have hf1 := hv1.frozen)
      exact ⟨hk2, ⟨_, hv2, by unfold OwnCubes ccells; rw [List.length_append, List.flatMap_append]; exact hr2⟩, hBW.trans hb2⟩
    case done =>
      rintro D W hD ⟨⟨v, hb, hr⟩, hBW⟩ hK _
      have hc := hb.cell
      gi_wp2
      refine ⟨by simp, .inl ⟨_, _, rfl, run_takeDeferred hK, ?_⟩⟩
      refine ⟨_, results_tmp rfl _ _ _, v, rfl, ?_⟩
      rw [hcs]
      exact ⟨ownsRow_putObj hr _ hK rfl, hBW.trans (belowK_b (w := w) (Nat.le_refl _) W D _ _ (by omega) hK rfl rfl)⟩
    case stop =>
      rintro D c pre W _ _ h _
      exact h.elim
end Go.Proofs.Yteifllgcpickhaa
