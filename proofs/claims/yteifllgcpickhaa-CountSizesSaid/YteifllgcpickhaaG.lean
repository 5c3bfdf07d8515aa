/- count: all ways to a value: the iterator ways -/
import Derived.Test.YteifllgcpickhaaS
import Derived.Laws.BitsAllLaws
namespace Go.Proofs.Yteifllgcpickhaa
open Go.RowKit
attribute [local go_sem] Oper.semAt_some
attribute [local go_sem] run_store_func

/-- all ways from a ref to a value, with what is known so far -/
def cub (l : List Nd) (value : Int) : Nat → Int → Int → Int → List (Int × Int)
  | 0, _, _, _ => []
  | n + 1, f, m, b => if 0 ≤ f ∧ f < l.length then
      cub l value n (l[f.toNat]?.getD default).lo (m + 2 ^ (l[f.toNat]?.getD default).v.toNat) b ++ cub l value n (l[f.toNat]?.getD default).hi (m + 2 ^ (l[f.toNat]?.getD default).v.toNat) (b + 2 ^ (l[f.toNat]?.getD default).v.toNat)
    else if valN f = value then [(m, b)] else []

def encC (c : Int × Int) : Array Value := #[.agg #[.int .u64 c.1, .int .u64 c.2]]

theorem index_lo (x y : Int) (w : World) : (Instr.index 23 (.agg #[.int .i64 x, .int .i64 y]) (.int .i64 0)).run Try.prog w = .ok (.int .i64 x) w := by
  unfold Instr.index
  simp [go_sem]
theorem index_hi (x y : Int) (w : World) : (Instr.index 23 (.agg #[.int .i64 x, .int .i64 y]) (.int .i64 1)).run Try.prog w = .ok (.int .i64 y) w := by
  unfold Instr.index
  simp [go_sem]

theorem or_pow (m : Int) (k : Nat) (h0 : 0 ≤ m) (h1 : m < 2 ^ k) (hk : k ≤ 11) : bits .or .u64 m (2 ^ k) = m + 2 ^ k := by
  have hle : (2 : Nat) ^ k ≤ 2 ^ 11 := Nat.pow_le_pow_right (by omega) hk
  have hc : ((2 : Int) ^ k) = ((2 ^ k : Nat) : Int) := by simp
  rw [hc] at h1 ⊢
  have h2 : (2 : Nat) ^ 11 = 2048 := by decide
  rw [u64_or _ _ h0 (by omega) (by omega) (by omega)]
  have h3 : m.toNat < 2 ^ k := by omega
  have h4 := Nat.two_pow_add_eq_or_of_lt h3 1
  rw [Nat.mul_one] at h4
  rw [Int.toNat_natCast, Nat.or_comm, ← h4]
  omega
theorem or_zero (m : Int) (h0 : 0 ≤ m) (h1 : m < 2048) : bits .or .u64 m 0 = m := by
  rw [u64_or _ _ h0 (by omega) (by omega) (by omega)]
  simp
  omega
theorem pow_le (k : Nat) (hk : k ≤ 11) : (1 : Int) ≤ 2 ^ k ∧ (2 : Int) ^ k ≤ 2048 := by
  have hle : (2 : Nat) ^ k ≤ 2 ^ 11 := Nat.pow_le_pow_right (by omega) hk
  have hpos : (2 : Nat) ^ k > 0 := Nat.pow_pos (by omega)
  have hc : ((2 : Int) ^ k) = ((2 ^ k : Nat) : Int) := by simp
  rw [hc]
  omega

structure WEnv (b b0 B1 B2 B3 B4 : Nat) (f value mk bt : Int) (w0 w : World) : Prop where
  lo : ∀ k, k < w0.heap.size → Safe b0 w k
  bel : Below w0.heap.size w0 w
  s1 : Safe b0 w B1
  s2 : Safe b0 w B2
  s3 : Safe b0 w B3
  s4 : Safe b0 w B4
  c1 : w.cell? ⟨B1, 0, none⟩ = some (.pointer (some ⟨b, 0, none⟩))
  c2 : w.cell? ⟨B2, 0, none⟩ = some (.int .i64 f)
  c3 : w.cell? ⟨B3, 0, none⟩ = some (.int .i64 value)
  c4 : w.cell? ⟨B4, 0, none⟩ = some (.int .u64 mk)
  c5 : w.cell? ⟨B4, 1, none⟩ = some (.int .u64 bt)
  hb0 : b0 < w.heap.size

theorem WEnv.kept {b b0 B1 B2 B3 B4 : Nat} {f value mk bt : Int} {w0 w w' : World} (h : WEnv b b0 B1 B2 B3 B4 f value mk bt w0 w) (k : Kept b0 w w') : WEnv b b0 B1 B2 B3 B4 f value mk bt w0 w' :=
  ⟨fun i hi => (k.same i (h.lo i hi)).2, h.bel.trans ⟨k.os, k.tape, k.output, k.size, fun i hi => (k.same i (h.lo i hi)).1⟩, (k.same _ h.s1).2, (k.same _ h.s2).2, (k.same _ h.s3).2, (k.same _ h.s4).2,
    (k.cell (p := ⟨B1, 0, none⟩) h.s1).trans h.c1, (k.cell (p := ⟨B2, 0, none⟩) h.s2).trans h.c2, (k.cell (p := ⟨B3, 0, none⟩) h.s3).trans h.c3, (k.cell (p := ⟨B4, 0, none⟩) h.s4).trans h.c4, (k.cell (p := ⟨B4, 1, none⟩) h.s4).trans h.c5, Nat.lt_of_lt_of_le h.hb0 k.size⟩

theorem ways_any (p : Option Addr) (f value mk bt : Int) (w : World) : Calls Try.prog 41 #[.pointer p, .int .i64 f, .int .i64 value, .agg #[.int .u64 mk, .int .u64 bt]] w fun e w' =>
    e = .returned (.func (.func 54) #[] #[.pointer (some ⟨w.heap.size, 0, none⟩), .pointer (some ⟨w.heap.size + 1, 0, none⟩), .pointer (some ⟨w.heap.size + 2, 0, none⟩), .pointer (some ⟨w.heap.size + 3, 0, none⟩)]) ∧
    w' = (((w.alloc (.cells #[.pointer p] 24)).alloc (.cells #[.int .i64 f] 3)).alloc (.cells #[.int .i64 value] 3)).alloc (.cells #[.int .u64 mk, .int .u64 bt] 51) := by
  go_enter Try.func41, Try.ntmps41
  go_wp2_with fail
  go_ret
  exact ⟨rfl, rfl⟩

theorem Stepd.drewN {n1 b0 : Nat} (W : World) (q : Nat) : Stepd n1 b0 W (W.drewN q) := ⟨rfl, rfl, rfl, Nat.le_refl _, fun _ _ _ => rfl⟩
theorem Kept.drewN {b0 : Nat} (W : World) (q : Nat) : Kept b0 W (W.drewN q) := ⟨rfl, rfl, rfl, Nat.le_refl _, fun _ h => ⟨rfl, h⟩⟩
def WEnd (J Jx : List (Int × Int) → World → Prop) (xs : List (Int × Int)) (e : Ending) (W' : World) : Prop := (∃ v, e = .returned v) ∧ (J xs W' ∨ ∃ pre, pre <+: xs ∧ Jx pre W')

set_option maxRecDepth 100000 in
set_option maxHeartbeats 4000000 in
theorem ways_term {l : List Nd} {b b0 B1 B2 B3 B4 : Nat} {f value mk bt : Int} {w0 w : World} (n : Nat) (hA : ArRd w0 b l) (he : WEnv b b0 B1 B2 B3 B4 f value mk bt w0 w) (hf : ¬ (0 ≤ f ∧ f < l.length)) :
    SeqB False Try.prog 54 #[.pointer (some ⟨B1, 0, none⟩), .pointer (some ⟨B2, 0, none⟩), .pointer (some ⟨B3, 0, none⟩), .pointer (some ⟨B4, 0, none⟩)] encC (cub l value (n + 1) f mk bt) (cub l value (n + 1) f mk bt).length b0 w := by
  intro yl m J Jx W hB hJ hJf hx hY hj
  show CallsIn _ _ _ _ _ _ (WEnd J Jx (cub l value (n + 1) f mk bt))
  have hc : cub l value (n + 1) f mk bt = if valN f = value then [(mk, bt)] else [] := by conv => lhs; unfold cub; rw [if_neg hf]
  rw [hc] at hY ⊢
  clear hc
  have heW := he.kept (Kept.of_below hB he.hb0)
  have hba : Below W.heap.size W (W.alloc (.cells #[.func (.yield yl) #[] #[]] 93)) := (Below.refl _ W).alloc (Nat.le_refl _) _
  have hea := heW.kept (Kept.of_below hba heW.hb0)
  have hja := hJ _ _ _ hj (Stepd.of_below hba)
  have hsy := safe_new (hJf _ _ hj) heW.hb0 (.cells #[.func (.yield yl) #[] #[]] 93)
  have hcy : (W.alloc (.cells #[.func (.yield yl) #[] #[]] 93)).cell? ⟨W.heap.size, 0, none⟩ = some (.func (.yield yl) #[] #[]) := (Boxed.new W 93 _).cell
  have hget : ∀ m w1, WEnv b b0 B1 B2 B3 B4 f value mk bt w0 w1 → CallsIn Fence.wide m Try.prog 38 #[.pointer (some ⟨b, 0, none⟩), .int .i64 f] w1 (GetEnd w1 (⟨0, 0, 0⟩, false)) := fun m w1 h1 => callsIn_wide.2 (get_none b l f hf w1 (hA.below (Nat.le_refl _) h1.bel))
  have c1 := hea.c1
  have c2 := hea.c2
  have hmx : Try.prog.follows .mixedOrders = true := by kernel_rfl
  simp only [List.append_toArray, List.nil_append, List.cons_append]
  refine callsIn_of_wp Try.func54 rfl trivial ?_ rfl
  simp only [Try.ntmps54, List.size_toArray, List.length_cons, List.length_nil, Nat.reduceAdd, Nat.reduceSub, Array.replicate_succ, Array.replicate_zero, List.push_toArray, List.append_toArray, List.nil_append, List.cons_append]
  generalize hW1 : W.alloc (.cells #[.func (.yield yl) #[] #[]] 93) = W1 at hba hea hja hsy hcy c1 c2
  by_cases hv : valN f = value
  · rw [if_pos hv] at hY
    have hfin : ∀ v W', J [(mk, bt)] W' → WEnd J Jx (if valN f = value then [(mk, bt)] else []) (.returned v) W' := fun v W' h => by rw [if_pos hv]; exact ⟨⟨v, rfl⟩, .inl h⟩
    generalize WEnd J Jx (if valN f = value then [(mk, bt)] else []) = R at hfin ⊢
    gi_wp2_with (refine ⟨trivial, wdeep _, ?_⟩; refine (hget _ _ hea).mono ?_; clear hget; rintro e w2 ⟨rfl, hB2⟩
                 have hb2 : Below W1.heap.size W1 (w2.alloc (.cells #[.int .i64 0, .int .i64 0, .int .i64 0] 73)) := hB2.alloc hB2.size _
                 have hk2 := Kept.of_below hb2 hea.hb0
                 have he2 := hea.kept hk2
                 have hj2 := hJ _ _ _ hja (Stepd.of_below hb2)
                 have c22 := he2.c2
                 have c23 := he2.c3
                 have c24 := he2.c4
                 have c25 := he2.c5
                 have hcy2 := (hk2.cell (p := ⟨W.heap.size, 0, none⟩) hsy).trans hcy)
    refine wpIn_wide.2 ?_
    go_quiet (exact Calls.quiet_of_same ((value_any f _).mono (fun _ _ h => ⟨h.1, h.2.symm⟩)))
    have hj3 := hJ _ _ _ hj2 (Stepd.drewN _ nq)
    obtain ⟨fn, tmps, assign, body, hy, hR⟩ := hY (m - 1) [] (mk, bt) _ hj3 (by simp)
    unfold encC at hy
    have hk3 := Kept.drewN (b0 := b0) (w2.alloc (.cells #[.int .i64 0, .int .i64 0, .int .i64 0] 73)) nq
    have he3 := he2.kept hk3
    gi_wp2_with (refine ⟨wdeep _, ?_⟩; refine hR.mono ?_; clear hR hy; rintro e w3 (⟨rfl, hj4, hk4⟩ | ⟨rfl, hx4⟩))
    · exact bodyPost_ret (results_none rfl _ _ _) rfl (hfin _ _ hj4)
    · exact (hx _ _ hx4).elim
  · clear hY
    have hfin : ∀ v W', J [] W' → WEnd J Jx (if valN f = value then [(mk, bt)] else []) (.returned v) W' := fun v W' h => by rw [if_neg hv]; exact ⟨⟨v, rfl⟩, .inl h⟩
    generalize WEnd J Jx (if valN f = value then [(mk, bt)] else []) = R at hfin ⊢
    gi_wp2_with (refine ⟨trivial, wdeep _, ?_⟩; refine (hget _ _ hea).mono ?_; clear hget; rintro e w2 ⟨rfl, hB2⟩
                 have hb2 : Below W1.heap.size W1 (w2.alloc (.cells #[.int .i64 0, .int .i64 0, .int .i64 0] 73)) := hB2.alloc hB2.size _
                 have hk2 := Kept.of_below hb2 hea.hb0
                 have he2 := hea.kept hk2
                 have hj2 := hJ _ _ _ hja (Stepd.of_below hb2)
                 have c22 := he2.c2
                 have c23 := he2.c3)
    have hvb : (valN f == value) = false := by simpa using hv
    refine wpIn_wide.2 ?_
    go_quiet (exact Calls.quiet_of_same ((value_any f _).mono (fun _ _ h => ⟨h.1, h.2.symm⟩)))
    have hj3 := hJ _ _ _ hj2 (Stepd.drewN _ nq)
    gi_wp2
    exact bodyPost_ret (results_none rfl _ _ _) rfl (hfin _ _ hj3)

theorem cell_of {W : World} {b i : Nat} {c : Array Value} {t : TypeId} {fr : Nat × Nat} (h : W.heap[b]? = some (.cells c t fr)) : W.cell? ⟨b, i, none⟩ = c[i]? := by
  simp [World.cell?, h]

/-- the closure's four boxes, laid behind the variable next -/
theorem five_facts {b b0 B1 B2 B3 B4 n1 : Nat} {f child value mk0 bt0 mk bt : Int} {w0 W : World} (hF : FtOk b0 W) (he : WEnv b b0 B1 B2 B3 B4 f value mk0 bt0 w0 W) :
    Kept b0 W (((((W.alloc (.cells #[.int .u64 mk, .int .u64 bt] 51)).alloc (.cells #[.pointer (some ⟨b, 0, none⟩)] 24)).alloc (.cells #[.int .i64 child] 3)).alloc (.cells #[.int .i64 value] 3)).alloc (.cells #[.int .u64 mk, .int .u64 bt] 51)) ∧
    Stepd n1 b0 W (((((W.alloc (.cells #[.int .u64 mk, .int .u64 bt] 51)).alloc (.cells #[.pointer (some ⟨b, 0, none⟩)] 24)).alloc (.cells #[.int .i64 child] 3)).alloc (.cells #[.int .i64 value] 3)).alloc (.cells #[.int .u64 mk, .int .u64 bt] 51)) ∧
    WEnv b b0 (W.heap.size + 1) (W.heap.size + 1 + 1) (W.heap.size + 1 + 2) (W.heap.size + 1 + 3) child value mk bt w0 (((((W.alloc (.cells #[.int .u64 mk, .int .u64 bt] 51)).alloc (.cells #[.pointer (some ⟨b, 0, none⟩)] 24)).alloc (.cells #[.int .i64 child] 3)).alloc (.cells #[.int .i64 value] 3)).alloc (.cells #[.int .u64 mk, .int .u64 bt] 51)) ∧
    (((((W.alloc (.cells #[.int .u64 mk, .int .u64 bt] 51)).alloc (.cells #[.pointer (some ⟨b, 0, none⟩)] 24)).alloc (.cells #[.int .i64 child] 3)).alloc (.cells #[.int .i64 value] 3)).alloc (.cells #[.int .u64 mk, .int .u64 bt] 51)).heap.size = W.heap.size + 5 := by
  have hb : Below W.heap.size W (((((W.alloc (.cells #[.int .u64 mk, .int .u64 bt] 51)).alloc (.cells #[.pointer (some ⟨b, 0, none⟩)] 24)).alloc (.cells #[.int .i64 child] 3)).alloc (.cells #[.int .i64 value] 3)).alloc (.cells #[.int .u64 mk, .int .u64 bt] 51)) :=
    (((((Below.refl _ W).alloc (Nat.le_refl _) _).alloc (by simp) _).alloc (by simp; omega) _).alloc (by simp; omega) _).alloc (by simp; omega) _
  have hk := Kept.of_below hb he.hb0
  have hsz : (((((W.alloc (.cells #[.int .u64 mk, .int .u64 bt] 51)).alloc (.cells #[.pointer (some ⟨b, 0, none⟩)] 24)).alloc (.cells #[.int .i64 child] 3)).alloc (.cells #[.int .i64 value] 3)).alloc (.cells #[.int .u64 mk, .int .u64 bt] 51)).heap.size = W.heap.size + 5 := by simp
  have ek := he.kept hk
  have hb0 := he.hb0
  have hnew : ∀ k, W.heap.size ≤ k → k < W.heap.size + 5 → Safe b0 (((((W.alloc (.cells #[.int .u64 mk, .int .u64 bt] 51)).alloc (.cells #[.pointer (some ⟨b, 0, none⟩)] 24)).alloc (.cells #[.int .i64 child] 3)).alloc (.cells #[.int .i64 value] 3)).alloc (.cells #[.int .u64 mk, .int .u64 bt] 51)) k :=
    fun k h1 h2 => ⟨by omega, by omega, fun hf => by have := hF k ((Ft_of (hb.block b0 hb0) k).1 hf); omega⟩
  have q1 := (((Boxed.new (W.alloc (.cells #[.int .u64 mk, .int .u64 bt] 51)) 24 (.pointer (some ⟨b, 0, none⟩))).alloc (.cells #[.int .i64 child] 3)).alloc (.cells #[.int .i64 value] 3)).alloc (.cells #[.int .u64 mk, .int .u64 bt] 51)
  have q2 := ((Boxed.new ((W.alloc (.cells #[.int .u64 mk, .int .u64 bt] 51)).alloc (.cells #[.pointer (some ⟨b, 0, none⟩)] 24)) 3 (.int .i64 child)).alloc (.cells #[.int .i64 value] 3)).alloc (.cells #[.int .u64 mk, .int .u64 bt] 51)
  have q3 := (Boxed.new (((W.alloc (.cells #[.int .u64 mk, .int .u64 bt] 51)).alloc (.cells #[.pointer (some ⟨b, 0, none⟩)] 24)).alloc (.cells #[.int .i64 child] 3)) 3 (.int .i64 value)).alloc (.cells #[.int .u64 mk, .int .u64 bt] 51)
  have q4 := World.alloc_heap_new ((((W.alloc (.cells #[.int .u64 mk, .int .u64 bt] 51)).alloc (.cells #[.pointer (some ⟨b, 0, none⟩)] 24)).alloc (.cells #[.int .i64 child] 3)).alloc (.cells #[.int .i64 value] 3)) (.cells #[.int .u64 mk, .int .u64 bt] 51)
  simp only [World.size_alloc] at q1 q2 q3 q4
  refine ⟨hk, Stepd.of_below hb, ⟨ek.lo, ek.bel, hnew _ (by omega) (by omega), hnew _ (by omega) (by omega), hnew _ (by omega) (by omega), hnew _ (by omega) (by omega), q1.cell, q2.cell, q3.cell, ?_, ?_, by omega⟩, hsz⟩
  · exact cell_of (b := W.heap.size + 1 + 1 + 1 + 1) (i := 0) q4
  · exact cell_of (b := W.heap.size + 1 + 1 + 1 + 1) (i := 1) q4

set_option maxRecDepth 100000 in
set_option maxHeartbeats 4000000 in
theorem ways_node {l : List Nd} {b b0 B1 B2 B3 B4 : Nat} {f value mk bt v lo hi : Int} {w0 w : World} (n : Nat) (hA : ArRd w0 b l) (he : WEnv b b0 B1 B2 B3 B4 f value mk bt w0 w) (hf : 0 ≤ f ∧ f < l.length) (hn : getN l f = (⟨v, lo, hi⟩, true))
    (hv0 : 0 ≤ v) (hv1 : v ≤ 11) (hm0 : 0 ≤ mk) (hm1 : mk < 2 ^ v.toNat) (hb0 : 0 ≤ bt) (hb1 : bt < 2 ^ v.toNat)
    (hlow : ∀ w B1 B2 B3 B4, WEnv b b0 B1 B2 B3 B4 lo value (mk + 2 ^ v.toNat) bt w0 w → SeqB False Try.prog 54 #[.pointer (some ⟨B1, 0, none⟩), .pointer (some ⟨B2, 0, none⟩), .pointer (some ⟨B3, 0, none⟩), .pointer (some ⟨B4, 0, none⟩)] encC (cub l value n lo (mk + 2 ^ v.toNat) bt) (cub l value n lo (mk + 2 ^ v.toNat) bt).length b0 w)
    (hhigh : ∀ w B1 B2 B3 B4, WEnv b b0 B1 B2 B3 B4 hi value (mk + 2 ^ v.toNat) (bt + 2 ^ v.toNat) w0 w → SeqB False Try.prog 54 #[.pointer (some ⟨B1, 0, none⟩), .pointer (some ⟨B2, 0, none⟩), .pointer (some ⟨B3, 0, none⟩), .pointer (some ⟨B4, 0, none⟩)] encC (cub l value n hi (mk + 2 ^ v.toNat) (bt + 2 ^ v.toNat)) (cub l value n hi (mk + 2 ^ v.toNat) (bt + 2 ^ v.toNat)).length b0 w) :
    SeqB False Try.prog 54 #[.pointer (some ⟨B1, 0, none⟩), .pointer (some ⟨B2, 0, none⟩), .pointer (some ⟨B3, 0, none⟩), .pointer (some ⟨B4, 0, none⟩)] encC (cub l value (n + 1) f mk bt) (cub l value (n + 1) f mk bt).length b0 w := by
  intro yl m J Jx W hB hJ hJf hx hY hj
  show CallsIn _ _ _ _ _ _ (WEnd J Jx (cub l value (n + 1) f mk bt))
  have hc : cub l value (n + 1) f mk bt = cub l value n lo (mk + 2 ^ v.toNat) bt ++ cub l value n hi (mk + 2 ^ v.toNat) (bt + 2 ^ v.toNat) := by
    have : l[f.toNat]?.getD default = ⟨v, lo, hi⟩ := by
      unfold getN at hn; rw [if_pos hf] at hn; injection hn
    conv => lhs; unfold cub
    rw [if_pos hf, this]
  rw [hc] at hY ⊢
  clear hc
  generalize cub l value n lo (mk + 2 ^ v.toNat) bt = X1 at hlow hY ⊢
  generalize cub l value n hi (mk + 2 ^ v.toNat) (bt + 2 ^ v.toNat) = X2 at hhigh hY ⊢
  have hfin : ∀ v W', J (X1 ++ X2) W' → WEnd J Jx (X1 ++ X2) (.returned v) W' := fun v W' h => ⟨⟨v, rfl⟩, .inl h⟩
  generalize WEnd J Jx (X1 ++ X2) = R at hfin ⊢
  have heW := he.kept (Kept.of_below hB he.hb0)
  have hba : Below W.heap.size W (W.alloc (.cells #[.func (.yield yl) #[] #[]] 93)) := (Below.refl _ W).alloc (Nat.le_refl _) _
  have hea := heW.kept (Kept.of_below hba heW.hb0)
  have hja := hJ _ _ _ hj (Stepd.of_below hba)
  have hsy := safe_new (hJf _ _ hj) heW.hb0 (.cells #[.func (.yield yl) #[] #[]] 93)
  have hcy : (W.alloc (.cells #[.func (.yield yl) #[] #[]] 93)).cell? ⟨W.heap.size, 0, none⟩ = some (.func (.yield yl) #[] #[]) := (Boxed.new W 93 _).cell
  have hget : ∀ m w1, WEnv b b0 B1 B2 B3 B4 f value mk bt w0 w1 → CallsIn Fence.wide m Try.prog 38 #[.pointer (some ⟨b, 0, none⟩), .int .i64 f] w1 (GetEnd w1 (⟨v, lo, hi⟩, true)) := fun m w1 h1 => callsIn_wide.2 (hn ▸ get_any b l f w1 (hA.below (Nat.le_refl _) h1.bel))
  have c1 := hea.c1
  have c2 := hea.c2
  have hsW : W.heap.size < (W.alloc (.cells #[.func (.yield yl) #[] #[]] 93)).heap.size := by simp
  clear hf hn hA
  simp only [List.append_toArray, List.nil_append, List.cons_append]
  refine callsIn_of_wp_marks Try.func54 rfl trivial ?_ rfl
  simp only [Try.ntmps54, List.size_toArray, List.length_cons, List.length_nil, Nat.reduceAdd, Nat.reduceSub, Array.replicate_succ, Array.replicate_zero, List.push_toArray, List.append_toArray, List.nil_append, List.cons_append]
  generalize hW1 : W.alloc (.cells #[.func (.yield yl) #[] #[]] 93) = W1 at hba hea hja hsy hcy c1 c2 hsW
  gi_wp2_with (refine ⟨trivial, wdeep _, ?_⟩; refine (hget _ _ hea).mono ?_; clear hget; rintro e w2 ⟨rfl, hB2⟩)
  have hb2 : Below W1.heap.size W1 (w2.alloc (.cells #[.int .i64 v, .int .i64 lo, .int .i64 hi] 73)) := hB2.alloc hB2.size _
  have hk2 := Kept.of_below hb2 hea.hb0
  have he2 := hea.kept hk2
  have hj2 := hJ _ _ _ hja (Stepd.of_below hb2)
  have hsy2 := (hk2.same _ hsy).2
  have hcy2 := (hk2.cell (p := ⟨W.heap.size, 0, none⟩) hsy).trans hcy
  clear hk2 hb2 hB2 hja hea hba c1 c2 hcy hsy hW1
  generalize w2.heap.size = Bn
  generalize w2.alloc (.cells #[.int .i64 v, .int .i64 lo, .int .i64 hi] 73) = w3 at he2 hj2 hsy2 hcy2 ⊢
  have hjw3 := hj2
  have hew3 := he2
  have hsyw3 := hsy2
  have hcyw3 := hcy2
  have hlw3 := hsy2.1
  obtain ⟨hp1, hp2⟩ := pow_le v.toNat (by omega)
  have hwp : IntKind.u64.wrap (2 ^ v.toNat) = 2 ^ v.toNat := by rw [wrap_u64]; omega
  have hor1 := or_pow mk v.toNat hm0 hm1 (by omega)
  have hor2 := or_zero bt hb0 (by omega)
  have hor3 := or_pow bt v.toNat hb0 hb1 (by omega)
  rw [hwp]
  generalize (2 : Int) ^ v.toNat = p at *
  refine wpIn_loop_rounds 3 ?_
  rw [roundsIn_succ]
  have c1 := he2.c1
  have c3 := he2.c3
  have c4 := he2.c4
  have c5 := he2.c5
  have l1 := he2.s1.1
  have l3 := he2.s3.1
  have hix0 := index_lo lo hi
  have hix1 := index_hi lo hi
  clear hwp
  gi_wp2_with (refine ⟨trivial, wdeep _, ?_⟩; refine (callsIn_wide.2 (ways_any _ _ _ _ _ _)).mono ?_; rintro e w' ⟨rfl, rfl⟩)
  obtain ⟨k0, st0, we0, sz0⟩ := five_facts (n1 := W.heap.size) (b := b) (child := lo) (value := value) (mk := mk + p) (bt := bt) (hJf _ _ hjw3) hew3
  have hjw4 := hJ _ _ _ hjw3 st0
  have hsyw4 := (k0.same _ hsyw3).2
  have hcyw4 := (k0.cell (p := ⟨W.heap.size, 0, none⟩) hsyw3).trans hcyw3
  generalize ((((w3.alloc (.cells #[.int .u64 (mk + p), .int .u64 bt] 51)).alloc (.cells #[.pointer (some ⟨b, 0, none⟩)] 24)).alloc (.cells #[.int .i64 lo] 3)).alloc (.cells #[.int .i64 value] 3)).alloc (.cells #[.int .u64 (mk + p), .int .u64 bt] 51) = w4 at k0 st0 we0 sz0 hjw4 hsyw4 hcyw4 ⊢
  refine range_mine (gf := 54) (lb := #[.pointer (some ⟨w3.heap.size + 1, 0, none⟩), .pointer (some ⟨w3.heap.size + 1 + 1, 0, none⟩), .pointer (some ⟨w3.heap.size + 1 + 2, 0, none⟩), .pointer (some ⟨w3.heap.size + 1 + 3, 0, none⟩)]) rfl (enters_of Try.func54 (by kernel_rfl) rfl) (hlow w4 _ _ _ _ we0) (fun _ => rfl) we0.hb0
    (fun pre W' => J ([] ++ pre) W' ∧ Kept b0 w4 W') (fun _ _ _ => False)
    (fun s A B hs hst => ⟨hJ _ _ _ hs.1 (hst.mono (by omega)), Stepd.kept hs.2 hst (Nat.le_refl _) we0.hb0 (Nat.lt_of_lt_of_le we0.hb0 hs.2.size)⟩)
    (fun _ _ _ _ hs _ => hs) (fun _ _ _ hs => hs.elim) (fun pre W' hs => hJf _ _ hs.1) ⟨by simpa using hjw4, Kept.refl _ _⟩
    (fun x a' W' => ∃ Bx, W'.heap[Bx]? = some (.cells #[.int .u64 x.1, .int .u64 x.2] 51 (0, 0)) ∧ a' = { tmps := #[.func (.yield yl) #[] #[], .pointer (some ⟨B1, 0, none⟩), .pointer (some ⟨B2, 0, none⟩), .pointer (some ⟨B3, 0, none⟩), .pointer (some ⟨B4, 0, none⟩), .pointer (some ⟨W.heap.size, 0, none⟩), .pointer (some ⟨Bn, 0, none⟩), .bool true, .int .u64 p, .int .i64 0, .int .i64 lo, .pointer (some ⟨w3.heap.size, 0, none⟩), .pointer (some ⟨Bx, 0, none⟩), .tuple #[.agg #[.int .i64 v, .int .i64 lo, .int .i64 hi], .bool true], .pointer (some ⟨b, 0, none⟩), .int .i64 f, .tuple #[.agg #[.int .i64 v, .int .i64 lo, .int .i64 hi], .bool true], .agg #[.int .i64 v, .int .i64 lo, .int .i64 hi], .bool true, .bool true, .bool false, undef, undef, undef, undef, undef, undef, undef, .pointer (some ⟨Bn, 0, none⟩), .int .i64 v, .int .u64 p, .pointer (some ⟨Bn, 1, none⟩), .int .i64 lo, .pointer (some ⟨Bn, 2, none⟩), .int .i64 hi, .agg #[.int .i64 lo, .int .i64 hi], .int .i64 0, .bool true, .int .i64 0, .int .i64 lo, .pointer (some ⟨B4, 0, none⟩), .int .u64 mk, .int .u64 p, .int .u64 (mk + p), .pointer (some ⟨B4, 1, none⟩), .int .u64 bt, .int .u64 p, .int .i64 0, .int .u64 0, .int .u64 0, .int .u64 bt, .agg #[.int .u64 (mk + p), .int .u64 bt], .pointer (some ⟨b, 0, none⟩), .int .i64 lo, .int .i64 value, .agg #[.int .u64 (mk + p), .int .u64 bt], .func (.func 54) #[] #[.pointer (some ⟨w3.heap.size + 1, 0, none⟩), .pointer (some ⟨w3.heap.size + 1 + 1, 0, none⟩), .pointer (some ⟨w3.heap.size + 1 + 2, 0, none⟩), .pointer (some ⟨w3.heap.size + 1 + 3, 0, none⟩)], .agg #[.int .u64 x.1, .int .u64 x.2], undef, undef, undef, undef, undef], defers := [] })
    (fun x a' W' l o o' h hl ho => by
      obtain ⟨Bx, h1, h2⟩ := h
      exact ⟨Bx, (World.putObj_heap_other (fun e => by subst e; rw [h1] at hl; cases hl; cases ho)).trans h1, h2⟩) ?assign0 ?body0 ?done0 ?stop0
  case assign0 =>
    rintro l' m' pre x W' K ⟨hi1, hi2⟩ _ hK
    have hbw : b0 < W'.heap.size := Nat.lt_of_lt_of_le we0.hb0 hi2.size
    dsimp only [encC]
    gi_wp2
    exact hK _ _ (Kept.alloc _ _ hbw) ⟨hJ _ _ _ hi1 (Stepd.alloc _ _ _ _), hi2.trans (Kept.alloc _ _ hbw)⟩ ⟨W'.heap.size, World.alloc_heap_new _ _, rfl⟩
  case body0 =>
    rintro l' m' pre x a' W' ⟨hi1, hi2⟩ hlen ⟨Bx, hBx, rfl⟩
    have hcx0 : W'.cell? ⟨Bx, 0, none⟩ = some (.int .u64 x.1) := by simp [World.cell?, hBx]
    have hcx1 : W'.cell? ⟨Bx, 1, none⟩ = some (.int .u64 x.2) := by simp [World.cell?, hBx]
    have hcyw := (hi2.cell (p := ⟨W.heap.size, 0, none⟩) hsyw4).trans hcyw4
    obtain ⟨fn, tmps, assign, body, hy, hR⟩ := hY (m' - 1) ([] ++ pre) x W' hi1 (by simp; omega)
    unfold encC at hy
    gi_wp2_with (refine ⟨wdeep _, ?_⟩; refine RoundIn.mono (R := _) hR ?_; clear hR hy; rintro e w5 (⟨rfl, hj5, hk5⟩ | ⟨rfl, hx5⟩))
    · exact ⟨hk5, by simpa using hj5, hi2.trans hk5⟩
    · exact (hx _ _ hx5).elim
  case stop0 =>
    rintro D c pre W' _ _ h _
    exact h.elim
  case done0 =>
    rintro D1 w5 hD1 ⟨hj5, hk5⟩ hK1 hF1
    have hjw5 : J X1 w5 := by simpa using hj5
    have hew5 := hew3.kept (k0.trans hk5)
    have hsyw5 := (hk5.same _ hsyw4).2
    have hcyw5 := (hk5.cell (p := ⟨W.heap.size, 0, none⟩) hsyw4).trans hcyw4
    have hlw5 := hsyw5.1
    have hsD : Safe b0 w5 D1 := ⟨(Array.getElem?_eq_some_iff.1 hK1).1, by have := we0.hb0; omega, hF1⟩
    have c1 := hew5.c1
    have c3 := hew5.c3
    have c4 := hew5.c4
    have c5 := hew5.c5
    have l1 := hew5.s1.1
    have l3 := hew5.s3.1
    have hone : IntKind.u64.wrap p = p := by rw [wrap_u64]; omega
    have hD1' : W.heap.size ≤ D1 := by omega
    clear hj5 hk5 k0 st0 we0 sz0 hjw4 hsyw4 hcyw4
    gi_wp2_with fail
    rw [roundsIn_succ]
    gi_wp2_with (refine ⟨trivial, wdeep _, ?_⟩; refine (callsIn_wide.2 (ways_any _ _ _ _ _ _)).mono ?_; rintro e w' ⟨rfl, rfl⟩)
    obtain ⟨k1, st1, we1, sz1⟩ := five_facts (n1 := W.heap.size) (b := b) (child := hi) (value := value) (mk := mk + p) (bt := (bt + p)) (hJf _ _ hjw5) hew5
    have hjw6 := hJ _ _ _ hjw5 st1
    have hsyw6 := (k1.same _ hsyw5).2
    have hcyw6 := (k1.cell (p := ⟨W.heap.size, 0, none⟩) hsyw5).trans hcyw5
    generalize ((((w5.alloc (.cells #[.int .u64 (mk + p), .int .u64 (bt + p)] 51)).alloc (.cells #[.pointer (some ⟨b, 0, none⟩)] 24)).alloc (.cells #[.int .i64 hi] 3)).alloc (.cells #[.int .i64 value] 3)).alloc (.cells #[.int .u64 (mk + p), .int .u64 (bt + p)] 51) = w6 at k1 st1 we1 sz1 hjw6 hsyw6 hcyw6 ⊢
    refine range_mine (gf := 54) (lb := #[.pointer (some ⟨w5.heap.size + 1, 0, none⟩), .pointer (some ⟨w5.heap.size + 1 + 1, 0, none⟩), .pointer (some ⟨w5.heap.size + 1 + 2, 0, none⟩), .pointer (some ⟨w5.heap.size + 1 + 3, 0, none⟩)]) rfl (enters_of Try.func54 (by kernel_rfl) rfl) (hhigh w6 _ _ _ _ we1) (fun _ => rfl) we1.hb0
      (fun pre W' => J (X1 ++ pre) W' ∧ Kept b0 w6 W') (fun _ _ _ => False)
      (fun s A B hs hst => ⟨hJ _ _ _ hs.1 (hst.mono (by omega)), Stepd.kept hs.2 hst (Nat.le_refl _) we1.hb0 (Nat.lt_of_lt_of_le we1.hb0 hs.2.size)⟩)
      (fun _ _ _ _ hs _ => hs) (fun _ _ _ hs => hs.elim) (fun pre W' hs => hJf _ _ hs.1) ⟨by simpa using hjw6, Kept.refl _ _⟩
      (fun x a' W' => ∃ Bx, W'.heap[Bx]? = some (.cells #[.int .u64 x.1, .int .u64 x.2] 51 (0, 0)) ∧ a' = { tmps := #[.func (.yield yl) #[] #[], .pointer (some ⟨B1, 0, none⟩), .pointer (some ⟨B2, 0, none⟩), .pointer (some ⟨B3, 0, none⟩), .pointer (some ⟨B4, 0, none⟩), .pointer (some ⟨W.heap.size, 0, none⟩), .pointer (some ⟨Bn, 0, none⟩), .bool true, .int .u64 p, .int .i64 1, .int .i64 hi, .pointer (some ⟨w5.heap.size, 0, none⟩), .pointer (some ⟨Bx, 0, none⟩), .tuple #[.agg #[.int .i64 v, .int .i64 lo, .int .i64 hi], .bool true], .pointer (some ⟨b, 0, none⟩), .int .i64 f, .tuple #[.agg #[.int .i64 v, .int .i64 lo, .int .i64 hi], .bool true], .agg #[.int .i64 v, .int .i64 lo, .int .i64 hi], .bool true, .bool true, .bool false, undef, undef, undef, undef, undef, undef, undef, .pointer (some ⟨Bn, 0, none⟩), .int .i64 v, .int .u64 p, .pointer (some ⟨Bn, 1, none⟩), .int .i64 lo, .pointer (some ⟨Bn, 2, none⟩), .int .i64 hi, .agg #[.int .i64 lo, .int .i64 hi], .int .i64 1, .bool true, .int .i64 1, .int .i64 hi, .pointer (some ⟨B4, 0, none⟩), .int .u64 mk, .int .u64 p, .int .u64 (mk + p), .pointer (some ⟨B4, 1, none⟩), .int .u64 bt, .int .u64 p, .int .i64 1, .int .u64 1, .int .u64 p, .int .u64 (bt + p), .agg #[.int .u64 (mk + p), .int .u64 (bt + p)], .pointer (some ⟨b, 0, none⟩), .int .i64 hi, .int .i64 value, .agg #[.int .u64 (mk + p), .int .u64 (bt + p)], .func (.func 54) #[] #[.pointer (some ⟨w5.heap.size + 1, 0, none⟩), .pointer (some ⟨w5.heap.size + 1 + 1, 0, none⟩), .pointer (some ⟨w5.heap.size + 1 + 2, 0, none⟩), .pointer (some ⟨w5.heap.size + 1 + 3, 0, none⟩)], .agg #[.int .u64 x.1, .int .u64 x.2], undef, undef, undef, undef, .int .i64 1], defers := [] })
      (fun x a' W' l o o' h hl ho => by
        obtain ⟨Bx, h1, h2⟩ := h
        exact ⟨Bx, (World.putObj_heap_other (fun e => by subst e; rw [h1] at hl; cases hl; cases ho)).trans h1, h2⟩) ?assign1 ?body1 ?done1 ?stop1
    case assign1 =>
      rintro l' m' pre x W' K ⟨hi1, hi2⟩ _ hK
      have hbw : b0 < W'.heap.size := Nat.lt_of_lt_of_le we1.hb0 hi2.size
      dsimp only [encC]
      gi_wp2
      exact hK _ _ (Kept.alloc _ _ hbw) ⟨hJ _ _ _ hi1 (Stepd.alloc _ _ _ _), hi2.trans (Kept.alloc _ _ hbw)⟩ ⟨W'.heap.size, World.alloc_heap_new _ _, rfl⟩
    case body1 =>
      rintro l' m' pre x a' W' ⟨hi1, hi2⟩ hlen ⟨Bx, hBx, rfl⟩
      have hcx0 : W'.cell? ⟨Bx, 0, none⟩ = some (.int .u64 x.1) := by simp [World.cell?, hBx]
      have hcx1 : W'.cell? ⟨Bx, 1, none⟩ = some (.int .u64 x.2) := by simp [World.cell?, hBx]
      have hcyw := (hi2.cell (p := ⟨W.heap.size, 0, none⟩) hsyw6).trans hcyw6
      obtain ⟨fn, tmps, assign, body, hy, hR⟩ := hY (m' - 1) (X1 ++ pre) x W' hi1 (by simp; omega)
      unfold encC at hy
      gi_wp2_with (refine ⟨wdeep _, ?_⟩; refine RoundIn.mono (R := _) hR ?_; clear hR hy; rintro e w5 (⟨rfl, hj5, hk5⟩ | ⟨rfl, hx5⟩))
      · exact ⟨hk5, by rw [← List.append_assoc]; exact hj5, hi2.trans hk5⟩
      · exact (hx _ _ hx5).elim
    case stop1 =>
      rintro D c pre W' _ _ h _
      exact h.elim
    case done1 =>
      rintro D2 w7 hD2 ⟨hj7, hk7⟩ hK2 hF2
      have hK1' : w7.heap[D1]? = some (.deferred (some [])) := ((k1.trans hk7).same _ hsD).1.trans hK1
      have hne : D1 ≠ D2 := fun e => by have := hsD.1; omega
      have hj8 := hJ _ _ _ hj7 (Stepd.putObj (n1 := W.heap.size) w7 D2 (.deferred none) (by omega) hF2)
      have hs7 := ((k1.trans hk7).same _ hsD).2
      have hb7 : b0 < w7.heap.size := by have := hs7.1; have := we1.hb0; have := hk7.size; omega
      have hK1'' : (w7.putObj D2 (.deferred none)).heap[D1]? = some (.deferred (some [])) := (World.putObj_heap_other (by omega)).trans hK1'
      have hF1' : ¬ Ft b0 (w7.putObj D2 (.deferred none)) D1 := fun h => hs7.2.2 ((Ft_of (World.putObj_heap_other (by have := we1.hb0; omega)) _).1 h)
      have hj9 := hJ _ _ _ hj8 (Stepd.putObj (n1 := W.heap.size) _ D1 (.deferred none) (by omega) hF1')
      gi_wp2_with fail
      rw [roundsIn_succ]
      gi_wp2_with fail
      refine ⟨by simp, .inl ⟨D2, _, rfl, run_takeDeferred hK2, ?_⟩⟩
      refine ⟨by simp, .inl ⟨D1, _, rfl, run_takeDeferred hK1'', ?_⟩⟩
      exact ⟨_, results_none rfl _ _ _, hfin _ _ hj9⟩
end Go.Proofs.Yteifllgcpickhaa
