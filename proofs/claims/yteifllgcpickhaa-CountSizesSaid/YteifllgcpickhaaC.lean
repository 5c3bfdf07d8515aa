/- count: what lies below a ref, in the order in which it comes; the iterator each -/
import Derived.Test.YteifllgcpickhaaB
namespace Go.Proofs.Yteifllgcpickhaa
open Go.RowKit
attribute [local go_sem] Oper.semAt_some

/-- the row of refs, with those below one, and itself, that are not in it -/
def dn (l : List Nd) : Nat → List Int → Int → List Int
  | 0, vis, _ => vis
  | n + 1, vis, f => if f ∈ vis then vis else if 0 ≤ f ∧ f < l.length then dn l n (dn l n (vis ++ [f]) (l[f.toNat]?.getD default).lo) (l[f.toNat]?.getD default).hi else vis ++ [f]

theorem dn_prefix (l : List Nd) : ∀ n vis f, vis <+: dn l n vis f
  | 0, _, _ => List.prefix_refl _
  | n + 1, vis, f => by
    unfold dn
    split
    · exact List.prefix_refl _
    · split
      · exact (List.prefix_append _ _).trans ((dn_prefix l n _ _).trans (dn_prefix l n _ _))
      · exact List.prefix_append _ _
theorem dn_len (l : List Nd) : ∀ n vis f, (dn l n vis f).length + 1 ≤ vis.length + 2 ^ n
  | 0, _, _ => by simp [dn]
  | n + 1, vis, f => by
    have hp : 2 ^ n > 0 := Nat.pow_pos (by omega)
    unfold dn
    split
    · omega
    · split
      · have h1 := dn_len l n (vis ++ [f]) (l[f.toNat]?.getD default).lo
        have h2 := dn_len l n (dn l n (vis ++ [f]) (l[f.toNat]?.getD default).lo) (l[f.toNat]?.getD default).hi
        simp at h1
        omega
      · simp; omega

/-- the arena's nodes are as Mk lets them be -/
def WF (l : List Nd) : Prop := ∀ i (h : i < l.length), 0 ≤ l[i].v ∧ l[i].v ≤ 11 ∧ hasB l l[i].lo = true ∧ hasB l l[i].hi = true ∧ l[i].v < varOf l l[i].lo ∧ l[i].v < varOf l l[i].hi

theorem hasB_range {l : List Nd} {f : Int} (h : hasB l f = true) : -1099511627777 ≤ f ∧ f < l.length := by
  simp only [hasB, low, Bool.and_eq_true, decide_eq_true_eq] at h
  exact ⟨of_decide_eq_true h.1, h.2⟩
theorem wf_i64 {x : Int} (h1 : -9223372036854775808 ≤ x) (h2 : x ≤ 9223372036854775807) : (Lit.int .i64 x).wf = true := by
  simp [Lit.wf, IntKind.min, IntKind.max, IntKind.bits, IntKind.signed]
  omega

/-- block M is a map that holds 1 at just the refs of vis -/
def MapAt (W : World) (M : Nat) (vis : List Int) : Prop :=
  ∃ D : DataW Unit, W.ownsMap Try.prog 3 (plainElem Try.prog 3) M vis.length D ∧ ∀ x : Int, D.atKey (.int .i64 x) (.lit (.int .i64 0)) = .lit (.int .i64 (if x ∈ vis then 1 else 0))

structure KeptM (M b0 : Nat) (W W' : World) : Prop where
  os : W'.os = W.os
  tape : W'.tape = W.tape
  output : W'.output = W.output
  size : W.heap.size ≤ W'.heap.size
  safe : ∀ k, Safe b0 W k → Safe b0 W' k
  same : ∀ k, Safe b0 W k → k ≠ M → W'.heap[k]? = W.heap[k]?
theorem KeptM.refl (M b0 : Nat) (W : World) : KeptM M b0 W W := ⟨rfl, rfl, rfl, Nat.le_refl _, fun _ h => h, fun _ _ _ => rfl⟩
theorem KeptM.trans {M b0 : Nat} {A B C : World} (h : KeptM M b0 A B) (k : KeptM M b0 B C) : KeptM M b0 A C :=
  ⟨k.os.trans h.os, k.tape.trans h.tape, k.output.trans h.output, Nat.le_trans h.size k.size, fun i hi => k.safe i (h.safe i hi), fun i hi hm => (k.same i (h.safe i hi) hm).trans (h.same i hi hm)⟩
theorem Kept.m {M b0 : Nat} {W W' : World} (h : Kept b0 W W') : KeptM M b0 W W' := ⟨h.os, h.tape, h.output, h.size, fun k hk => (h.same k hk).2, fun k hk _ => (h.same k hk).1⟩
theorem KeptM.grown {M b0 : Nat} {W W' : World} {row : Option Nat} (hg : W.grownBy W' row) (hr : ∀ k, row = some k → k = M) (hb : b0 < W.heap.size) (hM : M ≠ b0) : KeptM M b0 W W' :=
  ⟨hg.os, hg.tape, hg.output, hg.size, fun k hs => ⟨Nat.lt_of_lt_of_le hs.1 hg.size, hs.2.1, fun hf => hs.2.2 ((Ft_of (hg.block b0 hb (fun e => hM (hr _ e.symm).symm)) k).1 hf)⟩, fun k hs hne => hg.block k hs.1 (fun e => hne (hr k e.symm))⟩
theorem KeptM.alloc {M b0 : Nat} (W : World) (o : Obj) (hb : b0 < W.heap.size) (hM : M ≠ b0) : KeptM M b0 W (W.alloc o) := KeptM.grown (World.grownBy_alloc W o none) (fun _ e => by cases e) hb hM

/-- what each's inner function finds -/
structure DEnv (b b0 M B1 B3 B4 B5 yl : Nat) (w0 W : World) : Prop where
  lo : ∀ k, k < w0.heap.size → Safe b0 W k
  bel : Below w0.heap.size w0 W
  s1 : Safe b0 W B1
  s3 : Safe b0 W B3
  s4 : Safe b0 W B4
  s5 : Safe b0 W B5
  sM : Safe b0 W M
  c1 : W.cell? ⟨B1, 0, none⟩ = some (.pointer (some ⟨b, 0, none⟩))
  c3 : W.cell? ⟨B3, 0, none⟩ = some (.func (.yield yl) #[] #[])
  c4 : W.cell? ⟨B4, 0, none⟩ = some (.map (some M))
  c5 : W.cell? ⟨B5, 0, none⟩ = some (.func (.func 51) #[] #[.pointer (some ⟨B4, 0, none⟩), .pointer (some ⟨B1, 0, none⟩), .pointer (some ⟨B3, 0, none⟩), .pointer (some ⟨B5, 0, none⟩)])
  n1 : B1 ≠ M
  n3 : B3 ≠ M
  n4 : B4 ≠ M
  n5 : B5 ≠ M
  nM : w0.heap.size ≤ M
  hb0 : b0 < W.heap.size

theorem DEnv.kept {b b0 M B1 B3 B4 B5 yl : Nat} {w0 W W' : World} (h : DEnv b b0 M B1 B3 B4 B5 yl w0 W) (k : KeptM M b0 W W') : DEnv b b0 M B1 B3 B4 B5 yl w0 W' :=
  have cell : ∀ B, Safe b0 W B → B ≠ M → W'.cell? ⟨B, 0, none⟩ = W.cell? ⟨B, 0, none⟩ := fun B hs hn => World.cell?_of_block (a := ⟨B, 0, none⟩) (k.same B hs hn)
  ⟨fun i hi => k.safe i (h.lo i hi), h.bel.trans ⟨k.os, k.tape, k.output, k.size, fun i hi => k.same i (h.lo i hi) (by have := h.nM; omega)⟩, k.safe _ h.s1, k.safe _ h.s3, k.safe _ h.s4, k.safe _ h.s5, k.safe _ h.sM,
    (cell _ h.s1 h.n1).trans h.c1, (cell _ h.s3 h.n3).trans h.c3, (cell _ h.s4 h.n4).trans h.c4, (cell _ h.s5 h.n5).trans h.c5, h.n1, h.n3, h.n4, h.n5, h.nM, Nat.lt_of_lt_of_le h.hb0 k.size⟩

theorem MapAt.hit {D : DataW Unit} {vis : List Int} {f c : Int} (hD : ∀ x : Int, D.atKey (.int .i64 x) (.lit (.int .i64 0)) = .lit (.int .i64 (if x ∈ vis then 1 else 0))) (hc : D.atKey (.int .i64 f) (.lit (.int .i64 0)) = .lit (.int .i64 c)) : c = if f ∈ vis then 1 else 0 := by
  rw [hD f] at hc; injection hc with h; injection h with _ h; exact h.symm
theorem MapAt.put {D : DataW Unit} {vis : List Int} {f : Int} (hm : Maps.IsMap D) (hD : ∀ x : Int, D.atKey (.int .i64 x) (.lit (.int .i64 0)) = .lit (.int .i64 (if x ∈ vis then 1 else 0))) :
    ∀ x : Int, (D.put (.int .i64 f) (.lit (.int .i64 1))).atKey (.int .i64 x) (.lit (.int .i64 0)) = .lit (.int .i64 (if x ∈ vis ++ [f] then 1 else 0)) := by
  intro x
  by_cases hx : x = f
  · subst hx; rw [Maps.atKey_put_same hm (by trivial)]; simp
  · rw [Maps.atKey_put_other (by simpa using hx), hD x]; simp [hx]

/-- what a yield of the loop is let to do -/
def Yields (yl b0 : Nat) (J Jx : List Int → World → Prop) : Prop :=
  ∀ (m : Nat) (pre : List Int) (x : Int) (W1 : World), J pre W1 → pre.length < 100000 → YieldAt Fence.wide m Try.prog yl #[.int .i64 x] W1 fun e W' =>
      (e = .returned (.bool true) ∧ J (pre ++ [x]) W' ∧ Kept b0 W1 W') ∨ (e = .returned (.bool false) ∧ Jx (pre ++ [x]) W')

def DownEnd (l : List Nd) (n : Nat) (vis : List Int) (f : Int) (M b0 : Nat) (J Jx : List Int → World → Prop) (W : World) (e : Ending) (W' : World) : Prop :=
  (e = .returned (.bool true) ∧ J (dn l n vis f) W' ∧ KeptM M b0 W W' ∧ MapAt W' M (dn l n vis f)) ∨ (e = .returned (.bool false) ∧ ∃ q, q <+: dn l n vis f ∧ Jx q W')

set_option maxHeartbeats 2000000 in
theorem down_seen {l : List Nd} {b b0 M B1 B3 B4 B5 yl : Nat} {w0 W : World} {J Jx : List Int → World → Prop} (n m : Nat) (f : Int) (vis : List Int) (hl : l.length ≤ 1000) (hh : hasB l f = true) (hv : f ∈ vis) (he : DEnv b b0 M B1 B3 B4 B5 yl w0 W) (hm : MapAt W M vis) (hj : J vis W) :
    CallsIn Fence.wide m Try.prog 51 #[.int .i64 f, .pointer (some ⟨B4, 0, none⟩), .pointer (some ⟨B1, 0, none⟩), .pointer (some ⟨B3, 0, none⟩), .pointer (some ⟨B5, 0, none⟩)] W (DownEnd l (n + 1) vis f M b0 J Jx W) := by
  have hfin : DownEnd l (n + 1) vis f M b0 J Jx W (.returned (.bool true)) W := by
    have hd : dn l (n + 1) vis f = vis := by unfold dn; rw [if_pos hv]
    exact .inl ⟨rfl, by rw [hd]; exact hj, KeptM.refl _ _ _, by rw [hd]; exact hm⟩
  generalize DownEnd l (n + 1) vis f M b0 J Jx W = R at hfin
  obtain ⟨D, hown, hD⟩ := hm
  have hr := hasB_range hh
  have hkey := Maps.keyOf_int_mk Try.underlying3 (wf_i64 (x := f) (by omega) (by omega))
  have hval : ∀ c, D.atKey (.int .i64 f) (.lit (.int .i64 0)) = .lit (.int .i64 c) → c = 1 := fun c hc => by rw [MapAt.hit hD hc, if_pos hv]
  have hvh := Lib.hid hval
  have c4 := he.c4
  clear hval hD he hh hr hv hj
  refine callsIn_of_wp Try.func51 rfl trivial ?_ rfl
  simp only [Try.ntmps51, List.size_toArray, List.length_cons, List.length_nil, Nat.reduceAdd, Nat.reduceSub, Array.replicate_succ, Array.replicate_zero, List.push_toArray, List.append_toArray, List.nil_append, List.cons_append]
  gi_wp2_with (first
      | (gi_at_lookup; refine wpListIn_lookup_own_int _ rfl _ _ 71 rfl 3 3 .i64 (Maps.int_keyed Try.underlying3) Try.underlying71 Try.underlying3 (Try.zeroValue3 _) M vis.length _ rfl hown _ _ rfl hkey ?_; intro c hat hwc; obtain rfl := hvh.out c hat))
  exact hfin

theorem MapAt.kept {W W' : World} {M : Nat} {vis : List Int} (h : MapAt W M vis) (hk : W'.heap[M]? = W.heap[M]?) : MapAt W' M vis := by
  obtain ⟨D, ⟨es, ck, hb, hr⟩, hD⟩ := h
  exact ⟨D, ⟨es, ck, hk.trans hb, hr⟩, hD⟩
theorem Kept.of_below {b0 : Nat} {W W' : World} (h : Below W.heap.size W W') (hb : b0 < W.heap.size) : Kept b0 W W' :=
  ⟨h.os, h.tape, h.output, h.size, fun k hs => ⟨h.block k hs.1, Nat.lt_of_lt_of_le hs.1 h.size, hs.2.1, fun hf => hs.2.2 ((Ft_of (h.block b0 hb) k).1 hf)⟩⟩
theorem Stepd.of_below {n1 b0 : Nat} {W W' : World} (h : Below W.heap.size W W') : Stepd n1 b0 W W' := ⟨h.os, h.tape, h.output, h.size, fun k hk _ => h.block k hk⟩
theorem wdeep (m : Nat) : Fence.wide.depth.isSome = true → 1 ≤ m := fun h => by cases h

/-- behind the store into the map: all is as it was but the map -/
theorem marked {b b0 n1 M B1 B3 B4 B5 yl : Nat} {w0 W w1 : World} {J : List Int → World → Prop} {f : Int} {vis : List Int} {D : DataW Unit} (hJ : Abide n1 b0 J) (hM : n1 ≤ M) (he : DEnv b b0 M B1 B3 B4 B5 yl w0 W) (hj : J vis W)
    (hown : W.ownsMap Try.prog 3 (plainElem Try.prog 3) M vis.length D) (hD : ∀ x : Int, D.atKey (.int .i64 x) (.lit (.int .i64 0)) = .lit (.int .i64 (if x ∈ vis then 1 else 0)))
    (hown1 : w1.ownsMap Try.prog 3 (plainElem Try.prog 3) M (vis.length + 1) (D.put (.int .i64 f) (.lit (.int .i64 1)))) (hg : W.grownBy w1 (some M)) :
    J vis w1 ∧ KeptM M b0 W w1 ∧ MapAt w1 M (vis ++ [f]) ∧ DEnv b b0 M B1 B3 B4 B5 yl w0 w1 := by
  have hk : KeptM M b0 W w1 := KeptM.grown hg (fun _ e => by cases e; rfl) he.hb0 he.sM.2.1
  have hm : Maps.IsMap D := by obtain ⟨es, ck, _, _, _, hd⟩ := hown; exact ⟨_, hd⟩
  exact ⟨hJ _ _ _ hj (Stepd.grown hg (fun _ e => by cases e; exact ⟨hM, he.sM.2.2⟩)), hk, ⟨_, by rw [List.length_append]; exact hown1, MapAt.put hm hD⟩, he.kept hk⟩

set_option maxRecDepth 100000 in
set_option maxHeartbeats 2000000 in
theorem down_term {l : List Nd} {b b0 n1 M B1 B3 B4 B5 yl : Nat} {w0 W : World} {J Jx : List Int → World → Prop} (n m : Nat) (f : Int) (vis : List Int) (hA : ArRd w0 b l) (hJ : Abide n1 b0 J) (hM : n1 ≤ M) (hY : Yields yl b0 J Jx)
    (hh : hasB l f = true) (hv : f ∉ vis) (hf : ¬ (0 ≤ f ∧ f < l.length)) (hlen : vis.length < 100000) (he : DEnv b b0 M B1 B3 B4 B5 yl w0 W) (hm : MapAt W M vis) (hj : J vis W) :
    CallsIn Fence.wide m Try.prog 51 #[.int .i64 f, .pointer (some ⟨B4, 0, none⟩), .pointer (some ⟨B1, 0, none⟩), .pointer (some ⟨B3, 0, none⟩), .pointer (some ⟨B5, 0, none⟩)] W (DownEnd l (n + 1) vis f M b0 J Jx W) := by
  have hd : dn l (n + 1) vis f = vis ++ [f] := by unfold dn; rw [if_neg hv, if_neg hf]
  have hyes : ∀ W', J (vis ++ [f]) W' → KeptM M b0 W W' → MapAt W' M (vis ++ [f]) → DownEnd l (n + 1) vis f M b0 J Jx W (.returned (.bool true)) W' := fun W' h1 h2 h3 => .inl ⟨rfl, by rw [hd]; exact h1, h2, by rw [hd]; exact h3⟩
  have hno : ∀ W', Jx (vis ++ [f]) W' → DownEnd l (n + 1) vis f M b0 J Jx W (.returned (.bool false)) W' := fun W' h1 => .inr ⟨rfl, _, by rw [hd]; exact List.prefix_refl _, h1⟩
  generalize DownEnd l (n + 1) vis f M b0 J Jx W = R at hyes hno
  clear hd
  obtain ⟨D, hown, hD⟩ := hm
  have hr := hasB_range hh
  have hkey := Maps.keyOf_int_mk Try.underlying3 (wf_i64 (x := f) (by omega) (by omega))
  have hval : ∀ c, D.atKey (.int .i64 f) (.lit (.int .i64 0)) = .lit (.int .i64 c) → c = 0 := fun c hc => by rw [MapAt.hit hD hc, if_neg hv]
  have hvh := Lib.hid hval
  have hDh := Lib.hid hD
  have hlenh : vis.length < maxLen := by unfold maxLen; omega
  have c1 := he.c1
  have c4 := he.c4
  have hget : ∀ m w1, DEnv b b0 M B1 B3 B4 B5 yl w0 w1 → CallsIn Fence.wide m Try.prog 38 #[.pointer (some ⟨b, 0, none⟩), .int .i64 f] w1 (GetEnd w1 (⟨0, 0, 0⟩, false)) := fun m w1 h1 => callsIn_wide.2 (get_none b l f hf w1 (hA.below (Nat.le_refl _) h1.bel))
  clear hval hD hh hr hv hf
  refine callsIn_of_wp Try.func51 rfl trivial ?_ rfl
  simp only [Try.ntmps51, List.size_toArray, List.length_cons, List.length_nil, Nat.reduceAdd, Nat.reduceSub, Array.replicate_succ, Array.replicate_zero, List.push_toArray, List.append_toArray, List.nil_append, List.cons_append]
  gi_wp2_with (first
      | (gi_at_lookup; refine wpListIn_lookup_own_int _ rfl _ _ 71 rfl 3 3 .i64 (Maps.int_keyed Try.underlying3) Try.underlying71 Try.underlying3 (Try.zeroValue3 _) M vis.length _ rfl hown _ _ rfl hkey ?_; intro c hat hwc; obtain rfl := hvh.out c hat)
      | (gi_at_mapUpdate; refine wpListIn_mapUpdate_own _ rfl _ _ _ 71 rfl 3 3 (Maps.int_keyed Try.underlying3) Try.underlying71 _ M vis.length _ rfl hown hlenh _ _ _ rfl rfl hkey _ [] (plainElem_int Try.underlying3 (by decide)) ?_; intro w1 hown1 hgrow1
         obtain ⟨hj1, hk1, hm1, he1⟩ := marked hJ hM he hj hown hDh.out hown1 hgrow1
         have c1' := he1.c1)
      | (refine ⟨trivial, wdeep _, ?_⟩; refine (hget _ _ he1).mono ?_; rintro e w2 ⟨rfl, hB2⟩
         have hb2 : Below w1.heap.size w1 (w2.alloc (.cells #[.int .i64 0, .int .i64 0, .int .i64 0] 73)) := hB2.alloc hB2.size _
         have hk2 := Kept.of_below hb2 he1.hb0
         have he2 := he1.kept hk2.m
         have hj2 := hJ _ _ _ hj1 (Stepd.of_below hb2)
         have hm2 := hm1.kept (hk2.same M he1.sM).1
         obtain ⟨fn, tmps, assign, body, hy, hR⟩ := hY (m - 1) vis f _ hj2 hlen
         have c3 := he2.c3)
      | (refine ⟨wdeep _, ?_⟩; refine hR.mono ?_; clear hR hy; rintro e w3 (⟨rfl, hj3, hk3⟩ | ⟨rfl, hx3⟩)))
  all_goals try exact absurd ‹some undef = some (Value.bool _)› (by simp [undef])
  · refine ⟨fun _ h => (by cases h), ?_⟩
    gi_wp2
    all_goals try exact absurd ‹some undef = some (Value.bool _)› (by simp [undef])
    all_goals try (refine ⟨fun _ h => (by cases h), ?_⟩; gi_wp2)
    exact hyes w3 hj3 ((hk1.trans hk2.m).trans hk3.m) (hm2.kept (hk3.same M he2.sM).1)
  · refine ⟨fun _ h => (by cases h), ?_⟩
    gi_wp2
    all_goals try exact absurd ‹some undef = some (Value.bool _)› (by simp [undef])
    exact hx3

theorem cell_new3 (W : World) (x y z : Value) (t : TypeId) (i : Nat) : (W.alloc (.cells #[x, y, z] t)).cell? ⟨W.heap.size, i, none⟩ = #[x, y, z][i]? := by
  have h := World.alloc_heap_new W (.cells #[x, y, z] t)
  simp only [World.cell?, h]
  simp
theorem safe_new {b0 : Nat} {W : World} (h : FtOk b0 W) (hb : b0 < W.heap.size) (O : Obj) : Safe b0 (W.alloc O) W.heap.size :=
  ⟨by simp, by omega, fun hf => by have := h _ ((Ft_of (Below.heap_alloc W O b0 hb) _).1 hf); omega⟩

set_option maxRecDepth 100000 in
set_option maxHeartbeats 4000000 in
theorem down_node {l : List Nd} {b b0 n1 M B1 B3 B4 B5 yl : Nat} {w0 W : World} {J Jx : List Int → World → Prop} (n m : Nat) (f v lo hi : Int) (vis : List Int) (hA : ArRd w0 b l) (hJ : Abide n1 b0 J) (hJf : ∀ pre W, J pre W → FtOk b0 W) (hM : n1 ≤ M) (hY : Yields yl b0 J Jx)
    (hv : f ∉ vis) (hf : 0 ≤ f ∧ f < l.length) (hn : getN l f = (⟨v, lo, hi⟩, true)) (hlen : vis.length < 100000) (he : DEnv b b0 M B1 B3 B4 B5 yl w0 W) (hm : MapAt W M vis) (hj : J vis W)
    (hlow : ∀ m W', DEnv b b0 M B1 B3 B4 B5 yl w0 W' → MapAt W' M (vis ++ [f]) → J (vis ++ [f]) W' → CallsIn Fence.wide m Try.prog 51 #[.int .i64 lo, .pointer (some ⟨B4, 0, none⟩), .pointer (some ⟨B1, 0, none⟩), .pointer (some ⟨B3, 0, none⟩), .pointer (some ⟨B5, 0, none⟩)] W' (DownEnd l n (vis ++ [f]) lo M b0 J Jx W'))
    (hhigh : ∀ m W', DEnv b b0 M B1 B3 B4 B5 yl w0 W' → MapAt W' M (dn l n (vis ++ [f]) lo) → J (dn l n (vis ++ [f]) lo) W' → CallsIn Fence.wide m Try.prog 51 #[.int .i64 hi, .pointer (some ⟨B4, 0, none⟩), .pointer (some ⟨B1, 0, none⟩), .pointer (some ⟨B3, 0, none⟩), .pointer (some ⟨B5, 0, none⟩)] W' (DownEnd l n (dn l n (vis ++ [f]) lo) hi M b0 J Jx W')) :
    CallsIn Fence.wide m Try.prog 51 #[.int .i64 f, .pointer (some ⟨B4, 0, none⟩), .pointer (some ⟨B1, 0, none⟩), .pointer (some ⟨B3, 0, none⟩), .pointer (some ⟨B5, 0, none⟩)] W (DownEnd l (n + 1) vis f M b0 J Jx W) := by
  have hd : dn l (n + 1) vis f = dn l n (dn l n (vis ++ [f]) lo) hi := by
    have : l[f.toNat]?.getD default = ⟨v, lo, hi⟩ := by
      unfold getN at hn; rw [if_pos hf] at hn; injection hn
    conv => lhs; unfold dn
    rw [if_neg hv, if_pos hf, this]
  have hyes : ∀ W', J (dn l n (dn l n (vis ++ [f]) lo) hi) W' → KeptM M b0 W W' → MapAt W' M (dn l n (dn l n (vis ++ [f]) lo) hi) → DownEnd l (n + 1) vis f M b0 J Jx W (.returned (.bool true)) W' := fun W' h1 h2 h3 => .inl ⟨rfl, by rw [hd]; exact h1, h2, by rw [hd]; exact h3⟩
  have hno : ∀ q W', q <+: dn l n (dn l n (vis ++ [f]) lo) hi → Jx q W' → DownEnd l (n + 1) vis f M b0 J Jx W (.returned (.bool false)) W' := fun q W' h1 h2 => .inr ⟨rfl, q, by rw [hd]; exact h1, h2⟩
  have hp1 : vis ++ [f] <+: dn l n (dn l n (vis ++ [f]) lo) hi := (dn_prefix l n _ _).trans (dn_prefix l n _ _)
  have hp2 : ∀ q, q <+: dn l n (vis ++ [f]) lo → q <+: dn l n (dn l n (vis ++ [f]) lo) hi := fun q hq => hq.trans (dn_prefix l n _ _)
  generalize hV3 : dn l n (dn l n (vis ++ [f]) lo) hi = V3 at hyes hno hp1 hp2
  have hno1 := Lib.hid fun W' => hno (vis ++ [f]) W' hp1
  have hno2 := Lib.hid fun q W' (hq : q <+: dn l n (vis ++ [f]) lo) => hno q W' (hp2 q hq)
  have hno3 := Lib.hid hno
  have hyesh := Lib.hid hyes
  clear hno hyes hp1 hp2 hd
  have hhigh' : ∀ m W', DEnv b b0 M B1 B3 B4 B5 yl w0 W' → MapAt W' M (dn l n (vis ++ [f]) lo) → J (dn l n (vis ++ [f]) lo) W' → CallsIn Fence.wide m Try.prog 51 #[.int .i64 hi, .pointer (some ⟨B4, 0, none⟩), .pointer (some ⟨B1, 0, none⟩), .pointer (some ⟨B3, 0, none⟩), .pointer (some ⟨B5, 0, none⟩)] W' fun e W'' => (e = .returned (.bool true) ∧ J V3 W'' ∧ KeptM M b0 W' W'' ∧ MapAt W'' M V3) ∨ (e = .returned (.bool false) ∧ ∃ q, q <+: V3 ∧ Jx q W'') := fun m W' h1 h2 h3 => by
    have := hhigh m W' h1 h2 h3
    unfold DownEnd at this
    rw [hV3] at this
    exact this
  have hlow' : ∀ m W', DEnv b b0 M B1 B3 B4 B5 yl w0 W' → MapAt W' M (vis ++ [f]) → J (vis ++ [f]) W' → CallsIn Fence.wide m Try.prog 51 #[.int .i64 lo, .pointer (some ⟨B4, 0, none⟩), .pointer (some ⟨B1, 0, none⟩), .pointer (some ⟨B3, 0, none⟩), .pointer (some ⟨B5, 0, none⟩)] W' fun e W'' => (e = .returned (.bool true) ∧ J (dn l n (vis ++ [f]) lo) W'' ∧ KeptM M b0 W' W'' ∧ MapAt W'' M (dn l n (vis ++ [f]) lo)) ∨ (e = .returned (.bool false) ∧ ∃ q, q <+: dn l n (vis ++ [f]) lo ∧ Jx q W'') := hlow
  clear hhigh hV3 hlow
  generalize dn l n (vis ++ [f]) lo = V2 at hhigh' hlow' hno2
  obtain ⟨D, hown, hD⟩ := hm
  have hkey := Maps.keyOf_int_mk Try.underlying3 (wf_i64 (x := f) (by omega) (by have := hA.len; omega))
  have hval : ∀ c, D.atKey (.int .i64 f) (.lit (.int .i64 0)) = .lit (.int .i64 c) → c = 0 := fun c hc => by rw [MapAt.hit hD hc, if_neg hv]
  have hvh := Lib.hid hval
  have hDh := Lib.hid hD
  have hlenh : vis.length < maxLen := by unfold maxLen; omega
  have c1 := he.c1
  have c4 := he.c4
  have hget : ∀ m w1, DEnv b b0 M B1 B3 B4 B5 yl w0 w1 → CallsIn Fence.wide m Try.prog 38 #[.pointer (some ⟨b, 0, none⟩), .int .i64 f] w1 (GetEnd w1 (⟨v, lo, hi⟩, true)) := fun m w1 h1 => callsIn_wide.2 (hn ▸ get_any b l f w1 (hA.below (Nat.le_refl _) h1.bel))
  clear hval hD hv hf hn
  refine callsIn_of_wp Try.func51 rfl trivial ?_ rfl
  simp only [Try.ntmps51, List.size_toArray, List.length_cons, List.length_nil, Nat.reduceAdd, Nat.reduceSub, Array.replicate_succ, Array.replicate_zero, List.push_toArray, List.append_toArray, List.nil_append, List.cons_append]
  gi_wp2_with (first
      | (gi_at_lookup; refine wpListIn_lookup_own_int _ rfl _ _ 71 rfl 3 3 .i64 (Maps.int_keyed Try.underlying3) Try.underlying71 Try.underlying3 (Try.zeroValue3 _) M vis.length _ rfl hown _ _ rfl hkey ?_; intro c hat hwc; obtain rfl := hvh.out c hat)
      | (gi_at_mapUpdate; refine wpListIn_mapUpdate_own _ rfl _ _ _ 71 rfl 3 3 (Maps.int_keyed Try.underlying3) Try.underlying71 _ M vis.length _ rfl hown hlenh _ _ _ rfl rfl hkey _ [] (plainElem_int Try.underlying3 (by decide)) ?_; intro w1 hown1 hgrow1
         obtain ⟨hj1, hk1, hm1, he1⟩ := marked hJ hM he hj hown hDh.out hown1 hgrow1
         have c1' := he1.c1)
      | (refine ⟨trivial, wdeep _, ?_⟩; refine (hget _ _ he1).mono ?_; clear hget; rintro e w2 ⟨rfl, hB2⟩
         have hb2 : Below w1.heap.size w1 (w2.alloc (.cells #[.int .i64 v, .int .i64 lo, .int .i64 hi] 73)) := hB2.alloc hB2.size _
         have hk2 := Kept.of_below hb2 he1.hb0
         have he2 := he1.kept hk2.m
         have hj2 := hJ _ _ _ hj1 (Stepd.of_below hb2)
         have hm2 := hm1.kept (hk2.same M he1.sM).1
         have hsn := safe_new (hJf _ _ (hJ _ _ _ hj1 (Stepd.of_below hB2))) (Nat.lt_of_lt_of_le he1.hb0 hB2.size) (.cells #[.int .i64 v, .int .i64 lo, .int .i64 hi] 73)
         have hnm : w2.heap.size ≠ M := by have := he1.sM.1; have := hB2.size; omega
         have hcell1 : (w2.alloc (.cells #[.int .i64 v, .int .i64 lo, .int .i64 hi] 73)).cell? ⟨w2.heap.size, 1, none⟩ = some (.int .i64 lo) := cell_new3 _ _ _ _ _ 1
         have hcell2 : (w2.alloc (.cells #[.int .i64 v, .int .i64 lo, .int .i64 hi] 73)).cell? ⟨w2.heap.size, 2, none⟩ = some (.int .i64 hi) := cell_new3 _ _ _ _ _ 2
         have hfacts : ∀ w3, Kept b0 (w2.alloc (.cells #[.int .i64 v, .int .i64 lo, .int .i64 hi] 73)) w3 → DEnv b b0 M B1 B3 B4 B5 yl w0 w3 ∧ MapAt w3 M (vis ++ [f]) ∧ w3.cell? ⟨w2.heap.size, 1, none⟩ = some (.int .i64 lo) ∧ w3.cell? ⟨B5, 0, none⟩ = some (.func (.func 51) #[] #[.pointer (some ⟨B4, 0, none⟩), .pointer (some ⟨B1, 0, none⟩), .pointer (some ⟨B3, 0, none⟩), .pointer (some ⟨B5, 0, none⟩)]) ∧ Safe b0 w3 w2.heap.size ∧ w3.cell? ⟨w2.heap.size, 2, none⟩ = some (.int .i64 hi) := fun w3 hk3 =>
           ⟨he2.kept hk3.m, hm2.kept (hk3.same M he2.sM).1, (World.cell?_of_block (a := ⟨w2.heap.size, 1, none⟩) (hk3.same _ hsn).1).trans hcell1, (he2.kept hk3.m).c5, (hk3.same _ hsn).2, (World.cell?_of_block (a := ⟨w2.heap.size, 2, none⟩) (hk3.same _ hsn).1).trans hcell2⟩
         have hKB := hk1.trans (hk2.m (M := M))
         obtain ⟨fn, tmps, assign, body, hy, hR⟩ := (hY (m - 1) (vis) f _ hj2 hlen).mono (R' := fun e w3 => (e = .returned (.bool true) ∧ J (vis ++ [f]) w3 ∧ KeptM M b0 W w3 ∧ DEnv b b0 M B1 B3 B4 B5 yl w0 w3 ∧ MapAt w3 M (vis ++ [f]) ∧ w3.cell? ⟨w2.heap.size, 1, none⟩ = some (.int .i64 lo) ∧ w3.cell? ⟨B5, 0, none⟩ = some (.func (.func 51) #[] #[.pointer (some ⟨B4, 0, none⟩), .pointer (some ⟨B1, 0, none⟩), .pointer (some ⟨B3, 0, none⟩), .pointer (some ⟨B5, 0, none⟩)]) ∧ Safe b0 w3 w2.heap.size ∧ w3.cell? ⟨w2.heap.size, 2, none⟩ = some (.int .i64 hi)) ∨ (e = .returned (.bool false) ∧ Jx (vis ++ [f]) w3))
           (fun e w3 h => h.elim (fun ⟨h1, h2, h3⟩ => .inl ⟨h1, h2, hKB.trans h3.m, hfacts w3 h3⟩) .inr)
         have c3 := he2.c3
         clear hfacts hcell1 hcell2 hm2 hj2 hsn hKB hk1 hk2)
      | (refine ⟨wdeep _, ?_⟩; refine hR.mono ?_; clear hR hy; rintro e w3 (⟨rfl, hj3, hk3, he3, hm3, hc3, c5, hsn3, hcell3⟩ | ⟨rfl, hx3⟩))
      | (refine ⟨trivial, wdeep _, ?_⟩
         have hL := (hlow' (m - 1) w3 he3 hm3 hj3).mono (R' := fun e w4 => (e = .returned (.bool true) ∧ J V2 w4 ∧ KeptM M b0 W w4 ∧ DEnv b b0 M B1 B3 B4 B5 yl w0 w4 ∧ MapAt w4 M V2 ∧ w4.cell? ⟨B5, 0, none⟩ = some (.func (.func 51) #[] #[.pointer (some ⟨B4, 0, none⟩), .pointer (some ⟨B1, 0, none⟩), .pointer (some ⟨B3, 0, none⟩), .pointer (some ⟨B5, 0, none⟩)]) ∧ w4.cell? ⟨w2.heap.size, 2, none⟩ = some (.int .i64 hi)) ∨ (e = .returned (.bool false) ∧ ∃ q, q <+: V2 ∧ Jx q w4))
           (fun e w4 h => h.elim (fun ⟨h1, h2, h3, h4⟩ => .inl ⟨h1, h2, hk3.trans h3, he3.kept h3, h4, (he3.kept h3).c5, (World.cell?_of_block (a := ⟨w2.heap.size, 2, none⟩) (h3.same _ hsn3 hnm)).trans hcell3⟩) .inr)
         refine hL.mono ?_; clear hL hlow' hm3 hj3 hk3; rintro e w4 (⟨rfl, hj4, hk4, he4, hm4, c5', hcell4⟩ | ⟨rfl, q, hq, hx4⟩))
      | (refine ⟨trivial, wdeep _, ?_⟩; refine (hhigh' (m - 1) w4 he4 hm4 hj4).mono ?_; clear hhigh' hm4 hj4; rintro e w5 (⟨rfl, hj5, hk5, hm5⟩ | ⟨rfl, q, hq, hx5⟩)))
  · go_ret
    exact hyesh.out w5 hj5 (hk4.trans hk5) hm5
  · go_ret
    exact hno3.out q w5 hq hx5
  all_goals try exact absurd ‹some undef = some (Value.bool _)› (by simp [undef])
  · refine ⟨fun _ h => (by cases h), ?_⟩
    gi_wp2
    all_goals try exact absurd ‹some undef = some (Value.bool _)› (by simp [undef])
    go_ret
    exact hno2.out q w4 hq hx4
  · refine ⟨fun _ h => (by cases h), ?_⟩
    gi_wp2
    all_goals try exact absurd ‹some undef = some (Value.bool _)› (by simp [undef])
    all_goals try (refine ⟨fun _ h => (by cases h), ?_⟩; gi_wp2)
    go_ret
    exact hno1.out w3 hx3

/-- **the inner function of each**: whatever lies below a ref and has not come, comes, in order -/
theorem down_in {l : List Nd} {b b0 n1 M B1 B3 B4 B5 yl : Nat} {w0 : World} {J Jx : List Int → World → Prop} (hA : ArRd w0 b l) (hW : WF l) (hJ : Abide n1 b0 J) (hJf : ∀ pre W, J pre W → FtOk b0 W) (hM : n1 ≤ M) (hY : Yields yl b0 J Jx) :
    ∀ (n m : Nat) (f : Int) (vis : List Int) (W : World), 12 - varOf l f < n → hasB l f = true → vis.length + 2 ^ n < 100000 → DEnv b b0 M B1 B3 B4 B5 yl w0 W → MapAt W M vis → J vis W →
    CallsIn Fence.wide m Try.prog 51 #[.int .i64 f, .pointer (some ⟨B4, 0, none⟩), .pointer (some ⟨B1, 0, none⟩), .pointer (some ⟨B3, 0, none⟩), .pointer (some ⟨B5, 0, none⟩)] W (DownEnd l n vis f M b0 J Jx W) := by
  intro n
  induction n with
  | zero =>
    intro m f vis W hn hh
    exfalso
    have : varOf l f ≤ 12 := by
      unfold varOf
      split
      · rename_i h
        have := (hW f.toNat (by omega)).2.1
        simp [show f.toNat < l.length by omega]
        omega
      · omega
    omega
  | succ n ih =>
    intro m f vis W hn hh hlen he hm hj
    have hp : 2 ^ n > 0 := Nat.pow_pos (by omega)
    by_cases hv : f ∈ vis
    · exact down_seen n m f vis hA.len hh hv he hm hj
    · by_cases hf : 0 ≤ f ∧ f < l.length
      · have hlt : f.toNat < l.length := by omega
        obtain ⟨h1, h2, h3, h4, h5, h6⟩ := hW f.toNat hlt
        have hg : getN l f = (⟨l[f.toNat].v, l[f.toNat].lo, l[f.toNat].hi⟩, true) := by
          unfold getN; rw [if_pos hf]; simp [hlt]
        have hvf : varOf l f = l[f.toNat].v := by unfold varOf; rw [if_pos hf]; simp [hlt]
        rw [hvf] at hn
        have hd := dn_len l n (vis ++ [f]) l[f.toNat].lo
        simp at hd
        refine down_node n m f l[f.toNat].v l[f.toNat].lo l[f.toNat].hi vis hA hJ hJf hM hY hv hf hg (by omega) he hm hj ?_ ?_
        · intro m W' e1 e2 e3
          exact ih m _ _ W' (by omega) h3 (by simp; omega) e1 e2 e3
        · intro m W' e1 e2 e3
          exact ih m _ _ W' (by omega) h4 (by omega) e1 e2 e3
      · exact down_term n m f vis hA hJ hM hY hh hv hf (by omega) he hm hj
end Go.Proofs.Yteifllgcpickhaa
