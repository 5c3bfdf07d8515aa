/- count: Mk of the program's arena -/
import Derived.Test.YteifllgcpickhaaY
import Derived.Deep.AppendLies
import Derived.Deep.RegionLaw
namespace Go.Proofs.Yteifllgcpickhaa
open Go.RowKit

instance (l : List Nd) (v lo hi : Int) : Decidable (okMk l v lo hi) := by unfold okMk; infer_instance
/-- a node is had: the nodes, and its ref -/
def mkL (lim : Int) (l : List Nd) (v lo hi : Int) : List Nd × Int :=
  if ¬ okMk l v lo hi then (l, 0)
  else if lo = hi then (l, lo)
  else if (⟨v, lo, hi⟩ : Nd) ∈ l then (l, (l.findIdx (fun x => decide (x = ⟨v, lo, hi⟩)) : Nat))
  else if lim ≤ l.length then (l, 0)
  else (l ++ [⟨v, lo, hi⟩], l.length)

/-- the blocks that are the arena's own -/
def Mine (b pb : Nat) (vA : Value) (k : Nat) : Prop := k = b ∨ k = pb ∨ vA.ownBlock = some k
/-- only blocks of S have been written; S has become S' -/
structure Turned (S S' : Nat → Prop) (w w' : World) : Prop where
  os : w'.os = w.os
  tape : w'.tape = w.tape
  output : w'.output = w.output
  size : w.heap.size ≤ w'.heap.size
  same : ∀ k, k < w.heap.size → ¬ S k → w'.heap[k]? = w.heap[k]? ∧ ¬ S' k
theorem Turned.trans {S S' S'' : Nat → Prop} {a b c : World} (h : Turned S S' a b) (k : Turned S' S'' b c) : Turned S S'' a c :=
  ⟨k.os.trans h.os, k.tape.trans h.tape, k.output.trans h.output, Nat.le_trans h.size k.size, fun i hi hs =>
    have h1 := h.same i hi hs
    have h2 := k.same i (Nat.lt_of_lt_of_le hi h.size) h1.2
    ⟨h2.1.trans h1.1, h2.2⟩⟩
theorem Turned.of_below {S : Nat → Prop} {a b : World} (h : Below a.heap.size a b) : Turned S S a b := ⟨h.os, h.tape, h.output, h.size, fun k hk hs => ⟨h.block k hk, hs⟩⟩
theorem Turned.below {S S' : Nat → Prop} {a b : World} (h : Turned S S' a b) {B : Nat} (hB : B ≤ a.heap.size) (hS : ∀ k, S k → B ≤ k) : Below B a b :=
  ⟨h.os, h.tape, h.output, h.size, fun k hk => (h.same k (by omega) (fun hs => by have := hS k hs; omega)).1⟩
theorem ArW.mine {w : World} {n0 b pb : Nat} {lim : Int} {l : List Nd} {ps : List Int} {vA : Value} (h : ArW w n0 b pb lim l ps vA) (k : Nat) (hk : Mine b pb vA k) : n0 ≤ k ∧ k < w.heap.size := by
  rcases hk with rfl | rfl | e
  · exact ⟨h.nb, h.lb⟩
  · exact ⟨h.np, h.ints.1⟩
  · exact ⟨row_base h.row k e, row_lt h.row k e⟩

def MkEnd (w : World) (n0 b pb : Nat) (lim : Int) (vA : Value) (r : List Nd × Int) (e : Ending) (w' : World) : Prop :=
  ∃ x pb' ps' vA', e = .returned (.tuple #[.int .i64 r.2, x]) ∧ ArW w' n0 b pb' lim r.1 ps' vA' ∧ TabOk r.1 ps' ∧ Turned (Mine b pb vA) (Mine b pb' vA') w w'

set_option maxRecDepth 100000 in
set_option maxHeartbeats 1000000 in
theorem mk_wrong {w : World} {n0 b pb : Nat} {lim : Int} {l : List Nd} {ps : List Int} {vA : Value} (h : ArW w n0 b pb lim l ps vA) (hT : TabOk l ps) (hl : l.length ≤ 1000) (v lo hi : Int) (hk : ¬ okMk l v lo hi) :
    Calls Try.prog 30 #[.pointer (some ⟨b, 0, none⟩), .int .i64 v, .int .i64 lo, .int .i64 hi] w (MkEnd w n0 b pb lim vA (l, 0)) := by
  have hw := wrong_any b l v lo hi w (h.rd hl)
  have hw' : Calls Try.prog 45 #[.pointer (some ⟨b, 0, none⟩), .int .i64 v, .int .i64 lo, .int .i64 hi] w fun e w' => ∃ p, e = .returned (.iface 86 p) ∧ Below w.heap.size w w' := hw.mono (by
    rintro e w' ⟨⟨x, he, ⟨h1, _⟩ | ⟨_, p, hx⟩⟩, hb⟩
    · exact absurd h1 hk
    · exact ⟨p, by rw [he, hx], hb⟩)
  have hfin : ∀ x w', Below w.heap.size w w' → MkEnd w n0 b pb lim vA (l, 0) (.returned (.tuple #[.int .i64 0, x])) w' := fun x w' hb => ⟨x, pb, ps, vA, rfl, h.below hb, hT, .of_below hb⟩
  generalize MkEnd w n0 b pb lim vA (l, 0) = R at *
  clear hw hT h
  go_enter Try.func30, Try.ntmps30
  go_wp2_with (refine hw'.mono ?_; clear hw'; rintro e w1 ⟨p, rfl, hb⟩)
  exact hb

set_option maxRecDepth 100000 in
set_option maxHeartbeats 1000000 in
theorem mk_same {w : World} {n0 b pb : Nat} {lim : Int} {l : List Nd} {ps : List Int} {vA : Value} (h : ArW w n0 b pb lim l ps vA) (hT : TabOk l ps) (hl : l.length ≤ 1000) (v lo : Int) (hk : okMk l v lo lo) :
    Calls Try.prog 30 #[.pointer (some ⟨b, 0, none⟩), .int .i64 v, .int .i64 lo, .int .i64 lo] w (MkEnd w n0 b pb lim vA (l, lo)) := by
  have hw := wrong_any b l v lo lo w (h.rd hl)
  have hw' : Calls Try.prog 45 #[.pointer (some ⟨b, 0, none⟩), .int .i64 v, .int .i64 lo, .int .i64 lo] w fun e w' => e = .returned .nilIface ∧ Below w.heap.size w w' := hw.mono (by
    rintro e w' ⟨⟨x, he, ⟨_, hx⟩ | ⟨h1, _⟩⟩, hb⟩
    · exact ⟨by rw [he, hx], hb⟩
    · exact absurd hk h1)
  have hfin : ∀ x w', Below w.heap.size w w' → MkEnd w n0 b pb lim vA (l, lo) (.returned (.tuple #[.int .i64 lo, x])) w' := fun x w' hb => ⟨x, pb, ps, vA, rfl, h.below hb, hT, .of_below hb⟩
  generalize MkEnd w n0 b pb lim vA (l, lo) = R at *
  clear hw hT h
  go_enter Try.func30, Try.ntmps30
  go_wp2_with (refine hw'.mono ?_; clear hw'; rintro e w1 ⟨rfl, hb⟩)
  exact hb

/-- Mk as far as the search: what stands at the place that is found -/
theorem mk_wrong_ok {w : World} {b : Nat} {l : List Nd} (h : ArRd w b l) {v lo hi : Int} (hk : okMk l v lo hi) :
    Calls Try.prog 45 #[.pointer (some ⟨b, 0, none⟩), .int .i64 v, .int .i64 lo, .int .i64 hi] w fun e w' => e = .returned .nilIface ∧ Below w.heap.size w w' := (wrong_any b l v lo hi w h).mono (by
    rintro e w' ⟨⟨x, he, ⟨_, hx⟩ | ⟨h1, _⟩⟩, hb⟩
    · exact ⟨by rw [he, hx], hb⟩
    · exact absurd hk h1)
theorem mk_place {w : World} {n0 b pb : Nat} {lim : Int} {l : List Nd} {ps : List Int} {vA : Value} (h : ArW w n0 b pb lim l ps vA) (hT : TabOk l ps) (hl : l.length ≤ 1000) (v lo hi : Int) (W : World) (hb : Below w.heap.size w W) :
    Calls Try.prog 46 #[.pointer (some ⟨b, 0, none⟩), .agg #[.int .i64 v, .int .i64 lo, .int .i64 hi]] W fun e w' => ∃ i : Nat, e = .returned (.int .i64 i) ∧ PlaceAt (stN ps.length ⟨v, lo, hi⟩) ps.length l ps ⟨v, lo, hi⟩ i ∧ Below w.heap.size w w' ∧ (0 : Int) ≤ (i : Int) ∧ (i : Int) < (ps.length : Int) ∧
      w'.cell? ⟨b, 2, none⟩ = some (.slice (some ⟨pb, 0, none⟩) ps.length ps.length) ∧ w'.cell? ⟨pb, i, none⟩ = some (.int .i64 (pg ps i)) ∧ W.heap.size ≤ w'.heap.size ∧ Below W.heap.size W w' := by
  have hW := h.below hb
  obtain ⟨A, cap, e, hn⟩ := nodes_read hW.row
  have h2 := hT.2
  refine (place_any b pb A cap l ps ⟨v, lo, hi⟩ W hl hW.lb (by rw [← e]; exact hW.c1) hW.c2 hn hW.ints (by omega) hT.1 (by omega)).mono ?_
  rintro e w' ⟨⟨i, he, hp⟩, hbb⟩
  have him : i < ps.length := by
    obtain ⟨d, rfl, _⟩ := hp
    exact Nat.mod_lt _ (by omega)
  have hw' := hW.below hbb
  exact ⟨i, he, hp, hb.trans (hbb.mono hb.size), by omega, by omega, hw'.c2, hw'.ints.2 i him, hbb.size, hbb⟩

set_option maxRecDepth 100000 in
set_option maxHeartbeats 1000000 in
theorem mk_found {w : World} {n0 b pb : Nat} {lim : Int} {l : List Nd} {ps : List Int} {vA : Value} (h : ArW w n0 b pb lim l ps vA) (hT : TabOk l ps) (hl : l.length ≤ 1000) (v lo hi : Int) (hk : okMk l v lo hi) (hne : lo ≠ hi) (k : Nat) (hkl : k < l.length) (hlk : l[k] = ⟨v, lo, hi⟩) :
    Calls Try.prog 30 #[.pointer (some ⟨b, 0, none⟩), .int .i64 v, .int .i64 lo, .int .i64 hi] w (MkEnd w n0 b pb lim vA (l, k)) := by
  have hw' := mk_wrong_ok (h.rd hl) hk
  have hP := mk_place h hT hl v lo hi
  have hP' : ∀ W, Below w.heap.size w W → Calls Try.prog 46 #[.pointer (some ⟨b, 0, none⟩), .agg #[.int .i64 v, .int .i64 lo, .int .i64 hi]] W fun e w' => ∃ i : Nat, e = .returned (.int .i64 i) ∧ Below w.heap.size w w' ∧ (0 : Int) ≤ (i : Int) ∧ (i : Int) < (ps.length : Int) ∧
      w'.cell? ⟨b, 2, none⟩ = some (.slice (some ⟨pb, 0, none⟩) ps.length ps.length) ∧ w'.cell? ⟨pb, i, none⟩ = some (.int .i64 ((k : Int) + 1)) := fun W hb => (hP W hb).mono (by
    rintro e w' ⟨i, he, hp, h1, h2, h3, h4, h5, _⟩
    rw [hT.1.hit hp k hkl hkl hlk] at h5
    exact ⟨i, he, h1, h2, h3, h4, h5⟩)
  have hfin : ∀ x w', Below w.heap.size w w' → MkEnd w n0 b pb lim vA (l, k) (.returned (.tuple #[.int .i64 k, x])) w' := fun x w' hb => ⟨x, pb, ps, vA, rfl, h.below hb, hT, .of_below hb⟩
  generalize MkEnd w n0 b pb lim vA (l, k) = R at *
  have hkw : IntKind.i64.wrap ((k : Int) + 1 - 1) = k := by rw [IntKind.wrap_i64]; omega
  have hkp : (k : Int) + 1 > 0 := by omega
  have hk9 : (k : Int) ≤ 1000 := by omega
  clear hP hT h hlk
  go_enter Try.func30, Try.ntmps30
  go_wp2_with (first
    | (go_at_call 45; refine hw'.mono ?_; clear hw'; rintro e w1 ⟨rfl, hb⟩; have hb2 := hb.alloc hb.size (.cells #[.int .i64 v, .int .i64 lo, .int .i64 hi] 73))
    | (go_at_call 46; refine (hP' _ hb2).mono ?_; clear hP'; rintro e w2 ⟨i, rfl, hb3, hi0, hi1, c2, c3⟩))
  exact hb3

set_option maxRecDepth 100000 in
set_option maxHeartbeats 1000000 in
theorem mk_full {w : World} {n0 b pb : Nat} {lim : Int} {l : List Nd} {ps : List Int} {vA : Value} (h : ArW w n0 b pb lim l ps vA) (hT : TabOk l ps) (hl : l.length ≤ 1000) (v lo hi : Int) (hk : okMk l v lo hi) (hne : lo ≠ hi) (hnot : (⟨v, lo, hi⟩ : Nd) ∉ l) (hlim : lim ≤ l.length) :
    Calls Try.prog 30 #[.pointer (some ⟨b, 0, none⟩), .int .i64 v, .int .i64 lo, .int .i64 hi] w (MkEnd w n0 b pb lim vA (l, 0)) := by
  have hw' := mk_wrong_ok (h.rd hl) hk
  have hP := mk_place h hT hl v lo hi
  obtain ⟨A, cap, rfl, hnodes⟩ := nodes_read h.row
  have hP' : ∀ W, Below w.heap.size w W → Calls Try.prog 46 #[.pointer (some ⟨b, 0, none⟩), .agg #[.int .i64 v, .int .i64 lo, .int .i64 hi]] W fun e w' => ∃ i : Nat, e = .returned (.int .i64 i) ∧ Below w.heap.size w w' ∧ (0 : Int) ≤ (i : Int) ∧ (i : Int) < (ps.length : Int) ∧
      w'.cell? ⟨b, 2, none⟩ = some (.slice (some ⟨pb, 0, none⟩) ps.length ps.length) ∧ w'.cell? ⟨pb, i, none⟩ = some (.int .i64 0) ∧ w'.cell? ⟨b, 1, none⟩ = some (.slice A l.length cap) ∧ w'.cell? ⟨b, 0, none⟩ = some (.int .i64 lim) := fun W hb => (hP W hb).mono (by
    rintro e w' ⟨i, he, hp, h1, h2, h3, h4, h5, _⟩
    rw [hT.1.miss hp (fun k hk _ e => hnot (by rw [← e]; exact List.getElem_mem hk))] at h5
    have := h.below h1
    exact ⟨i, he, h1, h2, h3, h4, h5, this.c1, this.c0⟩)
  have hfin : ∀ x w', Below w.heap.size w w' → MkEnd w n0 b pb lim (.slice A l.length cap) (l, 0) (.returned (.tuple #[.int .i64 0, x])) w' := fun x w' hb => ⟨x, pb, ps, _, rfl, h.below hb, hT, .of_below hb⟩
  generalize MkEnd w n0 b pb lim (.slice A l.length cap) (l, 0) = R at *
  have hlim' : (l.length : Int) ≥ lim := hlim
  clear hP hT h hnot hlim
  go_enter Try.func30, Try.ntmps30
  go_wp2_with (first
    | (go_at_call 45; refine hw'.mono ?_; clear hw'; rintro e w1 ⟨rfl, hb⟩; have hb2 := hb.alloc hb.size (.cells #[.int .i64 v, .int .i64 lo, .int .i64 hi] 73))
    | (go_at_call 46; refine (hP' _ hb2).mono ?_; clear hP'; rintro e w2 ⟨i, rfl, hb3, hi0, hi1, c2, c3, c1, c0⟩))
  go_quiet (fail)
  go_wp2_with fail
  have hz := hb3.size
  exact below_drewN (hb3.alloc hz _) nq

theorem step_append_run {P : Program} {ops : Array Oper} {o : Oper} {a : Act} {w w1 : World} {v' : Value} {K : Act → World → Prop} {Q : Exit → Act → World → Prop} {E : Prop}
    (hg : o.guard = none) (s x : Operand) (t : TypeId) (hop : o.op = Op.call { callee := Callee.builtin Builtin.append, args := #[s, x], argTypes := #[t, t] })
    (hrun : (Builtin.append_ #[t, t] o.type #[a.eval s, a.eval x]).run P w = .ok v' w1) (hK : K (a.put o.dst v') w1) :
    if Region.wanted o (yielded ops a.tmps) = true then Oper.wp P o a w K Q else E := by
  have hw : Region.wanted o (yielded ops a.tmps) = true := by simp [Region.wanted, hg]
  rw [if_pos hw]
  unfold Oper.wp
  simp [execOp, hop, resolve, invoke, builtin, hrun, Result.andThen]
  exact hK
theorem Try.info73 : (Try.prog.info? 73).map (fun i => (i.zero, i.size, i.bytes)) = some (some (.agg #[.int .i64 0, .int .i64 0, .int .i64 0]), 3, 24) := by kernel_rfl

/-- a node more in the arena -/
theorem ArW.append {w w5 : World} {n0 b pb g cap' : Nat} {lim : Int} {l : List Nd} {ps : List Int} {vA : Value} {n : Nd} {O : Obj} (h : ArW w n0 b pb lim l ps vA)
    (hown : w5.ownsRow n0 73 3 (.slice (some ⟨g, 0, none⟩) (l.length + 1) cap') (l.length + 1) (ncells l ++ n.cells)) (hgrow : (w.alloc O).grownBy w5 vA.ownBlock) (hat : vA.ownBlock = some g ∨ g = w.heap.size + 1) :
    ArW (w5.setCell ⟨b, 1, none⟩ (.slice (some ⟨g, 0, none⟩) (l.length + 1) cap')) n0 b pb lim (l ++ [n]) ps (.slice (some ⟨g, 0, none⟩) (l.length + 1) cap') ∧
    Turned (Mine b pb vA) (Mine b pb (.slice (some ⟨g, 0, none⟩) (l.length + 1) cap')) w (w5.setCell ⟨b, 1, none⟩ (.slice (some ⟨g, 0, none⟩) (l.length + 1) cap')) ∧ w5.cell? ⟨b, 1, none⟩ = some vA ∧ w5.frozen? ⟨b, 1, none⟩ = false := by
  have ha := h.below ((Below.refl w.heap.size w).alloc (Nat.le_refl _) O)
  have hsz : w.heap.size + 1 ≤ w5.heap.size := by have := hgrow.size; simpa using this
  have hk : ∀ k, k < w.heap.size → vA.ownBlock ≠ some k → w5.heap[k]? = w.heap[k]? := fun k hk hne => (hgrow.block k (by simp; omega) (fun e => hne e.symm)).trans (Below.heap_alloc _ _ _ hk)
  have kb := hk b h.lb h.bg
  have kp := hk pb h.ints.1 h.pg
  have hgb : g ≠ b := by
    rcases hat with e | e
    · exact fun q => h.bg (by rw [e, q])
    · have := h.lb; omega
  have hgp : g ≠ pb := by
    rcases hat with e | e
    · exact fun q => h.pg (by rw [e, q])
    · have := h.ints.1; omega
  have d0 := (World.cell?_of_block (a := ⟨b, 0, none⟩) kb).trans h.c0
  have d1 := (World.cell?_of_block (a := ⟨b, 1, none⟩) kb).trans h.c1
  have d2 := (World.cell?_of_block (a := ⟨b, 2, none⟩) kb).trans h.c2
  have f : ∀ i, w5.frozen? ⟨b, i, none⟩ = false := fun i => (World.frozen?_of_block (a := ⟨b, i, none⟩) kb).trans (h.fb i)
  have hne : ∀ j, j ≠ 1 → (⟨b, 1, none⟩ : Addr) ≠ ⟨b, j, none⟩ := fun j hj e => hj (by cases e; rfl)
  have hbp := h.bp
  refine ⟨⟨(set_far (hne 0 (by omega))).trans d0, set_near d1, (set_far (hne 2 (by omega))).trans d2, fun i => by rw [World.frozen?_setCell]; exact f i, by have := h.lb; simp; omega, h.nb, ⟨by have := h.ints.1; simp; omega, fun i hi => ?_⟩, fun i => ?_, h.np, ?_, h.bp, ?_, ?_⟩, ?_, d1, f 1⟩
  · exact (set_far (fun e => hbp (by cases e; rfl))).trans ((World.cell?_of_block (a := ⟨pb, i, none⟩) kp).trans (h.ints.2 i hi))
  · rw [World.frozen?_setCell]
    exact (World.frozen?_of_block (a := ⟨pb, i, none⟩) kp).trans (h.fp i)
  · have e : ncells (l ++ [n]) = ncells l ++ n.cells := by simp [ncells]
    rw [e, List.length_append]
    exact row_setCell hown b 1 _ (fun e => hgb (by simpa [Value.ownBlock] using e))
  · exact fun e => hgb (by simpa [Value.ownBlock] using e)
  · exact fun e => hgp (by simpa [Value.ownBlock] using e)
  · refine ⟨hgrow.os, hgrow.tape, hgrow.output, by simp; omega, fun k hkl hs => ⟨?_, ?_⟩⟩
    · rw [Below.heap_setCell _ _ _ _ (fun e => hs (.inl e))]
      exact hk k hkl (fun e => hs (.inr (.inr e)))
    · rintro (e | e | e)
      · exact hs (.inl e)
      · exact hs (.inr (.inl e))
      · simp [Value.ownBlock] at e
        subst e
        rcases hat with e | e
        · exact hs (.inr (.inr e))
        · omega

set_option maxRecDepth 100000 in
set_option maxHeartbeats 2000000 in
theorem mk_new {w : World} {n0 b pb : Nat} {lim : Int} {l : List Nd} {ps : List Int} {vA : Value} (h : ArW w n0 b pb lim l ps vA) (hn0 : n0 ≤ w.heap.size) (hT : TabOk l ps) (hl : l.length < 1000) (v lo hi : Int) (hk : okMk l v lo hi) (hne : lo ≠ hi) (hnot : (⟨v, lo, hi⟩ : Nd) ∉ l) (hlim : l.length < lim) :
    Calls Try.prog 30 #[.pointer (some ⟨b, 0, none⟩), .int .i64 v, .int .i64 lo, .int .i64 hi] w (MkEnd w n0 b pb lim vA (l ++ [⟨v, lo, hi⟩], l.length)) := by
  have hw' := mk_wrong_ok (h.rd (by omega)) hk
  have hP := mk_place h hT (by omega) v lo hi
  obtain ⟨A, cap, rfl, hnodes⟩ := nodes_read h.row
  have hP' : ∀ W, Below w.heap.size w W → Calls Try.prog 46 #[.pointer (some ⟨b, 0, none⟩), .agg #[.int .i64 v, .int .i64 lo, .int .i64 hi]] W fun e w' => ∃ i : Nat, e = .returned (.int .i64 i) ∧ PlaceAt (stN ps.length ⟨v, lo, hi⟩) ps.length l ps ⟨v, lo, hi⟩ i ∧ Below w.heap.size w w' ∧ (0 : Int) ≤ (i : Int) ∧ (i : Int) < (ps.length : Int) ∧
      w'.cell? ⟨b, 2, none⟩ = some (.slice (some ⟨pb, 0, none⟩) ps.length ps.length) ∧ w'.cell? ⟨pb, i, none⟩ = some (.int .i64 0) ∧ w'.cell? ⟨b, 1, none⟩ = some (.slice A l.length cap) ∧ w'.cell? ⟨b, 0, none⟩ = some (.int .i64 lim) ∧ Below W.heap.size W w' := fun W hb => (hP W hb).mono (by
    rintro e w' ⟨i, he, hp, h1, h2, h3, h4, h5, _, h7⟩
    rw [hT.1.miss hp (fun k hk _ e => hnot (by rw [← e]; exact List.getElem_mem hk))] at h5
    have := h.below h1
    exact ⟨i, he, hp, h1, h2, h3, h4, h5, this.c1, this.c0, h7⟩)
  have hlim' : ¬ (l.length : Int) ≥ lim := by omega
  have hlim'' : (l.length : Int) < lim := hlim
  obtain ⟨t0, hi0, hz0, hz1, hz2⟩ := info_parts Try.info73
  clear hP hlim hnodes
  go_enter Try.func30, Try.ntmps30
  go_wp2_with (first
    | (go_at_call 45; refine hw'.mono ?_; clear hw'; rintro e w1 ⟨rfl, hb⟩; have hb2 := hb.alloc hb.size (.cells #[.int .i64 v, .int .i64 lo, .int .i64 hi] 73)
       have k0 := cell_new3 w1 (.int .i64 v) (.int .i64 lo) (.int .i64 hi) 73 0
       have k1 := cell_new3 w1 (.int .i64 v) (.int .i64 lo) (.int .i64 hi) 73 1
       have k2 := cell_new3 w1 (.int .i64 v) (.int .i64 lo) (.int .i64 hi) 73 2
       simp only [List.getElem?_toArray, List.getElem?_cons_succ, List.getElem?_cons_zero] at k0 k1 k2
       have hnw : w1.heap.size < (w1.alloc (.cells #[.int .i64 v, .int .i64 lo, .int .i64 hi] 73)).heap.size := by simp
       have hw1 := hb.size)
    | (go_at_call 46; refine (hP' _ hb2).mono ?_; clear hP'; rintro e w2 ⟨i, rfl, hpl, hb3, hi0', hi1, c2, c3, c1, c0, hb4⟩))
  go_quiet (fail)
  clear c3 c2 c1 c0
  have q0 := (hb4.cell (p := ⟨w1.heap.size, 0, none⟩) hnw).trans k0
  have q1 := (hb4.cell (p := ⟨w1.heap.size, 1, none⟩) hnw).trans k1
  have q2 := (hb4.cell (p := ⟨w1.heap.size, 2, none⟩) hnw).trans k2
  have hA3 := h.below (below_drewN hb3 nq)
  have hb5 := below_drewN hb3 nq
  have hq3 : w1.heap.size < (w2.drewN nq).heap.size := Nat.lt_of_lt_of_le hnw hb4.size
  replace q0 : (w2.drewN nq).cell? ⟨w1.heap.size, 0, none⟩ = some (.int .i64 v) := q0
  replace q1 : (w2.drewN nq).cell? ⟨w1.heap.size, 1, none⟩ = some (.int .i64 lo) := q1
  replace q2 : (w2.drewN nq).cell? ⟨w1.heap.size, 2, none⟩ = some (.int .i64 hi) := q2
  have hws : w.heap.size ≤ (w2.drewN nq).heap.size := hb3.size
  clear k0 k1 k2 hb hb2 hb3 hb4 hnw
  generalize w2.drewN nq = w3 at *
  obtain ⟨g, cap', w5, hrun, hown', hgrow, hat, hg5⟩ := run_append_lies (P := Try.prog) (w3.alloc (.cells #[.int .i64 v, .int .i64 lo, .int .i64 hi] 73)).drew 81 81 n0 73 t0 _ 3 24 Try.underlying81 hi0 hz0 hz1 hz2 rfl (by decide) _ _ _ (show World.ownsRow (w3.alloc (.cells #[.int .i64 v, .int .i64 lo, .int .i64 hi] 73)) _ _ _ _ _ _ from hA3.row.alloc _) ⟨w3.heap.size, 0, none⟩ 1 1 [.int .i64 v, .int .i64 lo, .int .i64 hi] rfl (World.news_of_block (World.alloc_heap_new w3 _)) (by simp [Value.oneCell']) (by omega) (by unfold maxLen; omega) (by omega) (by show n0 ≤ (w3.alloc _).heap.size; simp; omega) (w3.heap.size + 1) (by show (w3.alloc _).heap.size = _; simp)
  obtain ⟨hA6, hT6, c51, f51⟩ := hA3.append (n := ⟨v, lo, hi⟩) (show World.ownsRow w5 _ _ _ _ _ _ from hown') (show (w3.alloc (.cells #[.int .i64 v, .int .i64 lo, .int .i64 hi] 73)).grownBy w5 _ from ⟨hgrow.os, hgrow.tape, hgrow.output, hgrow.size, hgrow.block⟩) hat
  have c1 := hA3.c1
  have c1a := (hA3.below ((Below.refl w3.heap.size w3).alloc (Nat.le_refl _) (.cells #[.int .i64 v, .int .i64 lo, .int .i64 hi] 73))).c1
  have hgrh := Lib.hid hgrow
  have hath := Lib.hid hat
  clear hgrow hat hown'
  go_wp2_with fail
  go_region_law (refine step_append_run rfl (.tmp 63) (.tmp 65) 81 rfl hrun ?_)
  all_goals
    clear hrun c51 f51 c1a c1 q0 q1 q2
    generalize w5.setCell ⟨b, 1, none⟩ (.slice (some ⟨g, 0, none⟩) (l.length + 1) cap') = w6 at *
    have d1 := hA6.c1
    have d2 := hA6.c2
    have e1 := hA6.ints.2 i (by omega)
    have e2 := hA6.fp i
    have e3 := hA6.bp
    go_wp2_with fail
    go_region
    have hnl : (l ++ [(⟨v, lo, hi⟩ : Nd)])[l.length]'(by simp) = ⟨v, lo, hi⟩ := by simp
    have hTn := Tab.insert (hT.1.snoc hnot) (by simp) (show 0 < ps.length by omega) (i := i) (by rw [hnl]; exact hpl.snoc (fun j => hT.1.rng j))
    have hA7 := hA6.put i (l.length + 1) (by omega)
    have hA8 := hA7.below (w' := (w6.setCell ⟨pb, i, none⟩ (.int .i64 ((l.length : Int) + 1))).drew) ((Below.refl _ _).drew)
    have hsz6 : n0 ≤ (w6.setCell ⟨pb, i, none⟩ (.int .i64 ((l.length : Int) + 1))).drew.heap.size := Nat.le_trans (by omega) (Nat.le_trans hT6.size (by show w6.heap.size ≤ (w6.setCell _ _).heap.size; simp))
    have hT2 := hT.2
    have hgw := grow_any hA8 hsz6 (by simp; omega) (by rw [List.length_set]; simpa using hTn) (by simp; omega) (by simp; omega) (by simp; omega)
    have hT7 : Turned (Mine b pb (.slice (some ⟨g, 0, none⟩) (l.length + 1) cap')) (Mine b pb (.slice (some ⟨g, 0, none⟩) (l.length + 1) cap')) w6 (w6.setCell ⟨pb, i, none⟩ (.int .i64 ((l.length : Int) + 1))).drew :=
      ⟨rfl, rfl, rfl, by show w6.heap.size ≤ (w6.setCell _ _).heap.size; simp, fun k hk hs => ⟨Below.heap_setCell _ _ _ _ (fun e => hs (.inr (.inl e))), hs⟩⟩
    have hfin : ∀ x w' pb2 ps2, ArW w' n0 b pb2 lim (l ++ [⟨v, lo, hi⟩]) ps2 (.slice (some ⟨g, 0, none⟩) (l.length + 1) cap') → TabOk (l ++ [⟨v, lo, hi⟩]) ps2 → (pb2 = pb ∨ (w6.setCell ⟨pb, i, none⟩ (.int .i64 ((l.length : Int) + 1))).drew.heap.size ≤ pb2) → (w6.setCell ⟨pb, i, none⟩ (.int .i64 ((l.length : Int) + 1))).drew.grownBy w' (some b) →
        MkEnd w n0 b pb lim (.slice A l.length cap) (l ++ [⟨v, lo, hi⟩], (l.length : Int)) (.returned (.tuple #[.int .i64 l.length, x])) w' := fun x w' pb2 ps2 g1 g2 g3 g4 =>
      ⟨x, pb2, ps2, _, rfl, g1, g2, ((Turned.of_below hb5).trans (hT6.trans hT7)).trans ⟨g4.os, g4.tape, g4.output, g4.size, fun k hk hs => ⟨g4.block k hk (fun e => hs (.inl (by cases e; rfl))), fun e => by
        rcases e with e | e | e
        · exact hs (.inl e)
        · rcases g3 with g3 | g3
          · exact hs (.inr (.inl (e.trans g3)))
          · omega
        · exact hs (.inr (.inr e))⟩⟩⟩
    generalize MkEnd w n0 b pb lim (.slice A l.length cap) (l ++ [⟨v, lo, hi⟩], (l.length : Int)) = R at *
    have hfinh := Lib.hid hfin
    clear hfin hTn hnl hT2 hA7 hA8 hA6 hT6 hT7 d1 d2 e1 e2 e3 hA3 h
    generalize (w6.setCell ⟨pb, i, none⟩ (.int .i64 ((l.length : Int) + 1))).drew = w7 at *
    go_wp2_with (refine hgw.mono ?_; clear hgw; rintro e w8 ⟨rfl, ⟨pb2, ps2, g1, g2, g3⟩, g4⟩; have d1 := g1.c1)
    have q := hfinh.out .nilIface _ _ _ g1 g2 g3 g4
    exact q

theorem mk_any {w : World} {n0 b pb : Nat} {lim : Int} {l : List Nd} {ps : List Int} {vA : Value} (h : ArW w n0 b pb lim l ps vA) (hn0 : n0 ≤ w.heap.size) (hT : TabOk l ps) (hl : l.length ≤ lim) (hlim : lim ≤ 1000) (v lo hi : Int) :
    Calls Try.prog 30 #[.pointer (some ⟨b, 0, none⟩), .int .i64 v, .int .i64 lo, .int .i64 hi] w (MkEnd w n0 b pb lim vA (mkL lim l v lo hi)) := by
  unfold mkL
  by_cases hk : okMk l v lo hi
  · rw [if_neg (by simpa using hk)]
    by_cases e : lo = hi
    · subst e
      rw [if_pos rfl]
      exact mk_same h hT (by omega) v lo hk
    · rw [if_neg e]
      by_cases hm : (⟨v, lo, hi⟩ : Nd) ∈ l
      · rw [if_pos hm]
        have hex : ∃ x ∈ l, decide (x = (⟨v, lo, hi⟩ : Nd)) = true := ⟨_, hm, by simp⟩
        have hlt := List.findIdx_lt_length_of_exists hex
        have hg := List.findIdx_getElem (w := hlt)
        exact mk_found h hT (by omega) v lo hi hk e _ hlt (by simpa using hg)
      · rw [if_neg hm]
        by_cases hf : lim ≤ l.length
        · rw [if_pos hf]
          exact mk_full h hT (by omega) v lo hi hk e hm hf
        · rw [if_neg hf]
          exact mk_new h hn0 hT (by omega) v lo hi hk e hm (by omega)
  · rw [if_pos hk]
    exact mk_wrong h hT (by omega) v lo hi hk
end Go.Proofs.Yteifllgcpickhaa
