/- count: a loop over an iterator that keeps cells of its own: what is kept, and the law of such a loop -/
import Derived.Test.YteifllgcpickhaaA
import Derived.RangeFuncNested
import Derived.RangeFuncBound
import Derived.RangeFuncCalls
import Derived.RangeFuncLeaves
import Derived.Shelf.Abstract
import Derived.Shelf.RegionOpen
import Derived.OwnWalkIn
import Derived.TacticsInMore
import Derived.LoopNIn
import Derived.LoopIn
import Derived.Maps.OwnIn
import Derived.Maps.AppendAt
namespace Go.Proofs.Yteifllgcpickhaa
open Go.RowKit

/-- the consumer's box b0 holds a slice whose row is block k -/
def Ft (b0 : Nat) (W : World) (k : Nat) : Prop := ∃ o z len cap, W.cell? ⟨b0, 0, none⟩ = some (.slice (some ⟨k, o, z⟩) len cap)
/-- a block that the consumer does not write -/
def Safe (b0 : Nat) (W : World) (k : Nat) : Prop := k < W.heap.size ∧ k ≠ b0 ∧ ¬ Ft b0 W k
def FtOk (b0 : Nat) (W : World) : Prop := ∀ k, Ft b0 W k → k < W.heap.size

/-- what a round of the consumer keeps -/
structure Kept (b0 : Nat) (W W' : World) : Prop where
  os : W'.os = W.os
  tape : W'.tape = W.tape
  output : W'.output = W.output
  size : W.heap.size ≤ W'.heap.size
  same : ∀ k, Safe b0 W k → W'.heap[k]? = W.heap[k]? ∧ Safe b0 W' k

theorem Kept.refl (b0 : Nat) (W : World) : Kept b0 W W := ⟨rfl, rfl, rfl, Nat.le_refl _, fun _ h => ⟨rfl, h⟩⟩
theorem Kept.trans {b0 : Nat} {A B C : World} (h : Kept b0 A B) (k : Kept b0 B C) : Kept b0 A C :=
  ⟨k.os.trans h.os, k.tape.trans h.tape, k.output.trans h.output, Nat.le_trans h.size k.size, fun i hi => ⟨(k.same i (h.same i hi).2).1.trans (h.same i hi).1, (k.same i (h.same i hi).2).2⟩⟩
theorem Kept.cell {b0 : Nat} {W W' : World} (h : Kept b0 W W') {p : Addr} (hp : Safe b0 W p.block) : W'.cell? p = W.cell? p := World.cell?_of_block (h.same _ hp).1

/-- what a step of the iterator keeps -/
structure Stepd (n1 b0 : Nat) (W W' : World) : Prop where
  os : W'.os = W.os
  tape : W'.tape = W.tape
  output : W'.output = W.output
  size : W.heap.size ≤ W'.heap.size
  same : ∀ k, k < W.heap.size → (k < n1 ∨ Ft b0 W k) → W'.heap[k]? = W.heap[k]?

theorem Ft_of {b0 : Nat} {W W' : World} (h : W'.heap[b0]? = W.heap[b0]?) (k : Nat) : Ft b0 W' k ↔ Ft b0 W k := by
  unfold Ft; rw [World.cell?_of_block (a := ⟨b0, 0, none⟩) h]
theorem Stepd.ft {n1 b0 : Nat} {W W' : World} (h : Stepd n1 b0 W W') (h1 : b0 < n1) (h2 : b0 < W.heap.size) (k : Nat) : Ft b0 W' k ↔ Ft b0 W k := Ft_of (h.same b0 h2 (.inl h1)) k
theorem Stepd.refl (n1 b0 : Nat) (W : World) : Stepd n1 b0 W W := ⟨rfl, rfl, rfl, Nat.le_refl _, fun _ _ _ => rfl⟩
theorem Stepd.trans {n1 b0 : Nat} {A B C : World} (h : Stepd n1 b0 A B) (k : Stepd n1 b0 B C) (h1 : b0 < n1) (h2 : b0 < A.heap.size) : Stepd n1 b0 A C :=
  ⟨k.os.trans h.os, k.tape.trans h.tape, k.output.trans h.output, Nat.le_trans h.size k.size, fun i hi hf =>
    (k.same i (Nat.lt_of_lt_of_le hi h.size) (hf.imp id (h.ft h1 h2 i).2)).trans (h.same i hi hf)⟩
theorem Stepd.mono {n1 n2 b0 : Nat} {W W' : World} (h : Stepd n1 b0 W W') (hn : n2 ≤ n1) : Stepd n2 b0 W W' :=
  ⟨h.os, h.tape, h.output, h.size, fun k hk hf => h.same k hk (hf.imp (fun x => Nat.lt_of_lt_of_le x hn) id)⟩
theorem Stepd.safe {n1 b0 : Nat} {W W' : World} (h : Stepd n1 b0 W W') (h1 : b0 < n1) (h2 : b0 < W.heap.size) {k : Nat} (hs : Safe b0 W k) : Safe b0 W' k :=
  ⟨Nat.lt_of_lt_of_le hs.1 h.size, hs.2.1, fun hf => hs.2.2 ((h.ft h1 h2 k).1 hf)⟩
theorem Stepd.grown {n1 b0 : Nat} {W W' : World} {row : Option Nat} (hg : W.grownBy W' row) (hr : ∀ k, row = some k → n1 ≤ k ∧ ¬ Ft b0 W k) : Stepd n1 b0 W W' :=
  ⟨hg.os, hg.tape, hg.output, hg.size, fun k hk hf => hg.block k hk (fun e => by
    have := hr k e.symm
    rcases hf with hf | hf
    · omega
    · exact this.2 hf)⟩
theorem Stepd.alloc (n1 b0 : Nat) (W : World) (o : Obj) : Stepd n1 b0 W (W.alloc o) := Stepd.grown (World.grownBy_alloc W o none) (fun _ e => by cases e)
theorem Stepd.putObj {n1 b0 : Nat} (W : World) (l : Nat) (o : Obj) (h1 : n1 ≤ l) (h2 : ¬ Ft b0 W l) : Stepd n1 b0 W (W.putObj l o) := Stepd.grown (grownBy_putObj' W l o) (fun _ e => by cases e; exact ⟨h1, h2⟩)
theorem Stepd.below {n1 b0 : Nat} {W W' : World} (h : Stepd n1 b0 W W') {n0 : Nat} (hn : n0 ≤ n1) (hw : n0 ≤ W.heap.size) : Below n0 W W' :=
  ⟨h.os, h.tape, h.output, h.size, fun k hk => h.same k (by omega) (.inl (by omega))⟩
theorem Stepd.kept {n1 b0 : Nat} {W0 W W' : World} (hk : Kept b0 W0 W) (h : Stepd n1 b0 W W') (hn : W0.heap.size ≤ n1) (h1 : b0 < n1) (h2 : b0 < W.heap.size) : Kept b0 W0 W' :=
  ⟨h.os.trans hk.os, h.tape.trans hk.tape, h.output.trans hk.output, Nat.le_trans hk.size h.size, fun k hs =>
    ⟨(h.same k (Nat.lt_of_lt_of_le hs.1 hk.size) (.inl (Nat.lt_of_lt_of_le hs.1 hn))).trans (hk.same k hs).1, h.safe h1 h2 (hk.same k hs).2⟩⟩

theorem Kept.grown {b0 : Nat} {W W' : World} {row : Option Nat} (hg : W.grownBy W' row) (hr : ∀ k, row = some k → ¬ Safe b0 W k) (hb : b0 < W.heap.size) (hb0 : row ≠ some b0) : Kept b0 W W' :=
  ⟨hg.os, hg.tape, hg.output, hg.size, fun k hs => ⟨hg.block k hs.1 (fun e => hr k e.symm hs), Nat.lt_of_lt_of_le hs.1 hg.size, hs.2.1, fun hf => hs.2.2 ((Ft_of (hg.block b0 hb (fun e => hb0 e.symm)) k).1 hf)⟩⟩
theorem Kept.alloc {b0 : Nat} (W : World) (o : Obj) (hb : b0 < W.heap.size) : Kept b0 W (W.alloc o) := Kept.grown (World.grownBy_alloc W o none) (fun _ e => by cases e) hb (by simp)

/-- J speaks of nothing that an iterator's step may turn -/
def Abide {β : Type} (n1 b0 : Nat) (J : β → World → Prop) : Prop := ∀ s W W', J s W → Stepd n1 b0 W W' → J s W'

/-- **what an iterator does that keeps cells of its own**: xs come, in order; or a part, where a round says no -/
def SeqB {α : Type} (stops : Prop) (P : Program) (g : Nat) (lb : Array Value) (encs : α → Array Value) (xs : List α) (N b0 : Nat) (w : World) : Prop :=
  ∀ (l m : Nat) (J Jx : List α → World → Prop) (W : World), Below w.heap.size w W → Abide W.heap.size b0 J → (∀ pre W1, J pre W1 → FtOk b0 W1) → (∀ pre W1, Jx pre W1 → stops) →
    (∀ m pre x W1, J pre W1 → pre.length < N → YieldAt Fence.wide m P l (encs x) W1 fun e W' =>
      (e = .returned (.bool true) ∧ J (pre ++ [x]) W' ∧ Kept b0 W1 W') ∨ (e = .returned (.bool false) ∧ Jx (pre ++ [x]) W')) →
    J [] W →
    CallsIn Fence.wide m P g (#[.func (.yield l) #[] #[]] ++ lb) W fun e W' => (∃ v, e = .returned v) ∧ (J xs W' ∨ ∃ pre, pre <+: xs ∧ Jx pre W')

def postB {α : Type} (b0 : Nat) (I : List α → World → Prop) (Ix : Code → List α → World → Prop) (xs : List α) (W : World) : Exit → Act → World → Prop
  | .normal, _, W' => Kept b0 W W' ∧ I xs W'
  | .ret, _, W' => Kept b0 W W' ∧ Ix .ret xs W'
  | .exit id, _, W' => Kept b0 W W' ∧ Ix (.exit id) xs W'
  | .goto t, _, W' => Kept b0 W W' ∧ Ix (.goto t) xs W'
  | .panic _, _, _ => False
  | .outgrown, _, _ => False

/-- **the law of the loop** -/
theorem range_mine {α : Type} {P : Program} {n : Nat} {g : Operand} {ps : Array Tmp} {assign body : Code} {Q : Exit → Act → World → Prop} {a : Act} {w : World}
    {gf : Nat} {lb : Array Value} (hg : a.eval g = .func (.func gf) #[] lb) (eg : ∀ args w, (callFunc gf args).run P w = .ok (.enter gf args) w)
    {encs : α → Array Value} {xs : List α} {stops : Prop} {N b0 : Nat} (hseq : SeqB stops P gf lb encs xs N b0 w) (hps : ∀ x, (encs x).size = ps.size) (hb0 : b0 < w.heap.size)
    (I : List α → World → Prop) (Ix : Code → List α → World → Prop) (hI : Abide w.heap.size b0 I) (hIx : ∀ c, Abide w.heap.size b0 (Ix c)) (hst : ∀ c pre W, Ix c pre W → stops) (hFt : ∀ pre W, I pre W → FtOk b0 W) (h0 : I [] w)
    (Ax : α → Act → World → Prop) (hAx : ∀ x a' W l o o', Ax x a' W → W.heap[l]? = some o → o.isCells = false → Ax x a' (W.putObj l o'))
    (hassign : ∀ (l m : Nat) (pre : List α) (x : α) (W : World) (K : Act → World → Prop), I pre W → pre.length < N → (∀ a' W', Kept b0 W W' → I pre W' → Ax x a' W' → K a' W') →
      assign.wpIn (Fence.wide.inRound l) m P (Exit.then K (fun _ _ _ => False)) { tmps := (ps.zip (encs x)).foldl (fun t (p, v) => t.setIfInBounds p v) a.tmps, defers := [] } W)
    (hbody : ∀ (l m : Nat) (pre : List α) (x : α) (a' : Act) (W : World), I pre W → pre.length < N → Ax x a' W → body.wpIn (Fence.wide.inRound l) m P (postB b0 I Ix (pre ++ [x]) W) a' W)
    (hdone : ∀ (D : Nat) (W : World), w.heap.size ≤ D → I xs W → W.heap[D]? = some (.deferred (some [])) → ¬ Ft b0 W D → Q .normal { a with defers := { target := .collected D, args := #[] } :: a.defers } W)
    (hstop : ∀ (D : Nat) (c : Code) (pre : List α) (W : World), w.heap.size ≤ D → pre <+: xs → Ix c pre W → W.heap[D]? = some (.deferred (some [])) → c.wpIn Fence.wide n P Q { a with defers := { target := .collected D, args := #[] } :: a.defers } W) :
    (Code.rangeFunc g ps assign body).wpIn Fence.wide n P Q a w := by
  refine wpIn_rangeFunc ?_
  intro fn hfn
  rw [show Fence.wide.round = none from rfl]
  obtain ⟨rec, hrec⟩ : ∃ rec : LoopState → Option Code → Loop, rec = fun st pe => { state := st, pending := pe, fn, tmps := a.tmps, params := ps, assign, body, defers := w.heap.size } := ⟨_, rfl⟩
  obtain ⟨W1, hW1⟩ : ∃ W1, (w.alloc (.deferred (some []))).alloc (.loop (rec .ready none)) = W1 := ⟨_, rfl⟩
  have hL1 : W1.heap[w.heap.size + 1]? = some (.loop (rec .ready none)) := by
    rw [← hW1]; have := World.alloc_heap_new (w.alloc (.deferred (some []))) (.loop (rec .ready none)); rwa [World.size_alloc] at this
  have hK1 : W1.heap[w.heap.size]? = some (.deferred (some [])) := by
    rw [← hW1]; exact (Below.heap_alloc _ _ _ (by simp)).trans (World.alloc_heap_new w _)
  have hs1 : W1.heap.size = w.heap.size + 2 := by rw [← hW1]; simp
  have st1 : Stepd w.heap.size b0 w W1 := by rw [← hW1]; exact (Stepd.alloc _ _ _ _).trans (Stepd.alloc _ _ _ _) hb0 hb0
  have hI1 : I [] W1 := hI _ _ _ h0 st1
  have hft1 : ∀ k, Ft b0 W1 k → k < w.heap.size := fun k hk => hFt _ _ h0 k ((st1.ft hb0 hb0 k).1 hk)
  have hb1 : Below w.heap.size w W1 := by
    rw [← hW1]; exact (((Below.refl _ w).alloc (Nat.le_refl _) _).alloc (by simp) _)
  refine ⟨w.heap.size + 1, [{ target := .collected w.heap.size, args := #[] }], W1, { target := .fn (.func gf) lb, args := #[.func (.yield (w.heap.size + 1)) #[] #[]] }, W1, gf,
    #[.func (.yield (w.heap.size + 1)) #[] #[]] ++ lb, W1, ?_, ?_, ?_, ?_, (fun h => by simp [Fence.wide] at h), ?_⟩
  · rw [← hW1, hrec]; exact run_enterLoop_outer _ _ _ _ _
  · simp only [resolve, hg]
    simp [go_sem]
  · intro f' hf'; trivial
  · simp [invoke, go_sem, eg]
  · refine (hseq (w.heap.size + 1) (n - 1)
      (fun pre W => I pre W ∧ W.heap[w.heap.size + 1]? = some (.loop (rec .ready none)) ∧ W.heap[w.heap.size]? = some (.deferred (some [])) ∧ ¬ Ft b0 W (w.heap.size + 1) ∧ ¬ Ft b0 W w.heap.size)
      (fun pre W => ∃ c, Ix c pre W ∧ W.heap[w.heap.size + 1]? = some (.loop (rec .done (some c))) ∧ W.heap[w.heap.size]? = some (.deferred (some [])) ∧ ¬ Ft b0 W (w.heap.size + 1))
      W1 hb1 ?_ (fun pre W h => hFt _ _ h.1) (fun pre W h => hst _ _ _ h.choose_spec.1) ?_ ⟨hI1, hL1, hK1, fun h => by have := hft1 _ h; omega, fun h => by have := hft1 _ h; omega⟩).mono ?_
    · rintro s W W' ⟨hi, hl, hk, f1, f2⟩ hstep
      have hlt : w.heap.size + 1 < W.heap.size := (Array.getElem?_eq_some_iff.1 hl).1
      exact ⟨hI _ _ _ hi (hstep.mono (by omega)), (hstep.same _ hlt (.inl (by omega))).trans hl, (hstep.same _ (by omega) (.inl (by omega))).trans hk, fun h => f1 ((hstep.ft (by omega) (by omega) _).1 h), fun h => f2 ((hstep.ft (by omega) (by omega) _).1 h)⟩
    · -- one round
      rintro m pre x W ⟨hi, hl, hk, f1, f2⟩ hlen
      have hlt : w.heap.size + 1 < W.heap.size := (Array.getElem?_eq_some_iff.1 hl).1
      have hy := run_yield (P := P) (args := encs x) hl (by rw [hrec]; exact hps x)
      rw [hrec] at hy
      refine ⟨fn, _, assign, body, hy, roundIn_of_wpIn hfn (hassign _ m pre x W _ hi hlen ?_)⟩
      clear hy
      intro a' Wa hka hia hax
      have sL : Safe b0 W (w.heap.size + 1) := ⟨hlt, by omega, f1⟩
      have sD : Safe b0 W w.heap.size := ⟨by omega, by omega, f2⟩
      have hla := (hka.same _ sL).1.trans hl
      have sLa := (hka.same _ sL).2
      have hda := (hka.same _ sD).1.trans hk
      have sDa := (hka.same _ sD).2
      refine ⟨_, run_beginRound hla (by rw [hrec]), ?_⟩
      obtain ⟨Wb, hWb⟩ : ∃ Wb, Wa.putObj (w.heap.size + 1) (.loop { rec .ready none with state := .busy }) = Wb := ⟨_, rfl⟩
      have stb : Stepd w.heap.size b0 Wa Wb := by rw [← hWb]; exact Stepd.putObj _ _ _ (by omega) sLa.2.2
      have hlb : Wb.heap[w.heap.size + 1]? = some (.loop { rec .ready none with state := .busy }) := by rw [← hWb]; exact World.putObj_heap_same sLa.1
      have hob : ∀ k, k ≠ w.heap.size + 1 → Wb.heap[k]? = Wa.heap[k]? := fun k hne => by rw [← hWb]; exact World.putObj_heap_other (by omega)
      have hab0 : b0 < Wa.heap.size := by have := sLa.1; omega
      have haxb : Ax x a' Wb := by rw [← hWb]; exact hAx _ _ _ _ _ _ hax hla rfl
      rw [hWb]
      refine wpIn_mono (hbody _ m pre x a' Wb (hI _ _ _ hia stb) hlen haxb) ?_
      have sLb : Safe b0 Wb (w.heap.size + 1) := stb.safe hb0 hab0 sLa
      have sDb : Safe b0 Wb w.heap.size := stb.safe hb0 hab0 sDa
      have fin : ∀ (jump : Option Code) (W3 : World), Kept b0 Wb W3 → ∃ W4, (Instr.endRound (w.heap.size + 1) jump).run P W3 = .ok (.bool jump.isNone) W4 ∧ Stepd w.heap.size b0 W3 W4 ∧
          W4.heap[w.heap.size + 1]? = some (.loop (rec (if jump.isNone then .ready else .done) jump)) ∧ W4.heap[w.heap.size]? = some (.deferred (some [])) ∧ ¬ Ft b0 W4 (w.heap.size + 1) ∧ ¬ Ft b0 W4 w.heap.size ∧
          (jump = none → Kept b0 W W4) := fun jump W3 hk3 => by
        have hl3 := (hk3.same _ sLb).1.trans hlb
        have sL3 := (hk3.same _ sLb).2
        have sD3 := (hk3.same _ sDb).2
        have hrun := run_endRound (P := P) jump hl3
        have st3 : Stepd w.heap.size b0 W3 (W3.putObj (w.heap.size + 1) (.loop (rec (if jump.isNone then .ready else .done) jump))) := Stepd.putObj _ _ _ (by omega) sL3.2.2
        have hb3 : b0 < W3.heap.size := by have := sL3.1; omega
        have s4 : W3.heap.size ≤ (W3.putObj (w.heap.size + 1) (.loop (rec (if jump.isNone then .ready else .done) jump))).heap.size := st3.size
        refine ⟨W3.putObj (w.heap.size + 1) (.loop (rec (if jump.isNone then .ready else .done) jump)), by rw [hrec] at hrun ⊢; exact hrun, st3, World.putObj_heap_same sL3.1, (World.putObj_heap_other (by omega)).trans (((hk3.same _ sDb).1.trans (hob _ (by omega))).trans hda),
          (st3.safe hb0 hb3 sL3).2.2, (st3.safe hb0 hb3 sD3).2.2, fun hj => ?_⟩
        subst hj
        refine ⟨st3.os.trans (hk3.os.trans (stb.os.trans hka.os)), st3.tape.trans (hk3.tape.trans (stb.tape.trans hka.tape)), st3.output.trans (hk3.output.trans (stb.output.trans hka.output)), Nat.le_trans hka.size (Nat.le_trans stb.size (Nat.le_trans hk3.size s4)), fun k hs => ?_⟩
        have sk := hka.same k hs
        have skb := stb.safe hb0 hab0 sk.2
        have sk3 := hk3.same k skb
        refine ⟨?_, st3.safe hb0 hb3 sk3.2⟩
        by_cases hkl : k = w.heap.size + 1
        · subst hkl
          rw [World.putObj_heap_same sL3.1, hl]
          rfl
        · rw [World.putObj_heap_other (by omega), sk3.1, hob k hkl, sk.1]
      rintro e a3 W3 hp
      cases e with
      | normal =>
        obtain ⟨hk3, hi3⟩ := hp
        obtain ⟨W4, hr, st4, hl4, hk4, f3, f4, hkk⟩ := fin none W3 hk3
        exact ⟨_, _, hr, .inl ⟨rfl, ⟨hI _ _ _ hi3 st4, hl4, hk4, f3, f4⟩, hkk rfl⟩⟩
      | ret =>
        obtain ⟨hk3, hi3⟩ := hp
        obtain ⟨W4, hr, st4, hl4, hk4, f3, f4, _⟩ := fin (some .ret) W3 hk3
        exact ⟨_, _, hr, .inr ⟨rfl, .ret, hIx _ _ _ _ hi3 st4, hl4, hk4, f3⟩⟩
      | exit id =>
        obtain ⟨hk3, hi3⟩ := hp
        obtain ⟨W4, hr, st4, hl4, hk4, f3, f4, _⟩ := fin (some (.exit id)) W3 hk3
        exact ⟨_, _, hr, .inr ⟨rfl, .exit id, hIx _ _ _ _ hi3 st4, hl4, hk4, f3⟩⟩
      | goto t =>
        obtain ⟨hk3, hi3⟩ := hp
        obtain ⟨W4, hr, st4, hl4, hk4, f3, f4, _⟩ := fin (some (.goto t)) W3 hk3
        exact ⟨_, _, hr, .inr ⟨rfl, .goto t, hIx _ _ _ _ hi3 st4, hl4, hk4, f3⟩⟩
      | panic ch => exact hp.elim
      | outgrown => exact hp.elim
    · -- behind the iterator
      rintro e W2 ⟨⟨v, rfl⟩, (⟨hi, hl, hk, f1, f2⟩ | ⟨pre, hpre, c, hi, hl, hk, f1⟩)⟩
      · exact ⟨none, _, by have := run_endLoop (P := P) hl (by rw [hrec]; simp); rw [hrec] at this; exact this, hdone _ _ (Nat.le_refl _) (hI _ _ _ hi (Stepd.putObj _ _ _ (by omega) f1)) ((World.putObj_heap_other (by omega)).trans hk) (fun h => f2 ((Ft_of (World.putObj_heap_other (by omega)) _).1 h))⟩
      · exact ⟨some c, _, by have := run_endLoop (P := P) hl (by rw [hrec]; simp); rw [hrec] at this; exact this, hstop _ c pre _ (Nat.le_refl _) hpre (hIx c _ _ _ hi (Stepd.putObj _ _ _ (by omega) f1)) ((World.putObj_heap_other (by omega)).trans hk)⟩
end Go.Proofs.Yteifllgcpickhaa
