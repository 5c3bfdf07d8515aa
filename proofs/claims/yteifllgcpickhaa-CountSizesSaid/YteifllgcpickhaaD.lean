/- count: the iterator each, as a loop finds it -/
import Derived.Test.YteifllgcpickhaaC
namespace Go.Proofs.Yteifllgcpickhaa
open Go.RowKit
attribute [local go_sem] Oper.semAt_some

theorem run_store_func {P : Program} (w : World) (a : Addr) (m : Mode) (f : Fn) (x y : Array Value) : (store a (.func f x y) m).run P w = stored P w a (.func f x y) m := run_store P w a _ m rfl
attribute [local go_sem] run_store_func

theorem each_any (p : Option Addr) (f : Int) (w : World) : Calls Try.prog 33 #[.pointer p, .int .i64 f] w fun e w' => e = .returned (.func (.func 50) #[] #[.pointer (some ⟨w.heap.size, 0, none⟩), .pointer (some ⟨w.heap.size + 1, 0, none⟩)]) ∧ w' = (w.alloc (.cells #[.pointer p] 24)).alloc (.cells #[.int .i64 f] 3) := by
  go_enter Try.func33, Try.ntmps33
  go_wp2_with fail
  go_ret
  exact ⟨rfl, rfl⟩

def reach (l : List Nd) (f : Int) : List Int := if hasB l f = true then dn l 13 [] f else []

theorem varOf_nonneg {l : List Nd} (hW : WF l) (f : Int) : 0 ≤ varOf l f := by
  unfold varOf
  split
  · rename_i h
    have := (hW f.toNat (by omega)).1
    simp [show f.toNat < l.length by omega]
    omega
  · omega

/-- the world in which each's inner function is called first -/
def eachWorld (W : World) (yl Ba : Nat) : World :=
  (((((W.alloc (.cells #[.func (.yield yl) #[] #[]] 53)).alloc (.map #[] 0)).alloc (.cells #[.map (some (W.heap.size + 1))] 71)).alloc (.cells #[.nilFunc] 53)).setCell ⟨W.heap.size + 1 + 1 + 1, 0, none⟩ (.func (.func 51) #[] #[.pointer (some ⟨W.heap.size + 1 + 1, 0, none⟩), .pointer (some ⟨Ba, 0, none⟩), .pointer (some ⟨W.heap.size, 0, none⟩), .pointer (some ⟨W.heap.size + 1 + 1 + 1, 0, none⟩)]))

theorem eachWorld_facts (W : World) (yl Ba : Nat) :
    W.grownBy (eachWorld W yl Ba) none ∧ (eachWorld W yl Ba).heap.size = W.heap.size + 4 ∧ Boxed (eachWorld W yl Ba) W.heap.size 53 (.func (.yield yl) #[] #[]) ∧ (eachWorld W yl Ba).heap[W.heap.size + 1]? = some (.map #[] 0) ∧
    Boxed (eachWorld W yl Ba) (W.heap.size + 1 + 1) 71 (.map (some (W.heap.size + 1))) ∧ Boxed (eachWorld W yl Ba) (W.heap.size + 1 + 1 + 1) 53 (.func (.func 51) #[] #[.pointer (some ⟨W.heap.size + 1 + 1, 0, none⟩), .pointer (some ⟨Ba, 0, none⟩), .pointer (some ⟨W.heap.size, 0, none⟩), .pointer (some ⟨W.heap.size + 1 + 1 + 1, 0, none⟩)]) := by
  have b3 := Boxed.new W 53 (.func (.yield yl) #[] #[])
  have bm := World.alloc_heap_new (W.alloc (.cells #[.func (.yield yl) #[] #[]] 53)) (.map #[] 0)
  have b4 := Boxed.new ((W.alloc (.cells #[.func (.yield yl) #[] #[]] 53)).alloc (.map #[] 0)) 71 (.map (some (W.heap.size + 1)))
  have b5 := Boxed.new (((W.alloc (.cells #[.func (.yield yl) #[] #[]] 53)).alloc (.map #[] 0)).alloc (.cells #[.map (some (W.heap.size + 1))] 71)) 53 .nilFunc
  simp only [World.size_alloc] at b4 b5 bm
  have hne : ∀ k, k < W.heap.size + 3 → k ≠ W.heap.size + 1 + 1 + 1 := fun k hk => by omega
  refine ⟨⟨rfl, rfl, rfl, by simp [eachWorld, World.setCell]; omega, fun k hk _ => ?_⟩, by simp [eachWorld, World.setCell], ?_, ?_, ?_, ?_⟩
  · unfold eachWorld
    rw [Below.heap_setCell _ _ _ _ (by simp; omega), Below.heap_alloc _ _ _ (by simp; omega), Below.heap_alloc _ _ _ (by simp; omega), Below.heap_alloc _ _ _ (by simp; omega), Below.heap_alloc _ _ _ hk]
  · exact (((b3.alloc _).alloc _).alloc _).kept (grownBy_setCell' _ _ _) (by simp; omega)
  · unfold eachWorld
    rw [Below.heap_setCell _ _ _ _ (by simp), Below.heap_alloc _ _ _ (by simp), Below.heap_alloc _ _ _ (by simp)]
    exact bm
  · exact (b4.alloc _).kept (grownBy_setCell' _ _ _) (by simp)
  · exact b5.set _

def EachEnd (l : List Nd) (f : Int) (J Jx : List Int → World → Prop) (W' : World) : Prop := J (reach l f) W' ∨ ∃ pre, pre <+: reach l f ∧ Jx pre W'

set_option maxRecDepth 100000 in
set_option maxHeartbeats 4000000 in
theorem each_seq {l : List Nd} {b b0 Ba Bf : Nat} {f : Int} {w0 w : World} (hA : ArRd w0 b l) (hW : WF l) (hlo : ∀ k, k < w0.heap.size → Safe b0 w k) (hbel : Below w0.heap.size w0 w) (hb0 : b0 < w.heap.size)
    (sa : Safe b0 w Ba) (ca : w.cell? ⟨Ba, 0, none⟩ = some (.pointer (some ⟨b, 0, none⟩))) (hBf : Bf < w.heap.size) (cf : w.cell? ⟨Bf, 0, none⟩ = some (.int .i64 f)) :
    SeqB True Try.prog 50 #[.pointer (some ⟨Ba, 0, none⟩), .pointer (some ⟨Bf, 0, none⟩)] (fun x : Int => #[.int .i64 x]) (reach l f) 100000 b0 w := by
  intro yl m J Jx W hB hJ hJf _ hY hj
  have hY' : Yields yl b0 J Jx := hY
  show CallsIn _ _ _ _ _ _ fun e W' => (∃ v, e = .returned v) ∧ EachEnd l f J Jx W'
  have hmm := @run_makeMap Try.prog
  have hkW : Kept b0 w W := Kept.of_below hB hb0
  have hWsz := hB.size
  have hBa : Ba < W.heap.size := by have := sa.1; omega
  have hfW : FtOk b0 W := hJf _ _ hj
  obtain ⟨hg, hsz, b3, bm, b4, b5⟩ := eachWorld_facts W yl Ba
  have hbl : Below W.heap.size W (eachWorld W yl Ba) := ⟨hg.os, hg.tape, hg.output, hg.size, fun k hk => hg.block k hk (by simp)⟩
  have hk5 : Kept b0 W (eachWorld W yl Ba) := Kept.of_below hbl (by omega)
  have hnew : ∀ k, W.heap.size ≤ k → k < W.heap.size + 4 → Safe b0 (eachWorld W yl Ba) k := fun k h1 h2 => ⟨by omega, by omega, fun hf => by have := hfW k ((Ft_of (hbl.block b0 (by omega)) k).1 hf); omega⟩
  have he : DEnv b b0 (W.heap.size + 1) Ba W.heap.size (W.heap.size + 1 + 1) (W.heap.size + 1 + 1 + 1) yl w0 (eachWorld W yl Ba) :=
    ⟨fun k hk => (hk5.same k (hkW.same k (hlo k hk)).2).2, (hbel.trans (hB.mono hbel.size)).trans (hbl.mono (by have := hbel.size; omega)), (hk5.same _ (hkW.same _ sa).2).2, hnew _ (by omega) (by omega), hnew _ (by omega) (by omega), hnew _ (by omega) (by omega), hnew _ (by omega) (by omega),
      (hk5.cell (p := ⟨Ba, 0, none⟩) (hkW.same _ sa).2).trans ((hkW.cell (p := ⟨Ba, 0, none⟩) sa).trans ca), b3.cell, b4.cell, b5.cell, by omega, by omega, by omega, by omega, by have := hbel.size; omega, by omega⟩
  have hm : MapAt (eachWorld W yl Ba) (W.heap.size + 1) [] := by
    have h0 : MapAt ((W.alloc (.cells #[.func (.yield yl) #[] #[]] 53)).alloc (.map #[] 0)) (W.heap.size + 1) [] := by
      have := World.ownsMap_made (W.alloc (.cells #[.func (.yield yl) #[] #[]] 53)) Try.prog 3 (plainElem (H := Unit) Try.prog 3)
      rw [World.size_alloc] at this
      exact ⟨_, this, fun x => WideAt.atKey_none _ (by simp)⟩
    refine h0.kept (bm.trans (Eq.symm ?_))
    have := World.alloc_heap_new (W.alloc (.cells #[.func (.yield yl) #[] #[]] 53)) (.map #[] 0)
    rwa [World.size_alloc] at this
  have hj5 : J [] (eachWorld W yl Ba) := hJ _ _ _ hj (Stepd.of_below hbl)
  have ca5 := he.c1
  have cf5 : (eachWorld W yl Ba).cell? ⟨Bf, 0, none⟩ = some (.int .i64 f) := (hbl.cell (p := ⟨Bf, 0, none⟩) (by simp; omega)).trans ((hB.cell (p := ⟨Bf, 0, none⟩) hBf).trans cf)
  have cb5 := he.c5
  have hhas : ∀ m, CallsIn Fence.wide m Try.prog 24 #[.pointer (some ⟨b, 0, none⟩), .int .i64 f] (eachWorld W yl Ba) fun e w' => e = .returned (.bool (hasB l f)) ∧ eachWorld W yl Ba = w' := fun m => callsIn_wide.2 (has_any b l f _ (hA.below (Nat.le_refl _) he.bel))
  have hdown : hasB l f = true → ∀ m, CallsIn Fence.wide m Try.prog 51 #[.int .i64 f, .pointer (some ⟨W.heap.size + 1 + 1, 0, none⟩), .pointer (some ⟨Ba, 0, none⟩), .pointer (some ⟨W.heap.size, 0, none⟩), .pointer (some ⟨W.heap.size + 1 + 1 + 1, 0, none⟩)] (eachWorld W yl Ba) fun e W' => ∃ v, e = .returned v ∧ EachEnd l f J Jx W' := fun hh m => by
    have h12 := varOf_nonneg hW f
    refine (down_in hA hW hJ hJf (by omega) hY' 13 m f [] _ (by omega) hh (by decide) he hm hj5).mono ?_
    unfold EachEnd reach
    rw [if_pos hh]
    rintro e W' (⟨rfl, h1, _, _⟩ | ⟨rfl, q, hq, hx⟩)
    · exact ⟨_, rfl, .inl h1⟩
    · exact ⟨_, rfl, .inr ⟨q, hq, hx⟩⟩
  have hnone : hasB l f = false → EachEnd l f J Jx (eachWorld W yl Ba) := fun hh => by
    refine .inl ?_
    unfold reach
    rw [hh]
    exact hj5
  clear he hm hj5 hj hY hY' hJ hJf hk5 hbl hg hnew b3 bm b4 b5 hkW hfW
  generalize EachEnd l f J Jx = R at hdown hnone ⊢
  have bc := (Boxed.new (((W.alloc (.cells #[.func (.yield yl) #[] #[]] 53)).alloc (.map #[] 0)).alloc (.cells #[.map (some (W.heap.size + 1))] 71)) 53 .nilFunc)
  simp only [World.size_alloc] at bc
  have bcc := bc.cell
  have bcf := bc.frozen
  clear bc
  have hfn : ∀ k, Fence.wide.fn k := fun _ => trivial
  obtain ⟨W5, hw⟩ : ∃ W5, eachWorld W yl Ba = W5 := ⟨_, rfl⟩
  rw [hw] at ca5 cf5 cb5 hhas hdown hnone
  unfold eachWorld at hw
  clear hB ca cf hsz hWsz hBf hb0 hlo hbel sa
  simp only [List.append_toArray, List.nil_append, List.cons_append]
  cases hh : hasB l f with
  | true =>
    rw [hh] at hhas
    replace hdown := hdown hh
    clear hnone hh hA hW
    refine callsIn_of_wp Try.func50 rfl trivial ?_ rfl
    simp only [Try.ntmps50, List.size_toArray, List.length_cons, List.length_nil, Nat.reduceAdd, Nat.reduceSub, Array.replicate_succ, Array.replicate_zero, List.push_toArray, List.append_toArray, List.nil_append, List.cons_append]
    gi_wp2_with (first
      | (refine ⟨wdeep _, ?_⟩; refine (hhas _).mono ?_; clear hhas; rintro e w6 ⟨rfl, rfl⟩)
      | (refine ⟨wdeep _, ?_⟩; refine (hdown _).mono ?_; clear hdown; rintro e w6 ⟨v, rfl, hx⟩))
    go_end0
    exact ⟨⟨_, rfl⟩, hx⟩
  | false =>
    rw [hh] at hhas
    replace hnone := hnone hh
    clear hdown hh hA hW
    refine callsIn_of_wp Try.func50 rfl trivial ?_ rfl
    simp only [Try.ntmps50, List.size_toArray, List.length_cons, List.length_nil, Nat.reduceAdd, Nat.reduceSub, Array.replicate_succ, Array.replicate_zero, List.push_toArray, List.append_toArray, List.nil_append, List.cons_append]
    gi_wp2_with (refine ⟨wdeep _, ?_⟩; refine (hhas _).mono ?_; clear hhas; rintro e w6 ⟨rfl, rfl⟩)
    go_end0
    exact ⟨⟨_, rfl⟩, hnone⟩

-- NEXT
end Go.Proofs.Yteifllgcpickhaa
