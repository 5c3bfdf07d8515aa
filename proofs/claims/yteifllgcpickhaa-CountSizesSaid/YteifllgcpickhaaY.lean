/- count: the arena that is written: grow -/
import Derived.Test.YteifllgcpickhaaX
namespace Go.Proofs.Yteifllgcpickhaa
open Go.RowKit

theorem set_far {w : World} {a c : Addr} {v : Value} (h : a ≠ c) : (w.setCell a v).cell? c = w.cell? c := by apply World.cell?_setCell_other; exact h
theorem set_near {w : World} {a : Addr} {v u : Value} (h : w.cell? a = some u) : (w.setCell a v).cell? a = some v := by apply World.cell?_setCell_same; exact h
/-- the arena, its nodes and its table -/
structure ArW (w : World) (n0 b pb : Nat) (lim : Int) (l : List Nd) (ps : List Int) (vA : Value) : Prop where
  c0 : w.cell? ⟨b, 0, none⟩ = some (.int .i64 lim)
  c1 : w.cell? ⟨b, 1, none⟩ = some vA
  c2 : w.cell? ⟨b, 2, none⟩ = some (.slice (some ⟨pb, 0, none⟩) ps.length ps.length)
  fb : ∀ i, w.frozen? ⟨b, i, none⟩ = false
  lb : b < w.heap.size
  nb : n0 ≤ b
  ints : IntsAt w pb ps
  fp : ∀ i, w.frozen? ⟨pb, i, none⟩ = false
  np : n0 ≤ pb
  row : w.ownsRow n0 73 3 vA l.length (ncells l)
  bp : b ≠ pb
  bg : vA.ownBlock ≠ some b
  pg : vA.ownBlock ≠ some pb

theorem ncells_get' (l : List Nd) (i : Nat) (h : i < l.length) : (ncells l)[i * 3]? = some (.int .i64 l[i].v) ∧ (ncells l)[i * 3 + 1]? = some (.int .i64 l[i].lo) ∧ (ncells l)[i * 3 + 2]? = some (.int .i64 l[i].hi) :=
  ⟨ncells_get l i h 0 (by omega), ncells_get l i h 1 (by omega), ncells_get l i h 2 (by omega)⟩
/-- a row of nodes of the call's own, as it is read -/
theorem nodes_read {w : World} {n0 : Nat} {v : Value} {l : List Nd} {t : TypeId} (h : w.ownsRow n0 t 3 v l.length (ncells l)) : ∃ A cap, v = .slice A l.length cap ∧ NodesAt w A l := by
  rcases h.2 with ⟨h1, h2⟩ | ⟨g, cap, cur, h1, h2, h3, h4, h5, h6, h7⟩
  · rw [h2]
    exact ⟨none, 0, h1, fun hl => by omega⟩
  · refine ⟨some ⟨g, 0, none⟩, cap, h1, fun _ => ⟨g, rfl, (Array.getElem?_eq_some_iff.1 h3).1, fun i hi => ?_⟩⟩
    have hg : ∀ j, j < l.length * 3 → w.cell? ⟨g, j, none⟩ = (ncells l)[j]? := fun j hj => by
      rw [cell_of h3, ← h7, List.getElem?_take_of_lt hj, Array.getElem?_toList]
    rw [hg _ (by omega), hg _ (by omega), hg _ (by omega)]
    exact ncells_get' l i hi

theorem ArW.kept {w w' : World} {n0 b pb : Nat} {lim : Int} {l : List Nd} {ps : List Int} {vA : Value} (h : ArW w n0 b pb lim l ps vA) (hs : w.heap.size ≤ w'.heap.size)
    (hk : ∀ k, k < w.heap.size → (k = b ∨ k = pb ∨ vA.ownBlock = some k) → w'.heap[k]? = w.heap[k]?) : ArW w' n0 b pb lim l ps vA := by
  have kb := hk b h.lb (.inl rfl)
  have kp := hk pb h.ints.1 (.inr (.inl rfl))
  refine ⟨(World.cell?_of_block (a := ⟨b, 0, none⟩) kb).trans h.c0, (World.cell?_of_block (a := ⟨b, 1, none⟩) kb).trans h.c1, (World.cell?_of_block (a := ⟨b, 2, none⟩) kb).trans h.c2, fun i => (World.frozen?_of_block (a := ⟨b, i, none⟩) kb).trans (h.fb i), Nat.lt_of_lt_of_le h.lb hs, h.nb,
    ⟨Nat.lt_of_lt_of_le h.ints.1 hs, fun i hi => (World.cell?_of_block (a := ⟨pb, i, none⟩) kp).trans (h.ints.2 i hi)⟩, fun i => (World.frozen?_of_block (a := ⟨pb, i, none⟩) kp).trans (h.fp i), h.np, ?_, h.bp, h.bg, h.pg⟩
  refine ⟨h.row.1, ?_⟩
  rcases h.row.2 with h0 | ⟨g, cap, cur, e, h1, h2, h3⟩
  · exact .inl h0
  · exact .inr ⟨g, cap, cur, e, h1, (hk g (Array.getElem?_eq_some_iff.1 h2).1 (.inr (.inr (by rw [e]; rfl)))).trans h2, h3⟩
theorem ArW.below {w w' : World} {n0 b pb : Nat} {lim : Int} {l : List Nd} {ps : List Int} {vA : Value} (h : ArW w n0 b pb lim l ps vA) (hb : Below w.heap.size w w') : ArW w' n0 b pb lim l ps vA :=
  h.kept hb.size (fun k hk _ => hb.block k hk)
theorem ArW.rd {w : World} {n0 b pb : Nat} {lim : Int} {l : List Nd} {ps : List Int} {vA : Value} (h : ArW w n0 b pb lim l ps vA) (hl : l.length ≤ 1000) : ArRd w b l := by
  obtain ⟨A, cap, e, hn⟩ := nodes_read h.row
  exact ⟨h.lb, hl, A, cap, h.c1.trans (by rw [e]), hn⟩

/-- a table that has room enough -/
def TabOk (l : List Nd) (ps : List Int) : Prop := Tab (stN ps.length) ps.length l ps l.length ∧ 2 * l.length < ps.length ∧ ps.length ≤ 16 + 4 * l.length ∧ 16 ≤ ps.length
def GrowEnd (w : World) (n0 b pb0 : Nat) (lim : Int) (l : List Nd) (vA : Value) (e : Ending) (w' : World) : Prop := e = .returned (.tuple #[]) ∧ (∃ pb ps, ArW w' n0 b pb lim l ps vA ∧ TabOk l ps ∧ (pb = pb0 ∨ w.heap.size ≤ pb)) ∧ w.grownBy w' (some b)

theorem grownBy_drewN (w : World) (q : Nat) (row : Option Nat) : w.grownBy (w.drewN q) row := ⟨rfl, rfl, rfl, Nat.le_refl _, fun _ _ _ => rfl⟩
theorem grownBy_setCell2 (W : World) (b i : Nat) (v : Value) : W.grownBy (W.setCell ⟨b, i, none⟩ v) (some b) :=
  ⟨rfl, rfl, rfl, by simp, fun k _ hne => Below.heap_setCell _ _ _ _ (fun e => hne (by rw [e]))⟩
theorem row_setCell {w : World} {n e size k : Nat} {v : Value} {xs : List Value} (h : w.ownsRow n e size v k xs) (b i : Nat) (u : Value) (hne : v.ownBlock ≠ some b) : (w.setCell ⟨b, i, none⟩ u).ownsRow n e size v k xs :=
  h.kept (grownBy_setCell2 w b i u) (.inr hne)

theorem ArW.put {w : World} {n0 b pb : Nat} {lim : Int} {l : List Nd} {ps : List Int} {vA : Value} (h : ArW w n0 b pb lim l ps vA) (i : Nat) (x : Int) (hi : i < ps.length) :
    ArW (w.setCell ⟨pb, i, none⟩ (.int .i64 x)) n0 b pb lim l (ps.set i x) vA := by
  have hne : ∀ j, (⟨pb, i, none⟩ : Addr) ≠ ⟨b, j, none⟩ := fun j e => h.bp (by cases e; rfl)
  refine ⟨by rw [set_far (hne 0)]; exact h.c0, by rw [set_far (hne 1)]; exact h.c1, by rw [set_far (hne 2), List.length_set]; exact h.c2, fun j => by rw [World.frozen?_setCell]; exact h.fb j, by simpa using h.lb, h.nb,
    ⟨by simpa using h.ints.1, fun j hj => ?_⟩, fun j => by rw [World.frozen?_setCell]; exact h.fp j, h.np, row_setCell h.row _ _ _ h.pg, h.bp, h.bg, h.pg⟩
  rw [List.length_set] at hj
  rw [pg_set ps i j x hi]
  by_cases e : j = i
  · subst e
    rw [if_pos rfl]
    exact set_near (h.ints.2 _ hj)
  · rw [if_neg e, set_far (fun q => e (by cases q; rfl))]
    exact h.ints.2 _ hj
theorem pg_rep (m i : Nat) : pg (List.replicate m 0) i = 0 := by
  unfold pg
  rw [List.getElem?_replicate]
  split <;> rfl
/-- a new table, all of zeros -/
theorem grow_world {w : World} {n0 b pb : Nat} {lim : Int} {l : List Nd} {ps : List Int} {vA : Value} (h : ArW w n0 b pb lim l ps vA) (hn0 : n0 ≤ w.heap.size) (m : Nat) :
    ArW ((w.alloc (.cells (List.replicate m (Value.int .i64 0)).toArray 3)).setCell ⟨b, 2, none⟩ (.slice (some ⟨w.heap.size, 0, none⟩) m m)) n0 b w.heap.size lim l (List.replicate m 0) vA ∧
    w.grownBy ((w.alloc (.cells (List.replicate m (Value.int .i64 0)).toArray 3)).setCell ⟨b, 2, none⟩ (.slice (some ⟨w.heap.size, 0, none⟩) m m)) (some b) := by
  have ha := h.below ((Below.refl w.heap.size w).alloc (Nat.le_refl _) (.cells (List.replicate m (Value.int .i64 0)).toArray 3))
  have hg := (World.grownBy_alloc w (.cells (List.replicate m (Value.int .i64 0)).toArray 3) (some b)).trans (grownBy_setCell2 _ b 2 (.slice (some ⟨w.heap.size, 0, none⟩) m m))
  have hbne : b ≠ w.heap.size := by have := h.lb; omega
  have q := World.alloc_heap_new w (.cells (List.replicate m (Value.int .i64 0)).toArray 3)
  have hne : ∀ j, j ≠ 2 → (⟨b, 2, none⟩ : Addr) ≠ ⟨b, j, none⟩ := fun j hj e => hj (by cases e; rfl)
  have hgne : ∀ k, vA.ownBlock = some k → k < w.heap.size := fun k hk => row_lt h.row k hk
  refine ⟨⟨by rw [set_far (hne 0 (by omega))]; exact ha.c0, by rw [set_far (hne 1 (by omega))]; exact ha.c1, ?_, fun j => by rw [World.frozen?_setCell]; exact ha.fb j, by simpa using ha.lb, h.nb,
    ⟨by simp, fun j hj => ?_⟩, fun j => ?_, hn0, row_setCell ha.row _ _ _ h.bg, hbne, h.bg, fun e => by have := hgne _ e; omega⟩, hg⟩
  · rw [set_near ha.c2]; simp
  · rw [pg_rep, set_far (fun e => hbne (by cases e; rfl)), cell_of q]
    simp at hj
    simp [hj]
  · rw [World.frozen?_setCell]
    simp

set_option maxRecDepth 100000 in
set_option maxHeartbeats 2000000 in
theorem grow_any {w : World} {n0 b pb : Nat} {lim : Int} {l : List Nd} {ps : List Int} {vA : Value} (h : ArW w n0 b pb lim l ps vA) (hn0 : n0 ≤ w.heap.size) (hl : l.length ≤ 1000) (hT : Tab (stN ps.length) ps.length l ps l.length) (h1 : l.length < ps.length) (h2 : ps.length ≤ 16 + 4 * l.length) (h3 : 16 ≤ ps.length) :
    Calls Try.prog 47 #[.pointer (some ⟨b, 0, none⟩)] w (GrowEnd w n0 b pb lim l vA) := by
  obtain ⟨A, cap, rfl, hnodes⟩ := nodes_read h.row
  have c1 := h.c1
  have c2 := h.c2
  have hb := h.lb
  by_cases hlt : 2 * l.length < ps.length
  · have hfin : ∀ q, GrowEnd w n0 b pb lim l (.slice A l.length cap) (.returned (.tuple #[])) (w.drewN q) := fun q => ⟨rfl, ⟨pb, ps, h.kept (Nat.le_refl _) (fun _ _ _ => rfl), ⟨hT, hlt, h2, h3⟩, .inl rfl⟩, grownBy_drewN _ _ _⟩
    have hd : 2 * (l.length : Int) < (ps.length : Int) := by omega
    have hlh := Lib.hid hlt
    generalize GrowEnd w n0 b pb lim l (.slice A l.length cap) = R at *
    clear h hT hnodes
    go_enter Try.func47, Try.ntmps47
    go_wp2_with fail
    go_quiet (fail)
    go_wp2_with fail
    exact bodyPost_ret (results_none rfl _ _ _) rfl (hfin _)
  · have hd : ¬ 2 * (l.length : Int) < (ps.length : Int) := by omega
    have hmk := make_ints (2 * ps.length) (2 * (ps.length : Int)) (by push_cast; rfl) (by omega)
    have hfin : ∀ w' pb' ps', ArW w' n0 b pb' lim l ps' (.slice A l.length cap) → w.heap.size ≤ pb' → Tab (stN (2 * ps.length)) (2 * ps.length) l ps' l.length → ps'.length = 2 * ps.length → w.grownBy w' (some b) → GrowEnd w n0 b pb lim l (.slice A l.length cap) (.returned (.tuple #[])) w' :=
      fun w' pb' ps' g1 g0 g2 g3 g4 => ⟨rfl, ⟨pb', ps', g1, ⟨by rw [g3]; exact g2, by omega, by omega, by omega⟩, .inr g0⟩, g4⟩
    have hfinh := Lib.hid hfin
    generalize GrowEnd w n0 b pb lim l (.slice A l.length cap) = R at *
    have hT0 := Tab.empty (stN (2 * ps.length)) (2 * ps.length) l hT.nodup
    clear hT hfin hnodes
    go_enter Try.func47, Try.ntmps47
    go_wp2_with fail
    go_quiet (fail)
    have hd2 := h.kept (w' := w.drewN nq) (Nat.le_refl _) (fun _ _ _ => rfl)
    have hg2 : w.grownBy (w.drewN nq) (some b) := grownBy_drewN _ _ _
    have hn2 : n0 ≤ (w.drewN nq).heap.size := hn0
    have c1 := hd2.c1
    have c2 := hd2.c2
    have hbw := hd2.lb
    obtain ⟨hA1, hG1⟩ := grow_world hd2 hn2 (2 * ps.length)
    have ca := (hd2.below ((Below.refl _ _).alloc (Nat.le_refl _) (.cells (List.replicate (2 * ps.length) (Value.int .i64 0)).toArray 3))).c2
    have fa := (hd2.below ((Below.refl _ _).alloc (Nat.le_refl _) (.cells (List.replicate (2 * ps.length) (Value.int .i64 0)).toArray 3))).fb 2
    have hws : w.heap.size ≤ (w.drewN nq).heap.size := Nat.le_refl _
    generalize w.drewN nq = w2 at *
    clear hd2 h
    generalize hZ : (List.replicate (2 * ps.length) (Value.int .i64 0)).toArray = Z at *
    clear hZ
    go_wp2_with fail
    rw [World.setCell_alloc_past _ _ _ _ hbw] at hA1 hG1
    have hgt : w.grownBy ((w2.setCell ⟨b, 2, none⟩ (.slice (some ⟨w2.heap.size, 0, none⟩) (2 * ps.length) (2 * ps.length))).alloc (.cells Z 3)) (some b) := hg2.trans hG1
    have hm2 : 2 * ps.length ≤ 65536 := by omega
    have hml : l.length < 2 * ps.length := by omega
    clear c1 c2 ca fa hg2 hG1 hmk
    generalize (w2.setCell ⟨b, 2, none⟩ (.slice (some ⟨w2.heap.size, 0, none⟩) (2 * ps.length) (2 * ps.length))).alloc (.cells Z 3) = W1 at *
    generalize w2.heap.size = pb' at *
    generalize 2 * ps.length = m at *
    go_loopw [31] (fun p wr => ∃ (k : Nat) (qs : List Int), k ≤ l.length ∧ p = .int .i64 k ∧ ArW wr n0 b pb' lim l qs (.slice A l.length cap) ∧ qs.length = m ∧ Tab (stN m) m l qs k ∧ W1.grownBy wr (some pb')) (fun p _ => l.length - (intOf p).toNat)
    case atStart => exact ⟨0, List.replicate m 0, by omega, rfl, hA1, by simp, hT0, World.grownBy.refl _ _⟩
    case round =>
      obtain ⟨k, qs, hk, rfl, hAr, hqm, hT, hgr⟩ := hrel
      by_cases hkl : k < l.length
      · obtain ⟨A', cap', eA, hnodes⟩ := nodes_read hAr.row
        cases eA
        obtain ⟨lb, rfl, hlb, hcells⟩ := hnodes (by omega)
        obtain ⟨e0, e1, e2⟩ := hcells k hkl
        have hk0 : (k : Int) < (l.length : Int) := by omega
        have hk1 : (0 : Int) ≤ (k : Int) := by omega
        have hkw : IntKind.i64.wrap ((k : Int) + 1) = k + 1 := by rw [IntKind.wrap_i64]; omega
        have hT2 := hT
        rw [← hqm] at hT2
        have hAr4 := hAr.below ((Below.refl _ _).alloc (Nat.le_refl _) (.cells #[.int .i64 l[k].v, .int .i64 l[k].lo, .int .i64 l[k].hi] 73))
        have k0 := cell_new3 wr (.int .i64 l[k].v) (.int .i64 l[k].lo) (.int .i64 l[k].hi) 73 0
        have k1 := cell_new3 wr (.int .i64 l[k].v) (.int .i64 l[k].lo) (.int .i64 l[k].hi) 73 1
        have k2 := cell_new3 wr (.int .i64 l[k].v) (.int .i64 l[k].lo) (.int .i64 l[k].hi) 73 2
        simp only [List.getElem?_toArray, List.getElem?_cons_succ, List.getElem?_cons_zero] at k0 k1 k2
        have hg4 : wr.grownBy (wr.alloc (.cells #[.int .i64 l[k].v, .int .i64 l[k].lo, .int .i64 l[k].hi] 73)) (some pb') := World.grownBy_alloc _ _ _
        have hnw : wr.heap.size < (wr.alloc (.cells #[.int .i64 l[k].v, .int .i64 l[k].lo, .int .i64 l[k].hi] 73)).heap.size := by simp
        obtain ⟨w4, hw4⟩ : ∃ w4, wr.alloc (.cells #[.int .i64 l[k].v, .int .i64 l[k].lo, .int .i64 l[k].hi] 73) = w4 := ⟨_, rfl⟩
        have hlow : w4.heap.size = wr.heap.size + 1 := by rw [← hw4]; simp
        rw [hw4] at hAr4 k0 k1 k2 hg4 hnw
        have d2 := hAr4.c2
        have hb4 := hAr4.lb
        have cP : ∀ W, Below w4.heap.size w4 W → Calls Try.prog 46 #[.pointer (some ⟨b, 0, none⟩), .agg #[.int .i64 l[k].v, .int .i64 l[k].lo, .int .i64 l[k].hi]] W fun e w' => ∃ i : Nat, e = .returned (.int .i64 i) ∧ PlaceAt (stN m l[k]) m l qs l[k] i ∧ Below W.heap.size W w' ∧ (i : Int) < (qs.length : Int) ∧ w'.cell? ⟨pb', i, none⟩ = some (.int .i64 (pg qs i)) ∧ w'.frozen? ⟨pb', i, none⟩ = false := fun W hb => by
          have hAW := hAr4.below hb
          obtain ⟨A2, cap2, e2, hn2⟩ := nodes_read hAW.row
          cases e2
          refine (place_any b pb' _ cap l qs l[k] W hl hAW.lb hAW.c1 hAW.c2 hn2 hAW.ints (by omega) hT2 (by omega)).mono ?_
          rintro e w' ⟨⟨i, he, hp⟩, hbb⟩
          rw [hqm] at hp
          have him : i < m := by
            obtain ⟨d, rfl, _⟩ := hp
            exact Nat.mod_lt _ (by omega)
          have hA' := hAW.below hbb
          exact ⟨i, he, hp, hbb, by omega, hA'.ints.2 i (by omega), hA'.fp i⟩
        have hkeep := Lib.hid (p := ∀ W W' : World, (w4.grownBy W (some pb') ∧ W.cell? ⟨b, 2, none⟩ = some (.slice (some ⟨pb', 0, none⟩) qs.length qs.length) ∧ W.cell? ⟨wr.heap.size, 0, none⟩ = some (.int .i64 l[k].v) ∧ W.cell? ⟨wr.heap.size, 1, none⟩ = some (.int .i64 l[k].lo) ∧ W.cell? ⟨wr.heap.size, 2, none⟩ = some (.int .i64 l[k].hi)) → Below W.heap.size W W' → (w4.grownBy W' (some pb') ∧ W'.cell? ⟨b, 2, none⟩ = some (.slice (some ⟨pb', 0, none⟩) qs.length qs.length) ∧ W'.cell? ⟨wr.heap.size, 0, none⟩ = some (.int .i64 l[k].v) ∧ W'.cell? ⟨wr.heap.size, 1, none⟩ = some (.int .i64 l[k].lo) ∧ W'.cell? ⟨wr.heap.size, 2, none⟩ = some (.int .i64 l[k].hi))) (fun W W' h hb =>
          have g1 : b < W.heap.size := Nat.lt_of_lt_of_le hb4 h.1.size
          have g2 : wr.heap.size < W.heap.size := Nat.lt_of_lt_of_le hnw h.1.size
          ⟨h.1.trans ⟨hb.os, hb.tape, hb.output, hb.size, fun j hj _ => hb.block j hj⟩, (hb.cell g1).trans h.2.1, (hb.cell g2).trans h.2.2.1, (hb.cell g2).trans h.2.2.2.1, (hb.cell g2).trans h.2.2.2.2⟩)
        have hpbne := Lib.hid hAr4.bp
        have hpbw : pb' ≠ wr.heap.size := by have := hAr.ints.1; omega
        have hset := Lib.hid (p := ∀ (W : World) (i : Nat) (x : Value), (w4.grownBy W (some pb') ∧ W.cell? ⟨b, 2, none⟩ = some (.slice (some ⟨pb', 0, none⟩) qs.length qs.length) ∧ W.cell? ⟨wr.heap.size, 0, none⟩ = some (.int .i64 l[k].v) ∧ W.cell? ⟨wr.heap.size, 1, none⟩ = some (.int .i64 l[k].lo) ∧ W.cell? ⟨wr.heap.size, 2, none⟩ = some (.int .i64 l[k].hi)) → (fun W => (w4.grownBy W (some pb') ∧ W.cell? ⟨b, 2, none⟩ = some (.slice (some ⟨pb', 0, none⟩) qs.length qs.length) ∧ W.cell? ⟨wr.heap.size, 0, none⟩ = some (.int .i64 l[k].v) ∧ W.cell? ⟨wr.heap.size, 1, none⟩ = some (.int .i64 l[k].lo) ∧ W.cell? ⟨wr.heap.size, 2, none⟩ = some (.int .i64 l[k].hi))) (W.setCell ⟨pb', i, none⟩ x)) (fun W i x h =>
          ⟨h.1.trans (grownBy_setCell2 _ _ _ _), (set_far (fun e => hpbne.out (by cases e; rfl))).trans h.2.1, (set_far (fun e => hpbw (by cases e; rfl))).trans h.2.2.1, (set_far (fun e => hpbw (by cases e; rfl))).trans h.2.2.2.1, (set_far (fun e => hpbw (by cases e; rfl))).trans h.2.2.2.2⟩)
        have hr0 : Below w4.heap.size w4 w4.drew := (Below.refl w4.heap.size w4).drew
        have hr1 : w4.grownBy w4.drew (some pb') := ⟨rfl, rfl, rfl, Nat.le_refl _, fun _ _ _ => rfl⟩
        have hq1 : 0 < qs.length := by omega
        have hqmh := Lib.hid hqm
        have hTh := Lib.hid hT
        have hgrh := Lib.hid (hgr.trans hg4)
        have hlowh := Lib.hid hlow
        clear hcells hT hAr hA1 hT0 hnodes hlow hqm hpbne hpbw
        go_wp2_with fail
        go_region_held3 (fun W => (w4.grownBy W (some pb') ∧ W.cell? ⟨b, 2, none⟩ = some (.slice (some ⟨pb', 0, none⟩) qs.length qs.length) ∧ W.cell? ⟨wr.heap.size, 0, none⟩ = some (.int .i64 l[k].v) ∧ W.cell? ⟨wr.heap.size, 1, none⟩ = some (.int .i64 l[k].lo) ∧ W.cell? ⟨wr.heap.size, 2, none⟩ = some (.int .i64 l[k].hi)))
          (first | assumption | exact hkeep.out _ _ (by assumption) hb | exact hset.out _ _ _ (by assumption) | (go_keep; done))
          (first | (go_at_call 46; refine (cP _ hr0).mono ?_; rintro e w' ⟨i, rfl, hpl, hb, hi1, hci, hcf⟩))
        go_wp2_with fail
        have hqm := hqmh.out
        have hA5 := (hAr4.below (hr0.trans (hb.mono hr0.size))).put i (k + 1) (by omega)
        go_roundw
        case rel => exact ⟨k + 1, qs.set i (k + 1), by omega, by go_num, hA5, by rw [List.length_set]; exact hqm, hTh.out.insert hkl (by omega) hpl, hgrh.out.trans (‹w4.grownBy (w'.setCell _ _) (some pb') ∧ _›.1)⟩
        case measure => simp [intOf]; omega
      · obtain rfl : k = l.length := by omega
        clear hT0
        go_wp2_with fail
        exact bodyPost_ret (results_none rfl _ _ _) rfl (hfinh.out _ _ _ hAr hws hT hqm (hgt.andThen hgr (fun j hj => by cases hj; exact .inl hws)))
end Go.Proofs.Yteifllgcpickhaa
