/- count: build -/
import Derived.Test.YteifllgcpickhaaBA
import Derived.Test.YteifllgcpickhaaRD
import Derived.Outline
namespace Go.Proofs.Yteifllgcpickhaa
open Go.RowKit

/-- a row of Ops that came in, as it is read -/
def OpsRd (w : World) (A : Option Addr) (l : List Nd) : Prop :=
  0 < l.length → ∃ b off, A = some ⟨b, off, none⟩ ∧ b < w.heap.size ∧ ∀ i (h : i < l.length),
    w.cell? ⟨b, off + i * 3, none⟩ = some (.int .i64 l[i].v) ∧ w.cell? ⟨b, off + i * 3 + 1, none⟩ = some (.int .i64 l[i].lo) ∧ w.cell? ⟨b, off + i * 3 + 2, none⟩ = some (.int .i64 l[i].hi)

/-- what build keeps from round to round -/
structure BInv (w : World) (b rb : Nat) (L Lr : List Nd) (A : Option Addr) (cap pb : Nat) (ps : List Int) (vA : Value) (W : World) : Prop where
  ar : ArW W w.heap.size b pb 60 L ps vA
  tab : TabOk L ps
  ref : RefAt W A cap Lr
  off : ∀ g, A = some ⟨g, 0, none⟩ → ¬ Mine b pb vA g
  r0 : W.cell? ⟨rb, 0, none⟩ = some (.int .i64 60)
  r1 : W.cell? ⟨rb, 1, none⟩ = some (.slice A Lr.length cap)
  fr : ∀ i, W.frozen? ⟨rb, i, none⟩ = false
  rm : ¬ Mine b pb vA rb
  rl : rb < W.heap.size
  rg : ∀ g, A = some ⟨g, 0, none⟩ → g ≠ rb
  sg : ∀ g, A = some ⟨g, 0, none⟩ → g ≠ w.heap.size
  s0 : W.cell? ⟨w.heap.size, 0, none⟩ = some (.int .i64 0)
  s1 : W.cell? ⟨w.heap.size, 1, none⟩ = some (.slice none 0 0)
  fs : ∀ i, W.frozen? ⟨w.heap.size, i, none⟩ = false
  sm : ¬ Mine b pb vA w.heap.size
  sl : w.heap.size < W.heap.size
  sr : w.heap.size ≠ rb
  lo : w.heap.size ≤ rb
  bel : Below w.heap.size w W

theorem RefAt.turned {w w' : World} {A : Option Addr} {cap : Nat} {l : List Nd} {S S' : Nat → Prop} (h : RefAt w A cap l) (ho : ∀ g, A = some ⟨g, 0, none⟩ → ¬ S g) (t : Turned S S' w w') : RefAt w' A cap l ∧ (∀ g, A = some ⟨g, 0, none⟩ → ¬ S' g) := by
  rcases h with ⟨rfl, rfl, rfl⟩ | ⟨h1, h2⟩
  · exact ⟨.inl ⟨rfl, rfl, rfl⟩, fun g e => by cases e⟩
  · obtain ⟨g, e, hg, hc⟩ := h2 h1
    have ht := t.same g hg (ho g e)
    refine ⟨.inr ⟨h1, fun _ => ⟨g, e, Nat.lt_of_lt_of_le hg t.size, fun i hi => ?_⟩⟩, fun g' e' => by rw [e] at e'; cases e'; exact ht.2⟩
    rw [World.cell?_of_block (a := ⟨g, i * 3, none⟩) ht.1, World.cell?_of_block (a := ⟨g, i * 3 + 1, none⟩) ht.1, World.cell?_of_block (a := ⟨g, i * 3 + 2, none⟩) ht.1]
    exact hc i hi
theorem BInv.turned {w : World} {b rb : Nat} {L L' Lr : List Nd} {A : Option Addr} {cap pb pb' : Nat} {ps ps' : List Int} {vA vA' : Value} {W W' : World} (h : BInv w b rb L Lr A cap pb ps vA W) (t : Turned (Mine b pb vA) (Mine b pb' vA') W W')
    (ha : ArW W' w.heap.size b pb' 60 L' ps' vA') (ht : TabOk L' ps') : BInv w b rb L' Lr A cap pb' ps' vA' W' := by
  have kr := t.same rb h.rl h.rm
  have ks := t.same _ h.sl h.sm
  obtain ⟨q1, q2⟩ := h.ref.turned h.off t
  exact ⟨ha, ht, q1, q2, (World.cell?_of_block (a := ⟨rb, 0, none⟩) kr.1).trans h.r0, (World.cell?_of_block (a := ⟨rb, 1, none⟩) kr.1).trans h.r1, fun i => (World.frozen?_of_block (a := ⟨rb, i, none⟩) kr.1).trans (h.fr i), kr.2, Nat.lt_of_lt_of_le h.rl t.size, h.rg, h.sg,
    (World.cell?_of_block (a := ⟨w.heap.size, 0, none⟩) ks.1).trans h.s0, (World.cell?_of_block (a := ⟨w.heap.size, 1, none⟩) ks.1).trans h.s1, fun i => (World.frozen?_of_block (a := ⟨w.heap.size, i, none⟩) ks.1).trans (h.fs i), ks.2, Nat.lt_of_lt_of_le h.sl t.size, h.sr, h.lo,
    h.bel.trans (t.below h.bel.size (fun k hk => (h.ar.mine k hk).1))⟩
theorem BInv.below {w : World} {b rb : Nat} {L Lr : List Nd} {A : Option Addr} {cap pb : Nat} {ps : List Int} {vA : Value} {W W' : World} (h : BInv w b rb L Lr A cap pb ps vA W) (hb : Below W.heap.size W W') : BInv w b rb L Lr A cap pb ps vA W' :=
  h.turned (Turned.of_below hb) (h.ar.below hb) h.tab
theorem RefAt.set {w : World} {A : Option Addr} {cap : Nat} {l : List Nd} (h : RefAt w A cap l) (a : Addr) (x : Value) (ha : ∀ g, A = some ⟨g, 0, none⟩ → a.block ≠ g) : RefAt (w.setCell a x) A cap l := by
  rcases h with h | ⟨h1, h2⟩
  · exact .inl h
  · obtain ⟨g, e, _⟩ := h2 h1
    subst e
    exact .inr ⟨h1, NodesAt.set h2 a x (ha g rfl)⟩
theorem ArW.set {w : World} {n0 b pb : Nat} {lim : Int} {l : List Nd} {ps : List Int} {vA : Value} (h : ArW w n0 b pb lim l ps vA) (a : Addr) (x : Value) (ha : ¬ Mine b pb vA a.block) : ArW (w.setCell a x) n0 b pb lim l ps vA :=
  h.kept (by simp) (fun k _ hk => Below.heap_setCell _ _ _ _ (fun e => ha (e ▸ hk)))
/-- the document's arena is put into its variable -/
theorem BInv.mkref {w : World} {b rb : Nat} {L Lr L' : List Nd} {A A' : Option Addr} {cap c' pb : Nat} {ps : List Int} {vA : Value} {W W4 : World} (h : BInv w b rb L Lr A cap pb ps vA W) (hb : Below W.heap.size W W4) (href : RefAt W4 A' c' L')
    (hA : (A' = A ∧ L' = Lr) ∨ ∃ g, A' = some ⟨g, 0, none⟩ ∧ W.heap.size ≤ g) : BInv w b rb L L' A' c' pb ps vA ((W4.setCell ⟨rb, 0, none⟩ (.int .i64 60)).setCell ⟨rb, 1, none⟩ (.slice A' L'.length c')) := by
  have h4 := h.below hb
  have hrg : ∀ g, A' = some ⟨g, 0, none⟩ → g ≠ rb := fun g e => by
    rcases hA with ⟨e1, _⟩ | ⟨g', e1, hg⟩
    · exact h.rg g (e1 ▸ e)
    · rw [e] at e1
      cases e1
      have := h.rl
      omega
  have hsg : ∀ g, A' = some ⟨g, 0, none⟩ → g ≠ w.heap.size := fun g e => by
    rcases hA with ⟨e1, _⟩ | ⟨g', e1, hg⟩
    · exact h.sg g (e1 ▸ e)
    · rw [e] at e1
      cases e1
      have := h.sl
      omega
  have hs : ∀ i, (⟨rb, 0, none⟩ : Addr) ≠ ⟨w.heap.size, i, none⟩ := fun i e => h.sr (by cases e; rfl)
  have hs1 : ∀ i, (⟨rb, 1, none⟩ : Addr) ≠ ⟨w.heap.size, i, none⟩ := fun i e => h.sr (by cases e; rfl)
  refine ⟨(h4.ar.set _ _ h4.rm).set _ _ h4.rm, h4.tab, (href.set _ _ (fun g e => (hrg g e).symm)).set _ _ (fun g e => (hrg g e).symm), fun g e => ?_, ?_, ?_, fun i => by rw [World.frozen?_setCell, World.frozen?_setCell]; exact h4.fr i, h4.rm, by simpa using h4.rl, hrg, hsg, ?_, ?_, fun i => by rw [World.frozen?_setCell, World.frozen?_setCell]; exact h4.fs i, h4.sm, by simpa using h4.sl, h4.sr, h4.lo,
    (h4.bel.setCell (p := ⟨rb, 0, none⟩) h4.lo _).setCell (p := ⟨rb, 1, none⟩) h4.lo _⟩
  · rcases hA with ⟨e1, _⟩ | ⟨g', e1, hg⟩
    · exact h.off g (e1 ▸ e)
    · rw [e] at e1
      cases e1
      intro hm
      have := (h.ar.mine _ hm).2
      omega
  · rw [set_far (fun e => by cases e)]
    exact set_near h4.r0
  · exact set_near ((set_far (fun e => by cases e)).trans h4.r1)
  · rw [set_far (hs1 0), set_far (hs 0)]
    exact h4.s0
  · rw [set_far (hs1 1), set_far (hs 1)]
    exact h4.s1
theorem binv_start (w w2 : World) (hb : Below (((w.alloc (.cells #[.int .i64 0, .slice none 0 0] 27)).alloc (.cells (List.replicate 16 (Value.int .i64 0)).toArray 3)).alloc (.cells #[.int .i64 60, .slice none 0 0, .slice (some ⟨w.heap.size + 1, 0, none⟩) 16 16] 83)).heap.size (((w.alloc (.cells #[.int .i64 0, .slice none 0 0] 27)).alloc (.cells (List.replicate 16 (Value.int .i64 0)).toArray 3)).alloc (.cells #[.int .i64 60, .slice none 0 0, .slice (some ⟨w.heap.size + 1, 0, none⟩) 16 16] 83)) w2) :
    BInv w (w.heap.size + 1 + 1) w2.heap.size [] [] none 0 (w.heap.size + 1) (List.replicate 16 0) (.slice none 0 0) (w2.alloc (.cells #[.int .i64 60, .slice none 0 0] 27)) := by
  have a0 := World.alloc_heap_new w (.cells #[.int .i64 0, .slice none 0 0] 27)
  have a1 := World.alloc_heap_new (w.alloc (.cells #[.int .i64 0, .slice none 0 0] 27)) (.cells (List.replicate 16 (Value.int .i64 0)).toArray 3)
  have a2 := World.alloc_heap_new ((w.alloc (.cells #[.int .i64 0, .slice none 0 0] 27)).alloc (.cells (List.replicate 16 (Value.int .i64 0)).toArray 3)) (.cells #[.int .i64 60, .slice none 0 0, .slice (some ⟨w.heap.size + 1, 0, none⟩) 16 16] 83)
  have hsz := hb.size
  simp only [World.size_alloc] at a1 a2 hsz
  have h3 := hb.alloc hb.size (.cells #[.int .i64 60, .slice none 0 0] 27)
  have a3 := World.alloc_heap_new w2 (.cells #[.int .i64 60, .slice none 0 0] 27)
  have b0 := (h3.block w.heap.size (by simp <;> omega)).trans ((Below.heap_alloc _ _ _ (by simp <;> omega)).trans ((Below.heap_alloc _ _ _ (by simp)).trans a0))
  have b1 := (h3.block (w.heap.size + 1) (by simp <;> omega)).trans ((Below.heap_alloc _ _ _ (by simp)).trans a1)
  have b2 := (h3.block (w.heap.size + 1 + 1) (by simp)).trans a2
  have hrel : Below w.heap.size w (((w.alloc (.cells #[.int .i64 0, .slice none 0 0] 27)).alloc (.cells (List.replicate 16 (Value.int .i64 0)).toArray 3)).alloc (.cells #[.int .i64 60, .slice none 0 0, .slice (some ⟨w.heap.size + 1, 0, none⟩) 16 16] 83)) := (((Below.refl _ _).alloc (Nat.le_refl _) _).alloc (by simp) _).alloc (by simp <;> omega) _
  have hsz3 : (w2.alloc (.cells #[.int .i64 60, .slice none 0 0] 27)).heap.size = w2.heap.size + 1 := by simp
  have hbel := hrel.trans (h3.mono hrel.size)
  generalize w2.alloc (.cells #[.int .i64 60, .slice none 0 0] 27) = W at *
  clear h3 hrel hb a0 a1 a2
  have hmine : ∀ k, Mine (w.heap.size + 1 + 1) (w.heap.size + 1) (.slice none 0 0) k → k = w.heap.size + 1 + 1 ∨ k = w.heap.size + 1 := fun k hk => by
    rcases hk with h | h | h
    · exact .inl h
    · exact .inr h
    · cases h
  refine ⟨⟨cell_of (i := 0) b2, cell_of (i := 1) b2, cell_of (i := 2) b2, fun i => frozen_of b2, by omega, by omega, ⟨by omega, fun i hi => ?_⟩, fun i => frozen_of b1, by omega, World.ownsRow_nil _ _ _ _, by omega, (fun e => by cases e), (fun e => by cases e)⟩,
    ⟨Tab.empty _ _ _ List.nodup_nil, by simp, by simp, by simp⟩, .inl ⟨rfl, rfl, rfl⟩, (fun g e => by cases e), cell_of (i := 0) a3, cell_of (i := 1) a3, fun i => frozen_of a3, (fun h => by have := hmine _ h; omega), by omega, (fun g e => by cases e), (fun g e => by cases e),
    cell_of (i := 0) b0, cell_of (i := 1) b0, fun i => frozen_of b0, (fun h => by have := hmine _ h; omega), by omega, by omega, by omega, hbel⟩
  rw [pg_rep, cell_of b1, List.getElem?_toArray, List.getElem?_replicate, if_pos (by simpa using hi)]

def BuildEnd (w : World) (ops : List Nd) (e : Ending) (w' : World) : Prop :=
  ∃ b A cap, e = .returned (.tuple #[.pointer (some ⟨b, 0, none⟩), .agg #[.int .i64 60, .slice A (bld ops).length cap], .bool true]) ∧ ArRd w' b (bld ops) ∧ RefAt w' A cap (bld ops) ∧ Below w.heap.size w w'

set_option maxRecDepth 100000 in
set_option maxHeartbeats 2000000 in
theorem build_long (A : Option Addr) (cap : Nat) (ops : List Nd) (w : World) (hl : 60 < ops.length) (hm : ops.length ≤ maxLen) :
    Calls Try.prog 9 #[.slice A ops.length cap] w fun e w' => e = .returned (.tuple #[.pointer none, .agg #[.int .i64 60, .slice none 0 0], .bool false]) ∧ Below w.heap.size w w' := by
  unfold maxLen at hm
  have hl' : (ops.length : Int) > 60 := by omega
  go_enter Try.func9, Try.ntmps9
  go_wp2_with (first
    | (go_at_call 27; refine (new_any _).mono ?_; rintro e w1 ⟨rfl, rfl⟩)
    | (go_at_call 28; refine (rnew_any _).mono ?_; rintro e w2 ⟨rfl, hb⟩))
  have hi := binv_start w w2 hb
  have s0 := hi.s0
  have s1 := hi.s1
  have f0 := hi.fs 0
  have f1 := hi.fs 1
  have r0 := hi.r0
  have r1 := hi.r1
  have hb9 := hi.bel
  clear hi hb
  generalize w2.alloc (.cells #[.int .i64 60, .slice none 0 0] 27) = w3 at *
  generalize w2.heap.size = rb at *
  go_region
  go_wp2_with fail
  exact bodyPost_ret (v := .tuple #[.pointer none, .agg #[.int .i64 60, .slice none 0 0], .bool false]) (by simp [results, Try.results9, go_sem, s0, s1]) rfl ⟨rfl, (hb9.drew.setCell (p := ⟨w.heap.size, 0, none⟩) (Nat.le_refl _) _).setCell (p := ⟨w.heap.size, 1, none⟩) (Nat.le_refl _) _⟩

set_option maxRecDepth 100000 in
set_option maxHeartbeats 2000000 in
theorem build_some (ob off : Nat) (cap : Nat) (ops : List Nd) (w : World) (hl : ops.length ≤ 60) (hpos : 0 < ops.length) (hr : OpsRd w (some ⟨ob, off, none⟩) ops) :
    Calls Try.prog 9 #[.slice (some ⟨ob, off, none⟩) ops.length cap] w (BuildEnd w ops) := by
  obtain ⟨ob', off', e, hob, hcells⟩ := hr hpos
  cases e
  have hl' : ¬ (ops.length : Int) > 60 := by omega
  have hfin : ∀ b A cap' w', ArRd w' b (bld ops) → RefAt w' A cap' (bld ops) → Below w.heap.size w w' → BuildEnd w ops (.returned (.tuple #[.pointer (some ⟨b, 0, none⟩), .agg #[.int .i64 60, .slice A (bld ops).length cap'], .bool true])) w' := fun b A cap' w' h1 h2 h3 => ⟨b, A, cap', rfl, h1, h2, h3⟩
  have hfinh := Lib.hid hfin
  have hcellsh := Lib.hid hcells
  generalize BuildEnd w ops = R at *
  clear hfin hr hcells
  go_enter Try.func9, Try.ntmps9
  go_wp2_with (first
    | (go_at_call 27; refine (new_any _).mono ?_; rintro e w1 ⟨rfl, rfl⟩)
    | (go_at_call 28; refine (rnew_any _).mono ?_; rintro e w2 ⟨rfl, hb⟩))
  have hi := binv_start w w2 hb
  clear hb
  have hbl : bld (ops.take 0) = [] := rfl
  have hi2 : BInv w (w.heap.size + 1 + 1) w2.heap.size (bld (ops.take 0)) (bld (ops.take 0)) none 0 (w.heap.size + 1) (List.replicate 16 0) (.slice none 0 0) (w2.alloc (.cells #[.int .i64 60, .slice none 0 0] 27)) := hi
  clear hbl hi
  generalize w2.alloc (.cells #[.int .i64 60, .slice none 0 0] 27) = w3 at *
  generalize w2.heap.size = rb at *
  generalize w.heap.size + 1 + 1 = b at *
  have hiH := Lib.hid hi2
  clear hi2
  go_loopw [26] (fun p wr => ∃ (k : Nat), k ≤ ops.length ∧ p = .int .i64 k ∧ ∃ A cap' pb ps vA, BInv w b rb (bld (ops.take k)) (bld (ops.take k)) A cap' pb ps vA wr) (fun p _ => ops.length - (intOf p).toNat)
  case atStart => exact ⟨0, by omega, rfl, _, _, _, _, _, hiH.out⟩
  case round =>
    obtain ⟨k, hk, rfl, A, cap', pb, ps, vA, hI⟩ := hrel
    by_cases hkl : k < ops.length
    · obtain ⟨u0, u1, u2⟩ := hcellsh.out k hkl
      replace u0 := (hI.bel.cell (p := ⟨ob, off + k * 3, none⟩) hob).trans u0
      replace u1 := (hI.bel.cell (p := ⟨ob, off + k * 3 + 1, none⟩) hob).trans u1
      replace u2 := (hI.bel.cell (p := ⟨ob, off + k * 3 + 2, none⟩) hob).trans u2
      have hk0 : (k : Int) < (ops.length : Int) := by omega
      have hk1 : (0 : Int) ≤ (k : Int) := by omega
      have hk2 : (k : Int) ≤ 60 := by omega
      have hsn := bld_snoc ops k hkl
      have hLf : ((bld (ops.take k)).length : Int) ≤ 60 := by
        have := (bld_facts (ops.take k)).2.2
        omega
      generalize bld (ops.take k) = L at *
      generalize ops[k] = o at *
      obtain ⟨ov, ol, oh⟩ := o
      simp only at u0 u1 u2 hsn
      have hI1 := hI.below ((Below.refl _ _).alloc (Nat.le_refl _) (.cells #[.int .i64 ov, .int .i64 ol, .int .i64 oh] 60))
      have r0 := hI1.r0
      have r1 := hI1.r1
      have cR := rmk_any 60 A cap' L (by omega) hLf ov ol oh _ hI1.ref
      have k0 := cell_new3 wr (.int .i64 ov) (.int .i64 ol) (.int .i64 oh) 60 0
      have k1 := cell_new3 wr (.int .i64 ov) (.int .i64 ol) (.int .i64 oh) 60 1
      have k2 := cell_new3 wr (.int .i64 ov) (.int .i64 ol) (.int .i64 oh) 60 2
      simp only [List.getElem?_toArray, List.getElem?_cons_succ, List.getElem?_cons_zero] at k0 k1 k2
      have hbo : wr.heap.size < (wr.alloc (.cells #[.int .i64 ov, .int .i64 ol, .int .i64 oh] 60)).heap.size := by simp
      have hbr : rb ≠ wr.heap.size := by have := hI.rl; omega
      have hrl1 := hI1.rl
      have cM : ∀ W pb ps vA, ArW W w.heap.size b pb 60 L ps vA → w.heap.size ≤ W.heap.size → TabOk L ps → Calls Try.prog 30 #[.pointer (some ⟨b, 0, none⟩), .int .i64 ov, .int .i64 ol, .int .i64 oh] W (MkEnd W w.heap.size b pb 60 vA (mkL 60 L ov ol oh)) := fun W pb ps vA h1 h2 h3 => mk_any h1 h2 h3 hLf (by omega) ov ol oh
      unfold RMkEnd at cR
      unfold MkEnd at cM
      generalize mkL 60 L ov ol oh = r at *
      obtain ⟨L', x⟩ := r
      simp only at cR cM hsn
      have hsnh := Lib.hid hsn
      clear hsn hI
      obtain ⟨w1, hw1⟩ : ∃ w1, wr.alloc (.cells #[.int .i64 ov, .int .i64 ol, .int .i64 oh] 60) = w1 := ⟨_, rfl⟩
      rw [hw1] at hI1 r0 r1 cR k0 k1 k2 hbo hrl1
      go_wp2_with (first
        | (go_at_call 29; refine cR.mono ?_; clear cR; rintro e w4 ⟨A', c', er, rfl, href, hb4, hA'⟩
           have hI4 := hI1.below hb4
           have e0 := hI4.r0
           have e1 := hI4.r1
           have ef0 := hI4.fr 0
           have ef1 := hI4.fr 1
           have hrl4 := hI4.rl
           have l0 := (hb4.cell (p := ⟨wr.heap.size, 0, none⟩) hbo).trans k0
           have l1 := (hb4.cell (p := ⟨wr.heap.size, 1, none⟩) hbo).trans k1
           have l2 := (hb4.cell (p := ⟨wr.heap.size, 2, none⟩) hbo).trans k2
           have hbo4 := Nat.lt_of_lt_of_le hbo hb4.size)
        | (go_at_call 30
           have hI5 := (hI1.mkref hb4 href hA').below ((Below.refl _ _).alloc (Nat.le_refl _) (.cells #[.int .i64 60, .slice A' L'.length c'] 27))
           refine (cM _ _ _ _ hI5.ar hI5.bel.size hI5.tab).mono ?_
           rintro e w6 ⟨y, pb', ps', vA', rfl, ha', ht', tt'⟩
           have hI6 := Lib.hid (hI5.turned tt' ha' ht')
           clear hI5 ha' ht' tt'))
      go_roundw
      case rel => exact ⟨k + 1, by omega, by go_num, A', c', pb', ps', vA', by rw [hsnh.out]; exact hI6.out⟩
      case measure => simp [intOf]; omega
    · obtain rfl : k = ops.length := by omega
      have r0 := hI.r0
      have r1 := hI.r1
      have s0 := hI.s0
      have s1 := hI.s1
      have f0 := hI.fs 0
      have f1 := hI.fs 1
      rw [List.take_length] at hI r1
      have hIh := Lib.hid hI
      clear hI
      go_wp2_with fail
      go_region
      go_wp2_with fail
      have hI := hIh.out
      have hsm := hI.sm
      exact bodyPost_ret (v := .tuple #[.pointer (some ⟨b, 0, none⟩), .agg #[.int .i64 60, .slice A (bld ops).length cap'], .bool true]) (by simp [results, Try.results9, go_sem, s0, s1]) rfl
        (hfinh.out b A cap' _ ((((hI.ar.set ⟨w.heap.size, 0, none⟩ _ hsm).set ⟨w.heap.size, 1, none⟩ _ hsm).rd (by have := (bld_facts ops).2.2; omega)).below (Nat.le_refl _) (Below.refl _ _).drew) ((hI.ref.set ⟨w.heap.size, 0, none⟩ _ (fun g e => (hI.sg g e).symm)).set ⟨w.heap.size, 1, none⟩ _ (fun g e => (hI.sg g e).symm)) ((hI.bel.drew.setCell (p := ⟨w.heap.size, 0, none⟩) (Nat.le_refl _) _).setCell (p := ⟨w.heap.size, 1, none⟩) (Nat.le_refl _) _))

set_option maxRecDepth 100000 in
set_option maxHeartbeats 2000000 in
theorem build_none (A : Option Addr) (cap : Nat) (w : World) : Calls Try.prog 9 #[.slice A 0 cap] w (BuildEnd w []) := by
  have hfin : ∀ b A cap' w', ArRd w' b [] → RefAt w' A cap' [] → Below w.heap.size w w' → BuildEnd w [] (.returned (.tuple #[.pointer (some ⟨b, 0, none⟩), .agg #[.int .i64 60, .slice A 0 cap'], .bool true])) w' := fun b A cap' w' h1 h2 h3 => ⟨b, A, cap', rfl, h1, h2, h3⟩
  have hfinh := Lib.hid hfin
  generalize BuildEnd w [] = R at *
  clear hfin
  go_enter Try.func9, Try.ntmps9
  go_wp2_with (first
    | (go_at_call 27; refine (new_any _).mono ?_; rintro e w1 ⟨rfl, rfl⟩)
    | (go_at_call 28; refine (rnew_any _).mono ?_; rintro e w2 ⟨rfl, hb⟩))
  have hi := binv_start w w2 hb
  clear hb
  generalize w2.alloc (.cells #[.int .i64 60, .slice none 0 0] 27) = w3 at *
  generalize w2.heap.size = rb at *
  generalize w.heap.size + 1 + 1 = b at *
  have hiH := Lib.hid hi
  have r0 := hi.r0
  have r1 := hi.r1
  have s0 := hi.s0
  have s1 := hi.s1
  have f0 := hi.fs 0
  have f1 := hi.fs 1
  clear hi
  refine wp_loop_rounds 1 ?_
  rw [rounds_succ]
  go_wp2_with fail
  go_region
  go_wp2_with fail
  have hI := hiH.out
  have hsm := hI.sm
  exact bodyPost_ret (v := .tuple #[.pointer (some ⟨b, 0, none⟩), .agg #[.int .i64 60, .slice none 0 0], .bool true]) (by simp [results, Try.results9, go_sem, s0, s1]) rfl
    (hfinh.out b none 0 _ ((((hI.ar.set ⟨w.heap.size, 0, none⟩ _ hsm).set ⟨w.heap.size, 1, none⟩ _ hsm).rd (by simp)).below (Nat.le_refl _) (Below.refl _ _).drew) (.inl ⟨rfl, rfl, rfl⟩) ((hI.bel.drew.setCell (p := ⟨w.heap.size, 0, none⟩) (Nat.le_refl _) _).setCell (p := ⟨w.heap.size, 1, none⟩) (Nat.le_refl _) _))

theorem build_any (A : Option Addr) (cap : Nat) (ops : List Nd) (w : World) (hl : ops.length ≤ 60) (hr : OpsRd w A ops) : Calls Try.prog 9 #[.slice A ops.length cap] w (BuildEnd w ops) := by
  by_cases hp : 0 < ops.length
  · obtain ⟨b, off, rfl, _⟩ := hr hp
    exact build_some b off cap ops w hl hp hr
  · have : ops = [] := List.eq_nil_of_length_eq_zero (by omega)
    subst this
    exact build_none A cap w

theorem few_any (A : Option Addr) (cap n : Nat) (w : World) (hm : n ≤ maxLen) : Calls Try.prog 10 #[.slice A n cap] w fun e w' => e = .returned (.bool (decide (n ≤ 24))) ∧ w = w' := by
  unfold maxLen at hm
  have hd : decide ((n : Int) ≤ 24) = decide (n ≤ 24) := by rw [Bool.eq_iff_iff]; simp; omega
  rw [← hd]
  clear hd
  go_enter Try.func10, Try.ntmps10
  go_wp2
  go_ret
  exact ⟨rfl, rfl⟩
end Go.Proofs.Yteifllgcpickhaa
