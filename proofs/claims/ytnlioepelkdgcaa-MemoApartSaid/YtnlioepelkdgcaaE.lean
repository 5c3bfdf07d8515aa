/- memo: the walks of Len, Clear -/
import Derived.Test.YtnlioepelkdgcaaD
import Derived.Lib.Hide
namespace Go.Proofs.Ytnlioepelkdgcaa
open Go.RowKit

def cnt (l : List En) : Nat := (l.filter (·.is)).length
theorem cnt_le (l : List En) : cnt l ≤ l.length := List.length_filter_le _ _
theorem cnt_take (l : List En) (k : Nat) (h : k < l.length) : cnt (l.take (k + 1)) = cnt (l.take k) + if l[k].is then 1 else 0 := by
  unfold cnt
  rw [List.take_succ_eq_append_getElem h, List.filter_append]
  by_cases e : l[k].is <;> simp [e]

theorem MemoAt.below {w w' : World} {b b2 B : Nat} {l : List En} (h : MemoAt w b b2 l) (hb : Below B w w') (h1 : b < B) (h2 : b2 < B) : MemoAt w' b b2 l :=
  ⟨(hb.block b h1).trans h.hd, (hb.block b2 h2).trans h.row, h.pos, h.most⟩

/-- a memo that may be read: its head in block b, its places in block b2 -/
structure MemoRd (w : World) (b b2 cap : Nat) (l : List En) : Prop where
  cell : w.cell? ⟨b, 0, none⟩ = some (.slice (some ⟨b2, 0, none⟩) l.length cap)
  lt : b < w.heap.size
  lt2 : b2 < w.heap.size
  at_ : ∀ i j (hi : i < l.length), j < 5 → w.cell? ⟨b2, i * 5 + j, none⟩ = (l[i]).cells[j]?
  pos : 1 ≤ l.length
  most : l.length ≤ 65536
theorem MemoAt.rd {w : World} {b b2 : Nat} {l : List En} (h : MemoAt w b b2 l) : MemoRd w b b2 l.length l := ⟨h.cell, h.lt, h.lt2, fun i j hi hj => h.at i j hi hj, h.pos, h.most⟩
theorem MemoRd.below {w w' : World} {b b2 B cap : Nat} {l : List En} (h : MemoRd w b b2 cap l) (hb : Below B w w') (h1 : b < B) (h2 : b2 < B) : MemoRd w' b b2 cap l :=
  ⟨(hb.cell (by exact h1)).trans h.cell, Nat.lt_of_lt_of_le h.lt hb.size, Nat.lt_of_lt_of_le h.lt2 hb.size, fun i j hi hj => (hb.cell (by exact h2)).trans (h.at_ i j hi hj), h.pos, h.most⟩

theorem size_rd (b b2 cap : Nat) (l : List En) (w : World) (h : MemoRd w b b2 cap l) :
    Calls Try.prog 18 #[.pointer (some ⟨b, 0, none⟩)] w fun e w' => e = .returned (.int .i64 l.length) ∧ w = w' := by
  have hc := h.cell
  clear h
  go_enter Try.func18, Try.ntmps18
  go_wp2
  go_ret
  exact ⟨rfl, rfl⟩

set_option maxHeartbeats 1000000 in
theorem len_any (b b2 cap : Nat) (l : List En) (w : World) (h : MemoRd w b b2 cap l) :
    Calls Try.prog 12 #[.pointer (some ⟨b, 0, none⟩)] w fun e w' => e = .returned (.int .i64 (cnt l)) ∧ Below w.heap.size w w' := by
  have hc := h.cell
  have hlt := h.lt
  have hlt2 := h.lt2
  have hmost := h.most
  go_enter Try.func12, Try.ntmps12
  go_wp2
  go_loopw [3, 11] (fun n i wr => ∃ k : Nat, k ≤ l.length ∧ i = .int .i64 k ∧ n = .int .i64 (cnt (l.take k)) ∧ Below w.heap.size w wr) (fun _ i _ => l.length - (intOf i).toNat)
  case atStart => exact ⟨0, Nat.zero_le _, rfl, rfl, Below.refl _ _⟩
  case round =>
    obtain ⟨k, hk, rfl, rfl, hB⟩ := hrel
    have hcl := cnt_le (l.take k)
    have hct : (l.take k).length ≤ k := List.length_take_le _ _
    have hM := h.below hB hlt hlt2
    have hsz := hB.size
    have hg2 : b2 < wr.heap.size := by omega
    clear h
    by_cases hlt : k < l.length
    · have c0 := hM.at_ _ 0 hlt (by omega)
      have c1 := hM.at_ _ 1 hlt (by omega)
      have c2 := hM.at_ _ 2 hlt (by omega)
      have c3 := hM.at_ _ 3 hlt (by omega)
      have c4 := hM.at_ _ 4 hlt (by omega)
      simp only [En.cells, Nat.add_zero, List.getElem?_cons_zero, List.getElem?_cons_succ] at c0 c1 c2 c3 c4
      have hnext := cnt_take l k hlt
      have HN := Lib.hid hnext
      clear hnext
      go_wp2
      · have h1 : l[k].is = true := by assumption
        go_roundw
        case rel => exact ⟨k + 1, by omega, by go_num, by rw [HN.out, if_pos h1]; go_num, hB.alloc hsz _⟩
        case measure => simp [intOf]; omega
      · have h1 : l[k].is = false := by assumption
        go_roundw
        case rel => exact ⟨k + 1, by omega, by go_num, by rw [HN.out, if_neg (by simp [h1])]; go_num, hB.alloc hsz _⟩
        case measure => simp [intOf]; omega
    · have hk2 : k = l.length := by omega
      have HK := Lib.hid hk2
      clear hk2
      go_wp2
      go_ret
      refine ⟨?_, hB⟩
      rw [HK.out, List.take_of_length_le (Nat.le_refl _)]; rfl

theorem heap_setCells (b : Nat) (t : TypeId) : ∀ (vs cs : List Value) (o : Nat) (w : World), w.heap[b]? = some (.cells cs.toArray t (0, 0)) → o + vs.length ≤ cs.length →
    (w.setCells b o vs).heap[b]? = some (.cells (cs.take o ++ vs ++ cs.drop (o + vs.length)).toArray t (0, 0))
  | [], cs, o, w, h, _ => by simp [World.setCells, h]
  | v :: r, cs, o, w, h, hl => by
    have hl' : o + r.length + 1 ≤ cs.length := by simpa [Nat.add_assoc] using hl
    rw [World.setCells]
    have h1 : (w.setCell ⟨b, o, none⟩ v).heap[b]? = some (.cells (cs.set o v).toArray t (0, 0)) := by
      rw [heap_setCell_same w b o _ t v h]; simp
    rw [heap_setCells b t r (cs.set o v) (o + 1) _ h1 (by simp; omega)]
    have e1 : (cs.set o v).take (o + 1) = cs.take o ++ [v] := by
      rw [List.take_succ_eq_append_getElem (by simp; omega), List.take_set, List.set_eq_of_length_le (by simp; omega)]
      simp
    have e2 : (cs.set o v).drop (o + 1 + r.length) = cs.drop (o + (r.length + 1)) := by
      rw [List.drop_set, if_pos (by omega)]; congr 1; omega
    rw [e1, e2]; simp

theorem grownBy_setCells (b : Nat) : ∀ (vs : List Value) (o : Nat) (w : World), w.grownBy (w.setCells b o vs) (some b)
  | [], _, w => World.grownBy.refl w _
  | v :: r, o, w => by
    rw [World.setCells]
    exact grownBy_trans (grownBy_setCell1 w b o v) (grownBy_setCells b r (o + 1) _)

theorem zero_cells (n : Nat) : (Builtin.zeroCells #[.bool false, .int .i64 0, .int .i64 0, .int .i64 0, .int .i64 0] n) = (encs (List.replicate n E0)).toArray := by
  rw [encs_E0]; rfl

theorem clear_run (b2 : Nat) (l : List En) (w : World) (ty : TypeId) (hp : 1 ≤ l.length) (h : w.heap[b2]? = some (.cells (encs l).toArray 50 (0, 0))) :
    ∃ w', (Builtin.clear_ #[46] ty #[.slice (some ⟨b2, 0, none⟩) l.length l.length]).run Try.prog w = .ok (.tuple #[]) w' ∧
      w'.heap[b2]? = some (.cells (encs (List.replicate l.length E0)).toArray 50 (0, 0)) ∧ w.grownBy w' (some b2) := by
  have hlen : (encs (List.replicate l.length E0)).length = l.length * 5 := by rw [encs_len]; simp
  have hlen2 := encs_len l
  refine ⟨w.setCells b2 0 (encs (List.replicate l.length E0)), ?_, ?_, grownBy_setCells _ _ _ _⟩
  · have hst := run_storeCells_cells (P := Try.prog) b2 0 (encs (List.replicate l.length E0)) 0 w
      (fun j hj => by simp only [World.cell?, h]; simp; omega) (fun j hj => by simp [World.frozen?, h]) (fun v hv => by
        simp only [encs, List.mem_flatMap] at hv
        obtain ⟨e, he, hv⟩ := hv
        simp [En.cells] at hv
        rcases hv with rfl | rfl | rfl | rfl | rfl <;> rfl)
    obtain ⟨m, hm⟩ : ∃ m, l.length = m + 1 := ⟨l.length - 1, by omega⟩
    rw [hm] at hst ⊢
    have hz : ∀ w, (zeroValue 50).run Try.prog w = .ok (.agg #[.bool false, .int .i64 0, .int .i64 0, .int .i64 0, .int .i64 0]) w := fun _ => by kernel_rfl
    simp only [Builtin.clear_, List.getElem?_toArray, List.getElem?_cons_zero, Sem.run_bind, run_underlying Try.underlying46, Result.andThen_ok, hz, Value.cells, zero_cells, hst, Sem.run_pure]
  · rw [heap_setCells b2 50 _ (encs l) 0 w h (by rw [hlen, hlen2]; omega), hlen, List.drop_of_length_le (by rw [hlen2]; omega)]
    simp

theorem clear_any (b b2 : Nat) (l : List En) (w : World) (h : MemoAt w b b2 l) :
    Calls Try.prog 20 #[.pointer (some ⟨b, 0, none⟩)] w fun e w' => e = .returned (.tuple #[]) ∧ MemoAt w' b b2 (List.replicate l.length E0) ∧ w.grownBy w' (some b2) := by
  have hc := h.cell
  obtain ⟨w1, hrun, hrow, hg⟩ := clear_run b2 l w 0 h.pos h.row
  have fin : MemoAt w1 b b2 (List.replicate l.length E0) ∧ w.grownBy w1 (some b2) :=
    ⟨⟨by rw [hg.block b h.lt (fun e => h.ne (by injection e)), h.hd]; simp, hrow, by simpa using h.pos, by simpa using h.most⟩, hg⟩
  clear h hrow hg
  go_enter Try.func20, Try.ntmps20
  go_wp2
  go_end0
  exact ⟨rfl, fin⟩

theorem encs_at (l : List En) (w : World) (b2 : Nat) (hat : ∀ i j (hi : i < l.length), j < 5 → w.cell? ⟨b2, i * 5 + j, none⟩ = (l[i]).cells[j]?) (k : Nat) (u : Value) (h : (encs l)[k]? = some u) :
    w.cell? ((⟨b2, 0, none⟩ : Addr).add k) = some u := by
  have hk : k < l.length * 5 := by
    rw [← encs_len]; exact (List.getElem?_eq_some_iff.1 h).1
  have h1 : k / 5 < l.length := by omega
  have h2 := encs_get l (k / 5) h1 (k % 5) (Nat.mod_lt _ (by omega))
  have h3 := hat (k / 5) (k % 5) h1 (Nat.mod_lt _ (by omega))
  rw [show k / 5 * 5 + k % 5 = k by omega] at h2 h3
  rw [Addr.add_mid, Nat.zero_add, h3, ← h2, h]

theorem encs_one (l : List En) (v : Value) (hv : v ∈ encs l) : v.oneCell' = true := by
  simp only [encs, List.mem_flatMap] at hv
  obtain ⟨e, _, hv⟩ := hv
  simp [En.cells] at hv
  rcases hv with rfl | rfl | rfl | rfl | rfl <;> rfl

def CloneEnd (w : World) (l : List En) (e : Ending) (w' : World) : Prop := ∃ g c, e = .returned (.slice (some ⟨g, 0, none⟩) l.length c) ∧ w.heap.size ≤ g ∧ g < w'.heap.size ∧
      (∀ i j (hi : i < l.length), j < 5 → w'.cell? ⟨g, i * 5 + j, none⟩ = (l[i]).cells[j]?) ∧ Below w.heap.size w w'

theorem clone_end (w w1 : World) (l : List En) (v : Value) (hp : 1 ≤ l.length) (hown : w1.ownsRow w.heap.size 50 5 v (0 + l.length) ([] ++ encs l)) (hg : (w.alloc (.cells #[] 50)).grownBy w1 (some w.heap.size)) :
    CloneEnd w l (.returned v) w1 := by
  rw [Nat.zero_add, List.nil_append] at hown
  obtain ⟨g, cap, rfl, hg1, hg2⟩ : ∃ g cap, v = .slice (some ⟨g, 0, none⟩) l.length cap ∧ w.heap.size ≤ g ∧ g < w1.heap.size := by
    rcases hown.2 with ⟨_, h0⟩ | ⟨g, cap, cur, hv, hg1, hh, _⟩
    · omega
    · exact ⟨g, cap, hv, hg1, (Array.getElem?_eq_some_iff.1 hh).1⟩
  refine ⟨g, cap, rfl, hg1, hg2, fun i j hi hj => ?_, ((Below.refl _ _).alloc (Nat.le_refl _) _).grown hg (by simp) (fun k hk => by injection hk with hk; omega)⟩
  have h1 := encs_get l i hi j hj
  rw [← h1]
  have hlt : i * 5 + j < (encs l).length := by rw [encs_len]; omega
  have := hown.cells (g := g) rfl (i * 5 + j) _ (List.getElem?_eq_getElem hlt)
  rw [Addr.add_mid, Nat.zero_add] at this
  rw [this, List.getElem?_eq_getElem hlt]

set_option maxHeartbeats 1000000 in
theorem clone_any (b2 cap : Nat) (l : List En) (w : World) (hp : 1 ≤ l.length) (hm : l.length ≤ 65536) (hlt2 : b2 < w.heap.size) (hat : ∀ i j (hi : i < l.length), j < 5 → w.cell? ⟨b2, i * 5 + j, none⟩ = (l[i]).cells[j]?) :
    Calls Try.prog 21 #[.slice (some ⟨b2, 0, none⟩) l.length cap] w (CloneEnd w l) := by
  obtain ⟨i0, hi, hz0, hz1, hz2⟩ := info_parts Try.info50
  have hen := Lib.run_eql_slice_nil (P := Try.prog) w 46 50 (some ⟨b2, 0, none⟩) l.length cap 0 0 Try.underlying46
  have hnews : ∀ k u, (encs l)[k]? = some u → (w.alloc (.cells #[] 50)).cell? ((⟨b2, 0, none⟩ : Addr).add k) = some u := fun k u hk => by
    rw [World.cell?_alloc_lt _ _ _ (by rw [Addr.add_mid]; exact hlt2)]; exact encs_at l w b2 hat k u hk
  have hone := encs_one l
  have hlen := Lib.hid (encs_len l)
  have hfin := clone_end w
  clear hat
  go_enter Try.func21, Try.ntmps21
  go_wp2_with (at_builtin; refine wpList_append_own _ rfl (.tmp 5) (.tmp 6) 46 rfl w.heap.size 50 i0 _ 5 40 Try.underlying46 hi hz0 hz1 hz2 rfl (by decide) _ 0 [] rfl (World.ownsRow_made w #[] 0 (Nat.le_refl _) (by simp [maxLen]) rfl) ⟨b2, 0, none⟩ l.length cap (encs l) rfl hlen.out hnews hone (by unfold maxLen; omega) (by omega) (by simp) ?_; intro v' w1 hown' hgrow _)
  go_ret
  exact hfin w1 l v' hp hown' hgrow

def CopyEnd (w : World) (l : List En) (e : Ending) (w' : World) : Prop := ∃ g g2 c, e = .returned (.pointer (some ⟨g, 0, none⟩)) ∧ w.heap.size ≤ g ∧ w.heap.size ≤ g2 ∧ MemoRd w' g g2 c l ∧ Below w.heap.size w w'

set_option maxHeartbeats 1000000 in
theorem copy_any (b b2 cap : Nat) (l : List En) (w : World) (h : MemoRd w b b2 cap l) :
    Calls Try.prog 19 #[.pointer (some ⟨b, 0, none⟩)] w (CopyEnd w l) := by
  have hc := h.cell
  have hcl := clone_any b2 cap l w h.pos h.most h.lt2 h.at_
  have hpos := h.pos
  have hmost := h.most
  have fin : ∀ g c w1, w.heap.size ≤ g → g < w1.heap.size → (∀ i j (hi : i < l.length), j < 5 → w1.cell? ⟨g, i * 5 + j, none⟩ = (l[i]).cells[j]?) → Below w.heap.size w w1 →
      CopyEnd w l (.returned (.pointer (some ⟨w1.heap.size, 0, none⟩))) (w1.alloc (.cells #[.slice (some ⟨g, 0, none⟩) l.length c] 48)) := fun g c w1 h1 h2 h3 h4 =>
    ⟨w1.heap.size, g, c, rfl, h4.size, h1, ⟨by simp, by simp, by simp; omega, fun i j hi hj => by rw [World.cell?_alloc_lt _ _ _ (by exact h2)]; exact h3 i j hi hj, hpos, hmost⟩, h4.alloc h4.size _⟩
  clear h
  go_enter Try.func19, Try.ntmps19
  go_wp2_with (go_at_call 21; refine hcl.mono ?_; rintro e w1 ⟨g, c, rfl, hg1, hg2, hg3, hg4⟩)
  go_ret
  exact fin g c w1 hg1 hg2 hg3 hg4
end Go.Proofs.Ytnlioepelkdgcaa
