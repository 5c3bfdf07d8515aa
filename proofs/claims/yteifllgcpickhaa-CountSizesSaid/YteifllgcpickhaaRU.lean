/- count: appends of ints, as runs -/
import Derived.Test.YteifllgcpickhaaRG
namespace Go.Proofs.Yteifllgcpickhaa
open Go.RowKit

/-- a source of ints, as it lies at W -/
def SrcAt (W : World) (B : Nat) (src : Value) (ys : List Int) : Prop :=
  (src = .slice none 0 0 ∧ ys = []) ∨ ∃ ad c, src = .slice (some ad) ys.length c ∧ ad.block < B ∧ ∀ j u, (ys.map (Value.int .i64))[j]? = some u → W.cell? (ad.add j) = some u
theorem add_block (ad : Addr) (j : Nat) : (ad.add j).block = ad.block := by unfold Addr.add; split <;> rfl
theorem SrcAt.below {W W' : World} {B : Nat} {src : Value} {ys : List Int} (h : SrcAt W B src ys) (hb : Below B W W') : SrcAt W' B src ys := by
  rcases h with h | ⟨ad, c, h1, h2, h3⟩
  · exact .inl h
  · exact .inr ⟨ad, c, h1, h2, fun j u hu => (hb.cell (by rw [add_block]; exact h2)).trans (h3 j u hu)⟩

theorem app_run {W : World} {n0 B : Nat} {v src : Value} {xs ys : List Int} (hn0 : n0 ≤ W.heap.size) (ho : OwnInts W n0 v xs) (hs : SrcAt W B src ys) (hl : xs.length + ys.length ≤ 100000) :
    ∃ v' w', (Builtin.append_ #[39, 39] 39 #[v, src]).run Try.prog W = .ok v' w' ∧ OwnInts w' n0 v' (xs ++ ys) ∧ W.grownBy w' v.ownBlock ∧ (v'.ownBlock = v.ownBlock ∨ v'.ownBlock = some W.heap.size) := by
  obtain ⟨i0, hi0, hz0, hz1, hz2⟩ := info_parts Try.info3
  rcases hs with ⟨rfl, rfl⟩ | ⟨ad, c, rfl, _, hc⟩
  · exact ⟨v, W, run_append_owned_none (P := Try.prog) (w := W) n0 39 39 3 i0 1 Try.underlying39 hi0 v xs.length (xs.map (.int .i64)) ho, by rw [List.append_nil]; exact ho, World.grownBy.refl _ _, .inl rfl⟩
  · obtain ⟨v', w', hrun, hown', hgrow, _, hat⟩ := run_append_own_at (P := Try.prog) W n0 39 39 3 i0 _ 1 8 Try.underlying39 hi0 hz0 hz1 hz2 rfl (by decide) v _ _ ho ad ys.length c (ys.map (.int .i64)) (by simp) hc (by intro u hu; obtain ⟨x, _, rfl⟩ := List.mem_map.1 hu; rfl) (by unfold maxLen; omega) (by omega) hn0
    exact ⟨v', w', hrun, by unfold OwnInts; rw [List.length_append, List.map_append]; exact hown', hgrow, hat⟩

/-- append([]int{t}, src...) -/
theorem rest_run {wz : World} {n0 B : Nat} {src : Value} {t : Int} {ys : List Int} (hn0 : n0 ≤ wz.heap.size) (hB : B ≤ wz.heap.size) (hs : SrcAt wz B src ys) (hl : ys.length ≤ 5000) :
    ∃ vr wy, (Builtin.append_ #[39, 39] 39 #[.slice (some ⟨wz.heap.size, 0, none⟩) 1 1, src]).run Try.prog (wz.alloc (.cells #[.int .i64 t] 3)).drew = .ok vr wy ∧ OwnInts wy n0 vr (t :: ys) ∧ Below wz.heap.size wz wy := by
  have hb : Below wz.heap.size wz (wz.alloc (.cells #[.int .i64 t] 3)).drew := ((Below.refl _ _).alloc (Nat.le_refl _) _).drew
  have ho : OwnInts (wz.alloc (.cells #[.int .i64 t] 3)).drew n0 (.slice (some ⟨wz.heap.size, 0, none⟩) 1 1) [t] := ⟨rfl, .inr ⟨_, 1, _, rfl, hn0, World.alloc_heap_new wz _, Nat.le_refl _, by decide, rfl, rfl⟩⟩
  obtain ⟨v', w', h1, h2, h3, _⟩ := app_run (Nat.le_trans hn0 hb.size) ho (hs.below (hb.mono hB)) (by simp; omega)
  exact ⟨v', w', h1, h2, hb.grown h3 hb.size (fun k hk => by simp [Value.ownBlock] at hk; omega)⟩

/-- append(append([]int{}, src...), rest...) -/
theorem out_run {wy : World} {n0 B : Nat} {src vr : Value} {ys rs : List Int} (hn0 : n0 ≤ wy.heap.size) (hB : B ≤ wy.heap.size) (hs : SrcAt wy B src ys) (hr : OwnInts wy n0 vr rs) (hne : rs ≠ []) (hl : ys.length + rs.length ≤ 50000) :
    ∃ v2 w7 v3 w8, (Builtin.append_ #[39, 39] 39 #[.slice (some ⟨wy.heap.size, 0, none⟩) 0 0, src]).run Try.prog (wy.alloc (.cells #[] 3)) = .ok v2 w7 ∧ (Builtin.append_ #[39, 39] 39 #[v2, vr]).run Try.prog w7 = .ok v3 w8 ∧ OwnInts w8 n0 v3 (ys ++ rs) ∧ Below wy.heap.size wy w8 := by
  have hb : Below wy.heap.size wy (wy.alloc (.cells #[] 3)) := (Below.refl _ _).alloc (Nat.le_refl _) _
  have ho : OwnInts (wy.alloc (.cells #[] 3)) n0 (.slice (some ⟨wy.heap.size, 0, none⟩) 0 0) [] := World.ownsRow_made wy #[] 0 hn0 (by decide) rfl
  obtain ⟨v2, w7, h1, h2, h3, h4⟩ := app_run (Nat.le_trans hn0 hb.size) ho (hs.below (hb.mono hB)) (by simp; omega)
  have hb7 : Below wy.heap.size wy w7 := hb.grown h3 hb.size (fun k hk => by simp [Value.ownBlock] at hk; omega)
  have hr7 : OwnInts w7 n0 vr rs := row_below hr hb7
  have hs7 : SrcAt w7 wy.heap.size vr rs := by
    rcases ints_read hr with ⟨_, h⟩ | ⟨g, c, rfl, _, hg, hc⟩
    · exact absurd h hne
    · refine .inr ⟨⟨g, 0, none⟩, c, rfl, hg, fun j u hu => ?_⟩
      exact row_news hr7 j u hu
  rw [List.nil_append] at h2
  obtain ⟨v3, w8, g1, g2, g3, _⟩ := app_run (Nat.le_trans hn0 hb7.size) h2 hs7 (by omega)
  refine ⟨v2, w7, v3, w8, h1, g1, g2, hb7.grown g3 hb7.size (fun k hk => ?_)⟩
  rcases h4 with h4 | h4
  · rw [h4] at hk
    simp [Value.ownBlock] at hk
    omega
  · rw [h4] at hk
    simp at hk
    omega

theorem wpList_append_run {P : Program} {w w1 : World} {ops : Array Oper} {rest : List Oper} {o : Oper} {a : Act} {v' : Value} {Q : Exit → Act → World → Prop} (hgd : o.guard = none) (s x : Operand) (t : TypeId)
    (ho : o.op = .call { callee := .builtin .append, args := #[s, x], argTypes := #[t, t] }) (hrun : (Builtin.append_ #[t, t] o.type #[a.eval s, a.eval x]).run P w = .ok v' w1)
    (h : wpList P ops Q rest (a.put o.dst v') w1) : wpList P ops Q (o :: rest) a w := by
  refine wpList_plain hgd fun K hK => ?_
  unfold Oper.wp
  simp [execOp, ho, resolve, invoke, builtin, hrun, Result.andThen]
  exact hK _ _ h
end Go.Proofs.Yteifllgcpickhaa
