/- count: the nodes that a row of Ops makes, without any program -/
import Derived.Test.YteifllgcpickhaaZ
namespace Go.Proofs.Yteifllgcpickhaa
open Go.RowKit

/-- the nodes that Ops make -/
def bld (ops : List Nd) : List Nd := ops.foldl (fun l o => (mkL 60 l o.v o.lo o.hi).1) []
theorem bld_snoc (ops : List Nd) (k : Nat) (h : k < ops.length) : bld (ops.take (k + 1)) = (mkL 60 (bld (ops.take k)) ops[k].v ops[k].lo ops[k].hi).1 := by
  unfold bld
  rw [List.take_succ_eq_append_getElem h, List.foldl_append]
  rfl

theorem hasB_snoc {l : List Nd} {n : Nd} {f : Int} (h : hasB l f = true) : hasB (l ++ [n]) f = true := by
  unfold hasB at *
  simp at *
  omega
theorem varOf_snoc {l : List Nd} {n : Nd} {f : Int} (h : hasB l f = true) : varOf (l ++ [n]) f = varOf l f := by
  have := hasB_range h
  unfold varOf
  by_cases h0 : 0 ≤ f
  · rw [if_pos ⟨h0, by simp; omega⟩, if_pos ⟨h0, this.2⟩, List.getElem?_append_left (by omega)]
  · rw [if_neg (by omega), if_neg (by omega)]
theorem mkL_wf {lim : Int} {l : List Nd} (h : WF l) (v lo hi : Int) : WF (mkL lim l v lo hi).1 := by
  unfold mkL
  split
  · exact h
  · rename_i hk
    split
    · exact h
    · split
      · exact h
      · split
        · exact h
        · intro i hi'
          have hk' : okMk l v lo hi := by simpa using hk
          obtain ⟨h1, h2, h3, h4, h5, h6⟩ := hk'
          simp only
          by_cases hl : i < l.length
          · obtain ⟨g1, g2, g3, g4, g5, g6⟩ := h i hl
            rw [List.getElem_append_left hl]
            exact ⟨g1, g2, hasB_snoc g3, hasB_snoc g4, by rw [varOf_snoc g3]; exact g5, by rw [varOf_snoc g4]; exact g6⟩
          · have e : i = l.length := by simp at hi'; omega
            subst e
            simp only [List.getElem_concat_length]
            exact ⟨h1, h2, hasB_snoc h3, hasB_snoc h4, by rw [varOf_snoc h3]; exact h5, by rw [varOf_snoc h4]; exact h6⟩
theorem mkL_len (lim : Int) (l : List Nd) (v lo hi : Int) : l.length ≤ (mkL lim l v lo hi).1.length ∧ (mkL lim l v lo hi).1.length ≤ l.length + 1 ∧ ((l.length : Int) ≤ lim → ((mkL lim l v lo hi).1.length : Int) ≤ lim) := by
  unfold mkL
  split
  · simp
  · split
    · simp
    · split
      · simp
      · split
        · simp
        · simp; omega
theorem wf_nil : WF [] := fun i h => by simp at h
theorem bld_facts (ops : List Nd) : WF (bld ops) ∧ (bld ops).length ≤ ops.length ∧ (bld ops).length ≤ 60 := by
  have : ∀ k, k ≤ ops.length → WF (bld (ops.take k)) ∧ (bld (ops.take k)).length ≤ k ∧ (bld (ops.take k)).length ≤ 60 := by
    intro k
    induction k with
    | zero => intro _; exact ⟨by simp [bld]; exact wf_nil, by simp [bld], by simp [bld]⟩
    | succ k ih =>
      intro hk
      obtain ⟨h1, h2, h3⟩ := ih (by omega)
      rw [bld_snoc ops k (by omega)]
      have := mkL_len 60 (bld (ops.take k)) ops[k].v ops[k].lo ops[k].hi
      exact ⟨mkL_wf h1 _ _ _, by omega, by omega⟩
  have h := this ops.length (Nat.le_refl _)
  rwa [List.take_length] at h
end Go.Proofs.Yteifllgcpickhaa
