/- count: what lies below a ref, and what it tells, without any program -/
import Derived.Test.YteifllgcpickhaaP3
namespace Go.Proofs.Yteifllgcpickhaa
open Go.RowKit

theorem dn_nodup (l : List Nd) : ∀ (n : Nat) (vis : List Int) (f : Int), vis.Nodup → (dn l n vis f).Nodup
  | 0, _, _, h => h
  | n + 1, vis, f, h => by
    unfold dn
    split
    · exact h
    · rename_i hf
      have h' : (vis ++ [f]).Nodup := by
        rw [List.nodup_append]
        exact ⟨h, by simp, fun a ha b hb => by simp at hb; subst hb; exact fun e => hf (e ▸ ha)⟩
      split
      · exact dn_nodup l n _ _ (dn_nodup l n _ _ h')
      · exact h'

/-- t lies below f -/
inductive Rch (l : List Nd) : Int → Int → Prop
  | refl (f : Int) : Rch l f f
  | low (f t : Int) : 0 ≤ f ∧ f < l.length → Rch l (l[f.toNat]?.getD default).lo t → Rch l f t
  | high (f t : Int) : 0 ≤ f ∧ f < l.length → Rch l (l[f.toNat]?.getD default).hi t → Rch l f t

theorem dn_rch (l : List Nd) : ∀ (n : Nat) (vis : List Int) (f x : Int), x ∈ dn l n vis f → x ∈ vis ∨ Rch l f x
  | 0, _, _, _, h => .inl h
  | n + 1, vis, f, x, h => by
    unfold dn at h
    split at h
    · exact .inl h
    · split at h
      · rename_i hx
        rcases dn_rch l n _ _ x h with h | h
        · rcases dn_rch l n _ _ x h with h | h
          · rcases List.mem_append.1 h with h | h
            · exact .inl h
            · simp at h; subst h; exact .inr (.refl _)
          · exact .inr (.low _ _ hx h)
        · exact .inr (.high _ _ hx h)
      · rcases List.mem_append.1 h with h | h
        · exact .inl h
        · simp at h; subst h; exact .inr (.refl _)

theorem clear_low (x a : Nat) : (x / 2 ^ (a + 1) * 2 ^ (a + 1)).testBit a = false ∧ (x / 2 ^ (a + 1) * 2 ^ (a + 1) + 2 ^ a).testBit a = true ∧ (x / 2 ^ (a + 1) * 2 ^ (a + 1)) / 2 ^ (a + 1) = x / 2 ^ (a + 1) ∧ (x / 2 ^ (a + 1) * 2 ^ (a + 1) + 2 ^ a) / 2 ^ (a + 1) = x / 2 ^ (a + 1) := by
  have hp : 0 < 2 ^ a := Nat.pow_pos (by omega)
  have hp1 : 0 < 2 ^ (a + 1) := Nat.pow_pos (by omega)
  generalize x / 2 ^ (a + 1) = q
  have e : q * 2 ^ (a + 1) = 2 * q * 2 ^ a := by rw [Nat.pow_succ, Nat.mul_comm 2 q, Nat.mul_assoc, Nat.mul_comm 2]
  have e2 : 2 * q * 2 ^ a + 2 ^ a = (2 * q + 1) * 2 ^ a := by rw [Nat.add_mul, Nat.one_mul]
  refine ⟨?_, ?_, Nat.mul_div_cancel _ hp1, ?_⟩
  · rw [e, Nat.testBit_eq_decide_div_mod_eq, Nat.mul_div_cancel _ hp]; simp
  · rw [e, e2, Nat.testBit_eq_decide_div_mod_eq, Nat.mul_div_cancel _ hp]; simp
  · rw [Nat.mul_comm q, Nat.mul_add_div hp1, Nat.div_eq_of_lt (by rw [Nat.pow_succ]; omega), Nat.add_zero]

/-- each terminal below is told for some number -/
theorem rch_walk {l : List Nd} (hW : WF l) {f t : Int} (h : Rch l f t) (ht : ¬ (0 ≤ t ∧ t < l.length)) : ∃ x : Nat, x < 4096 ∧ walkC l x 13 f = t := by
  induction h with
  | refl f => exact ⟨0, by omega, walkC_term _ ht⟩
  | low f t hx _ ih =>
    obtain ⟨v, lo, hi, e, _, hv, h1, h2, h3, h4, h5, h6⟩ := node_kids hW hx
    obtain ⟨a, rfl⟩ : ∃ a : Nat, v = a := ⟨v.toNat, by omega⟩
    obtain ⟨x, hx4, hxt⟩ := ih ht
    rw [e] at hxt
    obtain ⟨c1, c2, c3, c4⟩ := clear_low x a
    refine ⟨x / 2 ^ (a + 1) * 2 ^ (a + 1), Nat.lt_of_le_of_lt (Nat.div_mul_le_self _ _) hx4, ?_⟩
    rw [walkC_node hW _ hx e, bitOf_nat, c1, if_neg (by simp), ← hxt]
    apply walk_congr hW
    obtain ⟨p, hp⟩ : ∃ p, (varOf l lo).toNat = a + 1 + p := ⟨(varOf l lo).toNat - a - 1, by omega⟩
    rw [hp, Nat.pow_add 2 (a + 1) p, ← Nat.div_div_eq_div_mul, ← Nat.div_div_eq_div_mul, c3]
  | high f t hx _ ih =>
    obtain ⟨v, lo, hi, e, _, hv, h1, h2, h3, h4, h5, h6⟩ := node_kids hW hx
    obtain ⟨a, rfl⟩ : ∃ a : Nat, v = a := ⟨v.toNat, by omega⟩
    obtain ⟨x, hx4, hxt⟩ := ih ht
    rw [e] at hxt
    obtain ⟨c1, c2, c3, c4⟩ := clear_low x a
    have hlt : x / 2 ^ (a + 1) * 2 ^ (a + 1) + 2 ^ a < 4096 := by
      obtain ⟨d, hd⟩ : ∃ d, d + (a + 1) = 12 := ⟨11 - a, by omega⟩
      have e1 : (4096 : Nat) = 2 ^ d * 2 ^ (a + 1) := by rw [← Nat.pow_add, hd]
      have hq : x / 2 ^ (a + 1) < 2 ^ d := Nat.div_lt_of_lt_mul (by rw [Nat.mul_comm, ← e1]; exact hx4)
      have : (x / 2 ^ (a + 1) + 1) * 2 ^ (a + 1) ≤ 2 ^ d * 2 ^ (a + 1) := Nat.mul_le_mul_right _ hq
      rw [Nat.add_mul, Nat.one_mul] at this
      have hp : 2 ^ a < 2 ^ (a + 1) := by rw [Nat.pow_succ]; have : 0 < 2 ^ a := Nat.pow_pos (by omega); omega
      omega
    refine ⟨x / 2 ^ (a + 1) * 2 ^ (a + 1) + 2 ^ a, hlt, ?_⟩
    rw [walkC_node hW _ hx e, bitOf_nat, c2, if_pos rfl, ← hxt]
    apply walk_congr hW
    obtain ⟨p, hp⟩ : ∃ p, (varOf l hi).toNat = a + 1 + p := ⟨(varOf l hi).toNat - a - 1, by omega⟩
    rw [hp, Nat.pow_add 2 (a + 1) p, ← Nat.div_div_eq_div_mul, ← Nat.div_div_eq_div_mul, c4]

theorem walk_mem {l : List Nd} {V : List Int} (hc : ∀ x ∈ V, (0 ≤ x ∧ x < l.length) → (l[x.toNat]?.getD default).lo ∈ V ∧ (l[x.toNat]?.getD default).hi ∈ V) (n : Int) : ∀ (k : Nat) (f : Int), f ∈ V → walkC l n k f ∈ V
  | 0, _, h => h
  | k + 1, f, h => by
    unfold walkC
    split
    · rename_i hx
      have := hc f h hx
      split
      · exact walk_mem hc n k _ this.2
      · exact walk_mem hc n k _ this.1
    · exact h
theorem walk_end {l : List Nd} (hW : WF l) (n : Int) : ∀ (k : Nat) (f : Int), 12 - varOf l f < k → ¬ (0 ≤ walkC l n k f ∧ walkC l n k f < l.length)
  | 0, f, h => by have := varOf_le hW f; omega
  | k + 1, f, h => by
    unfold walkC
    by_cases hx : 0 ≤ f ∧ f < l.length
    · obtain ⟨v, lo, hi, e, _, hv, h1, h2, h3, h4, h5, h6⟩ := node_kids hW hx
      rw [if_pos hx, e]
      simp only
      split
      · exact walk_end hW n k hi (by omega)
      · exact walk_end hW n k lo (by omega)
    · rw [if_neg hx]
      exact hx
theorem walk_reach {l : List Nd} (hW : WF l) {f : Int} (hh : hasB l f = true) (n : Int) : walkC l n 13 f ∈ reach l f := by
  have h12 := varOf_nonneg hW f
  unfold reach
  rw [if_pos hh]
  exact walk_mem (fun x hx hn => (dn_closed hW 13 [] f (by omega) x hx).elim (fun h => by cases h) (fun h => h hn)) n 13 f (dn_self hW 13 [] f (by omega))

/-- what the terminals below tell: each once, and just what is told for some number -/
theorem vals_mem {l : List Nd} (hW : WF l) {f : Int} (hh : hasB l f = true) (v : Int) : v ∈ vals (reach l f) ↔ ∃ x : Nat, x < 4096 ∧ tellN l f x = v := by
  have h12 := varOf_nonneg hW f
  unfold vals
  rw [List.mem_map]
  constructor
  · rintro ⟨t, ht, rfl⟩
    rw [List.mem_filter] at ht
    obtain ⟨ht, hneg⟩ := ht
    have hneg' : t < 0 := by simpa using hneg
    have hr : Rch l f t := by
      unfold reach at ht
      rw [if_pos hh] at ht
      rcases dn_rch l 13 [] f t ht with h | h
      · cases h
      · exact h
    obtain ⟨x, hx, hw⟩ := rch_walk hW hr (by omega)
    exact ⟨x, hx, by unfold tellN; rw [hw]⟩
  · rintro ⟨x, hx, rfl⟩
    refine ⟨walkC l x 13 f, ?_, rfl⟩
    have hm := walk_reach hW hh (x : Int)
    have he := walk_end hW (x : Int) 13 f (by omega)
    have hb := hasB_range (reach_has hW hh _ hm)
    rw [List.mem_filter]
    exact ⟨hm, by simp; omega⟩
theorem vals_nodup {l : List Nd} (hW : WF l) {f : Int} (hh : hasB l f = true) : (vals (reach l f)).Nodup := by
  unfold vals
  have hr : (reach l f).Nodup := by
    unfold reach
    rw [if_pos hh]
    exact dn_nodup l 13 [] f List.nodup_nil
  have hf : ((reach l f).filter (fun x => decide (x < 0))).Nodup := hr.filter _
  have hneg : ∀ x ∈ (reach l f).filter (fun x => decide (x < 0)), valN x = -1 - x := fun x hx => by
    rw [List.mem_filter] at hx
    have hb := hasB_range (reach_has hW hh _ hx.1)
    have : x < 0 := by simpa using hx.2
    exact valN_neg x this (by unfold low; omega)
  generalize (reach l f).filter (fun x => decide (x < 0)) = V at *
  clear hr
  induction V with
  | nil => exact List.nodup_nil
  | cons a V ih =>
    rw [List.map_cons, List.nodup_cons]
    rw [List.nodup_cons] at hf
    refine ⟨fun hm => ?_, ih hf.2 (fun x hx => hneg x (List.mem_cons_of_mem _ hx))⟩
    obtain ⟨b, hb, e⟩ := List.mem_map.1 hm
    rw [hneg b (List.mem_cons_of_mem _ hb), hneg a (List.mem_cons_self ..)] at e
    have : b = a := by omega
    exact hf.1 (this ▸ hb)

/-- what Values answers -/
def sortV (l : List Nd) (f : Int) : List Int := (vals (reach l f)).mergeSort (fun x y => decide (x ≤ y))
theorem sortV_mem {l : List Nd} (hW : WF l) {f : Int} (hh : hasB l f = true) (v : Int) : v ∈ sortV l f ↔ ∃ x : Nat, x < 4096 ∧ tellN l f x = v := by
  rw [← vals_mem hW hh v]
  exact (List.mergeSort_perm _ _).mem_iff
theorem sortV_lt {l : List Nd} (hW : WF l) {f : Int} (hh : hasB l f = true) : (sortV l f).Pairwise (fun x y => x < y) := by
  have h1 : (sortV l f).Pairwise (fun x y => decide (x ≤ y) = true) := List.pairwise_mergeSort (fun a b c h1 h2 => by simp at *; omega) (fun a b => by simp; omega) _
  have h2 : (sortV l f).Nodup := (List.mergeSort_perm _ _).nodup_iff.2 (vals_nodup hW hh)
  have h3 := h1.and h2
  exact h3.imp (fun {a b} h => by have h4 := h.1; have h5 := h.2; simp at h4; omega)
theorem sortV_len {l : List Nd} (f : Int) : (sortV l f).length ≤ 100000 := by
  unfold sortV
  rw [List.length_mergeSort]
  have h1 := vals_len (reach l f)
  have h2 : (reach l f).length ≤ 8192 := by
    unfold reach
    split
    · have := dn_len l 13 [] f
      simp at this
      omega
    · simp
  omega

theorem countP_or {α : Type} (p q : α → Bool) : ∀ (L : List α), (∀ x ∈ L, ¬ (p x = true ∧ q x = true)) → L.countP (fun x => p x || q x) = L.countP p + L.countP q
  | [], _ => rfl
  | a :: L, h => by
    have ih := countP_or p q L (fun x hx => h x (List.mem_cons_of_mem _ hx))
    have ha := h a (List.mem_cons_self ..)
    simp only [List.countP_cons, ih]
    cases hp : p a <;> cases hq : q a <;> simp_all <;> omega
theorem sum_counts (t : Nat → Int) (L : List Nat) : ∀ (xs : List Int), xs.Nodup → (xs.map (fun v => (L.countP (fun x => decide (t x = v)) : Int))).sum = (L.countP (fun x => decide (t x ∈ xs)) : Nat)
  | [], _ => by simp
  | v :: xs, h => by
    rw [List.nodup_cons] at h
    rw [List.map_cons, List.sum_cons, sum_counts t L xs h.2]
    have e : (fun x => decide (t x ∈ v :: xs)) = (fun x => decide (t x = v) || decide (t x ∈ xs)) := by
      funext x
      simp
    rw [e, countP_or]
    · push_cast; rfl
    · rintro x _ ⟨h1, h2⟩
      simp at h1 h2
      exact h.1 (h1 ▸ h2)
/-- **the numbers of all values, together** -/
theorem sums_plain {l : List Nd} (hW : WF l) {f : Int} (hh : hasB l f = true) : ((sortV l f).map (fun v => satR l f v 12)).sum = 4096 := by
  have hg : ∀ x ∈ reach l f, ¬ badN l 12 x := fun x hx hb => by
    obtain ⟨h0, hv⟩ := hb
    have hr := hasB_range (reach_has hW hh x hx)
    obtain ⟨v, lo, hi, e, _, hv', _, h2, _⟩ := node_kids hW ⟨h0, hr.2⟩
    omega
  have e : (fun v => satR l f v 12) = (fun v => ((List.range 4096).countP (fun x => decide (tellN l f x = v)) : Int)) := by
    funext v
    exact satR_count hW f v 12 (by omega) hh hg
  have hnd : (sortV l f).Nodup := (List.mergeSort_perm _ _).nodup_iff.2 (vals_nodup hW hh)
  rw [e, sum_counts (tellN l f) _ _ hnd]
  have : (List.range 4096).countP (fun x => decide (tellN l f x ∈ sortV l f)) = (List.range 4096).length := by
    rw [List.countP_eq_length]
    intro x hx
    rw [List.mem_range] at hx
    simp only [decide_eq_true_eq]
    exact (sortV_mem hW hh _).2 ⟨x, hx, rfl⟩
  rw [this, List.length_range]
  rfl
end Go.Proofs.Yteifllgcpickhaa
