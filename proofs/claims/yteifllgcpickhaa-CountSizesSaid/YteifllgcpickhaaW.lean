/- count: the arena's table, without any program: what is found at a node's place -/
import Derived.Test.YteifllgcpickhaaA
namespace Go.Proofs.Yteifllgcpickhaa
open Go.RowKit

def pg (ps : List Int) (i : Nat) : Int := ps[i]?.getD 0
theorem pg_get (ps : List Int) (i : Nat) (h : i < ps.length) : pg ps i = ps[i] := by unfold pg; simp [h]
theorem getD_of {l : List Nd} {k : Nat} (h : k < l.length) : l[k]?.getD default = l[k] := by simp [h]
/-- does the search end here? -/
def stopP (l : List Nd) (ps : List Int) (n : Nd) (i : Nat) : Prop := pg ps i = 0 ∨ l[(pg ps i - 1).toNat]?.getD default = n
/-- i is the first place, from s on, at which the search ends -/
def PlaceAt (s m : Nat) (l : List Nd) (ps : List Int) (n : Nd) (i : Nat) : Prop := ∃ d, i = (s + d) % m ∧ stopP l ps n i ∧ ∀ d' < d, ¬ stopP l ps n ((s + d') % m)

/-- the table holds the first K nodes -/
structure Tab (st : Nd → Nat) (m : Nat) (l : List Nd) (ps : List Int) (K : Nat) : Prop where
  len : ps.length = m
  rng : ∀ i, 0 ≤ pg ps i ∧ pg ps i ≤ K
  found : ∀ k (h : k < l.length), k < K → ∃ d, pg ps ((st l[k] + d) % m) = k + 1 ∧ ∀ d' < d, pg ps ((st l[k] + d') % m) ≠ 0
  cnt : ps.countP (fun x => decide (x ≠ 0)) = K
  le : K ≤ l.length
  nodup : l.Nodup

theorem least {P : Nat → Prop} : ∀ D, P D → ∃ d, d ≤ D ∧ P d ∧ ∀ d' < d, ¬ P d' := by
  intro D
  induction D using Nat.strongRecOn with
  | _ D ih =>
    intro h
    by_cases hx : ∃ d', d' < D ∧ P d'
    · obtain ⟨d', h1, h2⟩ := hx
      obtain ⟨d, h3, h4, h5⟩ := ih d' h1 h2
      exact ⟨d, by omega, h4, h5⟩
    · exact ⟨D, Nat.le_refl _, h, fun d' h1 h2 => hx ⟨d', h1, h2⟩⟩

theorem Tab.zero {st : Nd → Nat} {m : Nat} {l : List Nd} {ps : List Int} {K : Nat} (h : Tab st m l ps K) (hK : K < m) : ∃ i, i < m ∧ pg ps i = 0 := by
  have hc := h.cnt
  by_cases hx : ∃ i, i < m ∧ pg ps i = 0
  · exact hx
  · exfalso
    have : ps.countP (fun x => decide (x ≠ 0)) = ps.length := by
      rw [List.countP_eq_length]
      intro x hxm
      obtain ⟨i, hi, rfl⟩ := List.getElem_of_mem hxm
      simp only [decide_eq_true_eq]
      intro h0
      exact hx ⟨i, by rw [← h.len]; exact hi, by rw [pg_get ps i hi]; exact h0⟩
    rw [this, h.len] at hc
    omega

/-- the search ends -/
theorem Tab.ends {st : Nd → Nat} {m : Nat} {l : List Nd} {ps : List Int} {K : Nat} (h : Tab st m l ps K) (hK : K < m) (n : Nd) (s : Nat) (hs : s < m) :
    ∃ d, d < m ∧ stopP l ps n ((s + d) % m) ∧ ∀ d' < d, ¬ stopP l ps n ((s + d') % m) := by
  obtain ⟨i, hi, h0⟩ := h.zero hK
  have hst : stopP l ps n ((s + (i + m - s) % m) % m) := by
    refine .inl ?_
    have : (s + (i + m - s) % m) % m = i := by
      rw [Nat.add_mod, Nat.mod_mod, ← Nat.add_mod, show s + (i + m - s) = i + m by omega, Nat.add_mod_right, Nat.mod_eq_of_lt hi]
    rw [this]
    exact h0
  obtain ⟨d, h1, h2, h3⟩ := least (P := fun d => stopP l ps n ((s + d) % m)) _ hst
  have := Nat.mod_lt (i + m - s) (show m > 0 by omega)
  exact ⟨d, by omega, h2, h3⟩

/-- at the place of a node that is held stands its number -/
theorem Tab.hit {st : Nd → Nat} {m : Nat} {l : List Nd} {ps : List Int} {K : Nat} (h : Tab st m l ps K) {n : Nd} {i : Nat} (hp : PlaceAt (st n) m l ps n i) (k : Nat) (hk : k < l.length) (hkK : k < K) (hn : l[k] = n) : pg ps i = k + 1 := by
  obtain ⟨d, rfl, h2, h3⟩ := hp
  obtain ⟨e, e1, e2⟩ := h.found k hk hkK
  rw [hn] at e1 e2
  have hse : stopP l ps n ((st n + e) % m) := by
    refine .inr ?_
    rw [e1]
    simp [hk, hn]
  have hle : d ≤ e := by
    rcases Nat.lt_or_ge e d with hlt | hge
    · exact absurd hse (h3 e hlt)
    · exact hge
  rcases Nat.lt_or_ge d e with hlt | hge
  · have h0 := e2 d hlt
    rcases h2 with h2 | h2
    · exact absurd h2 h0
    · have hr := h.rng ((st n + d) % m)
      have hl := h.le
      have hi : (pg ps ((st n + d) % m) - 1).toNat < l.length := by omega
      have hg : l[(pg ps ((st n + d) % m) - 1).toNat] = n := (getD_of hi).symm.trans h2
      have : (pg ps ((st n + d) % m) - 1).toNat = k := (List.getElem_inj h.nodup).1 (hg.trans hn.symm)
      omega
  · have : d = e := by omega
    subst this
    exact e1
/-- at the place of a node that is not held stands nothing -/
theorem Tab.miss {st : Nd → Nat} {m : Nat} {l : List Nd} {ps : List Int} {K : Nat} (h : Tab st m l ps K) {n : Nd} {i : Nat} (hp : PlaceAt (st n) m l ps n i) (hn : ∀ k (hk : k < l.length), k < K → l[k] ≠ n) : pg ps i = 0 := by
  obtain ⟨d, hi, h2, h3⟩ := hp
  rcases h2 with h2 | h2
  · exact h2
  · have hr := h.rng i
    have hl := h.le
    by_cases h0 : pg ps i = 0
    · exact h0
    · have hi' : (pg ps i - 1).toNat < l.length := by omega
      exact absurd ((getD_of hi').symm.trans h2) (hn _ hi' (by omega))
/-- what stands at a place is a node's number, and that node is it -/
theorem Tab.some_of {st : Nd → Nat} {m : Nat} {l : List Nd} {ps : List Int} {K : Nat} (h : Tab st m l ps K) {n : Nd} {s i : Nat} (hp : PlaceAt s m l ps n i) (h0 : pg ps i ≠ 0) : ∃ hk : (pg ps i - 1).toNat < l.length, l[(pg ps i - 1).toNat] = n := by
  obtain ⟨d, hi, h2, h3⟩ := hp
  have hr := h.rng i
  have hl := h.le
  rcases h2 with h2 | h2
  · exact absurd h2 h0
  · have hi' : (pg ps i - 1).toNat < l.length := by omega
    exact ⟨hi', (getD_of hi').symm.trans h2⟩

theorem pg_set (ps : List Int) (i j : Nat) (x : Int) (h : i < ps.length) : pg (ps.set i x) j = if j = i then x else pg ps j := by
  unfold pg
  rw [List.getElem?_set]
  by_cases e : i = j
  · subst e; simp [h]
  · rw [if_neg e, if_neg (fun x => e x.symm)]

theorem countP_set0 (ps : List Int) (i : Nat) (h : i < ps.length) (x : Int) (h0 : ps[i] = 0) (hx : x ≠ 0) : (ps.set i x).countP (fun x => decide (x ≠ 0)) = ps.countP (fun x => decide (x ≠ 0)) + 1 := by
  rw [List.countP_set h]
  simp [h0, hx]

/-- a node's number is written at its place -/
theorem Tab.insert {st : Nd → Nat} {m : Nat} {l : List Nd} {ps : List Int} {K : Nat} (h : Tab st m l ps K) (hK : K < l.length) {i : Nat} (hm : 0 < m) (hp : PlaceAt (st l[K]) m l ps l[K] i) : Tab st m l (ps.set i (K + 1)) (K + 1) := by
  have h0 : pg ps i = 0 := h.miss hp (fun k hk hkK e => by have := (List.getElem_inj h.nodup).1 e; omega)
  obtain ⟨d, hi, h2, h3⟩ := hp
  have him : i < ps.length := by rw [h.len, hi]; exact Nat.mod_lt _ hm
  have hz : ps[i] = 0 := by rw [← pg_get ps i him]; exact h0
  refine ⟨by simp [h.len], fun j => ?_, fun k hk hkK => ?_, ?_, hK, h.nodup⟩
  · rw [pg_set ps i j _ him]
    have := h.rng j
    split <;> push_cast <;> omega
  · by_cases e : k = K
    · subst e
      refine ⟨d, ?_, fun d' hd' => ?_⟩
      · rw [← hi, pg_set ps i i _ him, if_pos rfl]
      · have hns := h3 d' hd'
        rw [pg_set ps i _ _ him]
        split
        · omega
        · exact fun hz => hns (.inl hz)
    · obtain ⟨e1, e2, e3⟩ := h.found k hk (by omega)
      refine ⟨e1, ?_, fun d' hd' => ?_⟩
      · rw [pg_set ps i _ _ him, if_neg, e2]
        intro hh
        rw [hh, h0] at e2
        omega
      · rw [pg_set ps i _ _ him]
        split
        · omega
        · exact e3 d' hd'
  · rw [countP_set0 ps i him _ hz (by omega), h.cnt]

theorem stopP_snoc {l : List Nd} {ps : List Int} {n x : Nd} {i : Nat} (hr : 0 ≤ pg ps i ∧ pg ps i ≤ l.length) : stopP (l ++ [x]) ps n i ↔ stopP l ps n i := by
  unfold stopP
  by_cases h0 : pg ps i = 0
  · simp [h0]
  · have : (pg ps i - 1).toNat < l.length := by omega
    rw [List.getElem?_append_left this]
theorem PlaceAt.snoc {s m : Nat} {l : List Nd} {ps : List Int} {n x : Nd} {i : Nat} (hr : ∀ i, 0 ≤ pg ps i ∧ pg ps i ≤ l.length) (hp : PlaceAt s m l ps n i) : PlaceAt s m (l ++ [x]) ps n i := by
  obtain ⟨d, h1, h2, h3⟩ := hp
  exact ⟨d, h1, (stopP_snoc (hr _)).2 h2, fun d' hd' hs => h3 d' hd' ((stopP_snoc (hr _)).1 hs)⟩
/-- a node more, which is not yet in the table -/
theorem Tab.snoc {st : Nd → Nat} {m : Nat} {l : List Nd} {ps : List Int} {K : Nat} (h : Tab st m l ps K) {n : Nd} (hn : n ∉ l) : Tab st m (l ++ [n]) ps K := by
  refine ⟨h.len, h.rng, fun k hk hkK => ?_, h.cnt, by have := h.le; simp; omega, ?_⟩
  · have hkl : k < l.length := by have := h.le; omega
    rw [List.getElem_append_left hkl]
    exact h.found k hkl hkK
  · rw [List.nodup_append]
    exact ⟨h.nodup, by simp, fun a ha b hb => by simp at hb; subst hb; exact fun e => hn (e ▸ ha)⟩
theorem Tab.empty (st : Nd → Nat) (m : Nat) (l : List Nd) (hl : l.Nodup) : Tab st m l (List.replicate m 0) 0 := by
  have hp : ∀ i, pg (List.replicate m 0) i = 0 := fun i => by
    unfold pg
    rw [List.getElem?_replicate]
    split <;> rfl
  refine ⟨by simp, fun i => by rw [hp]; simp, fun k hk hkK => by omega, ?_, Nat.zero_le _, hl⟩
  rw [List.countP_eq_zero]
  intro a ha
  have := List.eq_of_mem_replicate ha
  simp [this]
end Go.Proofs.Yteifllgcpickhaa
