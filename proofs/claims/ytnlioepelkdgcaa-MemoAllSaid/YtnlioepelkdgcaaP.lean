/- memo: in how many places something stands, in plain Lean -/
import Derived.Test.YtnlioepelkdgcaaK
namespace Go.Proofs.Ytnlioepelkdgcaa

theorem cnt_cons (e : En) (L : List En) : cnt (e :: L) = (if e.is then 1 else 0) + cnt L := by
  unfold cnt
  cases h : e.is <;> simp [h]; omega

theorem cnt_set (L : List En) (i : Nat) (h : i < L.length) (e : En) (he : e.is = true) : cnt (L.set i e) + (if L[i].is then 1 else 0) = cnt L + 1 := by
  induction L generalizing i with
  | nil => simp at h
  | cons d r ih =>
    cases i with
    | zero => simp only [List.set_cons_zero, cnt_cons, he, if_true, List.getElem_cons_zero]; omega
    | succ i =>
      have := ih i (by simpa using h)
      simp only [List.set_cons_succ, cnt_cons, List.getElem_cons_succ]
      omega

/-- the place of the k-th -/
def plc (n : Nat) (l : List Pt) (k : Nat) : Nat := slotN n (l[k]?.elim 0 (·.x)) (l[k]?.elim 0 (·.y)) (l[k]?.elim 0 (·.z))

theorem firstTo_iff (n : Nat) (l : List Pt) (m : Nat) : ∀ j, firstTo n l m j = true ↔ ∀ k, k < j → plc n l k ≠ plc n l m
  | 0 => by simp [firstTo]
  | j + 1 => by
    rw [firstTo, Bool.and_eq_true, firstTo_iff n l m j]
    show (_ ∧ (!(plc n l j == plc n l m)) = true) ↔ _
    simp only [Bool.not_eq_true', beq_eq_false_iff_ne, ne_eq]
    constructor
    · rintro ⟨h1, h2⟩ k hk
      rcases Nat.lt_succ_iff_lt_or_eq.1 hk with h | rfl
      · exact h1 k h
      · exact h2
    · intro h
      exact ⟨fun k hk => h k (by omega), h j (by omega)⟩

theorem after_is (n : Nat) (l : List Pt) (s : Nat) : ∀ m, m ≤ l.length → ∀ en, (after n l m)[s]? = some en → (en.is = true ↔ ∃ k, k < m ∧ plc n l k = s)
  | 0, _, en, h => by
    rw [after] at h
    obtain ⟨_, rfl⟩ := List.mem_replicate.1 (List.mem_of_getElem? h)
    simp [E0]
  | m + 1, hm, en, h => by
    have hml : m < l.length := by omega
    rw [after_succ n l m hml] at h
    unfold putM at h
    rw [after_len] at h
    have hp : plc n l m = slotN n l[m].x l[m].y l[m].z := by unfold plc; rw [List.getElem?_eq_getElem hml]; rfl
    rw [← hp] at h
    by_cases hs : plc n l m = s
    · have hlt : s < (after n l m).length := by
        have := (List.getElem?_eq_some_iff.1 h).1
        simpa using this
      rw [hs, List.getElem?_set_self hlt] at h
      injection h with h
      subst h
      exact ⟨fun _ => ⟨m, by omega, hs⟩, fun _ => rfl⟩
    · rw [List.getElem?_set_ne hs] at h
      rw [after_is n l s m (by omega) en h]
      constructor
      · rintro ⟨k, hk, e⟩
        exact ⟨k, by omega, e⟩
      · rintro ⟨k, hk, e⟩
        rcases Nat.lt_succ_iff_lt_or_eq.1 hk with h' | rfl
        · exact ⟨k, h', e⟩
        · exact absurd e hs

theorem cnt_after (n : Nat) (hn : 1 ≤ n) (l : List Pt) : ∀ m, m ≤ l.length → cnt (after n l m) = lenTo n l m
  | 0, _ => by rw [after, cnt_E0, lenTo]
  | m + 1, hm => by
    have hml : m < l.length := by omega
    have ih := cnt_after n hn l m (by omega)
    rw [after_succ n l m hml, lenTo, ← ih]
    unfold putM
    rw [after_len]
    have hp : plc n l m = slotN n l[m].x l[m].y l[m].z := by unfold plc; rw [List.getElem?_eq_getElem hml]; rfl
    rw [← hp]
    have hlt : plc n l m < (after n l m).length := by rw [after_len, hp]; exact Nat.mod_lt _ hn
    have h := cnt_set (after n l m) (plc n l m) hlt ⟨true, l[m].x, l[m].y, l[m].z, l[m].v⟩ rfl
    have h2 := after_is n l (plc n l m) m (by omega) _ (List.getElem?_eq_getElem hlt)
    have h3 := firstTo_iff n l m m
    by_cases hf : firstTo n l m m = true
    · have : (after n l m)[plc n l m].is = false := by
        cases hq : (after n l m)[plc n l m].is
        · rfl
        · obtain ⟨k, hk, e⟩ := h2.1 hq
          exact absurd e (h3.1 hf k hk)
      rw [this] at h
      rw [if_pos hf]
      simpa using h
    · have : (after n l m)[plc n l m].is = true := by
        refine h2.2 ?_
        have hne : ¬ ∀ k, k < m → plc n l k ≠ plc n l m := fun h => hf (h3.2 h)
        simp only [Classical.not_forall, ne_eq, Classical.not_not] at hne
        obtain ⟨k, hk, e⟩ := hne
        exact ⟨k, hk, e⟩
      rw [this] at h
      rw [if_neg hf]
      simp at h
      omega

theorem firstTo_take (n : Nat) (l : List Pt) (M m : Nat) (hm : m < M) : ∀ j, j ≤ m → firstTo n (l.take M) m j = firstTo n l m j
  | 0, _ => rfl
  | j + 1, hj => by
    rw [firstTo, firstTo, firstTo_take n l M m hm j (by omega), List.getElem?_take_of_lt (by omega), List.getElem?_take_of_lt (by omega)]
theorem lenTo_take (n : Nat) (l : List Pt) (M : Nat) : ∀ m, m ≤ M → lenTo n (l.take M) m = lenTo n l m
  | 0, _ => rfl
  | m + 1, hm => by
    rw [lenTo, lenTo, lenTo_take n l M m (by omega), firstTo_take n l M m (by omega) m (Nat.le_refl _)]

theorem len_fits (n : Nat) (hn : 1 ≤ n) (l : List Pt) (i : Nat) (hi : i < l.length) : lenTo n (l.take (i + 1)) (l.take (i + 1)).length = cnt (after n l (i + 1)) := by
  rw [cnt_after n hn l (i + 1) (by omega), List.length_take, Nat.min_eq_left (by omega), lenTo_take n l _ _ (Nat.le_refl _)]
end Go.Proofs.Ytnlioepelkdgcaa
