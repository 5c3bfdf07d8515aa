/- count: the document's Values as it inserts, without any program -/
import Derived.Test.YteifllgcpickhaaP4
namespace Go.Proofs.Yteifllgcpickhaa
open Go.RowKit

def insAt (t : Int) : List Int → Nat
  | [] => 0
  | x :: xs => if x < t then insAt t xs + 1 else 0
def ins (t : Int) : List Int → List Int
  | [] => [t]
  | x :: xs => if x < t then x :: ins t xs else if x = t then x :: xs else t :: x :: xs

theorem insAt_eq (t : Int) : ∀ (xs : List Int) (a : Nat), a ≤ xs.length → (∀ j (h : j < xs.length), j < a → xs[j] < t) → (∀ h : a < xs.length, ¬ xs[a] < t) → a = insAt t xs
  | [], a, h, _, _ => by simp at h; simp [insAt, h]
  | x :: xs, a, h, h1, h2 => by
    unfold insAt
    cases a with
    | zero =>
      have := h2 (by simp)
      simp at this
      rw [if_neg (by omega)]
    | succ a =>
      have hx := h1 0 (by simp) (by omega)
      simp at hx
      rw [if_pos hx]
      have := insAt_eq t xs a (by simpa using h) (fun j hj hja => by have := h1 (j + 1) (by simpa using hj) (by omega); simpa using this) (fun hl => by have := h2 (by simpa using hl); simpa using this)
      omega
theorem ins_new (t : Int) : ∀ (xs : List Int), (insAt t xs = xs.length ∨ xs[insAt t xs]?.getD t ≠ t) → ins t xs = xs.take (insAt t xs) ++ (t :: xs.drop (insAt t xs))
  | [], _ => rfl
  | x :: xs, h => by
    unfold insAt ins
    unfold insAt at h
    by_cases hx : x < t
    · rw [if_pos hx] at h ⊢
      rw [if_pos hx, List.take_succ_cons, List.drop_succ_cons, List.cons_append, ← ins_new t xs (by simpa using h)]
    · rw [if_neg hx] at h ⊢
      rw [if_neg hx]
      have hne : x ≠ t := by
        rcases h with h | h
        · simp at h
        · simpa using h
      rw [if_neg hne]
      rfl
theorem ins_old (t : Int) : ∀ (xs : List Int), ¬ (insAt t xs = xs.length ∨ xs[insAt t xs]?.getD t ≠ t) → ins t xs = xs
  | [], h => absurd (.inl rfl) h
  | x :: xs, h => by
    unfold ins
    unfold insAt at h
    by_cases hx : x < t
    · rw [if_pos hx] at h ⊢
      rw [ins_old t xs (by simpa using h)]
    · rw [if_neg hx] at h ⊢
      have he : x = t := by
        by_cases e : x = t
        · exact e
        · exact absurd (.inr (by simpa using e)) h
      rw [if_pos he]
theorem ins_mem (t y : Int) : ∀ xs, y ∈ ins t xs ↔ y = t ∨ y ∈ xs
  | [] => by simp [ins]
  | x :: xs => by
    unfold ins
    split
    · rw [List.mem_cons, ins_mem t y xs, List.mem_cons]
      constructor
      · rintro (h | h | h); exact .inr (.inl h); exact .inl h; exact .inr (.inr h)
      · rintro (h | h | h); exact .inr (.inl h); exact .inl h; exact .inr (.inr h)
    · split
      · rename_i he
        constructor
        · exact .inr
        · rintro (h | h)
          · rw [h, ← he]; exact List.mem_cons_self ..
          · exact h
      · rw [List.mem_cons]
theorem ins_lt (t : Int) : ∀ xs, xs.Pairwise (fun x y => x < y) → (ins t xs).Pairwise (fun x y => x < y)
  | [], _ => by simp [ins]
  | x :: xs, h => by
    rw [List.pairwise_cons] at h
    unfold ins
    split
    · rename_i hx
      rw [List.pairwise_cons]
      refine ⟨fun y hy => ?_, ins_lt t xs h.2⟩
      rcases (ins_mem t y xs).1 hy with h' | h'
      · omega
      · exact h.1 y h'
    · split
      · rw [List.pairwise_cons]; exact h
      · rw [List.pairwise_cons]
        refine ⟨fun y hy => ?_, List.pairwise_cons.2 h⟩
        rcases List.mem_cons.1 hy with h' | h'
        · omega
        · have := h.1 y h'; omega
theorem ins_len (t : Int) : ∀ xs, (ins t xs).length ≤ xs.length + 1
  | [] => by simp [ins]
  | x :: xs => by
    have := ins_len t xs
    unfold ins
    split
    · simp; omega
    · split
      · simp
      · simp

/-- the values of the first i numbers -/
def insN (l : List Nd) (f : Int) : Nat → List Int
  | 0 => []
  | i + 1 => ins (tellN l f i) (insN l f i)
theorem insN_len (l : List Nd) (f : Int) : ∀ i, (insN l f i).length ≤ i
  | 0 => by simp [insN]
  | i + 1 => by
    have h1 := insN_len l f i
    have h2 := ins_len (tellN l f i) (insN l f i)
    unfold insN
    omega
theorem insN_mem (l : List Nd) (f y : Int) : ∀ i, y ∈ insN l f i ↔ ∃ x : Nat, x < i ∧ tellN l f x = y
  | 0 => by simp [insN]
  | i + 1 => by
    unfold insN
    rw [ins_mem, insN_mem l f y i]
    constructor
    · rintro (h | ⟨x, hx, h⟩)
      · exact ⟨i, by omega, h.symm⟩
      · exact ⟨x, by omega, h⟩
    · rintro ⟨x, hx, h⟩
      by_cases e : x = i
      · subst e; exact .inl h.symm
      · exact .inr ⟨x, by omega, h⟩
theorem insN_lt (l : List Nd) (f : Int) : ∀ i, (insN l f i).Pairwise (fun x y => x < y)
  | 0 => by simp [insN]
  | i + 1 => ins_lt _ _ (insN_lt l f i)
theorem lt_nodup {xs : List Int} (h : xs.Pairwise (fun x y => x < y)) : xs.Nodup := h.imp (fun {a b} hab e => by omega)
/-- **what the document's Values is** -/
theorem insN_sort {l : List Nd} (hW : WF l) {f : Int} (hh : hasB l f = true) : insN l f 4096 = sortV l f := by
  have h1 := insN_lt l f 4096
  have h2 := sortV_lt hW hh
  have hp : (insN l f 4096).Perm (sortV l f) := (List.perm_ext_iff_of_nodup (lt_nodup h1) (lt_nodup h2)).2 (fun y => by rw [insN_mem, sortV_mem hW hh])
  exact List.Perm.eq_of_pairwise (le := fun x y : Int => x < y) (fun a b _ _ h1 h2 => by omega) h1 h2 hp
end Go.Proofs.Yteifllgcpickhaa
