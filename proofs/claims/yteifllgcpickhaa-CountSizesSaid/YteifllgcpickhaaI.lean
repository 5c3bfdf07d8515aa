/- count: Sat's closures: level, and the count below a ref -/
import Derived.Test.YteifllgcpickhaaH
import Derived.Deep.RegionHeld3
import Derived.Maps.OwnSet
import Derived.Maps.OwnOps
namespace Go.Proofs.Yteifllgcpickhaa
open Go.RowKit

def lvl (l : List Nd) (n x : Int) : Int := min (varOf l x) n

/-- for how many numbers of the bits from a ref's level on the value is told -/
def satC (l : List Nd) (value n : Int) : Nat → Int → Int
  | 0, _ => 0
  | k + 1, x => if 0 ≤ x ∧ x < l.length then
      satC l value n k (l[x.toNat]?.getD default).lo * 2 ^ (lvl l n (l[x.toNat]?.getD default).lo - (l[x.toNat]?.getD default).v - 1).toNat +
      satC l value n k (l[x.toNat]?.getD default).hi * 2 ^ (lvl l n (l[x.toNat]?.getD default).hi - (l[x.toNat]?.getD default).v - 1).toNat
    else if valN x = value then 1 else 0

theorem node_kids {l : List Nd} (hW : WF l) {x : Int} (hx : 0 ≤ x ∧ x < l.length) : ∃ v lo hi, l[x.toNat]?.getD default = ⟨v, lo, hi⟩ ∧ getN l x = (⟨v, lo, hi⟩, true) ∧ varOf l x = v ∧ 0 ≤ v ∧ v ≤ 11 ∧ hasB l lo = true ∧ hasB l hi = true ∧ v < varOf l lo ∧ v < varOf l hi := by
  have hlt : x.toNat < l.length := by omega
  obtain ⟨h1, h2, h3, h4, h5, h6⟩ := hW x.toNat hlt
  refine ⟨_, _, _, ?_, ?_, ?_, h1, h2, h3, h4, h5, h6⟩
  · simp [hlt]
  · unfold getN; rw [if_pos hx]; simp [hlt]
  · unfold varOf; rw [if_pos hx]; simp [hlt]

theorem satC_fuel {l : List Nd} (hW : WF l) (value n : Int) : ∀ (k : Nat) (x : Int), 12 - varOf l x < k → satC l value n (k + 1) x = satC l value n k x := by
  intro k
  induction k with
  | zero =>
    intro x h
    exfalso
    have := varOf_le hW x
    omega
  | succ k ih =>
    intro x h
    by_cases hx : 0 ≤ x ∧ x < l.length
    · obtain ⟨v, lo, hi, e, _, hv, h1, h2, h3, h4, h5, h6⟩ := node_kids hW hx
      conv => lhs; unfold satC
      conv => rhs; unfold satC
      rw [if_pos hx, if_pos hx, e]
      simp only
      rw [ih lo (by omega), ih hi (by omega)]
    · conv => lhs; unfold satC
      conv => rhs; unfold satC
      rw [if_neg hx, if_neg hx]

def satF (l : List Nd) (value n x : Int) : Int := satC l value n 13 x

theorem satC_any {l : List Nd} (hW : WF l) (value n : Int) (x : Int) : ∀ (k : Nat), 12 - varOf l x < k → k ≤ 13 → satC l value n k x = satF l value n x := by
  intro k hk hk2
  obtain ⟨d, hd⟩ : ∃ d, d + k = 13 := ⟨13 - k, by omega⟩
  have : ∀ d, satC l value n (d + k) x = satC l value n k x := by
    intro d
    induction d with
    | zero => simp
    | succ d ih => rw [show d + 1 + k = (d + k) + 1 by omega, satC_fuel hW value n (d + k) x (by omega), ih]
  rw [← this d, hd]
  rfl

theorem satF_node {l : List Nd} (hW : WF l) (value n : Int) {x v lo hi : Int} (hx : 0 ≤ x ∧ x < l.length) (e : l[x.toNat]?.getD default = ⟨v, lo, hi⟩) :
    satF l value n x = satF l value n lo * 2 ^ (lvl l n lo - v - 1).toNat + satF l value n hi * 2 ^ (lvl l n hi - v - 1).toNat := by
  obtain ⟨v', lo', hi', e', _, hv, h1, h2, h3, h4, h5, h6⟩ := node_kids hW hx
  rw [e] at e'
  cases e'
  have h0 := varOf_nonneg hW x
  conv => lhs; unfold satF satC
  rw [if_pos hx, e]
  simp only
  rw [satC_any hW value n lo 12 (by omega) (by omega), satC_any hW value n hi 12 (by omega) (by omega)]
theorem satF_term {l : List Nd} (value n : Int) {x : Int} (hx : ¬ (0 ≤ x ∧ x < l.length)) : satF l value n x = if valN x = value then 1 else 0 := by
  unfold satF satC
  rw [if_neg hx]

/-- below a ref each node's variable is less than n -/
def lowv (l : List Nd) (n : Int) : Nat → Int → Prop
  | 0, _ => True
  | k + 1, x => if 0 ≤ x ∧ x < l.length then (l[x.toNat]?.getD default).v < n ∧ lowv l n k (l[x.toNat]?.getD default).lo ∧ lowv l n k (l[x.toNat]?.getD default).hi else True

theorem pow_nat (k : Nat) : ((2 : Int) ^ k) = ((2 ^ k : Nat) : Int) := by simp

theorem satF_bound {l : List Nd} (hW : WF l) (value n : Int) (hn0 : 0 ≤ n) (hn : n ≤ 12) : ∀ (k : Nat) (x : Int), 12 - varOf l x < k → lowv l n k x → 0 ≤ satF l value n x ∧ satF l value n x ≤ 2 ^ (n - lvl l n x).toNat := by
  intro k
  induction k with
  | zero =>
    intro x h
    exfalso
    have := varOf_le hW x
    omega
  | succ k ih =>
    intro x h hl
    by_cases hx : 0 ≤ x ∧ x < l.length
    · obtain ⟨v, lo, hi, e, _, hv, h1, h2, h3, h4, h5, h6⟩ := node_kids hW hx
      unfold lowv at hl
      rw [if_pos hx, e] at hl
      obtain ⟨l1, l2, l3⟩ := hl
      simp only at l1 l2 l3
      rw [satF_node hW value n hx e]
      obtain ⟨a1, a2⟩ := ih lo (by omega) l2
      obtain ⟨b1, b2⟩ := ih hi (by omega) l3
      have hlx : lvl l n x = v := by unfold lvl; rw [hv]; omega
      have hll : v + 1 ≤ lvl l n lo := by unfold lvl; omega
      have hlh : v + 1 ≤ lvl l n hi := by unfold lvl; omega
      have hml : lvl l n lo ≤ n := by unfold lvl; omega
      have hmh : lvl l n hi ≤ n := by unfold lvl; omega
      have p1 : (2 : Int) ^ (n - lvl l n lo).toNat * 2 ^ (lvl l n lo - v - 1).toNat = 2 ^ (n - v - 1).toNat := by
        rw [← Int.pow_add]; congr 1; omega
      have p2 : (2 : Int) ^ (n - lvl l n hi).toNat * 2 ^ (lvl l n hi - v - 1).toNat = 2 ^ (n - v - 1).toNat := by
        rw [← Int.pow_add]; congr 1; omega
      have p3 : (2 : Int) ^ (n - v).toNat = 2 ^ (n - v - 1).toNat + 2 ^ (n - v - 1).toNat := by
        rw [show (n - v).toNat = (n - v - 1).toNat + 1 by omega, Int.pow_succ]; omega
      have q1 : (0 : Int) ≤ 2 ^ (lvl l n lo - v - 1).toNat := Int.pow_nonneg (by decide)
      have q2 : (0 : Int) ≤ 2 ^ (lvl l n hi - v - 1).toNat := Int.pow_nonneg (by decide)
      have m1 := Int.mul_le_mul_of_nonneg_right a2 q1
      have m2 := Int.mul_le_mul_of_nonneg_right b2 q2
      have z1 := Int.mul_nonneg a1 q1
      have z2 := Int.mul_nonneg b1 q2
      rw [hlx, p3]
      omega
    · rw [satF_term value n hx]
      have : varOf l x = 12 := by unfold varOf; rw [if_neg hx]
      have hlx : lvl l n x = n := by unfold lvl; rw [this]; omega
      rw [hlx]
      simp only [Int.sub_self, Int.toNat_zero, Int.pow_zero]
      split <;> omega
set_option maxRecDepth 100000 in
set_option maxHeartbeats 2000000 in
theorem level_any (b : Nat) (l : List Nd) (n x : Int) (pa pn : Nat) (w : World) (hA : ArRd w b l) (ca : w.cell? ⟨pa, 0, none⟩ = some (.pointer (some ⟨b, 0, none⟩))) (la : pa < w.heap.size) (cn : w.cell? ⟨pn, 0, none⟩ = some (.int .i64 n)) (ln : pn < w.heap.size) :
    Calls Try.prog 36 #[.int .i64 x, .pointer (some ⟨pa, 0, none⟩), .pointer (some ⟨pn, 0, none⟩)] w fun e w' => e = .returned (.int .i64 (lvl l n x)) ∧ Below w.heap.size w w' := by
  have hkeep := Lib.hid (p := ∀ W W' : World, (Below w.heap.size w W ∧ W.cell? ⟨pa, 0, none⟩ = some (.pointer (some ⟨b, 0, none⟩)) ∧ W.cell? ⟨pn, 0, none⟩ = some (.int .i64 n)) →
     Below W.heap.size W W' → (Below w.heap.size w W' ∧ W'.cell? ⟨pa, 0, none⟩ = some (.pointer (some ⟨b, 0, none⟩)) ∧ W'.cell? ⟨pn, 0, none⟩ = some (.int .i64 n))) (fun W W' h hb =>
    ⟨h.1.trans (hb.mono h.1.size), (hb.cell (Nat.lt_of_lt_of_le la h.1.size)).trans h.2.1, (hb.cell (Nat.lt_of_lt_of_le ln h.1.size)).trans h.2.2⟩)
  have hvar : ∀ W, Below w.heap.size w W → Calls Try.prog 35 #[.pointer (some ⟨b, 0, none⟩), .int .i64 x] W fun e w' => e = .returned (.int .i64 (varOf l x)) ∧ Below W.heap.size W w' := fun W hb => var_any b l x W (hA.below (Nat.le_refl _) hb)
  have hr0 := (Below.refl w.heap.size w).drew
  unfold lvl
  generalize varOf l x = v at *
  go_enter Try.func36, Try.ntmps36
  go_wp2_with fail
  go_region_held3 (fun W => Below w.heap.size w W ∧ W.cell? ⟨pa, 0, none⟩ = some (.pointer (some ⟨b, 0, none⟩)) ∧ W.cell? ⟨pn, 0, none⟩ = some (.int .i64 n))
    (first | assumption | exact hkeep.out _ _ (by assumption) hb | (go_keep; done))
    (first | (go_at_call 35; refine (hvar _ (by first | assumption | exact (‹Below w.heap.size w _ ∧ _›).1)).mono ?_; rintro e w' ⟨rfl, hb⟩))
  have hh := (‹Below w.heap.size w _ ∧ _›).1
  go_wp2
  go_ret
  exact ⟨rfl, hh⟩

/-- all but block M lies as it lay -/
structure Turn (M : Nat) (W W' : World) : Prop where
  os : W'.os = W.os
  tape : W'.tape = W.tape
  output : W'.output = W.output
  size : W.heap.size ≤ W'.heap.size
  same : ∀ k, k < W.heap.size → k ≠ M → W'.heap[k]? = W.heap[k]?
theorem Turn.refl (M : Nat) (W : World) : Turn M W W := ⟨rfl, rfl, rfl, Nat.le_refl _, fun _ _ _ => rfl⟩
theorem Turn.trans {M : Nat} {A B C : World} (h : Turn M A B) (k : Turn M B C) : Turn M A C :=
  ⟨k.os.trans h.os, k.tape.trans h.tape, k.output.trans h.output, Nat.le_trans h.size k.size, fun i hi hm => (k.same i (Nat.lt_of_lt_of_le hi h.size) hm).trans (h.same i hi hm)⟩
theorem Turn.of_below {M : Nat} {W W' : World} (h : Below W.heap.size W W') : Turn M W W' := ⟨h.os, h.tape, h.output, h.size, fun k hk _ => h.block k hk⟩
theorem Turn.grown {M : Nat} {W W' : World} (h : W.grownBy W' (some M)) : Turn M W W' := ⟨h.os, h.tape, h.output, h.size, fun k hk hm => h.block k hk (fun e => hm (by cases e; rfl))⟩
theorem Turn.below {M n0 : Nat} {W W' : World} (h : Turn M W W') (h1 : n0 ≤ M) (h2 : n0 ≤ W.heap.size) : Below n0 W W' := ⟨h.os, h.tape, h.output, h.size, fun k hk => h.same k (by omega) (by omega)⟩
theorem Turn.drewN {M : Nat} (W : World) (q : Nat) : Turn M W (W.drewN q) := ⟨rfl, rfl, rfl, Nat.le_refl _, fun _ _ _ => rfl⟩

/-- the closures' cells -/
structure SEnv (b M pm pa pb pl pv pn : Nat) (value n : Int) (w0 W : World) : Prop where
  bel : Below w0.heap.size w0 W
  nM : w0.heap.size ≤ M
  lm : pm < W.heap.size
  la : pa < W.heap.size
  lb : pb < W.heap.size
  ll : pl < W.heap.size
  lv : pv < W.heap.size
  ln : pn < W.heap.size
  lM : M < W.heap.size
  nm : pm ≠ M
  na : pa ≠ M
  nb : pb ≠ M
  nl : pl ≠ M
  nv : pv ≠ M
  nn : pn ≠ M
  cm : W.cell? ⟨pm, 0, none⟩ = some (.map (some M))
  ca : W.cell? ⟨pa, 0, none⟩ = some (.pointer (some ⟨b, 0, none⟩))
  cb : W.cell? ⟨pb, 0, none⟩ = some (.func (.func 37) #[] #[.pointer (some ⟨pm, 0, none⟩), .pointer (some ⟨pa, 0, none⟩), .pointer (some ⟨pb, 0, none⟩), .pointer (some ⟨pl, 0, none⟩), .pointer (some ⟨pv, 0, none⟩)])
  cl : W.cell? ⟨pl, 0, none⟩ = some (.func (.func 36) #[] #[.pointer (some ⟨pa, 0, none⟩), .pointer (some ⟨pn, 0, none⟩)])
  cv : W.cell? ⟨pv, 0, none⟩ = some (.int .i64 value)
  cn : W.cell? ⟨pn, 0, none⟩ = some (.int .i64 n)
theorem SEnv.turn {b M pm pa pb pl pv pn : Nat} {value n : Int} {w0 W W' : World} (h : SEnv b M pm pa pb pl pv pn value n w0 W) (t : Turn M W W') : SEnv b M pm pa pb pl pv pn value n w0 W' :=
  have c : ∀ p : Nat, p < W.heap.size → p ≠ M → W'.cell? ⟨p, 0, none⟩ = W.cell? ⟨p, 0, none⟩ := fun p h1 h2 => World.cell?_of_block (a := ⟨p, 0, none⟩) (t.same p h1 h2)
  have s : ∀ p : Nat, p < W.heap.size → p < W'.heap.size := fun _ h1 => Nat.lt_of_lt_of_le h1 t.size
  ⟨h.bel.trans (t.below h.nM h.bel.size), h.nM, s _ h.lm, s _ h.la, s _ h.lb, s _ h.ll, s _ h.lv, s _ h.ln, s _ h.lM, h.nm, h.na, h.nb, h.nl, h.nv, h.nn,
    (c _ h.lm h.nm).trans h.cm, (c _ h.la h.na).trans h.ca, (c _ h.lb h.nb).trans h.cb, (c _ h.ll h.nl).trans h.cl, (c _ h.lv h.nv).trans h.cv, (c _ h.ln h.nn).trans h.cn⟩

/-- the memo holds right numbers; nb: how many entries at most -/
structure Memo (l : List Nd) (value n : Int) (M nb : Nat) (D : DataW Unit) (W : World) : Prop where
  own : W.ownsMap Try.prog 3 (plainElem Try.prog 3) M nb D
  val : ∀ x : Int, Maps.has D (.int .i64 x) = true → D.atKey (.int .i64 x) (.lit (.int .i64 0)) = .lit (.int .i64 (satF l value n x))
theorem Memo.turn {l : List Nd} {value n : Int} {M nb : Nat} {D : DataW Unit} {W W' : World} (h : Memo l value n M nb D W) (hk : W'.heap[M]? = W.heap[M]?) : Memo l value n M nb D W' := by
  obtain ⟨⟨es, ck, hb, hr⟩, hv⟩ := h
  exact ⟨⟨es, ck, hk.trans hb, hr⟩, hv⟩
theorem Memo.put {l : List Nd} {value n : Int} {M nb : Nat} {D : DataW Unit} {W W' : World} {x : Int} (h : Memo l value n M nb D W) (hown : W'.ownsMap Try.prog 3 (plainElem Try.prog 3) M (nb + 1) (D.put (.int .i64 x) (.lit (.int .i64 (satF l value n x))))) :
    Memo l value n M (nb + 1) (D.put (.int .i64 x) (.lit (.int .i64 (satF l value n x)))) W' := by
  have hm : Maps.IsMap D := by obtain ⟨es, ck, _, _, _, hd⟩ := h.own; exact ⟨_, hd⟩
  refine ⟨hown, fun y hy => ?_⟩
  by_cases e : y = x
  · subst e
    rw [Maps.atKey_put_same hm (by trivial)]
  · rw [Maps.atKey_put_other (by simpa using e)]
    rw [Maps.has_put_other (by simpa using e)] at hy
    exact h.val y hy

/-- what a call of below leaves -/
def SubEnd (l : List Nd) (value n : Int) (M nb c : Nat) (D : DataW Unit) (x : Int) (W : World) (e : Ending) (W' : World) : Prop :=
  e = .returned (.int .i64 (satF l value n x)) ∧ Turn M W W' ∧ ∃ D' nb', Memo l value n M nb' D' W' ∧ nb' ≤ nb + (if Maps.has D (.int .i64 x) = true then 0 else c) ∧ Maps.has D' (.int .i64 x) = true ∧ ∀ y, Maps.has D (.int .i64 y) = true → Maps.has D' (.int .i64 y) = true

set_option maxRecDepth 100000 in
set_option maxHeartbeats 4000000 in
theorem sub_had {l : List Nd} {b M pm pa pb pl pv pn nb : Nat} {value n x : Int} {w0 W : World} {D : DataW Unit} (c : Nat) (hx : hasB l x = true) (hl : l.length ≤ 1000) (he : SEnv b M pm pa pb pl pv pn value n w0 W) (hm : Memo l value n M nb D W) (hh : Maps.has D (.int .i64 x) = true) :
    Calls Try.prog 37 #[.int .i64 x, .pointer (some ⟨pm, 0, none⟩), .pointer (some ⟨pa, 0, none⟩), .pointer (some ⟨pb, 0, none⟩), .pointer (some ⟨pl, 0, none⟩), .pointer (some ⟨pv, 0, none⟩)] W (SubEnd l value n M nb c D x W) := by
  have hfin : SubEnd l value n M nb c D x W (.returned (.int .i64 (satF l value n x))) W := ⟨rfl, Turn.refl _ _, D, nb, hm, by rw [if_pos hh]; omega, hh, fun _ h => h⟩
  generalize SubEnd l value n M nb c D x W = R at hfin ⊢
  have hr := hasB_range hx
  have hkey := Maps.keyOf_int_mk Try.underlying3 (wf_i64 (x := x) (by omega) (by omega))
  have hv := hm.val x hh
  have hvh := Lib.hid (p := ∀ c, D.atKey (.int .i64 x) (.lit (.int .i64 0)) = .lit (.int .i64 c) → c = satF l value n x) (fun c hc => by rw [hv] at hc; injection hc with h; injection h with _ h; exact h.symm)
  have hown := hm.own
  have cm := he.cm
  clear hv he hm hr
  go_enter Try.func37, Try.ntmps37
  go_wp2_with (at_lookup; refine wpList_lookup_own_ok_int _ rfl _ _ 71 rfl 3 3 .i64 (Maps.int_keyed Try.underlying3) Try.underlying71 Try.underlying3 (Try.zeroValue3 _) M nb D rfl hown _ _ rfl hkey ?_; intro c hat hwc; rw [hh]; obtain rfl := hvh.out c hat)
  exact hfin

def wfSat (l : List Nd) (value n x : Int) : Prop := 0 ≤ satF l value n x ∧ satF l value n x ≤ 4096

set_option maxRecDepth 100000 in
set_option maxHeartbeats 4000000 in
theorem sub_term {l : List Nd} {b M pm pa pb pl pv pn nb : Nat} {value n x : Int} {w0 W : World} {D : DataW Unit} (c : Nat) (hc : 1 ≤ c) (hnb : nb < 100000) (hA : ArRd w0 b l) (hx : hasB l x = true) (hf : ¬ (0 ≤ x ∧ x < l.length)) (he : SEnv b M pm pa pb pl pv pn value n w0 W) (hm : Memo l value n M nb D W) (hh : Maps.has D (.int .i64 x) = false) :
    Calls Try.prog 37 #[.int .i64 x, .pointer (some ⟨pm, 0, none⟩), .pointer (some ⟨pa, 0, none⟩), .pointer (some ⟨pb, 0, none⟩), .pointer (some ⟨pl, 0, none⟩), .pointer (some ⟨pv, 0, none⟩)] W (SubEnd l value n M nb c D x W) := by
  have hsat := satF_term (l := l) value n hf
  have hwf : (Lit.int .i64 (satF l value n x)).wf = true := by
    rw [hsat]
    split <;> decide
  have hfin : ∀ w3, Turn M W w3 → Memo l value n M (nb + 1) (D.put (.int .i64 x) (.lit (.int .i64 (satF l value n x)))) w3 → SubEnd l value n M nb c D x W (.returned (.int .i64 (satF l value n x))) w3 := fun w3 ht h3 =>
    have hm : Maps.IsMap D := by obtain ⟨es, ck, _, _, _, hd⟩ := hm.own; exact ⟨_, hd⟩
    ⟨rfl, ht, _, nb + 1, h3, by rw [hh]; simp; omega, Maps.has_put_same hm (by trivial) _, fun y hy => by
      by_cases e : y = x
      · subst e; exact Maps.has_put_same hm (by trivial) _
      · rw [Maps.has_put_other (by simpa using e)]; exact hy⟩
  have hput : ∀ w2 w3, Turn M W w2 → Memo l value n M nb D w2 → w2.grownBy w3 (some M) → w3.ownsMap Try.prog 3 (plainElem Try.prog 3) M (nb + 1) (D.put (.int .i64 x) (.lit (.int .i64 (satF l value n x)))) → SubEnd l value n M nb c D x W (.returned (.int .i64 (satF l value n x))) w3 := fun w2 w3 h1 h2 h3 h4 => hfin w3 (h1.trans (Turn.grown h3)) (h2.put h4)
  have hputh := Lib.hid hput
  generalize SubEnd l value n M nb c D x W = R at hputh ⊢
  have hr := hasB_range hx
  have hkey := Maps.keyOf_int_mk Try.underlying3 (wf_i64 (x := x) (by omega) (by have := hA.len; omega))
  have hown := hm.own
  have cm := he.cm
  have ca := he.ca
  have hget : Calls Try.prog 38 #[.pointer (some ⟨b, 0, none⟩), .int .i64 x] W (GetEnd W (⟨0, 0, 0⟩, false)) := get_none b l x hf W (hA.below (Nat.le_refl _) he.bel)
  have hnb' : nb < maxLen := by unfold maxLen; omega
  clear hfin hput hr hx hf
  by_cases hv : valN x = value
  · rw [if_pos hv] at hsat
    rw [hsat] at hwf hputh
    clear hsat
    go_enter Try.func37, Try.ntmps37
    go_wp2_with (first
      | (at_lookup; refine wpList_lookup_own_ok_int _ rfl _ _ 71 rfl 3 3 .i64 (Maps.int_keyed Try.underlying3) Try.underlying71 Try.underlying3 (Try.zeroValue3 _) M nb D rfl hown _ _ rfl hkey ?_; intro cc hat hwc; rw [hh])
      | (refine hget.mono ?_; clear hget; rintro e w2 ⟨rfl, hB2⟩
         have hb2 : Below W.heap.size W (w2.alloc (.cells #[.int .i64 0, .int .i64 0, .int .i64 0] 73)) := hB2.alloc hB2.size _
         have ht2 := Turn.of_below (M := M) hb2
         have he2 := he.turn ht2
         have hm2 := hm.turn (hb2.block M he.lM)
         have cv2 := he2.cv
         have cm2 := he2.cm
         have hown2 := hm2.own))
    go_quiet (exact Calls.quiet_of_same ((value_any x _).mono (fun _ _ h => ⟨h.1, h.2.symm⟩)))
    have hm3 : Memo l value n M nb D ((w2.alloc (.cells #[.int .i64 0, .int .i64 0, .int .i64 0] 73)).drewN nq) := hm2.turn rfl
    have hown3 := hm3.own
    go_wp2_with (at_mapUpdate; refine wpList_mapUpdate_own _ rfl _ _ _ 71 rfl 3 3 (Maps.int_keyed Try.underlying3) Try.underlying71 _ M nb D rfl hown3 hnb' _ _ _ rfl rfl hkey _ [] (plainElem_int Try.underlying3 hwf) ?_; intro w3 hown4 hgrow4
                 have hend := hputh.out _ _ (ht2.trans (Turn.drewN _ nq)) hm3 hgrow4 hown4)
    exact hend
  · rw [if_neg hv] at hsat
    rw [hsat] at hwf hputh
    have hvb : (valN x == value) = false := by simpa using hv
    clear hsat
    go_enter Try.func37, Try.ntmps37
    go_wp2_with (first
      | (at_lookup; refine wpList_lookup_own_ok_int _ rfl _ _ 71 rfl 3 3 .i64 (Maps.int_keyed Try.underlying3) Try.underlying71 Try.underlying3 (Try.zeroValue3 _) M nb D rfl hown _ _ rfl hkey ?_; intro cc hat hwc; rw [hh])
      | (refine hget.mono ?_; clear hget; rintro e w2 ⟨rfl, hB2⟩
         have hb2 : Below W.heap.size W (w2.alloc (.cells #[.int .i64 0, .int .i64 0, .int .i64 0] 73)) := hB2.alloc hB2.size _
         have ht2 := Turn.of_below (M := M) hb2
         have he2 := he.turn ht2
         have hm2 := hm.turn (hb2.block M he.lM)
         have cv2 := he2.cv
         have cm2 := he2.cm
         have hown2 := hm2.own))
    go_quiet (exact Calls.quiet_of_same ((value_any x _).mono (fun _ _ h => ⟨h.1, h.2.symm⟩)))
    have hm3 : Memo l value n M nb D ((w2.alloc (.cells #[.int .i64 0, .int .i64 0, .int .i64 0] 73)).drewN nq) := hm2.turn rfl
    have hown3 := hm3.own
    go_wp2_with (at_mapUpdate; refine wpList_mapUpdate_own _ rfl _ _ _ 71 rfl 3 3 (Maps.int_keyed Try.underlying3) Try.underlying71 _ M nb D rfl hown3 hnb' _ _ _ rfl rfl hkey _ [] (plainElem_int Try.underlying3 hwf) ?_; intro w3 hown4 hgrow4
                 have hend := hputh.out _ _ (ht2.trans (Turn.drewN _ nq)) hm3 hgrow4 hown4)
    exact hend

/-- what stands while below is called for a node's children -/
structure HS (l : List Nd) (b M pm pa pb pl pv pn nb c Bn : Nat) (value n v lo hi : Int) (D : DataW Unit) (w0 w3 W' : World) : Prop where
  env : SEnv b M pm pa pb pl pv pn value n w0 W'
  turn : Turn M w3 W'
  lt : Bn < w3.heap.size
  ne : Bn ≠ M
  k0 : W'.cell? ⟨Bn, 0, none⟩ = some (.int .i64 v)
  k1 : W'.cell? ⟨Bn, 1, none⟩ = some (.int .i64 lo)
  k2 : W'.cell? ⟨Bn, 2, none⟩ = some (.int .i64 hi)
  memo : ∃ D' nb', Memo l value n M nb' D' W' ∧ nb' ≤ nb + (if Maps.has D' (.int .i64 lo) = true then c else 0) + (if Maps.has D' (.int .i64 hi) = true then c else 0) ∧ ∀ y, Maps.has D (.int .i64 y) = true → Maps.has D' (.int .i64 y) = true

theorem HS.step {l : List Nd} {b M pm pa pb pl pv pn nb c Bn : Nat} {value n v lo hi : Int} {D : DataW Unit} {w0 w3 W' W'' : World} (h : HS l b M pm pa pb pl pv pn nb c Bn value n v lo hi D w0 w3 W') (t : Turn M W' W'')
    (hm : ∃ D' nb', Memo l value n M nb' D' W'' ∧ nb' ≤ nb + (if Maps.has D' (.int .i64 lo) = true then c else 0) + (if Maps.has D' (.int .i64 hi) = true then c else 0) ∧ ∀ y, Maps.has D (.int .i64 y) = true → Maps.has D' (.int .i64 y) = true) : HS l b M pm pa pb pl pv pn nb c Bn value n v lo hi D w0 w3 W'' :=
  have hl : Bn < W'.heap.size := Nat.lt_of_lt_of_le h.lt h.turn.size
  have cc : ∀ i, W''.cell? ⟨Bn, i, none⟩ = W'.cell? ⟨Bn, i, none⟩ := fun i => World.cell?_of_block (a := ⟨Bn, i, none⟩) (t.same Bn hl h.ne)
  ⟨h.env.turn t, h.turn.trans t, h.lt, h.ne, (cc 0).trans h.k0, (cc 1).trans h.k1, (cc 2).trans h.k2, hm⟩
theorem HS.quiet {l : List Nd} {b M pm pa pb pl pv pn nb c Bn : Nat} {value n v lo hi : Int} {D : DataW Unit} {w0 w3 W' W'' : World} (h : HS l b M pm pa pb pl pv pn nb c Bn value n v lo hi D w0 w3 W') (t : Below W'.heap.size W' W'') : HS l b M pm pa pb pl pv pn nb c Bn value n v lo hi D w0 w3 W'' := by
  obtain ⟨D', nb', h1, h2, h3⟩ := h.memo
  exact h.step (Turn.of_below t) ⟨D', nb', h1.turn (t.block M h.env.lM), h2, h3⟩

set_option maxRecDepth 100000 in
set_option maxHeartbeats 4000000 in
theorem sub_node {l : List Nd} {b M pm pa pb pl pv pn nb : Nat} {value n x v lo hi : Int} {w0 W : World} {D : DataW Unit} (c : Nat) (hnb : nb + 2 * c < 100000) (hA : ArRd w0 b l) (hn0 : 0 ≤ n) (hn : n ≤ 12) (hx : hasB l x = true) (hf : 0 ≤ x ∧ x < l.length) (hg : getN l x = (⟨v, lo, hi⟩, true)) (he : SEnv b M pm pa pb pl pv pn value n w0 W) (hm : Memo l value n M nb D W) (hh : Maps.has D (.int .i64 x) = false)
    (v0 : 0 ≤ v) (v1 : v < n) (hl0 : 0 ≤ satF l value n lo) (hl1 : satF l value n lo * 2 ^ (lvl l n lo - v - 1).toNat ≤ 4096) (hh0 : 0 ≤ satF l value n hi) (hh1 : satF l value n hi * 2 ^ (lvl l n hi - v - 1).toNat ≤ 4096) (hl2 : v + 1 ≤ lvl l n lo) (hl3 : lvl l n lo ≤ n) (hh2 : v + 1 ≤ lvl l n hi) (hh3 : lvl l n hi ≤ n)
    (hsat : satF l value n x = satF l value n lo * 2 ^ (lvl l n lo - v - 1).toNat + satF l value n hi * 2 ^ (lvl l n hi - v - 1).toNat)
    (hlow : ∀ W' D' nb', SEnv b M pm pa pb pl pv pn value n w0 W' → Memo l value n M nb' D' W' → nb' ≤ nb + 2 * c → Calls Try.prog 37 #[.int .i64 lo, .pointer (some ⟨pm, 0, none⟩), .pointer (some ⟨pa, 0, none⟩), .pointer (some ⟨pb, 0, none⟩), .pointer (some ⟨pl, 0, none⟩), .pointer (some ⟨pv, 0, none⟩)] W' (SubEnd l value n M nb' c D' lo W'))
    (hhigh : ∀ W' D' nb', SEnv b M pm pa pb pl pv pn value n w0 W' → Memo l value n M nb' D' W' → nb' ≤ nb + 2 * c → Calls Try.prog 37 #[.int .i64 hi, .pointer (some ⟨pm, 0, none⟩), .pointer (some ⟨pa, 0, none⟩), .pointer (some ⟨pb, 0, none⟩), .pointer (some ⟨pl, 0, none⟩), .pointer (some ⟨pv, 0, none⟩)] W' (SubEnd l value n M nb' c D' hi W')) :
    Calls Try.prog 37 #[.int .i64 x, .pointer (some ⟨pm, 0, none⟩), .pointer (some ⟨pa, 0, none⟩), .pointer (some ⟨pb, 0, none⟩), .pointer (some ⟨pl, 0, none⟩), .pointer (some ⟨pv, 0, none⟩)] W (SubEnd l value n M nb (2 * c + 1) D x W) := by
  have hwf : (Lit.int .i64 (satF l value n x)).wf = true := by
    have q1 : 0 ≤ satF l value n lo * 2 ^ (lvl l n lo - v - 1).toNat := Int.mul_nonneg hl0 (Int.pow_nonneg (by decide))
    have q2 : 0 ≤ satF l value n hi * 2 ^ (lvl l n hi - v - 1).toNat := Int.mul_nonneg hh0 (Int.pow_nonneg (by decide))
    exact wf_i64 (by omega) (by omega)
  have hputh := Lib.hid (p := ∀ w2 w3 D' nb', Turn M W w2 → Memo l value n M nb' D' w2 → nb' ≤ nb + 2 * c → (∀ y, Maps.has D (.int .i64 y) = true → Maps.has D' (.int .i64 y) = true) → w2.grownBy w3 (some M) → w3.ownsMap Try.prog 3 (plainElem Try.prog 3) M (nb' + 1) (D'.put (.int .i64 x) (.lit (.int .i64 (satF l value n x)))) → SubEnd l value n M nb (2 * c + 1) D x W (.returned (.int .i64 (satF l value n x))) w3)
    (fun w2 w3 D' nb' h1 h2 h3 h4 h5 h6 =>
      have hm : Maps.IsMap D' := by obtain ⟨es, ck, _, _, _, hd⟩ := h2.own; exact ⟨_, hd⟩
      ⟨rfl, h1.trans (Turn.grown h5), _, nb' + 1, h2.put h6, by rw [hh]; simp; omega, Maps.has_put_same hm (by trivial) _, fun y hy => by
        by_cases e : y = x
        · subst e; exact Maps.has_put_same hm (by trivial) _
        · rw [Maps.has_put_other (by simpa using e)]; exact h4 y hy⟩)
  generalize SubEnd l value n M nb (2 * c + 1) D x W = R at hputh ⊢
  have hr := hasB_range hx
  have hkey := Maps.keyOf_int_mk Try.underlying3 (wf_i64 (x := x) (by omega) (by have := hA.len; omega))
  have hown := hm.own
  have cm := he.cm
  have ca := he.ca
  have hget : Calls Try.prog 38 #[.pointer (some ⟨b, 0, none⟩), .int .i64 x] W (GetEnd W (⟨v, lo, hi⟩, true)) := hg ▸ get_any b l x W (hA.below (Nat.le_refl _) he.bel)
  -- the four calls
  have cLo : ∀ Bn w3 W', HS l b M pm pa pb pl pv pn nb c Bn value n v lo hi D w0 w3 W' → Calls Try.prog 37 #[.int .i64 lo, .pointer (some ⟨pm, 0, none⟩), .pointer (some ⟨pa, 0, none⟩), .pointer (some ⟨pb, 0, none⟩), .pointer (some ⟨pl, 0, none⟩), .pointer (some ⟨pv, 0, none⟩)] W' fun e w'' => e = .returned (.int .i64 (satF l value n lo)) ∧ HS l b M pm pa pb pl pv pn nb c Bn value n v lo hi D w0 w3 w'' := fun Bn w3 W' hs => by
    obtain ⟨D', nb', h1, h2, h3⟩ := hs.memo
    refine (hlow W' D' nb' hs.env h1 (by split at h2 <;> split at h2 <;> omega)).mono ?_
    rintro e w'' ⟨he, ht, D'', nb'', g1, g2, g3, g4⟩
    refine ⟨he, hs.step ht ⟨D'', nb'', g1, ?_, fun y hy => g4 y (h3 y hy)⟩⟩
    rw [if_pos g3]
    have g5 := g4 hi
    by_cases q1 : Maps.has D' (.int .i64 lo) = true <;> by_cases q2 : Maps.has D' (.int .i64 hi) = true <;> by_cases q3 : Maps.has D'' (.int .i64 hi) = true <;> simp [q1, q2, q3] at h2 g2 g5 ⊢ <;> omega
  have cHi : ∀ Bn w3 W', HS l b M pm pa pb pl pv pn nb c Bn value n v lo hi D w0 w3 W' → Calls Try.prog 37 #[.int .i64 hi, .pointer (some ⟨pm, 0, none⟩), .pointer (some ⟨pa, 0, none⟩), .pointer (some ⟨pb, 0, none⟩), .pointer (some ⟨pl, 0, none⟩), .pointer (some ⟨pv, 0, none⟩)] W' fun e w'' => e = .returned (.int .i64 (satF l value n hi)) ∧ HS l b M pm pa pb pl pv pn nb c Bn value n v lo hi D w0 w3 w'' := fun Bn w3 W' hs => by
    obtain ⟨D', nb', h1, h2, h3⟩ := hs.memo
    refine (hhigh W' D' nb' hs.env h1 (by split at h2 <;> split at h2 <;> omega)).mono ?_
    rintro e w'' ⟨he, ht, D'', nb'', g1, g2, g3, g4⟩
    refine ⟨he, hs.step ht ⟨D'', nb'', g1, ?_, fun y hy => g4 y (h3 y hy)⟩⟩
    rw [if_pos g3]
    have g5 := g4 lo
    by_cases q1 : Maps.has D' (.int .i64 lo) = true <;> by_cases q2 : Maps.has D' (.int .i64 hi) = true <;> by_cases q3 : Maps.has D'' (.int .i64 lo) = true <;> simp [q1, q2, q3] at h2 g2 g5 ⊢ <;> omega
  have cLv : ∀ y Bn w3 W', HS l b M pm pa pb pl pv pn nb c Bn value n v lo hi D w0 w3 W' → Calls Try.prog 36 #[.int .i64 y, .pointer (some ⟨pa, 0, none⟩), .pointer (some ⟨pn, 0, none⟩)] W' fun e w'' => e = .returned (.int .i64 (lvl l n y)) ∧ HS l b M pm pa pb pl pv pn nb c Bn value n v lo hi D w0 w3 w'' := fun y Bn w3 W' hs => by
    refine (level_any b l n y pa pn W' (hA.below (Nat.le_refl _) hs.env.bel) hs.env.ca hs.env.la hs.env.cn hs.env.ln).mono ?_
    rintro e w'' ⟨he, hb⟩
    exact ⟨he, hs.quiet hb⟩
  have cLvLo := cLv lo
  have cLvHi := cLv hi
  clear hlow hhigh cLv
  generalize satF l value n lo = sl at *
  generalize satF l value n hi = sh at *
  generalize lvl l n lo = ll at *
  generalize lvl l n hi = lh at *
  have p1 : 0 ≤ sl * 2 ^ (ll - v - 1).toNat := Int.mul_nonneg hl0 (Int.pow_nonneg (by decide))
  have p2 : 0 ≤ sh * 2 ^ (lh - v - 1).toNat := Int.mul_nonneg hh0 (Int.pow_nonneg (by decide))
  have e1 : IntKind.i64.wrap (ll - v) = ll - v := by rw [IntKind.wrap_i64]; omega
  have e2 : IntKind.i64.wrap (ll - v - 1) = ll - v - 1 := by rw [IntKind.wrap_i64]; omega
  have e3 : IntKind.i64.wrap (lh - v) = lh - v := by rw [IntKind.wrap_i64]; omega
  have e4 : IntKind.i64.wrap (lh - v - 1) = lh - v - 1 := by rw [IntKind.wrap_i64]; omega
  have e5 : IntKind.i64.wrap (sl * 2 ^ (ll - v - 1).toNat) = sl * 2 ^ (ll - v - 1).toNat := by rw [IntKind.wrap_i64]; omega
  have e6 : IntKind.i64.wrap (sh * 2 ^ (lh - v - 1).toNat) = sh * 2 ^ (lh - v - 1).toNat := by rw [IntKind.wrap_i64]; omega
  have e7 : IntKind.i64.wrap (sl * 2 ^ (ll - v - 1).toNat + sh * 2 ^ (lh - v - 1).toNat) = sl * 2 ^ (ll - v - 1).toNat + sh * 2 ^ (lh - v - 1).toNat := by rw [IntKind.wrap_i64]; omega
  have n1 : ¬ ll - v - 1 < 0 := by omega
  have n2 : ¬ lh - v - 1 < 0 := by omega
  go_enter Try.func37, Try.ntmps37
  go_wp2_with (first
      | (at_lookup; refine wpList_lookup_own_ok_int _ rfl _ _ 71 rfl 3 3 .i64 (Maps.int_keyed Try.underlying3) Try.underlying71 Try.underlying3 (Try.zeroValue3 _) M nb D rfl hown _ _ rfl hkey ?_; intro cc hat hwc; rw [hh])
      | (refine hget.mono ?_; clear hget; rintro e w2 ⟨rfl, hB2⟩))
  have hb2 : Below W.heap.size W (w2.alloc (.cells #[.int .i64 v, .int .i64 lo, .int .i64 hi] 73)) := hB2.alloc hB2.size _
  have hS0 : HS l b M pm pa pb pl pv pn nb c w2.heap.size value n v lo hi D w0 (w2.alloc (.cells #[.int .i64 v, .int .i64 lo, .int .i64 hi] 73)) (w2.alloc (.cells #[.int .i64 v, .int .i64 lo, .int .i64 hi] 73)) :=
    ⟨he.turn (Turn.of_below hb2), Turn.refl _ _, by simp, by have := he.lM; have := hB2.size; omega, cell_new3 _ _ _ _ _ 0, cell_new3 _ _ _ _ _ 1, cell_new3 _ _ _ _ _ 2, D, nb, hm.turn (hb2.block M he.lM), by omega, fun _ h => h⟩
  have hT0 := Turn.of_below (M := M) hb2
  clear he hm hown cm ca hb2
  generalize w2.heap.size = Bn at hS0 ⊢
  generalize w2.alloc (.cells #[.int .i64 v, .int .i64 lo, .int .i64 hi] 73) = w3 at hS0 hT0 ⊢
  have hS1 : HS l b M pm pa pb pl pv pn nb c Bn value n v lo hi D w0 w3 w3.drew := hS0.quiet ((Below.refl _ _).drew)
  have hkeep := Lib.hid (p := ∀ W', HS l b M pm pa pb pl pv pn nb c Bn value n v lo hi D w0 w3 W' → (W'.cell? ⟨pb, 0, none⟩ = some (.func (.func 37) #[] #[.pointer (some ⟨pm, 0, none⟩), .pointer (some ⟨pa, 0, none⟩), .pointer (some ⟨pb, 0, none⟩), .pointer (some ⟨pl, 0, none⟩), .pointer (some ⟨pv, 0, none⟩)]) ∧ W'.cell? ⟨pl, 0, none⟩ = some (.func (.func 36) #[] #[.pointer (some ⟨pa, 0, none⟩), .pointer (some ⟨pn, 0, none⟩)]) ∧ W'.cell? ⟨Bn, 0, none⟩ = some (.int .i64 v) ∧ W'.cell? ⟨Bn, 1, none⟩ = some (.int .i64 lo) ∧ W'.cell? ⟨Bn, 2, none⟩ = some (.int .i64 hi) ∧ HS l b M pm pa pb pl pv pn nb c Bn value n v lo hi D w0 w3 W'))
    (fun W' h => ⟨h.env.cb, h.env.cl, h.k0, h.k1, h.k2, h⟩)
  clear hS0
  go_region_held3 (fun W' => W'.cell? ⟨pb, 0, none⟩ = some (.func (.func 37) #[] #[.pointer (some ⟨pm, 0, none⟩), .pointer (some ⟨pa, 0, none⟩), .pointer (some ⟨pb, 0, none⟩), .pointer (some ⟨pl, 0, none⟩), .pointer (some ⟨pv, 0, none⟩)]) ∧ W'.cell? ⟨pl, 0, none⟩ = some (.func (.func 36) #[] #[.pointer (some ⟨pa, 0, none⟩), .pointer (some ⟨pn, 0, none⟩)]) ∧ W'.cell? ⟨Bn, 0, none⟩ = some (.int .i64 v) ∧ W'.cell? ⟨Bn, 1, none⟩ = some (.int .i64 lo) ∧ W'.cell? ⟨Bn, 2, none⟩ = some (.int .i64 hi) ∧ HS l b M pm pa pb pl pv pn nb c Bn value n v lo hi D w0 w3 W')
    (first | assumption | exact hkeep.out _ hb | exact hkeep.out _ hS1)
    (first
      | (go_at_call_of 37 (Value.int .i64 lo); refine (cLo Bn w3 _ ((‹_ ∧ _ ∧ _ ∧ _ ∧ _ ∧ HS l b M pm pa pb pl pv pn nb c Bn value n v lo hi D w0 w3 _›).2.2.2.2.2)).mono ?_; rintro e w' ⟨rfl, hb⟩)
      | (go_at_call_of 37 (Value.int .i64 hi); refine (cHi Bn w3 _ ((‹_ ∧ _ ∧ _ ∧ _ ∧ _ ∧ HS l b M pm pa pb pl pv pn nb c Bn value n v lo hi D w0 w3 _›).2.2.2.2.2)).mono ?_; rintro e w' ⟨rfl, hb⟩)
      | (go_at_call_of 36 (Value.int .i64 lo); refine (cLvLo Bn w3 _ ((‹_ ∧ _ ∧ _ ∧ _ ∧ _ ∧ HS l b M pm pa pb pl pv pn nb c Bn value n v lo hi D w0 w3 _›).2.2.2.2.2)).mono ?_; rintro e w' ⟨rfl, hb⟩)
      | (go_at_call_of 36 (Value.int .i64 hi); refine (cLvHi Bn w3 _ ((‹_ ∧ _ ∧ _ ∧ _ ∧ _ ∧ HS l b M pm pa pb pl pv pn nb c Bn value n v lo hi D w0 w3 _›).2.2.2.2.2)).mono ?_; rintro e w' ⟨rfl, hb⟩))
  have hS2 := (‹_ ∧ _ ∧ _ ∧ _ ∧ _ ∧ HS l b M pm pa pb pl pv pn nb c Bn value n v lo hi D w0 w3 _›).2.2.2.2.2
  have t1 : (ll - v).toNat - 1 = (ll - v - 1).toNat := by omega
  have t2 : (lh - v).toNat - 1 = (lh - v - 1).toNat := by omega
  rw [t1, t2, e5, e6, e7]
  clear t1 t2 e1 e2 e3 e4 e5 e6 e7 p1 p2 n1 n2 hl1 hh1
  obtain ⟨D', nb', hm', hnb', hmono⟩ := hS2.memo
  have hend := fun W5 => hputh.out _ W5 D' nb' (hT0.trans hS2.turn) hm' (by split at hnb' <;> split at hnb' <;> omega) hmono
  have hown' := hm'.own
  have hlt' : nb' < maxLen := by unfold maxLen; split at hnb' <;> split at hnb' <;> omega
  have cm' := hS2.env.cm
  rw [hsat] at hwf hend
  generalize sl * 2 ^ (ll - v - 1).toNat + sh * 2 ^ (lh - v - 1).toNat = s at *
  have hendh := Lib.hid hend
  clear hend hnb' hmono hS2 hm' hputh
  go_wp2_with (at_mapUpdate; refine wpList_mapUpdate_own _ rfl _ _ _ 71 rfl 3 3 (Maps.int_keyed Try.underlying3) Try.underlying71 _ M nb' D' rfl hown' hlt' _ _ _ rfl rfl hkey _ [] (plainElem_int Try.underlying3 hwf) ?_; intro w5 hown5 hgrow5
               have hend := hendh.out w5 hgrow5 hown5)
  exact hend

theorem pow_small (k : Nat) (hk : k ≤ 12) : (2 : Int) ^ k ≤ 4096 := by
  have hle : (2 : Nat) ^ k ≤ 2 ^ 12 := Nat.pow_le_pow_right (by omega) hk
  rw [pow_nat]
  omega
theorem mul_pow_bound {s n u v : Int} (hu : v + 1 ≤ u) (hun : u ≤ n) (hn : n ≤ 12) (hv : 0 ≤ v) (h1 : s ≤ 2 ^ (n - u).toNat) : s * 2 ^ (u - v - 1).toNat ≤ 4096 := by
  have q : (0 : Int) ≤ 2 ^ (u - v - 1).toNat := Int.pow_nonneg (by decide)
  have m := Int.mul_le_mul_of_nonneg_right h1 q
  rw [← Int.pow_add, show (n - u).toNat + (u - v - 1).toNat = (n - v - 1).toNat by omega] at m
  exact Int.le_trans m (pow_small _ (by omega))

/-- **the count below a ref**: right, and nothing turns but the memo -/
theorem sub_in {l : List Nd} {b M pm pa pb pl pv pn : Nat} {value n : Int} {w0 : World} (hA : ArRd w0 b l) (hW : WF l) (hn0 : 0 ≤ n) (hn : n ≤ 12) :
    ∀ (k : Nat) (x : Int) (nb : Nat) (D : DataW Unit) (W : World), 12 - varOf l x < k → hasB l x = true → lowv l n k x → nb + 2 ^ (k + 2) < 100000 → SEnv b M pm pa pb pl pv pn value n w0 W → Memo l value n M nb D W →
    Calls Try.prog 37 #[.int .i64 x, .pointer (some ⟨pm, 0, none⟩), .pointer (some ⟨pa, 0, none⟩), .pointer (some ⟨pb, 0, none⟩), .pointer (some ⟨pl, 0, none⟩), .pointer (some ⟨pv, 0, none⟩)] W (SubEnd l value n M nb (2 ^ k - 1) D x W) := by
  intro k
  induction k with
  | zero =>
    intro x nb D W h
    exfalso
    have := varOf_le hW x
    omega
  | succ k ih =>
    intro x nb D W h hx hl hnb he hm
    have hp : 2 ^ k > 0 := Nat.pow_pos (by omega)
    have hp1 : 2 ^ (k + 1) = 2 * 2 ^ k := by rw [Nat.pow_succ]; omega
    have hp2 : 2 ^ (k + 2) = 4 * 2 ^ k := by rw [Nat.pow_succ, Nat.pow_succ]; omega
    have hp3 : 2 ^ (k + 1 + 2) = 8 * 2 ^ k := by rw [Nat.pow_succ, Nat.pow_succ, Nat.pow_succ]; omega
    cases hh : Maps.has D (.int .i64 x) with
    | true => exact sub_had _ hx hA.len he hm hh
    | false =>
      by_cases hf : 0 ≤ x ∧ x < l.length
      · obtain ⟨v, lo, hi, e, hg, hv, h1, h2, h3, h4, h5, h6⟩ := node_kids hW hf
        unfold lowv at hl
        rw [if_pos hf, e] at hl
        obtain ⟨l1, l2, l3⟩ := hl
        simp only at l1 l2 l3
        obtain ⟨a1, a2⟩ := satF_bound hW value n hn0 hn k lo (by omega) l2
        obtain ⟨b1, b2⟩ := satF_bound hW value n hn0 hn k hi (by omega) l3
        have hll : v + 1 ≤ lvl l n lo := by unfold lvl; omega
        have hlh : v + 1 ≤ lvl l n hi := by unfold lvl; omega
        have hml : lvl l n lo ≤ n := by unfold lvl; omega
        have hmh : lvl l n hi ≤ n := by unfold lvl; omega
        have := sub_node (c := 2 ^ k - 1) (by omega) hA hn0 hn hx hf hg he hm hh h1 l1 a1 (mul_pow_bound hll hml hn h1 a2) b1 (mul_pow_bound hlh hmh hn h1 b2) hll hml hlh hmh (satF_node hW value n hf e)
          (fun W' D' nb' g1 g2 g3 => ih lo nb' D' W' (by omega) h3 l2 (by omega) g1 g2)
          (fun W' D' nb' g1 g2 g3 => ih hi nb' D' W' (by omega) h4 l3 (by omega) g1 g2)
        rw [show 2 ^ (k + 1) - 1 = 2 * (2 ^ k - 1) + 1 by omega]
        exact this
      · exact sub_term _ (by omega) (by omega) hA hx hf he hm hh
end Go.Proofs.Yteifllgcpickhaa
