/- count: the document's Values -/
import Derived.Test.YteifllgcpickhaaRU
import Derived.Deep.RegionLaw
namespace Go.Proofs.Yteifllgcpickhaa
open Go.RowKit

theorem rvalues_no {lim : Int} {A : Option Addr} {cap : Nat} {l : List Nd} (f : Int) (w : World) (hh : hasB l f = false) :
    Calls Try.prog 17 #[.agg #[.int .i64 lim, .slice A l.length cap], .int .i64 f] w fun e w' => e = .returned (.slice none 0 0) ∧ Below w.heap.size w w' := by
  obtain ⟨hB, q0, q1, hlt⟩ := ref_box w lim A l cap
  have cH := fun W => rhas_any lim A cap l f W
  rw [hh] at cH
  obtain ⟨w1, hw1⟩ : ∃ w1, w.alloc (.cells #[.int .i64 lim, .slice A l.length cap] 27) = w1 := ⟨_, rfl⟩
  rw [hw1] at hB q0 q1 hlt
  go_enter Try.func17, Try.ntmps17
  go_wp2_with (go_at_call 31; refine (cH _).mono ?_; rintro e w3 ⟨rfl, hb⟩)
  go_ret
  exact ⟨rfl, hB.trans (hb.mono hB.size)⟩

/-- a row's cells from one on -/
theorem ints_news {w : World} {n0 : Nat} {g n c : Nat} {xs : List Int} (h : OwnInts w n0 (.slice (some ⟨g, 0, none⟩) n c) xs) (a : Nat) : ∀ j u, ((xs.drop a).map (Value.int .i64))[j]? = some u → w.cell? ((⟨g, a, none⟩ : Addr).add j) = some u := by
  intro j u hu
  have hadd : (⟨g, a, none⟩ : Addr).add j = ⟨g, a + j, none⟩ := by unfold Addr.add; split <;> simp_all
  rw [hadd]
  rcases ints_read h with ⟨h1, _⟩ | ⟨g', c', h1, _, _, hc⟩
  · cases h1
  · cases h1
    rw [List.getElem?_map, List.getElem?_drop] at hu
    obtain ⟨x, hx, rfl⟩ : ∃ x, xs[a + j]? = some x ∧ Value.int .i64 x = u := by
      cases hxx : xs[a + j]? with
      | none => rw [hxx] at hu; cases hu
      | some x => rw [hxx] at hu; exact ⟨x, rfl, by simpa using hu⟩
    obtain ⟨hlt, hxe⟩ := List.getElem?_eq_some_iff.1 hx
    rw [hc _ hlt, hxe]

theorem ints_take {w : World} {n0 : Nat} {g n c : Nat} {xs : List Int} (h : OwnInts w n0 (.slice (some ⟨g, 0, none⟩) n c) xs) (a : Nat) : ∀ j u, ((xs.take a).map (Value.int .i64))[j]? = some u → w.cell? ((⟨g, 0, none⟩ : Addr).add j) = some u := by
  intro j u hu
  refine ints_news h 0 j u ?_
  rw [List.drop_zero, List.getElem?_map]
  rw [List.getElem?_map, List.getElem?_take] at hu
  split at hu
  · exact hu
  · cases hu
theorem slice_from (g len c a : Nat) (h : a ≤ len) (hc : ¬ c = a) (w : World) : (Instr.sliceAt 39 (.slice (some ⟨g, 0, none⟩) len c) (some (.int .i64 (a : Int))) none none).run Try.prog w = .ok (.slice (some ⟨g, a, none⟩) (len - a) (c - a)) w := by
  have hu : Try.prog.underlying 39 = some (.slice (Try.prog.elem 39)) := by kernel_rfl
  have hs : (sizeOf (Try.prog.elem 39)).run Try.prog w = .ok 1 w := by kernel_rfl
  rw [run_sliceAt_slice _ _ _ _ _ _ hu, run_slice_l _ _ _ _ _ hu _ _ (by omega) (by omega), hs]
  simp only [Result.andThen, sliced, Int.toNat_natCast, Nat.mul_one]
  rw [if_neg hc]
  simp [Addr.add]
  intro h0
  omega
theorem slice_to (g len c a : Nat) (hc : a ≤ c) (w : World) : (Instr.sliceAt 39 (.slice (some ⟨g, 0, none⟩) len c) none (some (.int .i64 (a : Int))) none).run Try.prog w = .ok (.slice (some ⟨g, 0, none⟩) a c) w := by
  have hu : Try.prog.underlying 39 = some (.slice (Try.prog.elem 39)) := by kernel_rfl
  have hs : (sizeOf (Try.prog.elem 39)).run Try.prog w = .ok 1 w := by kernel_rfl
  rw [run_sliceAt_slice _ _ _ _ _ _ hu, run_slice_h _ _ _ _ _ hu _ _ (by omega) (by omega), hs]
  simp only [Result.andThen, sliced, Int.toNat_natCast, Nat.mul_one]
  simp [Addr.add]
theorem slice_end (g len c : Nat) (hc : c = len) (w : World) : (Instr.sliceAt 39 (.slice (some ⟨g, 0, none⟩) len c) (some (.int .i64 (len : Int))) none none).run Try.prog w = .ok (.slice (some ⟨g, 0, none⟩) 0 0) w := by
  have hu : Try.prog.underlying 39 = some (.slice (Try.prog.elem 39)) := by kernel_rfl
  have hs : (sizeOf (Try.prog.elem 39)).run Try.prog w = .ok 1 w := by kernel_rfl
  rw [run_sliceAt_slice _ _ _ _ _ _ hu, run_slice_l _ _ _ _ _ hu _ _ (by omega) (by omega), hs]
  simp only [Result.andThen, sliced, Int.toNat_natCast, Nat.mul_one]
  rw [if_pos hc]
  simp [hc]
/-- the rest of a row, from one on -/
theorem slice_from_src {W : World} {n0 g c : Nat} {xs : List Int} (ho : OwnInts W n0 (.slice (some ⟨g, 0, none⟩) xs.length c) xs) (hg : g < W.heap.size) (a : Nat) (ha : a ≤ xs.length) (hcap : xs.length ≤ c) :
    ∃ src, (∀ w, (Instr.sliceAt 39 (.slice (some ⟨g, 0, none⟩) xs.length c) (some (.int .i64 (a : Int))) none none).run Try.prog w = .ok src w) ∧ SrcAt W W.heap.size src (xs.drop a) := by
  by_cases e : c = a
  · have hal : a = xs.length := by omega
    subst hal
    refine ⟨_, slice_end g _ c e, .inr ⟨⟨g, 0, none⟩, 0, by simp, hg, fun j u hu => ?_⟩⟩
    simp at hu
  · exact ⟨_, slice_from g _ c a ha e, .inr ⟨⟨g, a, none⟩, c - a, by rw [List.length_drop], hg, fun j u hu => ints_news ho a j u hu⟩⟩
theorem row_cap {w : World} {n0 g n c : Nat} {xs : List Int} (h : OwnInts w n0 (.slice (some ⟨g, 0, none⟩) n c) xs) : n ≤ c ∧ c ≤ maxLen ∧ n = xs.length := by
  rcases h.2 with ⟨h1, _⟩ | ⟨g', cap', cur, h1, h2, h3, h4, h5, h6, h7⟩
  · cases h1
  · cases h1
    exact ⟨h4, h5, rfl⟩

set_option maxRecDepth 100000 in
set_option maxHeartbeats 16000000 in
theorem rvalues_yes {lim : Int} {A : Option Addr} {cap : Nat} {l : List Nd} (hW : WF l) (hlen : l.length ≤ 1000) (f : Int) (w : World) (hn : NodesAt w A l) (hh : hasB l f = true) :
    Calls Try.prog 17 #[.agg #[.int .i64 lim, .slice A l.length cap], .int .i64 f] w fun e w' => ∃ v, e = .returned v ∧ OwnInts w' w.heap.size v (insN l f 4096) ∧ Below w.heap.size w w' := by
  obtain ⟨hB, q0, q1, hlt⟩ := ref_box w lim A l cap
  have cH := fun W => rhas_any lim A cap l f W
  rw [hh] at cH
  have cT : ∀ W, Below w.heap.size w W → _ := fun W hb => tell_rd (lim := lim) (cap := cap) hW hlen f W (hn.below (Nat.le_refl _) hb)
  clear hh hn
  obtain ⟨i0, hi0, hz0, hz1, hz2⟩ := info_parts Try.info3
  obtain ⟨w1, hw1⟩ : ∃ w1, w.alloc (.cells #[.int .i64 lim, .slice A l.length cap] 27) = w1 := ⟨_, rfl⟩
  rw [hw1] at hB q0 q1 hlt
  go_enter Try.func17, Try.ntmps17
  go_wp2_with (first
    | (go_at_call 31; refine (cH _).mono ?_; rintro e w3 ⟨rfl, hb⟩; have p0 := (hb.cell (p := ⟨w.heap.size, 0, none⟩) hlt).trans q0; have p1 := (hb.cell (p := ⟨w.heap.size, 1, none⟩) hlt).trans q1; have hB3 := hB.trans (hb.mono hB.size))
    | (go_at_call 32; refine (cT _ hB3).mono ?_; clear cT; rintro e w4 ⟨gT, cT', rfl, hgT, hcells, hb4⟩; have hch := Lib.hid hcells; clear hcells))
  have hB4 := hB3.trans (hb4.mono hB3.size)
  have hw4 := hB4.size
  clear p0 p1 q0 q1 hw1 hlt hb4 hB hB3
  go_loopw [5, 7] (fun v p wr => ∃ (i : Nat), i ≤ 4096 ∧ p = .int .i64 i ∧ OwnInts wr w4.heap.size v (insN l f i) ∧ Below w4.heap.size w4 wr) (fun _ p _ => 4096 - (intOf p).toNat)
  case atStart => exact ⟨0, by omega, rfl, ⟨rfl, .inl ⟨rfl, rfl⟩⟩, Below.refl _ _⟩
  case round =>
    obtain ⟨i, hi, rfl, ho, hBr⟩ := hrel
    by_cases hil : i < 4096
    · have e0 := (hBr.cell (p := ⟨gT, i, none⟩) hgT).trans (hch.out i hil)
      have j0 : (i : Int) < 4096 := by omega
      have j1 : (0 : Int) ≤ (i : Int) := by omega
      have hxl := insN_len l f i
      have hnext := Lib.hid (show insN l f (i + 1) = ins (tellN l f i) (insN l f i) from rfl)
      have hws := hBr.size
      generalize tellN l f i = t at *
      generalize insN l f i = xs at *
      rcases ints_read ho with ⟨rfl, rfl⟩ | ⟨g, c, rfl, hg4, hg, hc⟩
      · have hins := Lib.hid (show ins t [] = [t] from rfl)
        go_wp2_with fail
        refine wp_loop_rounds 1 ?_
        rw [rounds_succ]
        go_wp2_with fail
        go_quiet (fail)
        have hBa := below_drewN hBr nq
        have e0a : (wr.drewN nq).cell? ⟨gT, i, none⟩ = some (.int .i64 t) := e0
        clear e0 ho
        generalize wr.drewN nq = wa at *
        go_wp2_with fail
        go_quiet (fail)
        go_wp2_with fail
        have hBz := below_drewN hBa nq
        have e0z : (wa.drewN nq).cell? ⟨gT, i, none⟩ = some (.int .i64 t) := e0a
        clear e0a
        generalize wa.drewN nq = wz at *
        obtain ⟨vr, wy, hrun1, hor, hby⟩ := rest_run (wz := wz) (n0 := w4.heap.size) (B := 0) (src := .slice none 0 0) (t := t) (ys := []) hBz.size (Nat.zero_le _) (.inl ⟨rfl, rfl⟩) (by simp)
        have hk1 : (wz.alloc (.cells #[.int .i64 t] 3)).cell? ⟨gT, i, none⟩ = some (.int .i64 t) := (((Below.refl wz.heap.size wz).alloc (Nat.le_refl _) _).cell (p := ⟨gT, i, none⟩) (Nat.lt_of_lt_of_le hgT hBz.size)).trans e0z
        go_region_law (refine step_append_run rfl (.tmp 57) (.tmp 60) 39 rfl hrun1 ?_)
        obtain ⟨v2, w7, v3, w8, hr2, hr3, ho8, hb8⟩ := out_run (wy := wy) (n0 := w4.heap.size) (B := 0) (src := .slice none 0 0) (ys := []) (Nat.le_trans hBz.size hby.size) (Nat.zero_le _) (.inl ⟨rfl, rfl⟩) hor (by simp) (by simp)
        have hfin := Lib.hid (show OwnInts w8 w4.heap.size v3 (insN l f (i + 1)) ∧ Below w4.heap.size w4 w8 from ⟨by rw [hnext.out, hins.out]; exact ho8, hBz.trans ((hby.mono hBz.size).trans (hb8.mono (Nat.le_trans hBz.size hby.size)))⟩)
        clear hrun1 hk1 e0z hor ho8 hb8
        go_wp2_with (first
          | (at_builtin; refine wpList_append_run rfl (.tmp 62) (.tmp 65) 39 rfl hr2 ?_; clear hr2)
          | (at_builtin; refine wpList_append_run rfl (.tmp 66) (.tmp 67) 39 rfl hr3 ?_; clear hr3))
        go_roundw
        case rel => exact ⟨i + 1, by omega, by go_num, hfin.out.1, hfin.out.2⟩
        case measure => simp [intOf]; omega
      · have hch2 := Lib.hid hc
        clear hc
        obtain ⟨hcap, hcap2, _⟩ := row_cap ho
        unfold maxLen at hcap2
        generalize wr = wo at *
        go_wp2_with fail
        go_loopw [8] (fun p wr => ∃ (a : Nat), a ≤ xs.length ∧ p = .int .i64 a ∧ (∀ j (h : j < xs.length), j < a → xs[j] < t) ∧ Below wo.heap.size wo wr) (fun p _ => xs.length - (intOf p).toNat)
        case atStart => exact ⟨0, by omega, rfl, fun j _ h => by omega, Below.refl _ _⟩
        case round =>
          obtain ⟨a, ha, rfl, hlow, hB2⟩ := hrel
          have hlowh := Lib.hid hlow
          clear hlow
          have e2 := (hB2.cell (p := ⟨gT, i, none⟩) (Nat.lt_of_lt_of_le hgT hws)).trans e0
          have a0 : (0 : Int) ≤ (a : Int) := by omega
          by_cases hal : a < xs.length
          · have e1 := (hB2.cell (p := ⟨g, a, none⟩) hg).trans (hch2.out a hal)
            have a1 : (a : Int) < (xs.length : Int) := by omega
            by_cases hlt : xs[a] < t
            · have hst := Lib.hid (show ∀ j (h : j < xs.length), j < a + 1 → xs[j] < t from fun j hj hja => by
                by_cases e : j = a
                · subst e; exact hlt
                · exact hlowh.out j hj (by omega))
              generalize xs[a] = x at *
              go_wp2_with fail
              go_quiet (fail)
              go_wp2_with fail
              go_roundw
              case rel => exact ⟨a + 1, by omega, by go_num, hst.out, below_drewN hB2 nq⟩
              case measure => simp [intOf]; omega
            · have hat := Lib.hid (insAt_eq t xs a ha hlowh.out (fun _ => hlt))
              by_cases hxt : xs[a] = t
              · have hold := Lib.hid (ins_old t xs (by rw [← hat.out]; simp [hal, hxt]; omega))
                generalize xs[a] = x at *
                obtain rfl : t = x := hxt.symm
                have hne : (a == xs.length) = false := by simp; omega
                have hne2 : ((a : Int) == (xs.length : Int)) = false := by simp; omega
                have hlt' : decide (t < t) = false := by simp
                go_wp2_with fail
                go_quiet (fail)
                have hBa := below_drewN hB2 nq
                have e2a : (wr.drewN nq).cell? ⟨gT, i, none⟩ = some (.int .i64 t) := e2
                have e1a : (wr.drewN nq).cell? ⟨g, a, none⟩ = some (.int .i64 t) := e1
                clear e2
                generalize wr.drewN nq = wa at *
                go_wp2_with fail
                go_quiet (fail)
                go_wp2_with fail
                have hBz := below_drewN hBa nq
                have e2z : (wa.drewN nq).cell? ⟨gT, i, none⟩ = some (.int .i64 t) := e2a
                clear e2a
                generalize wa.drewN nq = wz at *
                have hfin := Lib.hid (show OwnInts wz w4.heap.size (.slice (some ⟨g, 0, none⟩) xs.length c) (insN l f (i + 1)) ∧ Below w4.heap.size w4 wz from ⟨by rw [hnext.out, hold.out]; exact row_below ho hBz, hBr.trans (hBz.mono hws)⟩)
                exact ⟨⟨i + 1, by omega, by go_num, hfin.out.1, hfin.out.2⟩, by simp [intOf]; omega⟩
              · have hins := Lib.hid (show ins t xs = xs.take a ++ (t :: xs.drop a) from by
                  have := ins_new t xs (by rw [← hat.out]; right; simp [hal, hxt])
                  rw [← hat.out] at this
                  exact this)
                generalize xs[a] = x at *
                have hxt' : (x == t) = false := by simpa using hxt
                have hxt2 : (x != t) = true := by simpa using hxt
                have hlt' : decide (x < t) = false := by simpa using hlt
                have hne2 : ((a : Int) == (xs.length : Int)) = false := by simp; omega
                have a2 : (a : Int) ≤ (xs.length : Int) := by omega
                have a3 : (a : Int) ≤ (c : Int) := by omega
                have a4 : ¬ a = c := by omega
                have a5 : a ≤ xs.length := by omega
                have a6 : a ≤ c := by omega
                go_wp2_with fail
                go_quiet (fail)
                have hBa := below_drewN hB2 nq
                have e2a : (wr.drewN nq).cell? ⟨gT, i, none⟩ = some (.int .i64 t) := e2
                have e1a : (wr.drewN nq).cell? ⟨g, a, none⟩ = some (.int .i64 x) := e1
                clear e2
                generalize wr.drewN nq = wa at *
                go_wp2_with fail
                go_quiet (fail)
                go_wp2_with fail
                have hBz := below_drewN hBa nq
                have e2z : (wa.drewN nq).cell? ⟨gT, i, none⟩ = some (.int .i64 t) := e2a
                clear e2a
                generalize wa.drewN nq = wz at *
                have hoz : OwnInts wz w4.heap.size (.slice (some ⟨g, 0, none⟩) xs.length c) xs := row_below ho hBz
                have hgz : g < wz.heap.size := Nat.lt_of_lt_of_le hg hBz.size
                have hBzz := hBr.trans (hBz.mono hws)
                obtain ⟨src, hsl, hsrc⟩ := slice_from_src hoz hgz a ha hcap
                have hsl2 := slice_to g xs.length c a (by omega)
                obtain ⟨vr, wy, hrun1, hor, hby⟩ := rest_run (wz := wz) (n0 := w4.heap.size) (B := wz.heap.size) (src := src) (t := t) (ys := xs.drop a) hBzz.size (Nat.le_refl _) hsrc (by rw [List.length_drop]; omega)
                have hk1 : (wz.alloc (.cells #[.int .i64 t] 3)).cell? ⟨gT, i, none⟩ = some (.int .i64 t) := (((Below.refl wz.heap.size wz).alloc (Nat.le_refl _) _).cell (p := ⟨gT, i, none⟩) (Nat.lt_of_lt_of_le hgT hBzz.size)).trans e2z
                have hoy : OwnInts wy w4.heap.size (.slice (some ⟨g, 0, none⟩) xs.length c) xs := row_below hoz hby
                obtain ⟨v2, w7, v3, w8, hr2, hr3, ho8, hb8⟩ := out_run (wy := wy) (n0 := w4.heap.size) (B := wy.heap.size) (src := .slice (some ⟨g, 0, none⟩) a c) (ys := xs.take a) (Nat.le_trans hBzz.size hby.size) (Nat.le_refl _) (.inr ⟨⟨g, 0, none⟩, c, by rw [List.length_take, Nat.min_eq_left ha], Nat.lt_of_lt_of_le hgz hby.size, fun j u hu => ints_take hoy a j u hu⟩) hor (by simp) (by simp only [List.length_take, List.length_cons, List.length_drop]; omega)
                have hfin := Lib.hid (show OwnInts w8 w4.heap.size v3 (insN l f (i + 1)) ∧ Below w4.heap.size w4 w8 from ⟨by rw [hnext.out, hins.out]; exact ho8, hBzz.trans ((hby.mono hBzz.size).trans (hb8.mono (Nat.le_trans hBzz.size hby.size)))⟩)
                have hilh := Lib.hid hil
                have hrunh := Lib.hid hrun1
                have hr2h := Lib.hid hr2
                have hr3h := Lib.hid hr3
                clear hrun1 hr2 hr3 hor hoz hoy hby hgz hBzz hBz ho8 hb8 hsrc hcap hcap2 hws ho hBr hB2 hg hg4 hxl ha hlt hal hxt hxt' hxt2 hlt' hne2 a3 a4 a5 a6 a1 e1a hi hil
                go_region_law (refine step_append_run rfl (.tmp 57) (.tmp 60) 39 rfl hrunh.out ?_)
                go_wp2_with (first
                  | (at_builtin; refine wpList_append_run rfl (.tmp 62) (.tmp 65) 39 rfl hr2h.out ?_)
                  | (at_builtin; refine wpList_append_run rfl (.tmp 66) (.tmp 67) 39 rfl hr3h.out ?_))
                have hil := hilh.out
                exact ⟨⟨i + 1, by omega, by go_num, hfin.out.1, hfin.out.2⟩, by simp [intOf]; omega⟩
          · have hae : a = xs.length := by omega
            have hat := Lib.hid (insAt_eq t xs a ha hlowh.out (fun h => absurd h hal))
            have hins := Lib.hid (show ins t xs = xs.take a ++ (t :: xs.drop a) from by
              have := ins_new t xs (by rw [← hat.out]; exact .inl hae)
              rw [← hat.out] at this
              exact this)
            have a1 : ¬ (a : Int) < (xs.length : Int) := by omega
            have hne2 : ((a : Int) == (xs.length : Int)) = true := by simp; omega
            have hd1 : decide ((a : Int) < (xs.length : Int)) = false := by simp; omega
            have a2 : (a : Int) ≤ (xs.length : Int) := by omega
            have haeh := Lib.hid hae
            clear hae
            go_wp2_with fail
            go_quiet (fail)
            have hBa := below_drewN hB2 nq
            have e2a : (wr.drewN nq).cell? ⟨gT, i, none⟩ = some (.int .i64 t) := e2
            clear e2
            generalize wr.drewN nq = wa at *
            go_wp2_with fail
            go_quiet (fail)
            go_wp2_with fail
            have hBz := below_drewN hBa nq
            have e2z : (wa.drewN nq).cell? ⟨gT, i, none⟩ = some (.int .i64 t) := e2a
            clear e2a
            generalize wa.drewN nq = wz at *
            have hoz : OwnInts wz w4.heap.size (.slice (some ⟨g, 0, none⟩) xs.length c) xs := row_below ho hBz
            have hgz : g < wz.heap.size := Nat.lt_of_lt_of_le hg hBz.size
            have hBzz := hBr.trans (hBz.mono hws)
            obtain ⟨src, hsl, hsrc⟩ := slice_from_src hoz hgz a ha hcap
            have hsl2 := slice_to g xs.length c a (by omega)
            obtain ⟨vr, wy, hrun1, hor, hby⟩ := rest_run (wz := wz) (n0 := w4.heap.size) (B := wz.heap.size) (src := src) (t := t) (ys := xs.drop a) hBzz.size (Nat.le_refl _) hsrc (by rw [List.length_drop]; omega)
            have hk1 : (wz.alloc (.cells #[.int .i64 t] 3)).cell? ⟨gT, i, none⟩ = some (.int .i64 t) := (((Below.refl wz.heap.size wz).alloc (Nat.le_refl _) _).cell (p := ⟨gT, i, none⟩) (Nat.lt_of_lt_of_le hgT hBzz.size)).trans e2z
            have hoy : OwnInts wy w4.heap.size (.slice (some ⟨g, 0, none⟩) xs.length c) xs := row_below hoz hby
            obtain ⟨v2, w7, v3, w8, hr2, hr3, ho8, hb8⟩ := out_run (wy := wy) (n0 := w4.heap.size) (B := wy.heap.size) (src := .slice (some ⟨g, 0, none⟩) a c) (ys := xs.take a) (Nat.le_trans hBzz.size hby.size) (Nat.le_refl _) (.inr ⟨⟨g, 0, none⟩, c, by rw [List.length_take, Nat.min_eq_left ha], Nat.lt_of_lt_of_le hgz hby.size, fun j u hu => ints_take hoy a j u hu⟩) hor (by simp) (by simp only [List.length_take, List.length_cons, List.length_drop]; omega)
            have hfin := Lib.hid (show OwnInts w8 w4.heap.size v3 (insN l f (i + 1)) ∧ Below w4.heap.size w4 w8 from ⟨by rw [hnext.out, hins.out]; exact ho8, hBzz.trans ((hby.mono hBzz.size).trans (hb8.mono (Nat.le_trans hBzz.size hby.size)))⟩)
            have hilh := Lib.hid hil
            have hrunh := Lib.hid hrun1
            have hr2h := Lib.hid hr2
            have hr3h := Lib.hid hr3
            clear hrun1 hr2 hr3 hor hoz hoy hby hgz hBzz hBz ho8 hb8 hsrc hcap hcap2 hws ho hBr hB2 hg hg4 hxl ha hal hne2 hd1 a1 hi hil
            go_region_law (refine step_append_run rfl (.tmp 57) (.tmp 60) 39 rfl hrunh.out ?_)
            go_wp2_with (first
              | (at_builtin; refine wpList_append_run rfl (.tmp 62) (.tmp 65) 39 rfl hr2h.out ?_)
              | (at_builtin; refine wpList_append_run rfl (.tmp 66) (.tmp 67) 39 rfl hr3h.out ?_))
            have hil := hilh.out
            exact ⟨⟨i + 1, by omega, by go_num, hfin.out.1, hfin.out.2⟩, by simp [intOf]; omega⟩
    · obtain rfl : i = 4096 := by omega
      go_wp2_with fail
      go_ret
      exact ⟨_, rfl, row_mono ho hw4, hB4.trans (hBr.mono hw4)⟩

theorem rvalues_any {lim : Int} {A : Option Addr} {cap : Nat} {l : List Nd} (hW : WF l) (hlen : l.length ≤ 1000) (f : Int) (w : World) (hn : NodesAt w A l) :
    Calls Try.prog 17 #[.agg #[.int .i64 lim, .slice A l.length cap], .int .i64 f] w fun e w' => ∃ v, e = .returned v ∧ OwnInts w' w.heap.size v (sortV l f) ∧ Below w.heap.size w w' := by
  cases hh : hasB l f with
  | false =>
    have hs : sortV l f = [] := by unfold sortV reach; rw [if_neg (by simp [hh])]; exact List.mergeSort_of_pairwise (by simp [vals])
    rw [hs]
    exact (rvalues_no f w hh).mono (fun e w' h => ⟨_, h.1, ⟨rfl, .inl ⟨rfl, rfl⟩⟩, h.2⟩)
  | true =>
    rw [← insN_sort hW hh]
    exact rvalues_yes hW hlen f w hn hh
end Go.Proofs.Yteifllgcpickhaa
