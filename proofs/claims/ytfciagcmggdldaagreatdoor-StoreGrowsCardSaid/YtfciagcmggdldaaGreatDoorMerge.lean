/-
  chunk.Merge.
-/
import Derived.Test.YtfciagcmggdldaaGreatDoorSmpCheck
import Derived.Deep.RegionLaw
import Derived.Deep.RegionHeld3
namespace Go.Proofs.YtfciagcmggdldaaGreatDoor
open Go.RowKit

theorem elemSmpM : Elem Tryz.prog 40 27 (Rep.size Smp) 16 := by
  have h : (Tryz.prog.info? 27).map (fun i => (i.zero, i.size, i.bytes)) = some (some (.agg #[.int .i64 0, .int .i64 0]), Rep.size Smp, 16) := by kernel_rfl
  obtain ⟨i, hi, hz0, hz1, hz2⟩ := info_parts h
  exact ⟨Tryz.underlying40, i, _, hi, hz0, hz1, hz2, rfl, by decide, by decide⟩

def smLen : Value → Nat
  | .slice _ n _ => n
  | _ => 0

/-- What holds at the head of each round. -/
def MRel (w : World) (M : Nat → Prop) (xs ys : List Smp) (sa sb so : Value) (wr : World) : Prop :=
  ∃ (A1 A2 : Option Addr) (n1 n2 c1 c2 : Nat) (ps qs os : List Smp), sa = .slice A1 n1 c1 ∧ sb = .slice A2 n2 c2 ∧ Sl wr (mOr M so) A1 n1 c1 ps ∧ Sl wr (mOr M so) A2 n2 c2 qs ∧
    Own wr M w.heap.size 27 so os ∧ Below w.heap.size w wr ∧ Hid (mergeGo xs ys = os ++ mergeGo ps qs) ∧ Hid (os.length + ps.length + qs.length ≤ 2000)

theorem smp_step {w : World} {M : Nat → Prop} {base : Nat} {v : Value} {xs : List Smp} (ho : Own w M base 27 v xs) (hM : ∀ k, M k → k < w.heap.size) (z : Smp) (hT : i64ok z.T) (hV : i64ok z.V) :
    Own (w.drew.alloc (.cells #[.int .i64 z.T, .int .i64 z.V] 27)) M base 27 v xs ∧ Sl (w.drew.alloc (.cells #[.int .i64 z.T, .int .i64 z.V] 27)) (mOr M v) (some ⟨w.heap.size, 0, none⟩) 1 1 [z] ∧
      ∀ w5, (w.drew.alloc (.cells #[.int .i64 z.T, .int .i64 z.V] 27)).grownBy w5 v.ownBlock → ∀ {b o n c : Nat} {x : Smp} (ps : List Smp), Sl w (mOr M v) (some ⟨b, o, none⟩) n c (x :: ps) → w5.cell? ⟨b, o, none⟩ = some (.int .i64 x.T) ∧ w5.cell? ⟨b, o + 1, none⟩ = some (.int .i64 x.V) := by
  refine ⟨ho.drew.alloc _, Sl.new (w := w.drew) (fun k hk => ?_) (show Rep.rep (α := Smp) w.drew _ [.int .i64 z.T, .int .i64 z.V] z from ⟨rfl, hT, hV⟩) _, fun w5 hg b o n c x ps hp => ?_⟩
  · rcases hk with hk | hk
    · exact hM k hk
    · exact (ho.lt k hk).2
  · have hn : 0 < n := by have := hp.len; simp at this; omega
    obtain ⟨b', o', e, hb, hm, _⟩ := hp.addr hn
    injection e with e
    injection e with e1 e2
    subst e1; subst e2
    obtain ⟨b2, o2, y, e, hy, g1, g2, _, _⟩ := hp.smp (k := 0) hn
    injection e with e
    injection e with e1 e2
    subst e1; subst e2
    obtain rfl : x = y := by simpa using hy
    rw [Nat.zero_mul, Nat.add_zero] at g1 g2
    have hblk : w5.heap[b]? = w.heap[b]? := (hg.block b (by simp; omega) (fun e => hm (.inr e.symm))).trans (Below.heap_alloc w.drew _ b hb)
    exact ⟨(World.cell?_of_block (a := ⟨b, o, none⟩) hblk).trans g1, (World.cell?_of_block (a := ⟨b, o + 1, none⟩) hblk).trans g2⟩

set_option maxRecDepth 100000 in
set_option maxHeartbeats 2000000 in
theorem merge_calls (A B : Option Addr) (n c m d : Nat) (xs ys : List Smp) (w : World) (M : Nat → Prop) (hM : ∀ k, M k → k < w.heap.size) (hx : Sl w M A n c xs) (hy : Sl w M B m d ys) :
    Calls Tryz.prog 60 #[.slice A n c, .slice B m d] w fun e w' => (∃ v', e = .returned (.tuple #[v', .int .i64 (mergeL xs ys).2]) ∧ Own w' M w.heap.size 27 v' (mergeL xs ys).1) ∧ Below w.heap.size w w' := by
  have hxl := Lib.hid hx.len
  have hyl := Lib.hid hy.len
  have hB1 := (Below.refl w.heap.size w).new (.cells #[.slice A n c, .slice B m d] 40)
  have hx1 := hx.below hB1
  have hy1 := hy.below hB1
  obtain ⟨r, hr⟩ : ∃ r, Hid (mergeL xs ys = r) := ⟨_, rfl⟩
  rw [hr.out]
  obtain ⟨ca, hca⟩ : ∃ r, Hid (smpCheck xs = r) := ⟨_, rfl⟩
  obtain ⟨cb, hcb⟩ : ∃ r, Hid (smpCheck ys = r) := ⟨_, rfl⟩
  have hchk : ∀ q, Calls Tryz.prog 37 #[.slice A n c] ((w.alloc (.cells #[.slice A n c, .slice B m d] 40)).drewN q) fun e w' => e = .returned (.int .i64 ca) ∧ ∃ q', w' = ((w.alloc (.cells #[.slice A n c, .slice B m d] 40)).drewN q).drewN q' := fun q => by
    rw [← hca.out]; exact smpCheck_calls A n c xs _ M (hx1.keep (.drewN _ _ q))
  have hchk2 : ∀ q, Calls Tryz.prog 37 #[.slice B m d] ((w.alloc (.cells #[.slice A n c, .slice B m d] 40)).drewN q) fun e w' => e = .returned (.int .i64 cb) ∧ ∃ q', w' = ((w.alloc (.cells #[.slice A n c, .slice B m d] 40)).drewN q).drewN q' := fun q => by
    rw [← hcb.out]; exact smpCheck_calls B m d ys _ M (hy1.keep (.drewN _ _ q))
  have hchk := Lib.hid hchk
  have hchk2 := Lib.hid hchk2
  go_enter Tryz.func60, Tryz.ntmps60
  go_wp2
  go_loopw [14] (fun i wr => ∃ (k q : Nat), k ≤ 2 ∧ i = .int .i64 k ∧ wr = (w.alloc (.cells #[.slice A n c, .slice B m d] 40)).drewN q ∧ Hid (1 ≤ k → ca = 0) ∧ Hid (2 ≤ k → cb = 0)) (fun i _ => 2 - (intOf i).toNat)
  case atStart => exact ⟨0, 0, by omega, rfl, rfl, fun h => by omega, fun h => by omega⟩
  case round =>
    obtain ⟨k, q, hk, rfl, rfl, h1, h2⟩ := hrel
    rcases Nat.lt_or_ge k 1 with hk0 | hk0
    · obtain rfl : k = 0 := by omega
      by_cases hc0 : ca = 0
      · have hc0b : (ca != 0) = false := by simp [hc0]
        have h1' : Hid (1 ≤ 0 + 1 → ca = 0) := fun _ => hc0
        clear hc0
        go_wp2_with (go_at_call 37; refine (hchk.out q).mono ?_; rintro e w' ⟨rfl, q', rfl⟩)
        go_roundw
        case rel => exact ⟨0 + 1, q + q', by omega, rfl, rfl, h1', fun h => by omega⟩
        case measure => simp [intOf]
      · have hc0b : (ca != 0) = true := by simp [hc0]
        have hr2 : Hid (r = ([], ca)) := by unfold Hid; rw [← hr.out, mergeL, hca.out, if_pos hc0]
        clear hc0
        go_wp2_with (go_at_call 37; refine (hchk.out q).mono ?_; rintro e w' ⟨rfl, q', rfl⟩)
        go_ret2
        exact ⟨⟨.slice none 0 0, by rw [hr2.out]; rfl, by rw [hr2.out]; exact Own.nil _ _ _ _⟩, hB1.draws (q + q')⟩
    · rcases Nat.lt_or_ge k 2 with hk1 | hk1
      · obtain rfl : k = 1 := by omega
        by_cases hc0 : cb = 0
        · have hc0b : (cb != 0) = false := by simp [hc0]
          have h2' : Hid (2 ≤ 1 + 1 → cb = 0) := fun _ => hc0
          have h1' : Hid (1 ≤ 1 + 1 → ca = 0) := fun _ => h1.out (by omega)
          clear hc0
          go_wp2_with (go_at_call 37; refine (hchk2.out q).mono ?_; rintro e w' ⟨rfl, q', rfl⟩)
          go_roundw
          case rel => exact ⟨1 + 1, q + q', by omega, rfl, rfl, h1', h2'⟩
          case measure => simp [intOf]
        · have hc0b : (cb != 0) = true := by simp [hc0]
          have hca0 := h1.out (by omega)
          have hr2 : Hid (r = ([], cb)) := by unfold Hid; rw [← hr.out, mergeL, hca.out, hca0, hcb.out, if_neg (by simp), if_pos hc0]
          clear hc0 hca0
          go_wp2_with (go_at_call 37; refine (hchk2.out q).mono ?_; rintro e w' ⟨rfl, q', rfl⟩)
          go_ret2
          exact ⟨⟨.slice none 0 0, by rw [hr2.out]; rfl, by rw [hr2.out]; exact Own.nil _ _ _ _⟩, hB1.draws (q + q')⟩
      · obtain rfl : k = 2 := by omega
        have hca0 := h1.out (by omega)
        have hcb0 := h2.out (by omega)
        have hxs1000 := (smpCheck_ok.1 (hca.out.trans hca0)).1
        have hys1000 := (smpCheck_ok.1 (hcb.out.trans hcb0)).1
        have hr2 : Hid (r = if 1000 < (mergeGo xs ys).length then ([], 2) else (mergeGo xs ys, 0)) := by
          unfold Hid; rw [← hr.out, mergeL, hca.out, hca0, hcb.out, hcb0]; simp
        have hxd := hx1.keep (.drewN M _ q)
        have hyd := hy1.keep (.drewN M _ q)
        have hBd := hB1.draws q
        have hMd : ∀ k, M k → k < w.heap.size := hM
        have hsz0 : Hid (([] : List Smp).length + xs.length + ys.length ≤ 2000) := by unfold Hid; simp; omega
        clear hca0 hcb0 hx1 hy1 hB1 h1 h2 hchk hchk2 hx hy hM
        go_wp2
        generalize (w.alloc (.cells #[.slice A n c, .slice B m d] 40)).drewN q = w1 at hxd hyd hBd ⊢
        go_loopw [0, 1, 9] (fun sa sb so wr => MRel w M xs ys sa sb so wr) (fun sa sb _ _ => smLen sa + smLen sb)
        case atStart => exact ⟨A, B, n, m, c, d, xs, ys, [], rfl, rfl, by rw [mOr_nil]; exact hxd, by rw [mOr_nil]; exact hyd, Own.nil _ _ _ _, hBd, rfl, hsz0⟩
        case round =>
          clear hxd hyd hBd hsz0
          obtain ⟨A1, A2, n1, n2, c1, c2, ps, qs, os, rfl, rfl, h1, h2, ho, hbl, hv, hsz⟩ := hrel
          have hMr : ∀ k, M k → k < wr.heap.size := fun k hk => Nat.lt_of_lt_of_le (hMd k hk) hbl.size
          have hsz2 : (os.length + 1) * 16 ≤ 140737488355328 := by have := hsz.out; omega
          rcases Nat.eq_zero_or_pos n1 with h0 | hp1
          · subst h0
            obtain rfl : ps = [] := List.eq_nil_of_length_eq_zero h1.len
            rcases Nat.eq_zero_or_pos n2 with h0 | hp2
            · subst h0
              obtain rfl : qs = [] := List.eq_nil_of_length_eq_zero h2.len
              obtain ⟨A5, c5, rfl⟩ := ho.form
              have hv2 : Hid (mergeGo xs ys = os) := by unfold Hid; rw [hv.out, mergeGo_nil_left, List.append_nil]
              by_cases hbig : 1000 < os.length
              · have hr3 : Hid (r = ([], 2)) := by unfold Hid; rw [hr2.out, hv2.out, if_pos hbig]
                have hbi : (1000 : Int) < (os.length : Int) := by omega
                go_wp2
                go_ret2
                exact ⟨⟨.slice none 0 0, by rw [hr3.out]; rfl, by rw [hr3.out]; exact Own.nil _ _ _ _⟩, hbl⟩
              · have hr3 : Hid (r = (os, 0)) := by unfold Hid; rw [hr2.out, hv2.out, if_neg hbig]
                have hbi : ¬ (1000 : Int) < (os.length : Int) := by omega
                go_wp2
                go_ret2
                exact ⟨⟨_, by rw [hr3.out]; rfl, by rw [hr3.out]; exact ho⟩, hbl⟩
            · obtain ⟨A5, c5, rfl⟩ := ho.form
              obtain ⟨b2, o2, y, rfl, hz2, g2, g2v, hyT, hyV⟩ := h2.smp (k := 0) hp2
              obtain ⟨y', qs, rfl⟩ := List.exists_cons_of_length_pos (show 0 < qs.length by rw [h2.len]; exact hp2)
              obtain rfl : y = y' := by simpa using hz2.symm
              clear hz2
              rw [Nat.zero_mul, Nat.add_zero] at g2 g2v
              have hle2 := h2.le
              have hcc2 := h2.2.1
              have hlp2 : (0 : Int) < (n2 : Int) := by omega
              have hlq2 : (1 : Int) ≤ (n2 : Int) := by omega
              have hne2 : ((n2 : Int) == 0) = false := by simp; omega
              have hf2 := Lib.hid (h2.tail 2 rfl)
              have hv2 : Hid (mergeGo xs ys = (os ++ [y]) ++ mergeGo [] qs) := by unfold Hid; rw [hv.out, mergeGo_nil_left, mergeGo_nil_left]; simp
              have hsz3 : Hid ((os ++ [y]).length + ([] : List Smp).length + qs.length ≤ 2000) := by have := hsz.out; unfold Hid; simp at this ⊢; omega
              go_wp2
              go_quiet (fail)
              have h1 := h1.keep (.drewN _ wr nq)
              have h2 := h2.keep (.drewN _ wr nq)
              have hf2 := Lib.hid (hf2.out.keep (.drewN _ wr nq))
              have ho := ho.drewN nq
              have hbl := hbl.draws nq
              have g2 : (wr.drewN nq).cell? _ = some _ := g2
              have g2v : (wr.drewN nq).cell? _ = some _ := g2v
              have hMr : ∀ k, M k → k < (wr.drewN nq).heap.size := hMr
              generalize wr.drewN nq = w2 at h1 h2 ho hbl hMr g2 g2v hf2 ⊢
              go_wp2
              go_quiet (fail)
              have h1 := h1.keep (.drewN _ w2 nq)
              have h2 := h2.keep (.drewN _ w2 nq)
              have hf2 := Lib.hid (hf2.out.keep (.drewN _ w2 nq))
              have ho := ho.drewN nq
              have hbl := hbl.draws nq
              have g2 : (w2.drewN nq).cell? _ = some _ := g2
              have g2v : (w2.drewN nq).cell? _ = some _ := g2v
              have hMr : ∀ k, M k → k < (w2.drewN nq).heap.size := hMr
              generalize w2.drewN nq = w3 at h1 h2 ho hbl hMr g2 g2v hf2 ⊢
              go_wp2
              have hstep := Lib.hid (smp_step ho hMr y hyT hyV)
              go_region_held3 (fun u => u.cell? ⟨b2, o2, none⟩ = some (.int .i64 y.T) ∧ u.cell? ⟨b2, o2 + 1, none⟩ = some (.int .i64 y.V)) (go_keep)
                (first | (refine step_app (α := Smp) (w := w3.drew.alloc (.cells #[.int .i64 y.T, .int .i64 y.V] 27)) rfl (.tmp 96) (.tmp 100) 40 rfl elemSmpM (.slice A5 os.length c5) os (by simp [Act.eval]) hstep.out.1 [y] (some ⟨w3.heap.size, 0, none⟩) 1 1 (by simp [Act.eval]) hstep.out.2.1 hsz2 (by have := hbl.size; simp; omega) ?_; intro v5 w5 ho5 hg5 hk5; obtain ⟨y1, y2⟩ := hstep.out.2.2 w5 hg5 _ h2))
              all_goals
                have hbn := (hbl.draws 1).new (.cells #[.int .i64 y.T, .int .i64 y.V] 27)
                have hb5 := hbn.grown hg5 hbn.size (fun z hz => (ho.lt z hz).1)
                have hkk := ((Keep.drewN (mOr M (.slice A5 os.length c5)) w3 1).trans (Keep.alloc _ _ (.cells #[.int .i64 y.T, .int .i64 y.V] 27))).trans (Keep.app hg5 hk5)
                refine And.intro ?_ ?measure
                · (repeat apply Exists.intro)
                  refine ⟨?rel, rfl⟩
                  case rel => exact ⟨_, _, _, _, _, _, [], qs, os ++ [y], rfl, rfl, h1.keep hkk, hf2.out.keep hkk, ho5, hb5, hv2, hsz3⟩
                case measure => show 0 + (n2 - 1) < 0 + n2; omega
          · obtain ⟨A5, c5, rfl⟩ := ho.form
            obtain ⟨b1, o1, x, rfl, hz1, g1, g1v, hxT, hxV⟩ := h1.smp (k := 0) hp1
            obtain ⟨x', ps, rfl⟩ := List.exists_cons_of_length_pos (show 0 < ps.length by rw [h1.len]; exact hp1)
            obtain rfl : x = x' := by simpa using hz1.symm
            clear hz1
            rw [Nat.zero_mul, Nat.add_zero] at g1 g1v
            have hle1 := h1.le
            have hcc1 := h1.2.1
            have hlp1 : (0 : Int) < (n1 : Int) := by omega
            have hlq1 : (1 : Int) ≤ (n1 : Int) := by omega
            have hne1 : ((n1 : Int) == 0) = false := by simp; omega
            have hf1 := Lib.hid (h1.tail 2 rfl)
            rcases Nat.eq_zero_or_pos n2 with h0 | hp2
            · subst h0
              obtain rfl : qs = [] := List.eq_nil_of_length_eq_zero h2.len
              have hv2 : Hid (mergeGo xs ys = (os ++ [x]) ++ mergeGo ps []) := by unfold Hid; rw [hv.out, mergeGo_nil_right, mergeGo_nil_right]; simp
              have hsz3 : Hid ((os ++ [x]).length + ps.length + ([] : List Smp).length ≤ 2000) := by have := hsz.out; unfold Hid; simp at this ⊢; omega
              go_wp2
              go_quiet (fail)
              have h1 := h1.keep (.drewN _ wr nq)
              have h2 := h2.keep (.drewN _ wr nq)
              have hf1 := Lib.hid (hf1.out.keep (.drewN _ wr nq))
              have ho := ho.drewN nq
              have hbl := hbl.draws nq
              have g1 : (wr.drewN nq).cell? _ = some _ := g1
              have g1v : (wr.drewN nq).cell? _ = some _ := g1v
              have hMr : ∀ k, M k → k < (wr.drewN nq).heap.size := hMr
              generalize wr.drewN nq = w3 at h1 h2 ho hbl hMr g1 g1v hf1 ⊢
              go_wp2
              have hstep := Lib.hid (smp_step ho hMr x hxT hxV)
              go_region_held3 (fun u => u.cell? ⟨b1, o1, none⟩ = some (.int .i64 x.T) ∧ u.cell? ⟨b1, o1 + 1, none⟩ = some (.int .i64 x.V)) (go_keep)
                (first | (refine step_app (α := Smp) (w := w3.drew.alloc (.cells #[.int .i64 x.T, .int .i64 x.V] 27)) rfl (.tmp 73) (.tmp 77) 40 rfl elemSmpM (.slice A5 os.length c5) os (by simp [Act.eval]) hstep.out.1 [x] (some ⟨w3.heap.size, 0, none⟩) 1 1 (by simp [Act.eval]) hstep.out.2.1 hsz2 (by have := hbl.size; simp; omega) ?_; intro v5 w5 ho5 hg5 hk5; obtain ⟨x1, x2⟩ := hstep.out.2.2 w5 hg5 _ h1))
              all_goals
                have hbn := (hbl.draws 1).new (.cells #[.int .i64 x.T, .int .i64 x.V] 27)
                have hb5 := hbn.grown hg5 hbn.size (fun z hz => (ho.lt z hz).1)
                have hkk := ((Keep.drewN (mOr M (.slice A5 os.length c5)) w3 1).trans (Keep.alloc _ _ (.cells #[.int .i64 x.T, .int .i64 x.V] 27))).trans (Keep.app hg5 hk5)
                refine And.intro ?_ ?measure
                · (repeat apply Exists.intro)
                  refine ⟨?rel, rfl⟩
                  case rel => exact ⟨_, _, _, _, _, _, ps, [], os ++ [x], rfl, rfl, hf1.out.keep hkk, h2.keep hkk, ho5, hb5, hv2, hsz3⟩
                case measure => show (n1 - 1) + 0 < n1 + 0; omega
            · obtain ⟨b2, o2, y, rfl, hz2, g2, g2v, hyT, hyV⟩ := h2.smp (k := 0) hp2
              obtain ⟨y', qs, rfl⟩ := List.exists_cons_of_length_pos (show 0 < qs.length by rw [h2.len]; exact hp2)
              obtain rfl : y = y' := by simpa using hz2.symm
              clear hz2
              rw [Nat.zero_mul, Nat.add_zero] at g2 g2v
              have hle2 := h2.le
              have hcc2 := h2.2.1
              have hlp2 : (0 : Int) < (n2 : Int) := by omega
              have hlq2 : (1 : Int) ≤ (n2 : Int) := by omega
              have hne2 : ((n2 : Int) == 0) = false := by simp; omega
              have hf2 := Lib.hid (h2.tail 2 rfl)
              by_cases hxy : x.T < y.T
              · have hv2 : Hid (mergeGo xs ys = (os ++ [x]) ++ mergeGo ps (y :: qs)) := by unfold Hid; rw [hv.out, mergeGo_lt hxy]; simp
                have hsz3 : Hid ((os ++ [x]).length + ps.length + (y :: qs).length ≤ 2000) := by have := hsz.out; unfold Hid; simp at this ⊢; omega
                go_wp2
                go_quiet (fail)
                have h1 := h1.keep (.drewN _ wr nq)
                have h2 := h2.keep (.drewN _ wr nq)
                have hf1 := Lib.hid (hf1.out.keep (.drewN _ wr nq))
                have hf2 := Lib.hid (hf2.out.keep (.drewN _ wr nq))
                have ho := ho.drewN nq
                have hbl := hbl.draws nq
                have g1 : (wr.drewN nq).cell? _ = some _ := g1
                have g1v : (wr.drewN nq).cell? _ = some _ := g1v
                have g2 : (wr.drewN nq).cell? _ = some _ := g2
                have g2v : (wr.drewN nq).cell? _ = some _ := g2v
                have hMr : ∀ k, M k → k < (wr.drewN nq).heap.size := hMr
                generalize wr.drewN nq = w3 at h1 h2 ho hbl hMr g1 g1v g2 g2v hf1 hf2 ⊢
                go_wp2
                have hstep := Lib.hid (smp_step ho hMr x hxT hxV)
                go_region_held3 (fun u => u.cell? ⟨b1, o1, none⟩ = some (.int .i64 x.T) ∧ u.cell? ⟨b1, o1 + 1, none⟩ = some (.int .i64 x.V)) (go_keep)
                  (first | (refine step_app (α := Smp) (w := w3.drew.alloc (.cells #[.int .i64 x.T, .int .i64 x.V] 27)) rfl (.tmp 73) (.tmp 77) 40 rfl elemSmpM (.slice A5 os.length c5) os (by simp [Act.eval]) hstep.out.1 [x] (some ⟨w3.heap.size, 0, none⟩) 1 1 (by simp [Act.eval]) hstep.out.2.1 hsz2 (by have := hbl.size; simp; omega) ?_; intro v5 w5 ho5 hg5 hk5; obtain ⟨x1, x2⟩ := hstep.out.2.2 w5 hg5 _ h1))
                all_goals
                  have hbn := (hbl.draws 1).new (.cells #[.int .i64 x.T, .int .i64 x.V] 27)
                  have hb5 := hbn.grown hg5 hbn.size (fun z hz => (ho.lt z hz).1)
                  have hkk := ((Keep.drewN (mOr M (.slice A5 os.length c5)) w3 1).trans (Keep.alloc _ _ (.cells #[.int .i64 x.T, .int .i64 x.V] 27))).trans (Keep.app hg5 hk5)
                  refine And.intro ?_ ?measure
                  · (repeat apply Exists.intro)
                    refine ⟨?rel, rfl⟩
                    case rel => exact ⟨_, _, _, _, _, _, ps, y :: qs, os ++ [x], rfl, rfl, hf1.out.keep hkk, h2.keep hkk, ho5, hb5, hv2, hsz3⟩
                  case measure => show (n1 - 1) + n2 < n1 + n2; omega
              · by_cases hyx : y.T < x.T
                · have hv2 : Hid (mergeGo xs ys = (os ++ [y]) ++ mergeGo (x :: ps) qs) := by unfold Hid; rw [hv.out, mergeGo_gt hyx]; simp
                  have hsz3 : Hid ((os ++ [y]).length + (x :: ps).length + qs.length ≤ 2000) := by have := hsz.out; unfold Hid; simp at this ⊢; omega
                  have hxy' : ¬ x.T < y.T := hxy
                  go_wp2
                  go_quiet (fail)
                  have h1 := h1.keep (.drewN _ wr nq)
                  have h2 := h2.keep (.drewN _ wr nq)
                  have hf1 := Lib.hid (hf1.out.keep (.drewN _ wr nq))
                  have hf2 := Lib.hid (hf2.out.keep (.drewN _ wr nq))
                  have ho := ho.drewN nq
                  have hbl := hbl.draws nq
                  have g1 : (wr.drewN nq).cell? _ = some _ := g1
                  have g1v : (wr.drewN nq).cell? _ = some _ := g1v
                  have g2 : (wr.drewN nq).cell? _ = some _ := g2
                  have g2v : (wr.drewN nq).cell? _ = some _ := g2v
                  have hMr : ∀ k, M k → k < (wr.drewN nq).heap.size := hMr
                  generalize wr.drewN nq = w2 at h1 h2 ho hbl hMr g1 g1v g2 g2v hf1 hf2 ⊢
                  go_wp2
                  go_quiet (fail)
                  have h1 := h1.keep (.drewN _ w2 nq)
                  have h2 := h2.keep (.drewN _ w2 nq)
                  have hf1 := Lib.hid (hf1.out.keep (.drewN _ w2 nq))
                  have hf2 := Lib.hid (hf2.out.keep (.drewN _ w2 nq))
                  have ho := ho.drewN nq
                  have hbl := hbl.draws nq
                  have g1 : (w2.drewN nq).cell? _ = some _ := g1
                  have g1v : (w2.drewN nq).cell? _ = some _ := g1v
                  have g2 : (w2.drewN nq).cell? _ = some _ := g2
                  have g2v : (w2.drewN nq).cell? _ = some _ := g2v
                  have hMr : ∀ k, M k → k < (w2.drewN nq).heap.size := hMr
                  generalize w2.drewN nq = w3 at h1 h2 ho hbl hMr g1 g1v g2 g2v hf1 hf2 ⊢
                  go_wp2
                  have hstep := Lib.hid (smp_step ho hMr y hyT hyV)
                  go_region_held3 (fun u => u.cell? ⟨b2, o2, none⟩ = some (.int .i64 y.T) ∧ u.cell? ⟨b2, o2 + 1, none⟩ = some (.int .i64 y.V)) (go_keep)
                    (first | (refine step_app (α := Smp) (w := w3.drew.alloc (.cells #[.int .i64 y.T, .int .i64 y.V] 27)) rfl (.tmp 96) (.tmp 100) 40 rfl elemSmpM (.slice A5 os.length c5) os (by simp [Act.eval]) hstep.out.1 [y] (some ⟨w3.heap.size, 0, none⟩) 1 1 (by simp [Act.eval]) hstep.out.2.1 hsz2 (by have := hbl.size; simp; omega) ?_; intro v5 w5 ho5 hg5 hk5; obtain ⟨y1, y2⟩ := hstep.out.2.2 w5 hg5 _ h2))
                  all_goals
                    have hbn := (hbl.draws 1).new (.cells #[.int .i64 y.T, .int .i64 y.V] 27)
                    have hb5 := hbn.grown hg5 hbn.size (fun z hz => (ho.lt z hz).1)
                    have hkk := ((Keep.drewN (mOr M (.slice A5 os.length c5)) w3 1).trans (Keep.alloc _ _ (.cells #[.int .i64 y.T, .int .i64 y.V] 27))).trans (Keep.app hg5 hk5)
                    refine And.intro ?_ ?measure
                    · (repeat apply Exists.intro)
                      refine ⟨?rel, rfl⟩
                      case rel => exact ⟨_, _, _, _, _, _, x :: ps, qs, os ++ [y], rfl, rfl, h1.keep hkk, hf2.out.keep hkk, ho5, hb5, hv2, hsz3⟩
                    case measure => show n1 + (n2 - 1) < n1 + n2; omega
                · have hxe : Hid (x.T = y.T) := by unfold Hid; omega
                  obtain ⟨mv, hmv⟩ : ∃ mv, Hid (mv = max x.V y.V) := ⟨_, rfl⟩
                  have hmv1 : max x.V y.V = mv := hmv.out.symm
                  have hmvo : i64ok mv := by rw [hmv.out]; rcases Int.le_total x.V y.V with h | h; rw [Int.max_eq_right h]; exact hyV; rw [Int.max_eq_left h]; exact hxV
                  have hv2 : Hid (mergeGo xs ys = (os ++ [⟨x.T, mv⟩]) ++ mergeGo ps qs) := by unfold Hid; rw [hv.out, mergeGo_eq hxe.out, hmv.out]; simp
                  have hsz3 : Hid ((os ++ [(⟨x.T, mv⟩ : Smp)]).length + ps.length + qs.length ≤ 2000) := by have := hsz.out; unfold Hid; simp at this ⊢; omega
                  go_wp2
                  go_quiet (fail)
                  have h1 := h1.keep (.drewN _ wr nq)
                  have h2 := h2.keep (.drewN _ wr nq)
                  have hf1 := Lib.hid (hf1.out.keep (.drewN _ wr nq))
                  have hf2 := Lib.hid (hf2.out.keep (.drewN _ wr nq))
                  have ho := ho.drewN nq
                  have hbl := hbl.draws nq
                  have g1 : (wr.drewN nq).cell? _ = some _ := g1
                  have g1v : (wr.drewN nq).cell? _ = some _ := g1v
                  have g2 : (wr.drewN nq).cell? _ = some _ := g2
                  have g2v : (wr.drewN nq).cell? _ = some _ := g2v
                  have hMr : ∀ k, M k → k < (wr.drewN nq).heap.size := hMr
                  generalize wr.drewN nq = w2 at h1 h2 ho hbl hMr g1 g1v g2 g2v hf1 hf2 ⊢
                  go_wp2
                  go_quiet (fail)
                  have h1 := h1.keep (.drewN _ w2 nq)
                  have h2 := h2.keep (.drewN _ w2 nq)
                  have hf1 := Lib.hid (hf1.out.keep (.drewN _ w2 nq))
                  have hf2 := Lib.hid (hf2.out.keep (.drewN _ w2 nq))
                  have ho := ho.drewN nq
                  have hbl := hbl.draws nq
                  have g1 : (w2.drewN nq).cell? _ = some _ := g1
                  have g1v : (w2.drewN nq).cell? _ = some _ := g1v
                  have g2 : (w2.drewN nq).cell? _ = some _ := g2
                  have g2v : (w2.drewN nq).cell? _ = some _ := g2v
                  have hMr : ∀ k, M k → k < (w2.drewN nq).heap.size := hMr
                  generalize w2.drewN nq = w3 at h1 h2 ho hbl hMr g1 g1v g2 g2v hf1 hf2 ⊢
                  go_wp2
                  have hstep := Lib.hid (smp_step ho hMr (⟨x.T, mv⟩ : Smp) hxT hmvo)
                  go_region_held3 (fun u => u.cell? ⟨b1, o1, none⟩ = some (.int .i64 x.T) ∧ u.cell? ⟨b1, o1 + 1, none⟩ = some (.int .i64 x.V) ∧ u.cell? ⟨b2, o2 + 1, none⟩ = some (.int .i64 y.V)) (go_keep)
                    (first | (refine step_app (α := Smp) (w := w3.drew.alloc (.cells #[.int .i64 x.T, .int .i64 mv] 27)) rfl (.tmp 32) (.tmp 47) 40 rfl elemSmpM (.slice A5 os.length c5) os (by simp [Act.eval]) hstep.out.1 [(⟨x.T, mv⟩ : Smp)] (some ⟨w3.heap.size, 0, none⟩) 1 1 (by simp [Act.eval]) hstep.out.2.1 hsz2 (by have := hbl.size; simp; omega) ?_; intro v5 w5 ho5 hg5 hk5; obtain ⟨x1, x2⟩ := hstep.out.2.2 w5 hg5 _ h1; obtain ⟨y1, y2⟩ := hstep.out.2.2 w5 hg5 _ h2))
                  all_goals
                    have hbn := (hbl.draws 1).new (.cells #[.int .i64 x.T, .int .i64 mv] 27)
                    have hb5 := hbn.grown hg5 hbn.size (fun z hz => (ho.lt z hz).1)
                    have hkk := ((Keep.drewN (mOr M (.slice A5 os.length c5)) w3 1).trans (Keep.alloc _ _ (.cells #[.int .i64 x.T, .int .i64 mv] 27))).trans (Keep.app hg5 hk5)
                    go_wp2
                    go_quiet (fail)
                    refine And.intro ?_ ?measure
                    · (repeat apply Exists.intro)
                      refine ⟨?rel, rfl⟩
                      case rel => exact ⟨_, _, _, _, _, _, ps, qs, os ++ [⟨x.T, mv⟩], rfl, rfl, (hf1.out.keep hkk).keep (.drewN _ _ _), (hf2.out.keep hkk).keep (.drewN _ _ _), ho5.drewN _, hb5.draws _, hv2, hsz3⟩
                    case measure => show (n1 - 1) + (n2 - 1) < n1 + n2; omega
end Go.Proofs.YtfciagcmggdldaaGreatDoor
