/-
  sameLabels, same, sameSeries.
-/
import Derived.Test.YtfciagcmggdldaaGreatDoorStoreD
import Derived.Test.YtfciagcmggdldaaGreatDoorEqLab
import Derived.Test.YtfciagcmggdldaaGreatDoorEqSmp
namespace Go.Proofs.YtfciagcmggdldaaGreatDoor
open Go.RowKit

theorem sameLabels_calls (A B : Option Addr) (n c m d : Nat) (xs ys : List Lab) (w : World) (M M' : Nat → Prop) (hx : Sl w M A n c xs) (hy : Sl w M' B m d ys) :
    Calls Tryz.prog 15 #[.slice A n c, .slice B m d] w fun e w' => e = .returned (.bool (decide (xs = ys))) ∧ ∃ q, w' = w.drewN q := by
  have h := eqLab_calls A B n c m d xs ys w M M' hx hy
  generalize decide (xs = ys) = r at h ⊢
  have h := Lib.hid h
  go_enter Tryz.func15, Tryz.ntmps15
  go_wp2_with (go_at_call 36; refine h.out.mono ?_; rintro e w' ⟨rfl, q, rfl⟩)
  go_ret
  exact ⟨rfl, q, rfl⟩
theorem same_calls (A B : Option Addr) (n c m d : Nat) (xs ys : List Smp) (w : World) (M M' : Nat → Prop) (hx : Sl w M A n c xs) (hy : Sl w M' B m d ys) :
    Calls Tryz.prog 19 #[.slice A n c, .slice B m d] w fun e w' => e = .returned (.bool (decide (xs = ys))) ∧ ∃ q, w' = w.drewN q := by
  have h := eqSmp_calls A B n c m d xs ys w M M' hx hy
  generalize decide (xs = ys) = r at h ⊢
  have h := Lib.hid h
  go_enter Tryz.func19, Tryz.ntmps19
  go_wp2_with (go_at_call 42; refine h.out.mono ?_; rintro e w' ⟨rfl, q, rfl⟩)
  go_ret
  exact ⟨rfl, q, rfl⟩

theorem ser_eq (x y : Ser) : decide (x = y) = (decide (x.L = y.L) && decide (x.S = y.S)) := by
  obtain ⟨a, b⟩ := x
  obtain ⟨c, d⟩ := y
  rw [Bool.eq_iff_iff]
  simp

set_option maxRecDepth 100000 in
set_option maxHeartbeats 1000000 in
theorem sameSer_calls (A B A' B' : Option Addr) (c d c' d' : Nat) (x y : Ser) (w : World) (M M' : Nat → Prop) (h1 : Sl w M A x.L.length c x.L) (h2 : Sl w M B x.S.length d x.S) (g1 : Sl w M' A' y.L.length c' y.L) (g2 : Sl w M' B' y.S.length d' y.S) :
    Calls Tryz.prog 27 #[.agg #[.slice A x.L.length c, .slice B x.S.length d], .agg #[.slice A' y.L.length c', .slice B' y.S.length d']] w fun e w' => e = .returned (.bool (decide (x = y))) ∧ Below w.heap.size w w' := by
  obtain ⟨xL, xS⟩ := x
  obtain ⟨yL, yS⟩ := y
  simp only at h1 h2 g1 g2 ⊢
  have hB := ((Below.refl w.heap.size w).new (.cells #[.slice A xL.length c, .slice B xS.length d] 42)).new (.cells #[.slice A' yL.length c', .slice B' yS.length d'] 42)
  have hl := sameLabels_calls A A' _ c _ c' xL yL _ M M' (h1.below hB) (g1.below hB)
  have hs := fun q => same_calls B B' _ d _ d' xS yS _ M M' ((h2.below hB).keep (.drewN M _ q)) ((g2.below hB).keep (.drewN M' _ q))
  have he : Hid (decide ((⟨xL, xS⟩ : Ser) = ⟨yL, yS⟩) = (decide (xL = yL) && decide (xS = yS))) := ser_eq _ _
  obtain ⟨r, hr⟩ : ∃ r, Hid (decide ((⟨xL, xS⟩ : Ser) = ⟨yL, yS⟩) = r) := ⟨_, rfl⟩
  rw [hr.out]
  generalize decide (xL = yL) = r1 at hl he
  generalize decide (xS = yS) = r2 at hs he
  have hl := Lib.hid hl
  have hs := Lib.hid hs
  cases r1 with
  | false =>
    have hrf : Hid (r = false) := by unfold Hid; rw [← hr.out, he.out]; rfl
    go_enter Tryz.func27, Tryz.ntmps27
    go_wp2_with (first | (go_at_call 15; refine hl.out.mono ?_; rintro e w' ⟨rfl, q, rfl⟩))
    go_ret
    exact ⟨by rw [hrf.out]; rfl, hB.draws q⟩
  | true =>
    have hrf : Hid (r = r2) := by unfold Hid; rw [← hr.out, he.out]; simp
    go_enter Tryz.func27, Tryz.ntmps27
    go_wp2_with (first | (go_at_call 15; refine hl.out.mono ?_; rintro e w' ⟨rfl, q, rfl⟩) | (go_at_call 19; refine (hs.out q).mono ?_; rintro e w' ⟨rfl, q', rfl⟩))
    go_ret
    exact ⟨by rw [hrf.out]; rfl, by first | exact (hB.draws q).draws q' | exact hB.draws (q + q')⟩

set_option maxRecDepth 100000 in
set_option maxHeartbeats 2000000 in
theorem eqSer_calls (A B : Option Addr) (n c m d : Nat) (xs ys : List Ser) (w : World) (M M' : Nat → Prop) (hx : Sl w M A n c xs) (hy : Sl w M' B m d ys) :
    Calls Tryz.prog 26 #[.slice A n c, .slice B m d, .func (.func 27) #[] #[]] w fun e w' => e = .returned (.bool (decide (xs = ys))) ∧ Below w.heap.size w w' := by
  have hle := hx.le
  have hle2 := hy.le
  have hxl := Lib.hid hx.len
  have hyl := Lib.hid hy.len
  obtain ⟨r, hr⟩ : ∃ r, Hid (decide (xs = ys) = r) := ⟨_, rfl⟩
  rw [hr.out]
  by_cases hnm : n = m
  · subst hnm
    go_enter Tryz.func26, Tryz.ntmps26
    go_wp2
    go_loopw [17] (fun i wr => ∃ (k : Nat), k ≤ n ∧ i = .int .i64 k ∧ Below w.heap.size w wr ∧ Hid (xs.take k = ys.take k)) (fun i _ => n - (intOf i).toNat)
    case atStart => exact ⟨0, Nat.zero_le _, rfl, Below.refl _ _, rfl⟩
    case round =>
      obtain ⟨k, hk, rfl, hbl, ht⟩ := hrel
      by_cases hlt : k < n
      · obtain ⟨b, off, x, A1, c1, A2, c2, rfl, hx0, g0, g1, s1, s2⟩ := (hx.below hbl).ser hlt
        obtain ⟨b', off', y, B1, d1, B2, d2, rfl, hy0, g0', g1', t1, t2⟩ := (hy.below hbl).ser hlt
        have hki : (k : Int) < (n : Int) := by omega
        have hx0 := Lib.hid hx0
        have hy0 := Lib.hid hy0
        have hBn := (Below.refl wr.heap.size wr).new (.cells #[.slice A1 x.L.length c1, .slice A2 x.S.length c2] 42)
        have hBm := hBn.new (.cells #[.slice B1 y.L.length d1, .slice B2 y.S.length d2] 42)
        obtain ⟨e1, e2⟩ : (wr.alloc (.cells #[.slice A1 x.L.length c1, .slice A2 x.S.length c2] 42)).cell? ⟨b', off' + k * 2, none⟩ = some (.slice B1 y.L.length d1) ∧ (wr.alloc (.cells #[.slice A1 x.L.length c1, .slice A2 x.S.length c2] 42)).cell? ⟨b', off' + k * 2 + 1, none⟩ = some (.slice B2 y.S.length d2) :=
          ⟨(bcell hBn b' _ (World.block_lt_of_cell? wr _ g0')).trans g0', (bcell hBn b' _ (World.block_lt_of_cell? wr _ g0')).trans g1'⟩
        have hc := sameSer_calls A1 A2 B1 B2 c1 c2 d1 d2 x y _ M M' (s1.below hBm) (s2.below hBm) (t1.below hBm) (t2.below hBm)
        have hbn : Below w.heap.size w ((wr.alloc (.cells #[.slice A1 x.L.length c1, .slice A2 x.S.length c2] 42)).alloc (.cells #[.slice B1 y.L.length d1, .slice B2 y.S.length d2] 42)) := (hbl.new _).new _
        by_cases e : x = y
        · subst e
          have ht2 := Lib.hid (take_eq_step ht.out hx0.out hy0.out rfl)
          rw [decide_eq_true rfl] at hc
          have hc := Lib.hid hc
          go_wp2_with (go_at_call 27; refine hc.out.mono ?_; rintro e w' ⟨rfl, hb'⟩)
          go_roundw
          case rel => exact ⟨k + 1, by omega, by go_num, hbn.call hb', ht2⟩
          case measure => simp [intOf]; omega
        · have hrf : Hid (r = false) := by unfold Hid; rw [← hr.out]; exact decide_eq_false (ne_of_get hx0.out hy0.out e)
          rw [decide_eq_false e] at hc
          have hc := Lib.hid hc
          clear e
          go_wp2_with (go_at_call 27; refine hc.out.mono ?_; rintro e w' ⟨rfl, hb'⟩)
          go_ret
          exact ⟨by rw [hrf.out]; rfl, hbn.call hb'⟩
      · have hrt : Hid (r = true) := by
          unfold Hid
          rw [← hr.out]
          have h1 := ht.out
          rw [List.take_of_length_le (by rw [hxl.out]; omega), List.take_of_length_le (by rw [hyl.out]; omega)] at h1
          exact decide_eq_true h1
        go_wp2
        go_ret
        exact ⟨by rw [hrt.out]; rfl, hbl⟩
  · have hrf : Hid (r = false) := by
      unfold Hid
      rw [← hr.out]
      exact decide_eq_false fun e => hnm (by rw [← hxl.out, ← hyl.out, e])
    have hb : ((n : Int) != (m : Int)) = true := by simp; omega
    clear hnm
    go_enter Tryz.func26, Tryz.ntmps26
    go_wp2
    go_ret
    exact ⟨by rw [hrf.out]; rfl, Below.refl _ _⟩

theorem sameSeries_calls (A B : Option Addr) (n c m d : Nat) (xs ys : List Ser) (w : World) (M M' : Nat → Prop) (hx : Sl w M A n c xs) (hy : Sl w M' B m d ys) :
    Calls Tryz.prog 10 #[.slice A n c, .slice B m d] w fun e w' => e = .returned (.bool (decide (xs = ys))) ∧ Below w.heap.size w w' := by
  have h := eqSer_calls A B n c m d xs ys w M M' hx hy
  generalize decide (xs = ys) = r at h ⊢
  have h := Lib.hid h
  go_enter Tryz.func10, Tryz.ntmps10
  go_wp2_with (go_at_call 26; refine h.out.mono ?_; rintro e w' ⟨rfl, hb⟩)
  go_ret
  exact ⟨rfl, hb⟩
end Go.Proofs.YtfciagcmggdldaaGreatDoor
