/-
  slices.Equal at []api.Sample.
-/
import Derived.Test.YtfciagcmggdldaaGreatDoorEqKit
namespace Go.Proofs.YtfciagcmggdldaaGreatDoor
open Go.RowKit

set_option maxRecDepth 100000 in
set_option maxHeartbeats 1000000 in
theorem eqSmp_calls (A B : Option Addr) (n c m d : Nat) (xs ys : List Smp) (w : World) (M M' : Nat → Prop) (hx : Sl w M A n c xs) (hy : Sl w M' B m d ys) :
    Calls Tryz.prog 42 #[.slice A n c, .slice B m d] w fun e w' => e = .returned (.bool (decide (xs = ys))) ∧ ∃ q, w' = w.drewN q := by
  have hle := hx.le
  have hle2 := hy.le
  have hxl := Lib.hid hx.len
  have hyl := Lib.hid hy.len
  obtain ⟨r, hr⟩ : ∃ r, Hid (decide (xs = ys) = r) := ⟨_, rfl⟩
  rw [hr.out]
  by_cases hnm : n = m
  · subst hnm
    go_enter Tryz.func42, Tryz.ntmps42
    go_wp2
    go_loopw [13] (fun i wr => ∃ (k q : Nat), k ≤ n ∧ i = .int .i64 k ∧ wr = w.drewN q ∧ Hid (xs.take k = ys.take k)) (fun i _ => n - (intOf i).toNat)
    case atStart => exact ⟨0, 0, Nat.zero_le _, rfl, rfl, rfl⟩
    case round =>
      obtain ⟨k, q, hk, rfl, rfl, ht⟩ := hrel
      by_cases hlt : k < n
      · obtain ⟨b, off, x, rfl, hx0, hc, hd, _, _⟩ := hx.smp hlt
        obtain ⟨b2, off2, y, rfl, hy0, hc2, hd2, _, _⟩ := hy.smp hlt
        have hki : (k : Int) < (n : Int) := by omega
        have hx0 := Lib.hid hx0
        have hy0 := Lib.hid hy0
        by_cases e : x = y
        · subst e
          have ht2 := Lib.hid (take_eq_step ht.out hx0.out hy0.out rfl)
          have hne := fun w => neqSmp x x w
          rw [decide_eq_true rfl, show (!true) = false from rfl] at hne
          go_wp2
          go_quiet (fail)
          go_wp2
          go_roundw
          case rel => exact ⟨k + 1, q + nq, by omega, by go_num, rfl, ht2⟩
          case measure => simp [intOf]; omega
        · have hrf : Hid (r = false) := by unfold Hid; rw [← hr.out]; exact decide_eq_false (ne_of_get hx0.out hy0.out e)
          have hne := fun w => neqSmp x y w
          rw [decide_eq_false e, show (!false) = true from rfl] at hne
          clear e
          go_wp2
          go_quiet (fail)
          go_wp2
          go_ret
          exact ⟨by rw [hrf.out]; rfl, q + nq, by rw [World.drewN_drewN]⟩
      · have hrt : Hid (r = true) := by
          unfold Hid
          rw [← hr.out]
          have h1 := ht.out
          rw [List.take_of_length_le (by rw [hxl.out]; omega), List.take_of_length_le (by rw [hyl.out]; omega)] at h1
          exact decide_eq_true h1
        go_wp2
        go_ret
        exact ⟨by rw [hrt.out]; rfl, q, rfl⟩
  · have hrf : Hid (r = false) := by
      unfold Hid
      rw [← hr.out]
      exact decide_eq_false fun e => hnm (by rw [← hxl.out, ← hyl.out, e])
    have hb : ((n : Int) != (m : Int)) = true := by simp; omega
    clear hnm
    go_enter Tryz.func42, Tryz.ntmps42
    go_wp2
    go_ret
    exact ⟨by rw [hrf.out]; rfl, 0, rfl⟩
end Go.Proofs.YtfciagcmggdldaaGreatDoor
