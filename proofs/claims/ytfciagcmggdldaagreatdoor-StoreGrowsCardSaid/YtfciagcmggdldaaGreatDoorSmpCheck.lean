/-
  chunk.Check.
-/
import Derived.Test.YtfciagcmggdldaaGreatDoorStoreD
import Derived.Deep.QuietTactic
import Derived.BigQuiet
namespace Go.Proofs.YtfciagcmggdldaaGreatDoor
open Go.RowKit

theorem asc_step {l : List Smp} {k : Nat} {x y : Smp} (h : Asc (l.take (k + 1))) (hx : l[k]? = some x) (hy : l[k + 1]? = some y) (e : x.T < y.T) : Asc (l.take (k + 2)) := by
  rw [show k + 2 = (k + 1) + 1 from rfl, List.take_add_one, hy]
  unfold Asc at *
  rw [Option.toList_some, List.pairwise_append]
  refine ⟨h, by simp, fun a ha b hb => ?_⟩
  simp at hb; subst hb
  rw [List.take_add_one, hx, Option.toList_some, List.pairwise_append] at h
  rw [List.take_add_one, hx, Option.toList_some] at ha
  rcases List.mem_append.1 ha with ha | ha
  · have := h.2.2 a ha x (by simp); omega
  · simp at ha; subst ha; exact e
theorem asc_bad {l : List Smp} {k : Nat} {x y : Smp} (hx : l[k]? = some x) (hy : l[k + 1]? = some y) (e : ¬ x.T < y.T) : ¬ Asc l := by
  intro h
  unfold Asc at h
  rw [List.pairwise_iff_getElem] at h
  have h1 := (List.getElem?_eq_some_iff.1 hx)
  have h2 := (List.getElem?_eq_some_iff.1 hy)
  obtain ⟨g1, rfl⟩ := h1
  obtain ⟨g2, rfl⟩ := h2
  exact e (h k (k + 1) g1 g2 (by omega))
theorem asc_one (l : List Smp) : Asc (l.take 1) := by
  cases l with
  | nil => simp [Asc]
  | cons x r => simp [Asc]

set_option maxRecDepth 100000 in
set_option maxHeartbeats 1000000 in
theorem smpCheck_calls (A : Option Addr) (n c : Nat) (l : List Smp) (w : World) (M : Nat → Prop) (hl : Sl w M A n c l) :
    Calls Tryz.prog 37 #[.slice A n c] w fun e w' => e = .returned (.int .i64 (smpCheck l)) ∧ ∃ q, w' = w.drewN q := by
  have hle := hl.le
  have hlen := Lib.hid hl.len
  obtain ⟨r, hr⟩ : ∃ r, Hid (smpCheck l = r) := ⟨_, rfl⟩
  rw [hr.out]
  by_cases hbig : 1000 < n
  · have hr2 : Hid (r = 2) := by unfold Hid; rw [← hr.out, smpCheck, if_pos (by rw [hlen.out]; exact hbig)]
    have hbi : (1000 : Int) < (n : Int) := by omega
    go_enter Tryz.func37, Tryz.ntmps37
    go_wp2
    go_ret
    exact ⟨by rw [hr2.out]; rfl, 0, rfl⟩
  · have hno : Hid (r = if Asc l then 0 else 5) := by unfold Hid; rw [← hr.out, smpCheck, if_neg (by rw [hlen.out]; exact hbig)]
    have hbi : ¬ (1000 : Int) < (n : Int) := by omega
    go_enter Tryz.func37, Tryz.ntmps37
    go_wp2
    go_loopw [3] (fun i wr => ∃ (k q : Nat), k ≤ n ∧ i = .int .i64 ((k : Int) + 1) ∧ wr = w.drewN q ∧ Hid (Asc (l.take (k + 1)))) (fun i _ => n + 1 - (intOf i).toNat)
    case atStart => exact ⟨0, 0, Nat.zero_le _, rfl, rfl, asc_one l⟩
    case round =>
      obtain ⟨k, q, hk, rfl, rfl, ht⟩ := hrel
      by_cases hlt : k + 1 < n
      · obtain ⟨b, off, x, rfl, hx0, hc, hc', _, _⟩ := hl.smp (k := k) (by omega)
        obtain ⟨b2, off2, y, e2, hy0, hd, hd', _, _⟩ := hl.smp hlt
        injection e2 with e2
        injection e2 with e3 e4
        subst e3; subst e4
        have hx0 := Lib.hid hx0
        have hy0 := Lib.hid hy0
        have hki : (k : Int) + 1 < (n : Int) := by omega
        have hw1 : IntKind.i64.wrap ((k : Int) + 1 - 1) = (k : Int) := by rw [show (k : Int) + 1 - 1 = (k : Int) by omega]; exact IntWalk.i64_in _ (by omega)
        have hk1 : ((k : Int) + 1).toNat = k + 1 := by omega
        have hk2 : (0 : Int) ≤ (k : Int) + 1 := by omega
        by_cases e : x.T < y.T
        · have ht2 := Lib.hid (asc_step ht.out hx0.out hy0.out e)
          have hdec : decide (y.T ≤ x.T) = false := decide_eq_false (by omega)
          go_wp2
          go_quiet (fail)
          go_wp2
          go_roundw
          case rel => exact ⟨k + 1, q + nq, by omega, by go_num, rfl, ht2⟩
          case measure => simp [intOf]; omega
        · have hrf : Hid (r = 5) := by unfold Hid; rw [hno.out, if_neg (asc_bad hx0.out hy0.out e)]
          have hdec : decide (y.T ≤ x.T) = true := decide_eq_true (by omega)
          go_wp2
          go_quiet (fail)
          go_wp2
          go_ret
          exact ⟨by rw [hrf.out]; rfl, q + nq, by rw [World.drewN_drewN]⟩
      · have hrt : Hid (r = 0) := by
          unfold Hid
          have h1 := ht.out
          rw [List.take_of_length_le (by rw [hlen.out]; omega)] at h1
          rw [hno.out, if_pos h1]
        have hki : ¬ (k : Int) + 1 < (n : Int) := by omega
        go_wp2
        go_ret
        exact ⟨by rw [hrt.out]; rfl, q, rfl⟩
end Go.Proofs.YtfciagcmggdldaaGreatDoor
