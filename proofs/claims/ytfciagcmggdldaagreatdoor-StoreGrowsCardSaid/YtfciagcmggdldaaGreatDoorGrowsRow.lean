/-
  Where a time stands in a row of samples: plain lists.
  sort.Search with the closure that chunk.Range hands in (1).
  sort.Search with the closure that chunk.Range hands in (2).
  chunk.Range.
  slices.IndexFunc and ContainsFunc with the closure of StoreGrows.
  gaugehousekeep.StoreGrows.
  gaugehousekeep.StoreGrows returns true whatever it is handed, and leaves what it is handed as it was; the variable label.signs reads as the program's text lays it (the card ties it).
-/
import Derived.Test.YtfciagcmggdldaaGreatDoorSmpCheck
import Derived.Test.YtfciagcmggdldaaGreatDoorMerge
import Derived.Test.YtfciagcmggdldaaGreatDoorSame
import Derived.Test.YtfciagcmggdldaaGreatDoorSet
import Derived.Test.YtfciagcmggdldaaGreatDoorCards
import Derived.Test.YtfciagcmggdldaaGreatDoorTie
import Derived.Test.YtfciagcmggdldaaGreatDoorSigns
import Derived.Test.YtfciagcmggdldaaGreatDoorOpenPut
import Derived.SevenTiedAt
namespace Go.Proofs.YtfciagcmggdldaaGreatDoor

/-- How many stand before a time. -/
def rangeI (l : List Smp) (t : Int) : Nat := (l.takeWhile fun x => decide (x.T < t)).length
theorem rangeI_le (l : List Smp) (t : Int) : rangeI l t ≤ l.length := (List.takeWhile_sublist _).length_le
theorem rangeI_of {l : List Smp} {t : Int} {i : Nat} (hi : i ≤ l.length) (h1 : ∀ k x, k < i → l[k]? = some x → x.T < t) (h2 : ∀ x, l[i]? = some x → ¬ x.T < t) : rangeI l t = i := by
  unfold rangeI
  induction l generalizing i with
  | nil => simp at hi; subst hi; rfl
  | cons y r ih =>
    cases i with
    | zero =>
      have := h2 y rfl
      rw [List.takeWhile_cons_of_neg (by simpa using this)]; rfl
    | succ i =>
      have h0 := h1 0 y (by omega) rfl
      rw [List.takeWhile_cons_of_pos (by simpa using h0), List.length_cons, ih (by simpa using hi) (fun k x hk hx => h1 (k + 1) x (by omega) (by simpa using hx)) (fun x hx => h2 x (by simpa using hx))]
/-- chunk.Range of samples in order. -/
def rangeR (l : List Smp) (lo hi : Int) : List Smp := if rangeI l hi ≤ rangeI l lo then [] else (l.take (rangeI l hi)).drop (rangeI l lo)

theorem rangeI_asc {l : List Smp} (ha : Asc l) {t : Int} {k : Nat} {x : Smp} (hx : l[k]? = some x) : k < rangeI l t ↔ x.T < t := by
  unfold rangeI
  induction l generalizing k with
  | nil => simp at hx
  | cons y r ih =>
    rw [Asc, List.pairwise_cons] at ha
    by_cases hy : y.T < t
    · rw [List.takeWhile_cons_of_pos (by simpa using hy), List.length_cons]
      cases k with
      | zero => simp at hx; subst hx; simp [hy]
      | succ k =>
        have := ih ha.2 (k := k) (by simpa using hx)
        omega
    · rw [List.takeWhile_cons_of_neg (by simpa using hy)]
      cases k with
      | zero => simp at hx; subst hx; simp [hy]
      | succ k =>
        have := ha.1 x (List.mem_of_getElem? (by simpa using hx))
        simp only [List.length_nil]
        omega
/-- One time alone. -/
theorem rangeR_one {l : List Smp} (ha : Asc l) {t v : Int} (h : vAt l t = some v) : rangeR l t (t + 1) = [⟨t, v⟩] := by
  obtain ⟨k, hk⟩ := List.mem_iff_getElem?.1 (vAt_mem h)
  have hkl := (List.getElem?_eq_some_iff.1 hk).1
  have hlo : rangeI l t = k := rangeI_of (by omega) (fun j x hj hx => by
    have h1 := (List.getElem?_eq_some_iff.1 hx).1
    have h2 := List.pairwise_iff_getElem.1 ha j k h1 hkl hj
    rw [(List.getElem?_eq_some_iff.1 hx).2, (List.getElem?_eq_some_iff.1 hk).2] at h2
    exact h2) (fun x hx => by rw [hk] at hx; injection hx with hx; subst hx; simp)
  have hhi : rangeI l (t + 1) = k + 1 := rangeI_of (by omega) (fun j x hj hx => by
    rcases Nat.lt_or_ge j k with hjk | hjk
    · have h1 := (List.getElem?_eq_some_iff.1 hx).1
      have h2 := List.pairwise_iff_getElem.1 ha j k h1 hkl hjk
      rw [(List.getElem?_eq_some_iff.1 hx).2, (List.getElem?_eq_some_iff.1 hk).2] at h2
      simp only at h2; omega
    · have e : j = k := by omega
      subst e
      rw [hk] at hx; injection hx with hx; subst hx; simp only; omega) (fun x hx => by
    have h1 := (List.getElem?_eq_some_iff.1 hx).1
    have h2 := List.pairwise_iff_getElem.1 ha k (k + 1) hkl h1 (by omega)
    rw [(List.getElem?_eq_some_iff.1 hx).2, (List.getElem?_eq_some_iff.1 hk).2] at h2
    simp only at h2; omega)
  unfold rangeR
  rw [hlo, hhi, if_neg (by omega), List.take_add_one, hk, Option.toList_some, List.drop_append, List.drop_of_length_le (by rw [List.length_take]; omega), List.length_take, Nat.min_eq_left (by omega), Nat.sub_self]
  rfl
end Go.Proofs.YtfciagcmggdldaaGreatDoor
namespace Go.Proofs.YtfciagcmggdldaaGreatDoor
open Go.RowKit

set_option maxRecDepth 100000 in
theorem look1_calls (b1 b2 : Nat) (A : Option Addr) (n c : Nat) (l : List Smp) (t : Int) (w : World) (M : Nat → Prop) (hl : Sl w M A n c l) (g1 : w.cell? ⟨b1, 0, none⟩ = some (.slice A n c)) (g2 : w.cell? ⟨b2, 0, none⟩ = some (.int .i64 t)) (k : Nat) (x : Smp) (hx : l[k]? = some x) :
    Calls Tryz.prog 39 #[.int .i64 k, .pointer (some ⟨b1, 0, none⟩), .pointer (some ⟨b2, 0, none⟩)] w fun e w' => e = .returned (.bool (decide (t ≤ x.T))) ∧ ∃ q, w' = w.drewN q := by
  have hkn : k < n := by rw [← hl.len]; exact (List.getElem?_eq_some_iff.1 hx).1
  have hle := hl.le
  obtain ⟨b, off, y, rfl, hy, hc, _, _, _⟩ := hl.smp hkn
  rw [hx] at hy
  injection hy with hy
  subst hy
  have hki : (k : Int) < (n : Int) := by omega
  have hx := Lib.hid hx
  go_enter Tryz.func39, Tryz.ntmps39
  go_wp2
  go_quiet (fail)
  go_wp2
  go_ret
  exact ⟨rfl, nq, rfl⟩

set_option maxRecDepth 100000 in
set_option maxHeartbeats 1000000 in
theorem search1_calls (b1 b2 : Nat) (A : Option Addr) (n c : Nat) (l : List Smp) (t : Int) (w : World) (M : Nat → Prop) (hl : Sl w M A n c l) (ha : Asc l) (hn : n ≤ 1000) (g1 : w.cell? ⟨b1, 0, none⟩ = some (.slice A n c)) (g2 : w.cell? ⟨b2, 0, none⟩ = some (.int .i64 t)) :
    Calls Tryz.prog 38 #[.int .i64 n, .func (.func 39) #[] #[.pointer (some ⟨b1, 0, none⟩), .pointer (some ⟨b2, 0, none⟩)]] w fun e w' => e = .returned (.int .i64 (rangeI l t)) ∧ ∃ q, w' = w.drewN q := by
  have hlen := Lib.hid hl.len
  have hrn : rangeI l t ≤ n := by rw [← hl.len]; exact rangeI_le l t
  obtain ⟨R, hR⟩ : ∃ R, Hid (rangeI l t = R) := ⟨_, rfl⟩
  rw [hR.out] at hrn ⊢
  have hcl : ∀ (q k : Nat) (x : Smp), l[k]? = some x → Calls Tryz.prog 39 #[.int .i64 k, .pointer (some ⟨b1, 0, none⟩), .pointer (some ⟨b2, 0, none⟩)] (w.drewN q) fun e w' => e = .returned (.bool (decide (R ≤ k))) ∧ ∃ q', w' = w.drewN (q + q') := fun q k x hx => by
    have h := look1_calls b1 b2 A n c l t (w.drewN q) M (hl.keep (.drewN _ _ q)) g1 g2 k x hx
    have e : decide (t ≤ x.T) = decide (R ≤ k) := by
      have := rangeI_asc ha (t := t) hx
      rw [hR.out] at this
      rw [decide_eq_decide]; omega
    rw [e] at h
    refine h.mono ?_
    rintro e w' ⟨rfl, q', rfl⟩
    exact ⟨rfl, q', by rw [World.drewN_drewN]⟩
  have hcl := Lib.hid hcl
  go_enter Tryz.func38, Tryz.ntmps38
  go_wp2
  go_loopw [5, 6] (fun i j wr => ∃ (a b q : Nat), i = .int .i64 a ∧ j = .int .i64 b ∧ a ≤ R ∧ R ≤ b ∧ b ≤ n ∧ wr = w.drewN q) (fun i j _ => (intOf j).toNat - (intOf i).toNat)
  case atStart => exact ⟨0, n, 0, rfl, rfl, Nat.zero_le _, hrn, Nat.le_refl _, rfl⟩
  case round =>
    obtain ⟨a, b, q, rfl, rfl, haR, hRb, hbn, rfl⟩ := hrel
    by_cases hab : a < b
    · obtain ⟨m, hm⟩ : ∃ m, Hid (m = (a + b) / 2) := ⟨_, rfl⟩
      have hm1 : a ≤ m := by rw [hm.out]; omega
      have hm2 : m < b := by rw [hm.out]; omega
      have hdiv : ((a : Int) + (b : Int)) / 2 = (m : Int) := by rw [hm.out]; omega
      obtain ⟨x, hx⟩ : ∃ x, l[m]? = some x := ⟨_, List.getElem?_eq_getElem (by rw [hlen.out]; omega)⟩
      have hc := hcl.out q m x hx
      have habi : (a : Int) < (b : Int) := by omega
      have hx := Lib.hid hx
      by_cases hRm : R ≤ m
      · rw [decide_eq_true hRm] at hc
        have hc := Lib.hid hc
        go_wp2_with (go_at_call 39; refine hc.out.mono ?_; rintro e w' ⟨rfl, q', rfl⟩)
        go_roundw
        case rel => exact ⟨a, m, q + q', rfl, rfl, haR, hRm, by omega, rfl⟩
        case measure => simp [intOf]; omega
      · rw [decide_eq_false hRm] at hc
        have hc := Lib.hid hc
        go_wp2_with (go_at_call 39; refine hc.out.mono ?_; rintro e w' ⟨rfl, q', rfl⟩)
        go_roundw
        case rel => exact ⟨m + 1, b, q + q', by go_num, rfl, by omega, hRb, hbn, rfl⟩
        case measure => simp [intOf]; omega
    · have hRa : Hid (R = a) := by unfold Hid; omega
      go_wp2
      go_ret
      exact ⟨by rw [hRa.out]; rfl, q, rfl⟩
end Go.Proofs.YtfciagcmggdldaaGreatDoor
namespace Go.Proofs.YtfciagcmggdldaaGreatDoor
open Go.RowKit

set_option maxRecDepth 100000 in
theorem look2_calls (b1 b2 : Nat) (A : Option Addr) (n c : Nat) (l : List Smp) (t : Int) (w : World) (M : Nat → Prop) (hl : Sl w M A n c l) (g1 : w.cell? ⟨b1, 0, none⟩ = some (.slice A n c)) (g2 : w.cell? ⟨b2, 0, none⟩ = some (.int .i64 t)) (k : Nat) (x : Smp) (hx : l[k]? = some x) :
    Calls Tryz.prog 40 #[.int .i64 k, .pointer (some ⟨b1, 0, none⟩), .pointer (some ⟨b2, 0, none⟩)] w fun e w' => e = .returned (.bool (decide (t ≤ x.T))) ∧ ∃ q, w' = w.drewN q := by
  have hkn : k < n := by rw [← hl.len]; exact (List.getElem?_eq_some_iff.1 hx).1
  have hle := hl.le
  obtain ⟨b, off, y, rfl, hy, hc, _, _, _⟩ := hl.smp hkn
  rw [hx] at hy
  injection hy with hy
  subst hy
  have hki : (k : Int) < (n : Int) := by omega
  have hx := Lib.hid hx
  go_enter Tryz.func40, Tryz.ntmps40
  go_wp2
  go_quiet (fail)
  go_wp2
  go_ret
  exact ⟨rfl, nq, rfl⟩

set_option maxRecDepth 100000 in
set_option maxHeartbeats 1000000 in
theorem search2_calls (b1 b2 : Nat) (A : Option Addr) (n c : Nat) (l : List Smp) (t : Int) (w : World) (M : Nat → Prop) (hl : Sl w M A n c l) (ha : Asc l) (hn : n ≤ 1000) (g1 : w.cell? ⟨b1, 0, none⟩ = some (.slice A n c)) (g2 : w.cell? ⟨b2, 0, none⟩ = some (.int .i64 t)) :
    Calls Tryz.prog 38 #[.int .i64 n, .func (.func 40) #[] #[.pointer (some ⟨b1, 0, none⟩), .pointer (some ⟨b2, 0, none⟩)]] w fun e w' => e = .returned (.int .i64 (rangeI l t)) ∧ ∃ q, w' = w.drewN q := by
  have hlen := Lib.hid hl.len
  have hrn : rangeI l t ≤ n := by rw [← hl.len]; exact rangeI_le l t
  obtain ⟨R, hR⟩ : ∃ R, Hid (rangeI l t = R) := ⟨_, rfl⟩
  rw [hR.out] at hrn ⊢
  have hcl : ∀ (q k : Nat) (x : Smp), l[k]? = some x → Calls Tryz.prog 40 #[.int .i64 k, .pointer (some ⟨b1, 0, none⟩), .pointer (some ⟨b2, 0, none⟩)] (w.drewN q) fun e w' => e = .returned (.bool (decide (R ≤ k))) ∧ ∃ q', w' = w.drewN (q + q') := fun q k x hx => by
    have h := look2_calls b1 b2 A n c l t (w.drewN q) M (hl.keep (.drewN _ _ q)) g1 g2 k x hx
    have e : decide (t ≤ x.T) = decide (R ≤ k) := by
      have := rangeI_asc ha (t := t) hx
      rw [hR.out] at this
      rw [decide_eq_decide]; omega
    rw [e] at h
    refine h.mono ?_
    rintro e w' ⟨rfl, q', rfl⟩
    exact ⟨rfl, q', by rw [World.drewN_drewN]⟩
  have hcl := Lib.hid hcl
  go_enter Tryz.func38, Tryz.ntmps38
  go_wp2
  go_loopw [5, 6] (fun i j wr => ∃ (a b q : Nat), i = .int .i64 a ∧ j = .int .i64 b ∧ a ≤ R ∧ R ≤ b ∧ b ≤ n ∧ wr = w.drewN q) (fun i j _ => (intOf j).toNat - (intOf i).toNat)
  case atStart => exact ⟨0, n, 0, rfl, rfl, Nat.zero_le _, hrn, Nat.le_refl _, rfl⟩
  case round =>
    obtain ⟨a, b, q, rfl, rfl, haR, hRb, hbn, rfl⟩ := hrel
    by_cases hab : a < b
    · obtain ⟨m, hm⟩ : ∃ m, Hid (m = (a + b) / 2) := ⟨_, rfl⟩
      have hm1 : a ≤ m := by rw [hm.out]; omega
      have hm2 : m < b := by rw [hm.out]; omega
      have hdiv : ((a : Int) + (b : Int)) / 2 = (m : Int) := by rw [hm.out]; omega
      obtain ⟨x, hx⟩ : ∃ x, l[m]? = some x := ⟨_, List.getElem?_eq_getElem (by rw [hlen.out]; omega)⟩
      have hc := hcl.out q m x hx
      have habi : (a : Int) < (b : Int) := by omega
      have hx := Lib.hid hx
      by_cases hRm : R ≤ m
      · rw [decide_eq_true hRm] at hc
        have hc := Lib.hid hc
        go_wp2_with (go_at_call 40; refine hc.out.mono ?_; rintro e w' ⟨rfl, q', rfl⟩)
        go_roundw
        case rel => exact ⟨a, m, q + q', rfl, rfl, haR, hRm, by omega, rfl⟩
        case measure => simp [intOf]; omega
      · rw [decide_eq_false hRm] at hc
        have hc := Lib.hid hc
        go_wp2_with (go_at_call 40; refine hc.out.mono ?_; rintro e w' ⟨rfl, q', rfl⟩)
        go_roundw
        case rel => exact ⟨m + 1, b, q + q', by go_num, rfl, by omega, hRb, hbn, rfl⟩
        case measure => simp [intOf]; omega
    · have hRa : Hid (R = a) := by unfold Hid; omega
      go_wp2
      go_ret
      exact ⟨by rw [hRa.out]; rfl, q, rfl⟩
end Go.Proofs.YtfciagcmggdldaaGreatDoor
namespace Go.Proofs.YtfciagcmggdldaaGreatDoor
open Go.RowKit

def rangeG (l : List Smp) (lo hi : Int) : List Smp := if smpCheck l = 0 then rangeR l lo hi else []

set_option maxRecDepth 100000 in
set_option maxHeartbeats 1000000 in
theorem range_calls (A : Option Addr) (n c : Nat) (l : List Smp) (lo hi : Int) (w : World) (M : Nat → Prop) (hM : ∀ k, M k → k < w.heap.size) (hl : Sl w M A n c l) :
    Calls Tryz.prog 16 #[.slice A n c, .int .i64 lo, .int .i64 hi] w fun e w' => ∃ A' c', e = .returned (.tuple #[.slice A' (rangeG l lo hi).length c', .int .i64 (smpCheck l)]) ∧ Sl w' M A' (rangeG l lo hi).length c' (rangeG l lo hi) ∧ Below w.heap.size w w' := by
  have hB := (((Below.refl w.heap.size w).new (.cells #[.slice A n c] 40)).new (.cells #[.int .i64 lo] 2)).new (.cells #[.int .i64 hi] 2)
  obtain ⟨W, hW⟩ : ∃ W, W = ((w.alloc (.cells #[.slice A n c] 40)).alloc (.cells #[.int .i64 lo] 2)).alloc (.cells #[.int .i64 hi] 2) := ⟨_, rfl⟩
  have hlW := hl.below hB
  obtain ⟨g1, g2, g3⟩ : W.cell? ⟨w.heap.size, 0, none⟩ = some (.slice A n c) ∧ W.cell? ⟨w.heap.size + 1, 0, none⟩ = some (.int .i64 lo) ∧ W.cell? ⟨w.heap.size + 1 + 1, 0, none⟩ = some (.int .i64 hi) := by
    rw [hW]; refine ⟨?_, ?_, ?_⟩ <;> go_simp
  rw [← hW] at hB hlW
  have hMW : ∀ k, M k → k < W.heap.size := fun k hk => Nat.lt_of_lt_of_le (hM k hk) hB.size
  obtain ⟨R, hR⟩ : ∃ R, Hid (rangeG l lo hi = R) := ⟨_, rfl⟩
  rw [hR.out]
  obtain ⟨e0, he0⟩ : ∃ e0, Hid (smpCheck l = e0) := ⟨_, rfl⟩
  rw [he0.out]
  have hck : Calls Tryz.prog 37 #[.slice A n c] W fun e w' => e = .returned (.int .i64 e0) ∧ ∃ q, w' = W.drewN q := by
    rw [← he0.out]; exact smpCheck_calls A n c l W M hlW
  have hck := Lib.hid hck
  by_cases hz : e0 = 0
  · obtain ⟨hn, ha⟩ := smpCheck_ok.1 (he0.out.trans hz)
    rw [hl.len] at hn
    have hRR : Hid (R = if rangeI l hi ≤ rangeI l lo then [] else (l.take (rangeI l hi)).drop (rangeI l lo)) := by
      unfold Hid; rw [← hR.out, rangeG, if_pos (he0.out.trans hz), rangeR]
    have hs1 : ∀ q, Calls Tryz.prog 38 #[.int .i64 n, .func (.func 39) #[] #[.pointer (some ⟨w.heap.size, 0, none⟩), .pointer (some ⟨w.heap.size + 1, 0, none⟩)]] (W.drewN q) fun e w' => e = .returned (.int .i64 (rangeI l lo)) ∧ ∃ q', w' = (W.drewN q).drewN q' := fun q => search1_calls _ _ A n c l lo _ M (hlW.keep (.drewN _ _ q)) ha hn g1 g2
    have hs2 : ∀ q, Calls Tryz.prog 38 #[.int .i64 n, .func (.func 40) #[] #[.pointer (some ⟨w.heap.size, 0, none⟩), .pointer (some ⟨w.heap.size + 1 + 1, 0, none⟩)]] (W.drewN q) fun e w' => e = .returned (.int .i64 (rangeI l hi)) ∧ ∃ q', w' = (W.drewN q).drewN q' := fun q => search2_calls _ _ A n c l hi _ M (hlW.keep (.drewN _ _ q)) ha hn g1 g3
    have hile : rangeI l hi ≤ n := by rw [← hl.len]; exact rangeI_le l hi
    generalize rangeI l lo = i at hs1 hRR
    generalize rangeI l hi = k at hs2 hRR hile
    have hs1 := Lib.hid hs1
    have hs2 := Lib.hid hs2
    have hzb : (e0 != 0) = false := by simp [hz]
    have hz0 := Lib.hid hz
    clear hz
    have hcn := hl.2.1
    have hcl := hl.cle
    by_cases hki : k ≤ i
    · have hR0 : Hid (R = []) := by unfold Hid; rw [hRR.out, if_pos hki]
      have hkii : (k : Int) ≤ (i : Int) := by omega
      subst hW
      go_enter Tryz.func16, Tryz.ntmps16
      go_wp2_with (first
        | (go_at_call 37; refine hck.out.mono ?_; rintro e w1 ⟨rfl, q1, rfl⟩)
        | (go_at_call 38; with_reducible refine (hs1.out _).mono ?_; rintro e w2 ⟨rfl, q2, rfl⟩)
        | (go_at_call 38; with_reducible refine (hs2.out _).mono ?_; rintro e w3 ⟨rfl, q3, rfl⟩))
      go_ret2
      exact ⟨none, 0, by rw [hR0.out, hz0.out]; rfl, by rw [hR0.out]; exact Sl.nil _ _, by first | exact hB.draws _ | exact (hB.draws _).draws _ | exact ((hB.draws _).draws _).draws _⟩
    · obtain ⟨b, off, rfl, _⟩ := hl.addr (by omega)
      have hR0 : Hid (R = (l.take k).drop i) := by unfold Hid; rw [hRR.out, if_neg hki]
      have hsl : ∀ q, Sl (W.drewN q) (mOr M (.slice none 0 0)) (some ⟨b, off + i * 2, none⟩) (k - i) (c - i) ((l.take k).drop i) := fun q => by
        have h1 := ((hlW.keep (.drewN M W q)).upto hile).from_ (k := i) (by omega)
        rw [if_neg (by omega)] at h1
        rw [mOr_nil]
        have ha : (⟨b, off, none⟩ : Addr).add (i * Rep.size Smp) = ⟨b, off + i * 2, none⟩ := by
          show (⟨b, off, none⟩ : Addr).add (i * 2) = _
          unfold Addr.add; split <;> simp_all
        simp only [Option.map_some, ha] at h1
        exact h1
      have hRl : Hid (R.length = k - i) := by
        unfold Hid; rw [hR0.out, List.length_drop, List.length_take, hl.len]; omega
      have hsl := Lib.hid hsl
      have hkii : ¬ (k : Int) ≤ (i : Int) := by omega
      have hik : (i : Int) ≤ (k : Int) := by omega
      have hkc : (k : Int) ≤ (c : Int) := by omega
      have hci : ¬ c = i := by omega
      have hsz : (([] : List Smp).length + (k - i)) * 16 ≤ 140737488355328 := by simp; omega
      have hw0 : w.heap.size ≤ W.heap.size := hB.size
      have hB := Lib.hid hB
      subst hW
      go_enter Tryz.func16, Tryz.ntmps16
      go_wp2_with (first
        | (go_at_call 37; refine hck.out.mono ?_; rintro e w1 ⟨rfl, q1, rfl⟩)
        | (go_at_call 38; with_reducible refine (hs1.out _).mono ?_; rintro e w2 ⟨rfl, q2, rfl⟩)
        | (go_at_call 38; with_reducible refine (hs2.out _).mono ?_; rintro e w3 ⟨rfl, q3, rfl⟩)
        | (at_builtin; refine wpList_app (α := Smp) (M := M) (base := w.heap.size) rfl (.const (.slice none 0 0)) (.tmp 30) 40 rfl elemSmpM (.slice none 0 0) [] rfl (Own.nil _ _ _ _) ((l.take k).drop i) (some ⟨b, off + i * 2, none⟩) (k - i) (c - i) rfl (hsl.out _) hsz hw0 ?_; intro v' w' ho' hg' hk'))
      rw [List.nil_append] at ho'
      obtain ⟨A', c', rfl, hs'⟩ := ho'.sl hM
      go_wp2
      go_ret2
      rw [hR0.out, hz0.out]
      exact ⟨A', c', rfl, hs', by first
        | exact (hB.out.draws _).grown hg' hw0 (fun k hk => by cases hk)
        | exact ((hB.out.draws _).draws _).grown hg' hw0 (fun k hk => by cases hk)
        | exact (((hB.out.draws _).draws _).draws _).grown hg' hw0 (fun k hk => by cases hk)
        | exact ((((hB.out.draws _).draws _).draws _).draws _).grown hg' hw0 (fun k hk => by cases hk)⟩
  · have hR0 : Hid (R = []) := by unfold Hid; rw [← hR.out, rangeG, if_neg (by rw [he0.out]; exact hz)]
    have hzb : (e0 != 0) = true := by simp [hz]
    clear hz
    subst hW
    go_enter Tryz.func16, Tryz.ntmps16
    go_wp2_with (go_at_call 37; refine hck.out.mono ?_; rintro e w1 ⟨rfl, q1, rfl⟩)
    go_ret2
    exact ⟨none, 0, by rw [hR0.out]; rfl, by rw [hR0.out]; exact Sl.nil _ _, by first | exact hB.draws _ | exact (hB.draws _).draws _⟩
end Go.Proofs.YtfciagcmggdldaaGreatDoor
namespace Go.Proofs.YtfciagcmggdldaaGreatDoor
open Go.RowKit

set_option maxRecDepth 100000 in
set_option maxHeartbeats 1000000 in
theorem grows1_calls (A B A' B' : Option Addr) (c d c' d' bx : Nat) (x y : Ser) (w : World) (M M' : Nat → Prop) (h1 : Sl w M A x.L.length c x.L) (h2 : Sl w M B x.S.length d x.S) (g1 : Sl w M' A' y.L.length c' y.L) (g2 : Sl w M' B' y.S.length d' y.S)
    (k1 : w.cell? ⟨bx, 0, none⟩ = some (.slice A x.L.length c)) (k2 : w.cell? ⟨bx, 1, none⟩ = some (.slice B x.S.length d)) :
    Calls Tryz.prog 18 #[.agg #[.slice A' y.L.length c', .slice B' y.S.length d'], .pointer (some ⟨bx, 0, none⟩)] w fun e w' => e = .returned (.bool (decide (x = y))) ∧ Below w.heap.size w w' := by
  obtain ⟨xL, xS⟩ := x
  obtain ⟨yL, yS⟩ := y
  simp only at h1 h2 g1 g2 k1 k2 ⊢
  have hB := (Below.refl w.heap.size w).new (.cells #[.slice A' yL.length c', .slice B' yS.length d'] 42)
  have k1 := (bcell hB bx 0 (World.block_lt_of_cell? w _ k1)).trans k1
  have k2 := (bcell hB bx 1 (World.block_lt_of_cell? w _ k2)).trans k2
  have hl := sameLabels_calls A A' _ c _ c' xL yL _ M M' (h1.below hB) (g1.below hB)
  have hs := fun q => same_calls B B' _ d _ d' xS yS _ M M' ((h2.below hB).keep (.drewN M _ q)) ((g2.below hB).keep (.drewN M' _ q))
  have he : Hid (decide ((⟨xL, xS⟩ : Ser) = ⟨yL, yS⟩) = (decide (xL = yL) && decide (xS = yS))) := ser_eq _ _
  obtain ⟨r, hr⟩ : ∃ r, Hid (decide ((⟨xL, xS⟩ : Ser) = ⟨yL, yS⟩) = r) := ⟨_, rfl⟩
  rw [hr.out]
  generalize decide (xL = yL) = r1 at hl he
  generalize decide (xS = yS) = r2 at hs he
  have hl := Lib.hid hl
  have hs := Lib.hid hs
  cases r1 with
  | false =>
    have hrf : Hid (r = false) := by unfold Hid; rw [← hr.out, he.out]; rfl
    go_enter Tryz.func18, Tryz.ntmps18
    go_wp2_with (first | (go_at_call 15; refine hl.out.mono ?_; rintro e w' ⟨rfl, q, rfl⟩))
    go_ret
    exact ⟨by rw [hrf.out]; rfl, hB.draws q⟩
  | true =>
    have hrf : Hid (r = r2) := by unfold Hid; rw [← hr.out, he.out]; simp
    go_enter Tryz.func18, Tryz.ntmps18
    go_wp2_with (first | (go_at_call 15; refine hl.out.mono ?_; rintro e w' ⟨rfl, q, rfl⟩) | (go_at_call 19; refine (hs.out q).mono ?_; rintro e w' ⟨rfl, q', rfl⟩))
    go_ret
    exact ⟨by rw [hrf.out]; rfl, by first | exact (hB.draws q).draws q' | exact hB.draws (q + q')⟩

/-- Where x stands first, or -1. -/
def idxS (x : Ser) : List Ser → Int → Int
  | [], _ => -1
  | y :: r, i => if x = y then i else idxS x r (i + 1)
theorem idxS_pos (x : Ser) (l : List Ser) : ∀ i : Int, 0 ≤ i → (0 ≤ idxS x l i ↔ x ∈ l) := by
  induction l with
  | nil => intro i _; simp [idxS]
  | cons y r ih =>
    intro i hi
    unfold idxS
    by_cases h : x = y
    · rw [if_pos h]; simp [h, hi]
    · rw [if_neg h, ih (i + 1) (by omega), List.mem_cons]; simp [h]

set_option maxRecDepth 100000 in
set_option maxHeartbeats 1000000 in
theorem idxSer_calls (X : Option Addr) (n cx : Nat) (ys : List Ser) (A B : Option Addr) (c d bx : Nat) (x : Ser) (w : World) (M M' : Nat → Prop) (hy : Sl w M' X n cx ys) (h1 : Sl w M A x.L.length c x.L) (h2 : Sl w M B x.S.length d x.S)
    (k1 : w.cell? ⟨bx, 0, none⟩ = some (.slice A x.L.length c)) (k2 : w.cell? ⟨bx, 1, none⟩ = some (.slice B x.S.length d)) :
    Calls Tryz.prog 41 #[.slice X n cx, .func (.func 18) #[] #[.pointer (some ⟨bx, 0, none⟩)]] w fun e w' => e = .returned (.int .i64 (idxS x ys 0)) ∧ Below w.heap.size w w' := by
  have hle := hy.le
  have hyl := Lib.hid hy.len
  obtain ⟨r, hr⟩ : ∃ r, Hid (idxS x ys 0 = r) := ⟨_, rfl⟩
  rw [hr.out]
  go_enter Tryz.func41, Tryz.ntmps41
  go_wp2
  go_loopw [8] (fun i wr => ∃ (k : Nat), k ≤ n ∧ i = .int .i64 k ∧ Below w.heap.size w wr ∧ Hid (r = idxS x (ys.drop k) (k : Int))) (fun i _ => n - (intOf i).toNat)
  case atStart => exact ⟨0, Nat.zero_le _, rfl, Below.refl _ _, by unfold Hid; rw [← hr.out]; rfl⟩
  case round =>
    obtain ⟨k, hk, rfl, hbl, ht⟩ := hrel
    by_cases hlt : k < n
    · obtain ⟨b', off', y, B1, d1, B2, d2, rfl, hy0, g0', g1', t1, t2⟩ := (hy.below hbl).ser hlt
      have hki : (k : Int) < (n : Int) := by omega
      have hd := Lib.hid (drop_cons hy0)
      clear hy0
      have hc := grows1_calls A B B1 B2 c d d1 d2 bx x y wr M M' (h1.below hbl) (h2.below hbl) t1 t2 ((bcell hbl bx 0 (World.block_lt_of_cell? w _ k1)).trans k1) ((bcell hbl bx 1 (World.block_lt_of_cell? w _ k2)).trans k2)
      by_cases e : x = y
      · have hrk : Hid (r = k) := by unfold Hid; rw [ht.out, hd.out, idxS, if_pos e]
        rw [decide_eq_true e] at hc
        have hc := Lib.hid hc
        clear e
        go_wp2_with (go_at_call 18; refine hc.out.mono ?_; rintro e w' ⟨rfl, hb'⟩)
        go_ret
        exact ⟨by rw [hrk.out]; rfl, hbl.call hb'⟩
      · have ht2 : Hid (r = idxS x (ys.drop (k + 1)) ((k + 1 : Nat) : Int)) := by unfold Hid; rw [ht.out, hd.out, idxS, if_neg e]; rfl
        rw [decide_eq_false e] at hc
        have hc := Lib.hid hc
        clear e
        go_wp2_with (go_at_call 18; refine hc.out.mono ?_; rintro e w' ⟨rfl, hb'⟩)
        go_roundw
        case rel => exact ⟨k + 1, by omega, by go_num, hbl.call hb', ht2⟩
        case measure => simp [intOf]; omega
    · have hr1 : Hid (r = -1) := by unfold Hid; rw [ht.out, List.drop_eq_nil_of_le (by rw [hyl.out]; omega)]; rfl
      go_wp2
      go_ret
      exact ⟨by rw [hr1.out]; rfl, hbl⟩

theorem contains_calls (X : Option Addr) (n cx : Nat) (ys : List Ser) (A B : Option Addr) (c d bx : Nat) (x : Ser) (w : World) (M M' : Nat → Prop) (hy : Sl w M' X n cx ys) (h1 : Sl w M A x.L.length c x.L) (h2 : Sl w M B x.S.length d x.S)
    (k1 : w.cell? ⟨bx, 0, none⟩ = some (.slice A x.L.length c)) (k2 : w.cell? ⟨bx, 1, none⟩ = some (.slice B x.S.length d)) :
    Calls Tryz.prog 17 #[.slice X n cx, .func (.func 18) #[] #[.pointer (some ⟨bx, 0, none⟩)]] w fun e w' => e = .returned (.bool (decide (x ∈ ys))) ∧ Below w.heap.size w w' := by
  have h := idxSer_calls X n cx ys A B c d bx x w M M' hy h1 h2 k1 k2
  have hp := idxS_pos x ys 0 (by omega)
  have he : Hid (decide (0 ≤ idxS x ys 0) = decide (x ∈ ys)) := by unfold Hid; rw [decide_eq_decide]; exact hp
  generalize idxS x ys 0 = z at h he
  have h := Lib.hid h
  clear hp
  rw [← he.out]
  go_enter Tryz.func17, Tryz.ntmps17
  go_wp2_with (go_at_call 41; refine h.out.mono ?_; rintro e w' ⟨rfl, hb⟩)
  go_ret
  exact ⟨rfl, hb⟩
end Go.Proofs.YtfciagcmggdldaaGreatDoor
namespace Go.Proofs.YtfciagcmggdldaaGreatDoor
open Go.RowKit

theorem putSt_err {kvs : Kvs} {bs : List UInt8} {q : PutD} (h : (putSt kvs bs q).2.2 ≠ 0) : (putSt kvs bs q).1 = kvs := by
  unfold putSt at *
  split
  · rfl
  · rename_i h1
    rw [if_neg h1] at h
    split
    · rfl
    · rename_i h2
      rw [if_neg h2] at h
      split
      · rfl
      · rename_i h3
        rw [if_neg h3] at h
        exact absurd rfl h
theorem putSt_ok {kvs : Kvs} {bs : List UInt8} {q : PutD} (h : (putSt kvs bs q).2.2 = 0) : putE q = 0 ∧ (moreL kvs q).2 = 0 ∧ (putSt kvs bs q).1 = mset kvs (putKey q) (moreL kvs q).1 := by
  unfold putSt at *
  by_cases h1 : putE q ≠ 0
  · rw [if_pos h1] at h; exact absurd h h1
  · rw [if_neg h1] at h ⊢
    by_cases h2 : (moreL kvs q).2 ≠ 0
    · rw [if_pos h2] at h; exact absurd h h2
    · rw [if_neg h2] at h ⊢
      by_cases h3 : 30000 < bs.length + (frameB (encB q)).length
      · rw [if_pos h3] at h; cases h
      · rw [if_neg h3] at h ⊢
        exact ⟨by omega, by omega, rfl⟩

theorem mem_allL {kvs : Kvs} {x : Ser} (hn : (kvs.map (·.1)).Nodup) : x ∈ allL kvs ↔ ∃ k, mget kvs k = some x := by
  unfold allL
  rw [List.mem_map]
  constructor
  · rintro ⟨k, hk, rfl⟩
    rw [mem_keysL] at hk
    obtain ⟨kv, hkv, rfl⟩ := List.mem_map.1 hk
    have := mget_of_mem hn hkv
    exact ⟨kv.1, by unfold serAt; rw [this]; rfl⟩
  · rintro ⟨k, hk⟩
    exact ⟨k, by rw [mem_keysL]; exact List.mem_map.2 ⟨_, mget_mem hk, rfl⟩, by unfold serAt; rw [hk]; rfl⟩

/-- What a put that is taken has come to. -/
theorem grown {l : List PutD} (hl : l.length ≤ 20) (hX : ∀ q ∈ l, i64ok q.X.T ∧ i64ok q.X.V) {p : PutD} (hz : (putSt (runPuts l ([], [])).1 (runPuts l ([], [])).2 p).2.2 = 0) :
    Short (putSt (runPuts l ([], [])).1 (runPuts l ([], [])).2 p).1 ∧ putE p = 0 ∧
      (∀ x ∈ allL (putSt (runPuts l ([], [])).1 (runPuts l ([], [])).2 p).1, (x.L = p.L → smpCheck x.S = 0 ∧ ∃ v, rangeR x.S p.X.T (p.X.T + 1) = [⟨p.X.T, v⟩] ∧ p.X.V ≤ v) ∧ (x.L ≠ p.L → x ∈ allL (runPuts l ([], [])).1)) ∧
      ∃ x ∈ allL (putSt (runPuts l ([], [])).1 (runPuts l ([], [])).2 p).1, x.L = p.L := by
  obtain ⟨i0, _⟩ := inv_run (l := l) (by omega) hX
  have hf : (l.filter fun q => putE q == 0).length ≤ 20 := Nat.le_trans (List.length_filter_le _ _) hl
  obtain ⟨he, _, hk⟩ := putSt_ok hz
  obtain ⟨s, hm, i1⟩ := i0.put (by omega) p he
  rw [hk, hm]
  have hpm : p ∈ (l.filter fun q => putE q == 0) ++ [p] := by simp
  refine ⟨i1.short (by simp; omega), he, fun x hx => ?_, ?_⟩
  · obtain ⟨k, hkx⟩ := (mem_allL i1.nodup).1 hx
    obtain ⟨a1, a2, a3, a4, _, _, a7⟩ := i1.some_ k x hkx
    constructor
    · intro e
      have hkp : putKey p = k := by rw [← a2, e]; rfl
      obtain ⟨v, hv, hle⟩ := a7 p hpm hkp
      exact ⟨smpCheck_ok.2 ⟨by simp at a4; omega, a3⟩, v, rangeR_one a3 hv, hle⟩
    · intro e
      have hne : ¬ putKey p = k := fun h => e (labText_inj a1 (putE_ok he).1 (by rw [a2, ← h]; rfl))
      rw [mget_mset, if_neg hne] at hkx
      exact (mem_allL i0.nodup).2 ⟨k, hkx⟩
  · obtain ⟨x, hx⟩ := i1.none_ p hpm
    obtain ⟨a1, a2, _⟩ := i1.some_ _ x hx
    exact ⟨x, (mem_allL i1.nodup).2 ⟨_, hx⟩, labText_inj a1 (putE_ok he).1 a2⟩

/-- All of a store; what may be changed is not read. -/
theorem all_sl2 (B p r d safe : Nat) (v : Value) (kvs : Kvs) (bs : List UInt8) (W : World) (hSt : StoreIn W No B p r d v kvs bs safe) (hsh : Short kvs) :
    Calls Tryz.prog 12 #[.pointer (some ⟨p, 0, none⟩)] W fun e w' => ∃ A' c', e = .returned (.slice A' (allL kvs).length c') ∧ Sl w' (Mset No p r d v) A' (allL kvs).length c' (allL kvs) ∧ Below W.heap.size W w' := by
  refine (all_calls B p r d safe v kvs bs W No (no_lt W) hSt hsh).mono ?_
  rintro e w' ⟨v', rfl, ho, hb⟩
  obtain ⟨A', c', rfl, hs⟩ := ho.sl (hSt.set_lt (no_lt W))
  exact ⟨A', c', rfl, hs, hb⟩
theorem keepF {w w' : World} {p r d : Nat} {v v' : Value} (hw : Went (Fset p r d v) w w' (Fset p r d v')) : Keep (Mset No p r d v) w w' (Mset No p r d v') := fun k hk hn => by
  obtain ⟨h1, h2⟩ := hw.keep k hk (fun h => hn (.inr h))
  exact ⟨h1, fun hh => hh.elim id h2⟩

/-- Is there one, among the first? -/
def thereL (l : List Ser) (L : List Lab) : Bool := l.any fun x => decide (x.L = L)
theorem thereL_step {l : List Ser} {k : Nat} {x : Ser} (h : l[k]? = some x) (L : List Lab) : thereL (l.take (k + 1)) L = (thereL (l.take k) L || decide (x.L = L)) := by
  unfold thereL; rw [List.take_add_one, h]; simp

set_option maxRecDepth 100000 in
set_option maxHeartbeats 4000000 in
theorem grows_calls (A : Option Addr) (n c : Nat) (l : List PutD) (A1 : Option Addr) (c1 : Nat) (p : PutD) (w : World) (hl : Sl w No A n c l) (hp : Sl w No A1 p.L.length c1 p.L) (hT : i64ok p.X.T) (hV : i64ok p.X.V) (hS : SignsAt w) (hX : ∀ q ∈ l, i64ok q.X.T ∧ i64ok q.X.V) :
    Calls Tryz.prog 4 #[.slice A n c, .agg #[.slice A1 p.L.length c1, .int .i64 p.X.T, .int .i64 p.X.V]] w fun e w' => e = .returned (.bool true) ∧ Below w.heap.size w w' := by
  have hle := hl.le
  have hlen := Lib.hid hl.len
  have hB0 := (Below.refl w.heap.size w).new (.cells #[.slice A1 p.L.length c1, .int .i64 p.X.T, .int .i64 p.X.V] 29)
  have hst := Lib.hid (stores_calls _ (hS.below hB0))
  by_cases hbig : 20 < n
  · have hbi : (20 : Int) < (n : Int) := by omega
    go_enter Tryz.func4, Tryz.ntmps4
    go_wp2_with (go_at_call 7; refine hst.out.mono ?_; rintro e w1 ⟨rfl, hb1⟩)
    go_ret
    exact ⟨rfl, hB0.call hb1⟩
  · have hbi : ¬ (20 : Int) < (n : Int) := by omega
    have hl20 : l.length ≤ 20 := by rw [hlen.out]; omega
    go_enter Tryz.func4, Tryz.ntmps4
    go_wp2_with fail
    refine hst.out.mono ?_
    rintro e w1 ⟨rfl, hb1⟩
    have B1 := hB0.call hb1
    have hstd := Lib.hid (stored_calls A n c l w1 No (no_lt w1) (hl.below B1) (hS.below B1))
    go_wp2_with fail
    refine hstd.out.mono ?_
    rintro e w2 ⟨ps, r, d, v, rfl, hSt2, hb2⟩
    have B2 := B1.call hb2
    obtain ⟨i0, _⟩ := inv_run (l := l) (by omega) hX
    have hsh0 : Short (runPuts l ([], [])).1 := i0.short (Nat.le_trans (List.length_filter_le _ _) (by omega))
    have hal := Lib.hid (all_sl2 w1.heap.size ps r d 0 v _ _ w2 hSt2 hsh0)
    go_wp2_with fail
    refine hal.out.mono ?_
    rintro e w3 ⟨A3, c3, rfl, hs3, hb3⟩
    have B3 := B2.call hb3
    have hSt3 := hSt2.below hb3
    have hbs : (runPuts l ([], [])).2.length ≤ 30000 := runPuts_len _ (by simp)
    have hp3 : Sl w3 (Mset No ps r d v) A1 p.L.length c1 p.L := (sl_store (hp.below B1) hSt2.fset_ge).below (hb2.trans (hb3.mono hb2.size))
    have hput := put_st_calls A1 p.L.length c1 w1.heap.size ps r d 0 v _ _ p w3 No (no_lt w3) hp3 hT hV hSt3 hbs (Nat.le_trans hb2.size hb3.size) (hS.below B3)
    obtain ⟨R, hR⟩ : ∃ R, Hid (putSt (runPuts l ([], [])).1 (runPuts l ([], [])).2 p = R) := ⟨_, rfl⟩
    rw [hR.out] at hput
    have hput := Lib.hid hput
    have hsee : ∀ W, Below (w.alloc (.cells #[.slice A1 p.L.length c1, .int .i64 p.X.T, .int .i64 p.X.V] 29)).heap.size (w.alloc (.cells #[.slice A1 p.L.length c1, .int .i64 p.X.T, .int .i64 p.X.V] 29)) W → Hid (W.cell? ⟨w.heap.size, 0, none⟩ = some (.slice A1 p.L.length c1) ∧ W.cell? ⟨w.heap.size, 1, none⟩ = some (.int .i64 p.X.T) ∧ W.cell? ⟨w.heap.size, 2, none⟩ = some (.int .i64 p.X.V)) := fun W hb =>
      ⟨(bcell hb w.heap.size 0 (by simp)).trans (by simp), (bcell hb w.heap.size 1 (by simp)).trans (by simp), (bcell hb w.heap.size 2 (by simp)).trans (by simp)⟩
    have b03 := (hb1.trans (hb2.mono hb1.size)).trans (hb3.mono (Nat.le_trans hb1.size hb2.size))
    obtain ⟨y0, y1, y2⟩ := (hsee w3 b03).out
    go_wp2_with fail
    refine hput.out.mono ?_
    rintro e w4 ⟨v4, rfl, hSt4, hW4⟩
    have b34 : Below w1.heap.size w3 w4 := hW4.below hSt3.fset_ge (Nat.le_trans hb2.size hb3.size)
    have b04 := b03.trans (b34.mono hb1.size)
    have B4 : Below w.heap.size w w4 := B3.trans (b34.mono B1.size)
    have hs4 : Sl w4 (Mset No ps r d v4) A3 (allL (runPuts l ([], [])).1).length c3 (allL (runPuts l ([], [])).1) := hs3.keep (keepF hW4)
    obtain ⟨z0, z1, z2⟩ := (hsee w4 b04).out
    by_cases hz : R.2.2 = 0
    · rw [← hR.out] at hz
      obtain ⟨hsh1, hpe, hall, hex⟩ := grown hl20 hX hz
      rw [hR.out] at hz hsh1 hall hex
      have hzb : (R.2.2 != 0) = false := by simp [hz]
      have hal4 := Lib.hid (all_sl2 w1.heap.size ps r d 0 v4 _ _ w4 hSt4 hsh1)
      obtain ⟨_, hTlo, hThi⟩ := putE_ok hpe
      have hall := Lib.hid hall
      have hex := Lib.hid hex
      generalize allL (runPuts l ([], [])).1 = L0 at hs4 hs3 hall
      generalize allL R.1 = L1 at hal4 hall hex
      have hT1 : IntKind.i64.wrap (p.X.T + 1) = p.X.T + 1 := IntWalk.i64_in _ (by omega)
      clear hz i0 hsh0 hal hput hstd hst hsh1
      go_wp2_with fail
      refine hal4.out.mono ?_
      rintro e w5 ⟨A5, c5, rfl, hs5, hb5⟩
      have b05 := b04.trans (hb5.mono (Nat.le_trans (by simp) b04.size))
      have B5 := B4.call hb5
      have hle5 := hs5.le
      go_wp2
      go_loopw [7, 35] (fun th i wr => ∃ k : Nat, k ≤ L1.length ∧ i = .int .i64 k ∧ th = .bool (thereL (L1.take k) p.L) ∧ Below w5.heap.size w5 wr) (fun _ i _ => L1.length - (intOf i).toNat)
      case atStart => exact ⟨0, Nat.zero_le _, rfl, rfl, Below.refl _ _⟩
      case round =>
        obtain ⟨k, hk, rfl, rfl, hbl⟩ := hrel
        have b0r := b05.trans (hbl.mono (Nat.le_trans (by simp) b05.size))
        have Br := B5.call hbl
        obtain ⟨q0, q1, q2⟩ := (hsee wr b0r).out
        by_cases hlt : k < L1.length
        · obtain ⟨b, off, x, D1, d1, D2, d2, rfl, hx0, g0, g1, s1, s2⟩ := (hs5.below hbl).ser hlt
          have hxm := List.mem_of_getElem? hx0
          obtain ⟨hin, hout⟩ := hall.out x hxm
          have hstep := Lib.hid (thereL_step hx0 p.L)
          clear hx0
          have hki : (k : Int) < (L1.length : Int) := by omega
          have hBn := (Below.refl wr.heap.size wr).new (.cells #[.slice D1 x.L.length d1, .slice D2 x.S.length d2] 42)
          have Bn := Br.call hBn
          have b0n := b0r.trans (hBn.mono (Nat.le_trans (by simp) b0r.size))
          obtain ⟨q3, q4, q5⟩ := (hsee _ b0n).out
          have hp5 : Sl (wr.alloc (.cells #[.slice D1 x.L.length d1, .slice D2 x.S.length d2] 42)) No A1 p.L.length c1 p.L := hp.below Bn
          have hsl := sameLabels_calls D1 A1 _ d1 _ c1 x.L p.L _ (Mset No ps r d v4) No (s1.below hBn) hp5
          have hz4 := Nat.le_trans hb5.size hbl.size
          by_cases hxL : x.L = p.L
          · obtain ⟨hck, v7, hrr, hle7⟩ := hin hxL
            rw [decide_eq_true hxL] at hsl hstep
            have hsl := Lib.hid hsl
            have hrg : ∀ q, Calls Tryz.prog 16 #[.slice D2 x.S.length d2, .int .i64 p.X.T, .int .i64 (p.X.T + 1)] ((wr.alloc (.cells #[.slice D1 x.L.length d1, .slice D2 x.S.length d2] 42)).drewN q) fun e w' => ∃ b7 o7 c7, e = .returned (.tuple #[.slice (some ⟨b7, o7, none⟩) 1 c7, .int .i64 0]) ∧ w'.cell? ⟨b7, o7 + 1, none⟩ = some (.int .i64 v7) ∧ Below (wr.alloc (.cells #[.slice D1 x.L.length d1, .slice D2 x.S.length d2] 42)).heap.size (wr.alloc (.cells #[.slice D1 x.L.length d1, .slice D2 x.S.length d2] 42)) w' := fun q => by
              refine (range_calls D2 _ d2 x.S p.X.T (p.X.T + 1) _ No (no_lt _) (((s2.below hBn).mono (fun _ _ h => h.elim)).keep (.drewN No _ q))).mono ?_
              have hrl : rangeG x.S p.X.T (p.X.T + 1) = [⟨p.X.T, v7⟩] := by unfold rangeG; rw [if_pos hck, hrr]
              rw [hrl, hck]
              rintro e w' ⟨A7, c7, rfl, h7, hb7⟩
              obtain ⟨b7, o7, y7, rfl, hy7, _, gy, _, _⟩ := h7.smp (k := 0) (by simp)
              simp at hy7
              subst hy7
              rw [Nat.zero_mul, Nat.add_zero] at gy
              exact ⟨b7, o7, c7, rfl, gy, ((Below.refl _ _).draws q).call hb7⟩
            have hrg := Lib.hid hrg
            clear hin hout hxL hrr hck
            go_wp2_with (first
              | (go_at_call 15; refine hsl.out.mono ?_; rintro e w' ⟨rfl, q6, rfl⟩)
              | (go_at_call 16; refine (hrg.out _).mono ?_; rintro e w7 ⟨b7, o7, c7, rfl, gy7, hb7⟩))
            have b07 := b0n.trans (hb7.mono (Nat.le_trans (by simp) b0n.size))
            obtain ⟨x3, x4, x5⟩ := (hsee w7 b07).out
            go_quiet (fail)
            go_wp2_with fail
            refine And.intro ?_ ?measure
            · exact ⟨k + 1, by omega, by go_num, by rw [hstep.out]; simp, ((hbl.new _).call hb7).draws _⟩
            case measure => show L1.length - ((k : Int) + 1).toNat < L1.length - ((k : Int)).toNat; omega
          · have hmem := hout hxL
            rw [decide_eq_false hxL] at hsl hstep
            have hsl := Lib.hid hsl
            have hct : ∀ q, Calls Tryz.prog 17 #[.slice A3 L0.length c3, .func (.func 18) #[] #[.pointer (some ⟨wr.heap.size, 0, none⟩)]] ((wr.alloc (.cells #[.slice D1 x.L.length d1, .slice D2 x.S.length d2] 42)).drewN q) fun e w' => e = .returned (.bool true) ∧ Below (wr.alloc (.cells #[.slice D1 x.L.length d1, .slice D2 x.S.length d2] 42)).heap.size (wr.alloc (.cells #[.slice D1 x.L.length d1, .slice D2 x.S.length d2] 42)) w' := fun q => by
              have hB6 : Below w4.heap.size w4 (wr.alloc (.cells #[.slice D1 x.L.length d1, .slice D2 x.S.length d2] 42)) := (hb5.call hbl).new _
              have h := contains_calls A3 L0.length c3 L0 D1 D2 d1 d2 wr.heap.size x ((wr.alloc (.cells #[.slice D1 x.L.length d1, .slice D2 x.S.length d2] 42)).drewN q) (Mset No ps r d v4) (Mset No ps r d v4) ((hs4.below hB6).keep (.drewN _ _ q)) ((s1.below hBn).keep (.drewN _ _ q)) ((s2.below hBn).keep (.drewN _ _ q)) (by simp) (by simp)
              rw [decide_eq_true hmem] at h
              refine h.mono ?_
              rintro e w' ⟨rfl, hb'⟩
              exact ⟨rfl, ((Below.refl _ _).draws q).call hb'⟩
            have hct := Lib.hid hct
            clear hin hout hxL hmem
            go_wp2_with (first
              | (go_at_call 15; refine hsl.out.mono ?_; rintro e w' ⟨rfl, q6, rfl⟩)
              | (go_at_call 17; refine (hct.out _).mono ?_; rintro e w7 ⟨rfl, hb7⟩))
            refine And.intro ?_ ?measure
            · exact ⟨k + 1, by omega, by go_num, by rw [hstep.out]; simp, (hbl.new _).call hb7⟩
            case measure => show L1.length - ((k : Int) + 1).toNat < L1.length - ((k : Int)).toNat; omega
        · have hkl : k = L1.length := by omega
          have hth : Hid (thereL (L1.take k) p.L = true) := by
            unfold Hid
            rw [hkl, List.take_length]
            obtain ⟨x, hx, hxL⟩ := hex.out
            exact List.any_eq_true.2 ⟨x, hx, decide_eq_true hxL⟩
          have hki : ¬ (k : Int) < (L1.length : Int) := by omega
          rw [hth.out]
          go_wp2
          go_ret
          exact ⟨rfl, Br⟩
    · have hk : R.1 = (runPuts l ([], [])).1 := by rw [← hR.out]; rw [← hR.out] at hz; exact putSt_err hz
      rw [hk] at hSt4
      have hal4 := Lib.hid (all_sl2 w1.heap.size ps r d 0 v4 _ _ w4 hSt4 hsh0)
      have hzb : (R.2.2 != 0) = true := by simp [hz]
      generalize allL (runPuts l ([], [])).1 = L0 at hs4 hal4 hs3
      have hss : ∀ (W : World) (A5 : Option Addr) (c5 : Nat), Sl W (Mset No ps r d v4) A5 L0.length c5 L0 → Sl W (Mset No ps r d v4) A3 L0.length c3 L0 → Calls Tryz.prog 10 #[.slice A5 L0.length c5, .slice A3 L0.length c3] W fun e w' => e = .returned (.bool true) ∧ Below W.heap.size W w' := fun W A5 c5 h1 h2 => by
        have := sameSeries_calls A5 A3 _ c5 _ c3 L0 L0 W _ _ h1 h2
        rw [decide_eq_true rfl] at this
        exact this
      have hss := Lib.hid hss
      clear hz hk
      go_wp2_with (first
        | (go_at_call 12; refine hal4.out.mono ?_; rintro e w5 ⟨A5, c5, rfl, hs5, hb5⟩)
        | (go_at_call 10; refine (hss.out w5 A5 c5 hs5 (hs4.below hb5)).mono ?_; rintro e w6 ⟨rfl, hb6⟩))
      go_ret
      exact ⟨rfl, (B4.call hb5).call hb6⟩
end Go.Proofs.YtfciagcmggdldaaGreatDoor
namespace Go.Proofs.YtfciagcmggdldaaGreatDoor
open Go.RowKit Go.ChangeShapes Go.WideShapes

set_option maxRecDepth 100000 in
theorem grows_lifted (os : Os) (started : os.Started) (H : Type) (enc : TypeId × Value → H) :
    ReturnsInHanded {} Tryz.checked os 4 .any (fun w args => (Rows.storeGrowsSpec.pre enc Tryz.prog Tryz.f4 [] false w args ∧ laidMetH Tryz.prog laids w) ∧ sizedMet enc Tryz.prog Tryz.f4 (OpenSpec.ofChange Rows.storeGrowsSpec) false w args)
      (Rows.storeGrowsSpec.post enc Tryz.prog Tryz.f4 false true false false) := by
  refine returnsInHanded_of_change_and (C := Tryz.checked) (X := fun w _ => laidMetH Tryz.prog laids w) (fun _ _ _ hh h => h.of_heap hh) own started (by kernel_rfl) Tryz.func4
    (ChangeSpec.witness_shaped (enc := enc) (C := Tryz.checked) (os := os) (X := fun w _ => laidMetH Tryz.prog laids w) false (World.doorLaid Tryz.prog 400 os) #[.slice none 0 0, .agg #[.slice none 0 0, .int .i64 0, .int .i64 0]] 8 rfl (World.shaped_of_RefB (by kernel_rfl) (by kernel_rfl)) (by kernel_rfl) (by kernel_rfl) (by kernel_rfl) (door_met os _)) ?_
  intro W base args ds gs before hval0 hW _ _ hL _
  have hval : ∀ (j : Nat) t v, Tryz.f4.params[j]? = some t → args[j]? = some v → Value.okWide Tryz.prog W .any base t v := hval0
  have hW' := hW
  obtain ⟨p, q, hA0, hV, rfl, _, _⟩ := hW
  have hA : DataW.TrodAll enc Tryz.prog W 0 (fun _ => true) true Tryz.f4.params.toList args.toList ds p := hA0
  rw [Tryz.params4] at hA hval
  obtain ⟨v0, v1, d0, d1, p0, p1, rfl, rfl, rfl, h0, h1⟩ := trodAll_two hA
  obtain ⟨rfl, rfl⟩ := trodVars_none hV
  obtain ⟨a0, n0, c0, rfl⟩ := okWide_slice Tryz.underlying22 (hval 0 _ _ rfl rfl)
  obtain ⟨cs, rfl, _⟩ := okWide_struct Tryz.underlying29 (hval 1 _ _ rfl rfl)
  have o0 : Opens Tryz.prog 22 (List PutD) := Opens.list opens_put Tryz.underlying22 (by kernel_rfl)
  obtain ⟨_, _, _, l, e0, hl⟩ := o0.arg h0 rfl
  cases e0
  have h1' := h1
  obtain ⟨fuel, hf⟩ := h1'
  obtain ⟨pt, v, hcs, ⟨A1, c1, rfl, hp⟩, hT, hVV⟩ := opens_put H enc _ _ _ _ fuel _ _ hf
  have hcs2 : cs = #[.slice A1 pt.L.length c1, .int .i64 pt.X.T, .int .i64 pt.X.V] := Array.ext' hcs
  subst hcs2
  clear hA0 hval0 hf
  simp only [List.append_nil] at hW'
  have hlt : ∀ x ∈ p0 ++ p1, x.block < W.heap.size := fun x hx => by simpa using hW'.lt x hx
  have hX : ∀ q ∈ l, i64ok q.X.T ∧ i64ok q.X.V := fun q hq => by
    obtain ⟨k, hk⟩ := List.mem_iff_getElem?.1 hq
    have hkl := (List.getElem?_eq_some_iff.1 hk).1
    obtain ⟨_, _, q', _, _, _, hq', _, _, _, _, g1, g2⟩ := hl.put (k := k) (by rw [← hl.len]; exact hkl)
    rw [hk] at hq'
    injection hq' with hq'
    subst hq'
    exact ⟨g1, g2⟩
  refine (grows_calls a0 n0 c0 l A1 c1 pt W hl hp hT hVV (signs_of_laid hL) hX).mono fun e W' ⟨he, hb⟩ => ?_
  subst he
  refine ⟨_, rfl, post_of_below (ds := [d0, d1]) (gs := []) (pa := p0 ++ p1) (pv := []) (before := p0 ++ p1) hW' (fun _ _ _ => trodAll_mk1 (shut_bool Tryz.underlying4 true)) (fun sp hsp => trodAll_mk2 ?_ ?_) (fun _ _ => rfl) (by simp) hb (ok_one (by kernel_rfl) rfl (okWide_bool_mk Tryz.underlying4 true))⟩
  · exact WideElems.Trod_stays laidOut (by kernel_rfl) (of_decide_eq_true (by kernel_rfl)) h0 (fun x hx => hb.same (hlt x (by simp [hx]))) (fun x hx => hsp x (by simp [hx]))
  · exact WideElems.Trod_stays laidOut (by kernel_rfl) (of_decide_eq_true (by kernel_rfl)) h1 (fun x hx => hb.same (hlt x (by simp [hx]))) (fun x hx => hsp x (by simp [hx]))

theorem store_grows_row : Rows.StoreGrowsSaid :=
  OpenClaim.holds_of_wide 4 Tryz.f4 rfl rfl rfl rfl rfl rfl rfl ⟨rfl, rfl, rfl, rfl, rfl⟩ rfl rfl rfl rfl rfl (by kernel_rfl) Tryz.func4 (by kernel_rfl)
    (of_decide_eq_true (by kernel_rfl)) (by unfold Func.isWrapper; first | (rw [if_pos (by decide +kernel)]; kernel_rfl) | (rw [if_neg (by decide +kernel)]; exact ⟨rfl, rfl⟩))
    (fun os started H enc _ => grows_lifted os started H enc)

theorem store_grows : Rows.StoreGrowsCardSaid :=
  Claim7.holds_tied_plain_at .later [] [.data] true (true, "e7b58b26437e178037489abb91ce99b787a46fa0349e4f95b2de9a5035c6cc51") true
    store_grows_row (fun _ h => by cases h) (by kernel_rfl) (fun _ h => by cases h) storeGrows_row_tie rfl ⟨rfl, rfl⟩ (by kernel_rfl) rfl
    (fun f fn hf hfn => by
      obtain rfl : f = 4 := Option.some.inj ((show Tryz.prog.funcNamed "gaugehouse/gaugehousekeep.StoreGrows" = some 4 by kernel_rfl).symm.trans hf) |>.symm
      obtain rfl : fn = Tryz.f4 := (Option.some.inj (Tryz.func4.symm.trans hfn)).symm
      exact ⟨by kernel_rfl, fun j t ht => by
        rw [Tryz.params4] at ht
        have hm : t ∈ [22, 29] := by simpa using Array.mem_of_getElem? ht
        have hall : ([22, 29].all fun u => !Tryz.prog.wantsStandIn u) = true := by kernel_rfl
        exact (show Tryz.prog.wantsStandIn t = false by simpa using List.all_eq_true.1 hall t hm)⟩)
    (by kernel_rfl)
#print axioms store_grows
end Go.Proofs.YtfciagcmggdldaaGreatDoor
