/-
  Numbers as bytes, records in frames, and what is left of them when the end is torn off: plain lists of bytes. No program in sight.
-/
import Derived.Lib.Strings
namespace Go.Proofs.YtfciagcmggdldaaGreatDoor

/-- A number as bytes, seven bits each, the low ones first. -/
def putU (n : Nat) : List UInt8 := if n < 128 then [UInt8.ofNat n] else UInt8.ofNat (n % 128 + 128) :: putU (n / 128)
termination_by n
decreasing_by omega

theorem putU_small {n : Nat} (h : n < 128) : putU n = [UInt8.ofNat n] := by rw [putU, if_pos h]
theorem putU_more {n : Nat} (h : ¬ n < 128) : putU n = UInt8.ofNat (n % 128 + 128) :: putU (n / 128) := by rw [putU, if_neg h]

/-- A number off bytes, from place i on, u being what came before: the number, how many bytes, the error. -/
def takeGo : List UInt8 → Nat → Nat → Nat × Nat × Int
  | [], _, _ => (0, 0, 3)
  | c :: r, i, u =>
    if (i = 9 ∧ 1 < c.toNat) ∨ (0 < i ∧ c.toNat = 0) then (0, 0, 4)
    else if c.toNat < 128 then (u + c.toNat % 128 * 2 ^ (7 * i), i + 1, 0) else takeGo r (i + 1) (u + c.toNat % 128 * 2 ^ (7 * i))
def takeU (b : List UInt8) : Nat × Nat × Int := takeGo b 0 0

theorem toNat_ofNat {n : Nat} (h : n < 256) : (UInt8.ofNat n).toNat = n := by simp; omega

theorem takeGo_put (n : Nat) : ∀ (i u : Nat) (r : List UInt8), i ≤ 9 → n * 2 ^ (7 * i) < 2 ^ 64 → (0 < i → 0 < n) →
    takeGo (putU n ++ r) i u = (u + n * 2 ^ (7 * i), i + (putU n).length, 0) := by
  induction n using putU.induct with
  | case1 n h =>
    intro i u r hi hb hp
    rw [putU_small h]
    show takeGo (UInt8.ofNat n :: r) i u = _
    have h1 : (UInt8.ofNat n).toNat = n := toNat_ofNat (by omega)
    rw [takeGo, h1, if_neg, if_pos h, Nat.mod_eq_of_lt h]
    · rfl
    · rintro (⟨h9, hn⟩ | ⟨h0, hn⟩)
      · subst h9
        have : 2 * 2 ^ (7 * 9) ≤ n * 2 ^ (7 * 9) := Nat.mul_le_mul_right _ hn
        omega
      · have := hp h0; omega
  | case2 n h ih =>
    intro i u r hi hb hp
    rw [putU_more h]
    show takeGo (UInt8.ofNat (n % 128 + 128) :: (putU (n / 128) ++ r)) i u = _
    have hlt : n % 128 < 128 := Nat.mod_lt _ (by omega)
    have h1 : (UInt8.ofNat (n % 128 + 128)).toNat = n % 128 + 128 := toNat_ofNat (by omega)
    have h9 : i ≠ 9 := by
      rintro rfl
      have : 2 * 2 ^ (7 * 9) ≤ n * 2 ^ (7 * 9) := Nat.mul_le_mul_right _ (by omega)
      omega
    have hpow : 2 ^ (7 * (i + 1)) = 128 * 2 ^ (7 * i) := by rw [show 7 * (i + 1) = 7 + 7 * i by omega, Nat.pow_add]
    have hn : n = n % 128 + 128 * (n / 128) := by omega
    have hsum : n * 2 ^ (7 * i) = n % 128 * 2 ^ (7 * i) + n / 128 * 2 ^ (7 * (i + 1)) := by
      rw [hpow]
      have : n * 2 ^ (7 * i) = (n % 128 + 128 * (n / 128)) * 2 ^ (7 * i) := by rw [← hn]
      rw [this, Nat.add_mul, ← Nat.mul_assoc, Nat.mul_comm (n / 128) 128]
    rw [takeGo, h1, if_neg, if_neg (by omega)]
    · rw [show (n % 128 + 128) % 128 = n % 128 by omega, ih (i + 1) _ r (by omega) (by omega) (by omega)]
      rw [hsum]
      simp only [List.length_cons]
      congr 1
      · omega
      · congr 1; omega
    · rintro (⟨h9', _⟩ | ⟨_, hn0⟩)
      · exact h9 h9'
      · omega
theorem takeU_put (n : Nat) (r : List UInt8) (h : n < 2 ^ 64) : takeU (putU n ++ r) = (n, (putU n).length, 0) := by
  unfold takeU
  rw [takeGo_put n 0 0 r (by omega) (by simpa using h) (by omega)]
  simp

/-- What is torn off in the middle of a number is too short. -/
theorem takeGo_torn (n : Nat) : ∀ (i u k : Nat), i ≤ 9 → n * 2 ^ (7 * i) < 2 ^ 64 → k < (putU n).length → (takeGo ((putU n).take k) i u).2.2 = 3 := by
  induction n using putU.induct with
  | case1 n h =>
    intro i u k hi hb hk
    rw [putU_small h] at hk ⊢
    have : k = 0 := by simpa using hk
    subst this
    rfl
  | case2 n h ih =>
    intro i u k hi hb hk
    rw [putU_more h] at hk ⊢
    cases k with
    | zero => rfl
    | succ k =>
      have hlt : n % 128 < 128 := Nat.mod_lt _ (by omega)
      have h1 : (UInt8.ofNat (n % 128 + 128)).toNat = n % 128 + 128 := toNat_ofNat (by omega)
      have h9 : i ≠ 9 := by
        rintro rfl
        have : 2 * 2 ^ (7 * 9) ≤ n * 2 ^ (7 * 9) := Nat.mul_le_mul_right _ (by omega)
        omega
      have hpow : 2 ^ (7 * (i + 1)) = 128 * 2 ^ (7 * i) := by rw [show 7 * (i + 1) = 7 + 7 * i by omega, Nat.pow_add]
      have hle : n / 128 * 2 ^ (7 * (i + 1)) ≤ n * 2 ^ (7 * i) := by
        rw [hpow, ← Nat.mul_assoc]
        exact Nat.mul_le_mul_right _ (by omega)
      rw [List.take_succ_cons, takeGo, h1, if_neg, if_neg (by omega)]
      · exact ih (i + 1) _ k (by omega) (by omega) (by simpa using hk)
      · rintro (⟨h9', _⟩ | ⟨_, hn0⟩)
        · exact h9 h9'
        · omega
theorem takeU_torn (n k : Nat) (h : n < 2 ^ 64) (hk : k < (putU n).length) : (takeU ((putU n).take k)).2.2 = 3 := takeGo_torn n 0 0 k (by omega) (by simpa using h) hk
theorem putU_pos (n : Nat) : 0 < (putU n).length := by
  by_cases h : n < 128
  · rw [putU_small h]; simp
  · rw [putU_more h]; simp
theorem putU_len (n : Nat) : ∀ d, n < 128 ^ d → 0 < d → (putU n).length ≤ d := by
  induction n using putU.induct with
  | case1 n h => intro d _ hd; rw [putU_small h]; exact hd
  | case2 n h ih =>
    intro d hb hd
    rw [putU_more h]
    cases d with
    | zero => omega
    | succ d =>
      have h1 : n / 128 < 128 ^ d := by
        rw [Nat.pow_succ] at hb
        exact Nat.div_lt_of_lt_mul (by rw [Nat.mul_comm]; exact hb)
      have hd0 : 0 < d := by
        rcases Nat.eq_zero_or_pos d with h0 | h0
        · subst h0; simp at hb; omega
        · exact h0
      have := ih d h1 hd0
      simp; omega

section
variable (h8 : List UInt8 → List UInt8)

/-- A record in its frame: how long it is, what it is, eight bytes of its number. -/
def frameL (r : List UInt8) : List UInt8 := putU r.length ++ r ++ h8 r
/-- The first frame: what it frames, and how many bytes it has. -/
def firstL (b : List UInt8) : Option (List UInt8 × Nat) :=
  let t := takeU b
  if t.2.2 ≠ 0 ∨ 2000 < t.1 ∨ b.length < t.2.1 + t.1 + 8 then none
  else if frameL h8 ((b.drop t.2.1).take t.1) = b.take (t.2.1 + t.1 + 8) then some ((b.drop t.2.1).take t.1, t.2.1 + t.1 + 8) else none

theorem firstL_pos {b r : List UInt8} {n : Nat} (h : firstL h8 b = some (r, n)) : 8 ≤ n ∧ n ≤ b.length := by
  unfold firstL at h
  simp only at h
  split at h
  · cases h
  · rename_i h1
    split at h
    · injection h with h; injection h with h2 h3; omega
    · cases h

set_option linter.unusedVariables false in
/-- Bytes cut into frames: the records, and how many bytes they take. -/
def cutL (b : List UInt8) : List (List UInt8) × Nat :=
  match h : firstL h8 b with
  | none => ([], 0)
  | some (r, n) => (r :: (cutL (b.drop n)).1, n + (cutL (b.drop n)).2)
termination_by b.length
decreasing_by
  all_goals
    have := firstL_pos h8 h
    rw [List.length_drop]
    omega

theorem cutL_none {b : List UInt8} (h : firstL h8 b = none) : cutL h8 b = ([], 0) := by
  rw [cutL]
  split
  · rfl
  · rename_i h2; rw [h] at h2; cases h2
theorem cutL_some {b r : List UInt8} {n : Nat} (h : firstL h8 b = some (r, n)) : cutL h8 b = (r :: (cutL h8 (b.drop n)).1, n + (cutL h8 (b.drop n)).2) := by
  rw [cutL]
  split
  · rename_i h2; rw [h] at h2; cases h2
  · rename_i r' n' h2
    rw [h] at h2
    injection h2 with h2
    injection h2 with h3 h4
    rw [h3, h4]

variable {h8} (hlen : ∀ r, (h8 r).length = 8)
include hlen

theorem frameL_len (r : List UInt8) : (frameL h8 r).length = (putU r.length).length + r.length + 8 := by unfold frameL; simp [hlen]; omega

theorem firstL_frame (r s : List UInt8) (hr : r.length ≤ 2000) : firstL h8 (frameL h8 r ++ s) = some (r, (frameL h8 r).length) := by
  have ht : takeU (frameL h8 r ++ s) = (r.length, (putU r.length).length, 0) := by
    unfold frameL
    rw [List.append_assoc, List.append_assoc]
    exact takeU_put _ _ (by omega)
  have hfl := frameL_len hlen r
  have hd : ((frameL h8 r ++ s).drop (putU r.length).length).take r.length = r := by
    unfold frameL
    rw [List.append_assoc, List.append_assoc, List.drop_left, List.take_left]
  have htk : (frameL h8 r ++ s).take ((putU r.length).length + r.length + 8) = frameL h8 r := by rw [← hfl, List.take_left]
  unfold firstL
  simp only [ht]
  rw [if_neg, if_pos]
  · rw [hd, hfl]
  · rw [hd, htk]
  · rw [List.length_append, hfl]; omega

/-- Of a frame that is torn off nothing is told. -/
theorem firstL_torn (r : List UInt8) (k : Nat) (hr : r.length ≤ 2000) (hk : k < (frameL h8 r).length) : firstL h8 ((frameL h8 r).take k) = none := by
  have hfl := frameL_len hlen r
  unfold firstL
  simp only
  rw [if_pos]
  by_cases hk1 : k < (putU r.length).length
  · left
    have : (frameL h8 r).take k = (putU r.length).take k := by
      unfold frameL
      rw [List.append_assoc, List.take_append_of_le_length (by omega)]
    rw [this, takeU_torn _ _ (by omega) hk1]
    decide
  · right; right
    have hsplit : (frameL h8 r).take k = putU r.length ++ ((r ++ h8 r).take (k - (putU r.length).length)) := by
      unfold frameL
      rw [List.append_assoc, List.take_append, List.take_of_length_le (by omega)]
    have ht : takeU ((frameL h8 r).take k) = (r.length, (putU r.length).length, 0) := by rw [hsplit]; exact takeU_put _ _ (by omega)
    rw [ht]
    simp only
    rw [List.length_take]
    omega

/-- All frames of a list of records. -/
def framesL (h8 : List UInt8 → List UInt8) (l : List (List UInt8)) : List UInt8 := (l.map (frameL h8)).flatten

omit hlen in
theorem framesL_cons (r : List UInt8) (l : List (List UInt8)) : framesL h8 (r :: l) = frameL h8 r ++ framesL h8 l := rfl

/-- Whatever is torn off the end, the first records are told, as many as are whole. -/
theorem cutL_torn (l : List (List UInt8)) (hl : ∀ r ∈ l, r.length ≤ 2000) (k : Nat) (hk : k ≤ (framesL h8 l).length) :
    ∃ m, m ≤ l.length ∧ cutL h8 ((framesL h8 l).take k) = (l.take m, (framesL h8 (l.take m)).length) ∧ (framesL h8 (l.take m)).length ≤ k ∧ ∀ j, j ≤ l.length → (framesL h8 (l.take j)).length ≤ k → j ≤ m := by
  induction l generalizing k with
  | nil =>
    have h0 : firstL h8 [] = none := by unfold firstL takeU; simp [takeGo]
    refine ⟨0, Nat.le_refl _, ?_, by simp [framesL], fun j hj _ => hj⟩
    rw [show (framesL h8 []).take k = [] by simp [framesL], cutL_none h8 h0]; rfl
  | cons r l ih =>
    have hr := hl r (by simp)
    have hl' : ∀ x ∈ l, x.length ≤ 2000 := fun x hx => hl x (List.mem_cons_of_mem _ hx)
    rw [framesL_cons] at hk ⊢
    rw [List.length_append] at hk
    by_cases hk1 : k < (frameL h8 r).length
    · refine ⟨0, Nat.zero_le _, ?_, by simp [framesL], fun j hj hle => ?_⟩
      · rw [List.take_append_of_le_length (by omega), cutL_none h8 (firstL_torn hlen r k hr hk1)]; rfl
      · cases j with
        | zero => exact Nat.le_refl _
        | succ j => rw [List.take_succ_cons, framesL_cons, List.length_append] at hle; omega
    · obtain ⟨m, hm, hc, hle, hmax⟩ := ih hl' (k - (frameL h8 r).length) (by omega)
      refine ⟨m + 1, by simp; omega, ?_, ?_, fun j hj hjle => ?_⟩
      · rw [List.take_append, List.take_of_length_le (by omega)]
        rw [cutL_some h8 (firstL_frame hlen r _ hr), List.drop_left, hc]
        rw [List.take_succ_cons, framesL_cons, List.length_append]
      · rw [List.take_succ_cons, framesL_cons, List.length_append]; omega
      · cases j with
        | zero => omega
        | succ j =>
          rw [List.take_succ_cons, framesL_cons, List.length_append] at hjle
          have := hmax j (by simpa using hj) (by omega)
          omega
theorem cutL_frames (l : List (List UInt8)) (hl : ∀ r ∈ l, r.length ≤ 2000) : cutL h8 (framesL h8 l) = (l, (framesL h8 l).length) := by
  obtain ⟨m, hm, hc, _, hmax⟩ := cutL_torn hlen l hl (framesL h8 l).length (Nat.le_refl _)
  have := hmax l.length (Nat.le_refl _) (by rw [List.take_length]; exact Nat.le_refl _)
  have hml : m = l.length := by omega
  rw [hml, List.take_length, List.take_length] at hc
  exact hc
omit hlen in
theorem framesL_append (l m : List (List UInt8)) : framesL h8 (l ++ m) = framesL h8 l ++ framesL h8 m := by unfold framesL; simp
end
end Go.Proofs.YtfciagcmggdldaaGreatDoor
