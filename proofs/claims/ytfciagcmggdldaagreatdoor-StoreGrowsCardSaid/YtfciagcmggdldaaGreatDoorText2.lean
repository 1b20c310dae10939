/-
  label.matches, Text, MatchText.
-/
import Derived.Test.YtfciagcmggdldaaGreatDoorText
namespace Go.Proofs.YtfciagcmggdldaaGreatDoor
open Go.RowKit

/-- The matches of labels: each is its value. -/
def labMat (x : Lab) : Mat := ⟨1, x.name, x.value⟩
theorem elemMat : Elem Tryz.prog 103 115 (Rep.size Mat) 40 := by
  have h : (Tryz.prog.info? 115).map (fun i => (i.zero, i.size, i.bytes)) = some (some (.agg #[.int .i64 0, .string ⟨#[]⟩, .string ⟨#[]⟩]), Rep.size Mat, 40) := by kernel_rfl
  obtain ⟨i, hi, hz0, hz1, hz2⟩ := info_parts h
  exact ⟨Tryz.underlying103, i, _, hi, hz0, hz1, hz2, rfl, by decide, by decide⟩

set_option maxRecDepth 100000 in
set_option maxHeartbeats 1000000 in
theorem matches_calls (A : Option Addr) (n c : Nat) (l : List Lab) (w : World) (M : Nat → Prop) (hM : ∀ k, M k → k < w.heap.size) (hl : Sl w M A n c l) (hn : n ≤ 1000) :
    Calls Tryz.prog 59 #[.slice A n c] w fun e w' => ∃ v', e = .returned v' ∧ Own w' M w.heap.size 115 v' (l.map labMat) ∧ Below w.heap.size w w' := by
  have hle := hl.le
  have hlen := Lib.hid hl.len
  go_enter Tryz.func59, Tryz.ntmps59
  go_wp2
  go_loopw [3, 8] (fun o i wr => ∃ k : Nat, k ≤ n ∧ i = .int .i64 k ∧ Own wr M w.heap.size 115 o ((l.take k).map labMat) ∧ Below w.heap.size w wr) (fun _ i _ => n - (intOf i).toNat)
  case atStart => exact ⟨0, Nat.zero_le _, rfl, Own.nil _ _ _ _, Below.refl _ _⟩
  case round =>
    obtain ⟨k, hk, rfl, ho, hbl⟩ := hrel
    by_cases hlt : k < n
    · obtain ⟨b, off, x, rfl, hx0, g0, g1, hx1, hx2⟩ := (hl.below hbl).lab hlt
      have hx := Lib.hid hx0
      clear hx0
      obtain ⟨xs, hxs⟩ : ∃ xs, Hid (xs = (l.take k).map labMat) := ⟨_, rfl⟩
      rw [← hxs.out] at ho
      have hsz : (xs.length + 1) * 40 ≤ 140737488355328 := by rw [hxs.out, List.length_map, List.length_take]; omega
      have hBn := hbl.new (.cells #[.string x.name, .string x.value] 73)
      have hon := ho.alloc (.cells #[.string x.name, .string x.value] 73)
      have hk1 : i64ok (labMat x).kind := ⟨by show (-9223372036854775808 : Int) ≤ 1; omega, by show (1 : Int) ≤ 9223372036854775807; omega⟩
      go_wp2_with (at_builtin; refine wpList_app1 (α := Mat) (w := wr.alloc (.cells #[.string x.name, .string x.value] 73)) rfl (.tmp 12) (.tmp 18) 103 rfl elemMat rfl hon (by simp [Act.eval]) (labMat x) ⟨rfl, hk1, hx1, hx2⟩ hM hsz hBn.size ?_; intro v' w' ho' hb' hk')
      go_roundw
      case rel => exact ⟨k + 1, by omega, by go_num, by rw [List.take_add_one, hx.out, List.map_append, ← hxs.out]; exact ho', hBn.trans hb'⟩
      case measure => simp [intOf]; omega
    · obtain rfl : k = n := by omega
      rw [List.take_of_length_le (by rw [hlen.out]; omega)] at ho
      go_wp2
      go_ret
      exact ⟨_, rfl, ho, hbl⟩

/-- The text of labels. -/
def labText (l : List Lab) : ByteArray := strOf (textL (l.map fun x => (labMat x).l))
theorem labGo_mat {l : List Lab} : ∀ {last : ByteArray}, labGo last l = 0 → matGo (l.map labMat) = 0 := by
  induction l with
  | nil => intro _ _; rfl
  | cons y r ih =>
    intro last h
    unfold labGo at h
    by_cases h1 : nameOk y.name = false
    · rw [if_pos h1] at h; cases h
    · rw [if_neg h1] at h
      by_cases h2 : bLeq y.name last = true
      · rw [if_pos h2] at h; cases h
      · rw [if_neg h2] at h
        by_cases h3 : 40 < y.value.size
        · rw [if_pos h3] at h; cases h
        · rw [if_neg h3] at h
          have hb : matBad (labMat y) = 0 := by
            unfold matBad labMat
            rw [if_neg (by show ¬ ((1 : Int) < 1 ∨ (4 : Int) < 1); omega), if_neg h1, if_neg h3]
          rw [List.map_cons, matGo, if_pos hb]
          exact ih h
theorem labMat_ok {l : List Lab} (h : labCheck l = 0) : matCheck (l.map labMat) = 0 := by
  unfold labCheck at h
  unfold matCheck
  by_cases h1 : 10 < l.length
  · rw [if_pos h1] at h; cases h
  · rw [if_neg h1] at h
    rw [if_neg (by rw [List.length_map]; exact h1)]
    exact labGo_mat h
theorem labCheck_len {l : List Lab} (h : labCheck l = 0) : l.length ≤ 10 := by
  unfold labCheck at h
  by_cases h1 : 10 < l.length
  · rw [if_pos h1] at h; cases h
  · omega

def textOr (b : Bool) (t : ByteArray) : ByteArray := if b = true then t else ⟨#[]⟩

set_option maxRecDepth 100000 in
set_option maxHeartbeats 1000000 in
theorem Text_calls (A : Option Addr) (n c : Nat) (l : List Lab) (w : World) (M : Nat → Prop) (hM : ∀ k, M k → k < w.heap.size) (hl : Sl w M A n c l) (hS : SignsAt w) :
    Calls Tryz.prog 33 #[.slice A n c] w fun e w' => (e = .returned (.tuple #[.string (textOr (labCheck l == 0) (labText l)), .int .i64 (labCheck l)])) ∧ Below w.heap.size w w' := by
  have hlen := Lib.hid hl.len
  have hchk := check_calls A n c l w M hl
  obtain ⟨r, hr⟩ : ∃ r, Hid (labCheck l = r) := ⟨_, rfl⟩
  rw [hr.out] at hchk ⊢
  have hchk := Lib.hid hchk
  by_cases hc : r = 0
  · subst hc
    have hn : n ≤ 1000 := by have := labCheck_len hr.out; have := hlen.out; omega
    obtain ⟨t, ht⟩ : ∃ t, Hid (t = labText l) := ⟨_, rfl⟩
    rw [← ht.out, show textOr ((0 : Int) == 0) t = t from rfl]
    have htext : ∀ (A3 : Option Addr) (c3 : Nat) (w3 : World), (∀ k, M k → k < w3.heap.size) → Sl w3 M A3 l.length c3 (l.map labMat) → SignsAt w3 → Calls Tryz.prog 58 #[.slice A3 l.length c3] w3 fun e w' => e = .returned (.string t) ∧ Below w3.heap.size w3 w' := fun A3 c3 w3 h1 h2 h3 => by
      rw [ht.out]
      have := text_calls A3 _ c3 (l.map labMat) w3 M h1 h2 h3 (labMat_ok hr.out)
      rw [List.map_map] at this
      exact this
    have htext := Lib.hid htext
    go_enter Tryz.func33, Tryz.ntmps33
    go_wp2_with fail
    refine hchk.out.mono ?_
    rintro e w2 ⟨rfl, hb2⟩
    have hM2 : ∀ k, M k → k < w2.heap.size := fun k hk => Nat.lt_of_lt_of_le (hM k hk) hb2.size
    go_wp2_with fail
    have hl2 := hl.below hb2
    have hmm := matches_calls A n c l w2 M hM2 hl2 hn
    refine hmm.mono ?_
    clear hmm
    rintro e w3 ⟨v3, rfl, ho3, hb3⟩
    obtain ⟨A3, c3, rfl, hs3⟩ := ho3.sl hM2
    rw [List.length_map] at hs3 ⊢
    have hS3 := (hS.below hb2).below hb3
    have hb23 := hb2.call hb3
    go_wp2_with fail
    refine (htext.out A3 c3 w3 (fun k hk => Nat.lt_of_lt_of_le (hM2 k hk) hb3.size) hs3 hS3).mono ?_
    rintro e w4 ⟨rfl, hb4⟩
    go_wp2
    go_ret2
    exact ⟨rfl, hb23.call hb4⟩
  · have hcb : (r != 0) = true := by simp [hc]
    have hz : (r == 0) = false := by simp [hc]
    rw [hz, show textOr false (labText l) = ⟨#[]⟩ from rfl]
    have hc := Lib.hid hc
    go_enter Tryz.func33, Tryz.ntmps33
    go_wp2_with fail
    refine hchk.out.mono ?_
    rintro e w2 ⟨rfl, hb2⟩
    go_wp2
    go_ret2
    exact ⟨rfl, hb2⟩

set_option maxRecDepth 100000 in
set_option maxHeartbeats 1000000 in
theorem MatchText_calls (A : Option Addr) (n c : Nat) (m : List Mat) (w : World) (M : Nat → Prop) (hM : ∀ k, M k → k < w.heap.size) (hm : Sl w M A n c m) (hS : SignsAt w) :
    Calls Tryz.prog 75 #[.slice A n c] w fun e w' => e = .returned (.tuple #[.string (textOr (matCheck m == 0) (strOf (textL (m.map Mat.l)))), .int .i64 (matCheck m)]) ∧ Below w.heap.size w w' := by
  have hchk := checkMatch_calls A n c m w M hm
  obtain ⟨r, hr⟩ : ∃ r, Hid (matCheck m = r) := ⟨_, rfl⟩
  rw [hr.out] at hchk ⊢
  have hchk := Lib.hid hchk
  by_cases hc : r = 0
  · subst hc
    obtain ⟨t, ht⟩ : ∃ t, Hid (t = strOf (textL (m.map Mat.l))) := ⟨_, rfl⟩
    rw [← ht.out, show textOr ((0 : Int) == 0) t = t from rfl]
    have htext : ∀ w3 : World, (∀ k, M k → k < w3.heap.size) → Sl w3 M A n c m → SignsAt w3 → Calls Tryz.prog 58 #[.slice A n c] w3 fun e w' => e = .returned (.string t) ∧ Below w3.heap.size w3 w' := fun w3 h1 h2 h3 => by
      rw [ht.out]; exact text_calls A n c m w3 M h1 h2 h3 hr.out
    have htext := Lib.hid htext
    go_enter Tryz.func75, Tryz.ntmps75
    go_wp2_with fail
    refine hchk.out.mono ?_
    rintro e w2 ⟨rfl, hb2⟩
    have hM2 : ∀ k, M k → k < w2.heap.size := fun k hk => Nat.lt_of_lt_of_le (hM k hk) hb2.size
    go_wp2_with fail
    refine (htext.out w2 hM2 (hm.below hb2) (hS.below hb2)).mono ?_
    rintro e w4 ⟨rfl, hb4⟩
    go_wp2
    go_ret2
    exact ⟨rfl, hb2.call hb4⟩
  · have hcb : (r != 0) = true := by simp [hc]
    have hz : (r == 0) = false := by simp [hc]
    rw [hz, show textOr false (strOf (textL (m.map Mat.l))) = ⟨#[]⟩ from rfl]
    have hc := Lib.hid hc
    go_enter Tryz.func75, Tryz.ntmps75
    go_wp2_with fail
    refine hchk.out.mono ?_
    rintro e w2 ⟨rfl, hb2⟩
    go_wp2
    go_ret2
    exact ⟨rfl, hb2⟩
end Go.Proofs.YtfciagcmggdldaaGreatDoor
