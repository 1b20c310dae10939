/-
  What label.CheckMatch computes.
-/
import Derived.Test.YtfciagcmggdldaaGreatDoorLabel
namespace Go.Proofs.YtfciagcmggdldaaGreatDoor
open Go.RowKit

/-! ### label.CheckMatch -/
def matBad (x : Mat) : Int := if x.kind < 1 ∨ 4 < x.kind then 1 else if nameOk x.name = false then 4 else if 40 < x.value.size then 2 else 0
def matGo : List Mat → Int
  | [] => 0
  | x :: r => if matBad x = 0 then matGo r else matBad x
/-- What label.CheckMatch answers. -/
def matCheck (m : List Mat) : Int := if 10 < m.length then 2 else matGo m

theorem mat_bad {l : List Mat} {k : Nat} {x : Mat} {r : Int} (h : Hid (r = matGo (l.drop k))) (hx : Hid (l[k]? = some x)) (hb : matBad x ≠ 0) : r = matBad x := by
  rw [h.out, drop_cons hx.out, matGo, if_neg hb]
theorem mat_on {l : List Mat} {k : Nat} {x : Mat} {r : Int} (h : Hid (r = matGo (l.drop k))) (hx : Hid (l[k]? = some x)) (hb : matBad x = 0) : r = matGo (l.drop (k + 1)) := by
  rw [h.out, drop_cons hx.out, matGo, if_pos hb]

set_option maxRecDepth 100000 in
set_option maxHeartbeats 1000000 in
theorem checkMatch_calls (A : Option Addr) (n c : Nat) (l : List Mat) (w : World) (M : Nat → Prop) (hl : Sl w M A n c l) :
    Calls Tryz.prog 99 #[.slice A n c] w fun e w' => e = .returned (.int .i64 (matCheck l)) ∧ Below w.heap.size w w' := by
  have hn := hl.le
  have hlen := Lib.hid hl.len
  go_enter Tryz.func99, Tryz.ntmps99
  by_cases h10 : (10 : Int) < (n : Int)
  · go_wp2
    go_ret
    exact ⟨eq_int (by rw [matCheck, if_pos (by rw [hlen.out]; omega)]), Below.refl _ _⟩
  · have hr : Hid (matCheck l = matGo l) := by unfold Hid; rw [matCheck, if_neg (by rw [hlen.out]; omega)]
    go_wp2
    go_loopw [10] (fun i wr => ∃ k : Nat, k ≤ n ∧ i = .int .i64 k ∧ Below w.heap.size w wr ∧ Hid (matCheck l = matGo (l.drop k))) (fun i _ => n - (intOf i).toNat)
    case atStart => exact ⟨0, Nat.zero_le _, rfl, Below.refl _ _, hr⟩
    case round =>
      obtain ⟨k, hk, rfl, hbl, hv⟩ := hrel
      clear hr
      by_cases hlt : k < n
      · obtain ⟨b, off, x, rfl, hx0, g0, g1, g2, hs0, hs1, hs2⟩ := (hl.below hbl).mat hlt
        obtain ⟨hk1, hk2⟩ := hs0
        have hx := Lib.hid hx0
        clear hx0 hl
        by_cases hkd : x.kind < 1 ∨ 4 < x.kind
        · have hb : Hid (matBad x = 1) := by unfold Hid matBad; rw [if_pos hkd]
          have hfin : labCheck [] = 0 → matCheck l = 1 := fun _ => by rw [mat_bad hv hx (by rw [hb.out]; decide), hb.out]
          rcases hkd with hkd | hkd
          · go_wp2
            go_ret
            exact ⟨eq_int (hfin rfl), hbl.new _⟩
          · go_wp2
            go_ret
            exact ⟨eq_int (hfin rfl), hbl.new _⟩
        · have hkl : 1 ≤ x.kind := by omega
          have hku : x.kind ≤ 4 := by omega
          go_wp2_with (go_at_call 68; refine (name_calls _ _ hs1).mono ?_; rintro e w2 ⟨rfl, hb2⟩; have hc2 := bcell hb2)
          · go_ret
            have hnm : nameOk x.name = false := by simpa using (by assumption : (!nameOk x.name) = true)
            have hb : matBad x = 4 := by unfold matBad; rw [if_neg hkd, if_pos hnm]
            exact ⟨eq_int (by rw [mat_bad hv hx (by rw [hb]; decide), hb]), (hbl.new _).call hb2⟩
          · go_ret
            have hnm : nameOk x.name = true := by simpa using (by assumption : (!nameOk x.name) = false)
            have hb : matBad x = 2 := by unfold matBad; rw [if_neg hkd, if_neg (by rw [hnm]; decide), if_pos (by omega)]
            exact ⟨eq_int (by rw [mat_bad hv hx (by rw [hb]; decide), hb]), (hbl.new _).call hb2⟩
          · go_roundw
            case rel =>
              have hnm : nameOk x.name = true := by simpa using (by assumption : (!nameOk x.name) = false)
              have hb : matBad x = 0 := by unfold matBad; rw [if_neg hkd, if_neg (by rw [hnm]; decide), if_neg (by omega)]
              exact ⟨k + 1, by omega, by go_num, (hbl.new _).call hb2, mat_on hv hx hb⟩
            case measure => simp [intOf]; omega
      · go_wp2
        go_ret
        exact ⟨eq_int (by rw [hv.out, List.drop_eq_nil_of_le (by rw [hlen.out]; omega)]; rfl), hbl⟩
end Go.Proofs.YtfciagcmggdldaaGreatDoor
