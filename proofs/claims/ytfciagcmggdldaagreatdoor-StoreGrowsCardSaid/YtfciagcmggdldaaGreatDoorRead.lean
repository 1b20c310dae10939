/-
  strings.IndexAny where the first hit stands behind plain letters alone; label.one, unquoted.
-/
import Derived.Test.YtfciagcmggdldaaGreatDoorText2
import Derived.Lib.IndexAny
namespace Go.Proofs.YtfciagcmggdldaaGreatDoor
open Go.RowKit

/-- The first of '!' and '=' stands at r, behind plain letters. -/
structure Front (s : ByteArray) (r : Nat) (c : UInt8) : Prop where
  here : s.data.toList[r]? = some c
  sign : c = 33 ∨ c = 61
  plain : ∀ (j : Nat) b, j < r → s.data.toList[j]? = some b → b.toNat < 128 ∧ b ≠ 33 ∧ b ≠ 61

theorem Front.idx {s : ByteArray} {r : Nat} {c : UInt8} (h : Front s r c) : Lib.indexAny s.data.toList (⟨#[33, 61]⟩ : ByteArray).data.toList = (r : Int) := by
  obtain ⟨h1, h2, h3⟩ := h
  refine Lib.indexAny_hit (fun j b hj hb => ?_) h1 ?_
  · obtain ⟨_, g1, g2⟩ := h3 j b hj hb
    show [(33 : UInt8), 61].contains b = false
    simp [g1, g2]
  · show [(33 : UInt8), 61].contains c = true
    rcases h2 with rfl | rfl <;> rfl

set_option maxHeartbeats 8000000 in
set_option maxRecDepth 1000000 in
theorem indexAny_calls (s : ByteArray) (r : Nat) (c : UInt8) (w : World) (hF : Front s r c) (hs : s.size < 4294967281) :
    Calls Tryz.prog 95 #[.string s, .string ⟨#[33, 61]⟩] w fun e w' => e = .returned (.int .i64 (r : Int)) ∧ Below w.heap.size w w' := by
  have hidx := hF.idx
  by_cases h8 : 8 < s.size
  · refine (Tryz.strings_IndexAny_long (fun w => by rw [Tryz.zeroValue188 w, show Tryz.zeroCells188 = Array.replicate 256 (.bool false) by kernel_rfl]) s ⟨#[33, 61]⟩ w (by decide) h8 hs (by decide) (fun j b hb => by
      have hb' : [(33 : UInt8), 61][j]? = some b := hb
      have := List.mem_of_getElem? hb'
      simp at this
      rcases this with rfl | rfl <;> decide)).mono fun e w' ⟨h1, h2⟩ => ⟨by rw [h1, hidx], ?_⟩
    rw [h2]
    exact ((Below.refl _ _).new _).new _
  · have h8z : decide ((8 : Int) < (s.size : Int)) = false := decide_eq_false (by omega)
    have hF := Lib.hid hF
    have hidx := Lib.hid hidx
    have hrs : r < s.size := by
      have h1 := (List.getElem?_eq_some_iff.1 hF.out.here).1
      have h2 : s.data.toList.length = s.size := Array.length_toList
      omega
    go_enter Tryz.func95, Tryz.ntmps95
    go_wp2_with (go_at_call 113; refine (Tryz.strings_shouldUseASCIISet _ _).mono ?_; rintro e w' ⟨rfl, hw⟩; rw [hw, h8z])
    go_loopg [9, 10] s.size (fun g _ _ wx => ∃ i : Nat, i + g = s.size ∧ i ≤ r ∧ wx = w.iter s i)
    case atStart => exact ⟨0, by omega, Nat.zero_le _, rfl⟩
    case round =>
      obtain ⟨i, hig, hir, rfl⟩ := hrel
      cases gk with
      | zero => omega
      | succ g =>
        have hi : i < s.size := by omega
        obtain ⟨x, hx⟩ : ∃ x : UInt8, s[i]'hi = x := ⟨_, rfl⟩
        have hxl : s.data.toList[i]? = some x := by rw [← hx]; exact Lib.data_getElem? s i hi
        have hx128 : x.toNat < 128 := by
          rcases Nat.lt_or_ge i r with h | h
          · exact (hF.out.plain i x h hxl).1
          · obtain rfl : i = r := by omega
            have h1 := hF.out.here
            rw [hxl] at h1
            injection h1 with h1
            rcases hF.out.sign with h2 | h2 <;> (rw [h1, h2]; decide)
        have hnx := fun ty => run_next_ascii (P := Tryz.prog) w s i ty hi (by rw [hx]; exact hx128)
        rw [hx] at hnx
        have Hx := Lib.hid hxl
        clear hxl hx
        have hback : ((x.toNat : Int)).toNat.toUInt8 = x := by simp
        have hcon := Lib.contains_iff_indexByte [(33 : UInt8), 61] x
        rcases Nat.lt_or_ge i r with h | h
        · have hin : [(33 : UInt8), 61].contains x = false := by
            obtain ⟨_, g1, g2⟩ := hF.out.plain i x h Hx.out
            simp [g1, g2]
          rw [hin] at hcon
          have hlt : ¬ ((0 : Int) ≤ Lib.indexByte [(33 : UInt8), 61] x) := of_decide_eq_false hcon.symm
          clear hcon hin
          have hidxr := (Tryz.strings_IndexRune_ascii ⟨#[33, 61]⟩ (x.toNat : Int) (w.iter s (i + 1)) (by omega) (by omega))
          rw [hback] at hidxr
          have hidxr : Calls Tryz.prog 112 #[.string ⟨#[33, 61]⟩, .int .i32 (x.toNat : Int)] (w.iter s (i + 1)) fun e w' => e = .returned (.int .i64 (Lib.indexByte [(33 : UInt8), 61] x)) ∧ w.iter s (i + 1) = w' := hidxr.mono fun e w' ⟨h1, h2⟩ => ⟨h1, h2.symm⟩
          have hidxr := Lib.hid hidxr
          go_wp2_with (go_at_call 112; refine hidxr.out.mono ?_; rintro e w' ⟨rfl, rfl⟩)
          go_roundg g
          case measure => omega
          case rel => exact ⟨i + 1, by omega, by omega, rfl⟩
        · obtain rfl : i = r := by omega
          have hin : [(33 : UInt8), 61].contains x = true := by
            have h1 := hF.out.here
            rw [Hx.out] at h1
            injection h1 with h1
            rcases hF.out.sign with h2 | h2 <;> (rw [h1, h2]; rfl)
          rw [hin] at hcon
          have hge : (0 : Int) ≤ Lib.indexByte [(33 : UInt8), 61] x := of_decide_eq_true hcon.symm
          clear hcon hin
          have hidxr := (Tryz.strings_IndexRune_ascii ⟨#[33, 61]⟩ (x.toNat : Int) (w.iter s (i + 1)) (by omega) (by omega))
          rw [hback] at hidxr
          have hidxr : Calls Tryz.prog 112 #[.string ⟨#[33, 61]⟩, .int .i32 (x.toNat : Int)] (w.iter s (i + 1)) fun e w' => e = .returned (.int .i64 (Lib.indexByte [(33 : UInt8), 61] x)) ∧ w.iter s (i + 1) = w' := hidxr.mono fun e w' ⟨h1, h2⟩ => ⟨h1, h2.symm⟩
          have hidxr := Lib.hid hidxr
          go_wp2_with (go_at_call 112; refine hidxr.out.mono ?_; rintro e w' ⟨rfl, rfl⟩)
          go_ret
          exact ⟨rfl, (Below.refl _ _).new _⟩
end Go.Proofs.YtfciagcmggdldaaGreatDoor
