/-
  slices.IsSorted and Contains at ints; gaugehousekeep.IndexFilter.
-/
import Derived.Test.YtflfgeaggknpaaaFind
import Derived.Test.YtflfgeaggknpaaaIndex
import Derived.IntWalk
namespace Go.Proofs.Ytflfgeaggknpaaa
open Go.RowKit

set_option maxRecDepth 100000 in
set_option maxHeartbeats 1000000 in
theorem isSortedI_calls (A : Option Addr) (n c : Nat) (zs : List Int) (w : World) (M : Nat → Prop) (hl : Sl w M A n c zs) (hs : zs.Pairwise (· < ·)) :
    Calls Try.prog 9 #[.slice A n c] w fun e w' => e = .returned (.bool true) ∧ Below w.heap.size w w' := by
  have hle := hl.le
  have hlen := Lib.hid hl.len
  have hs := Lib.hid hs
  go_enter Try.func9, Try.ntmps9
  go_wp2
  go_loopw [3] (fun i wr => ∃ k : Int, -1 ≤ k ∧ k < n ∧ i = .int .i64 k ∧ Below w.heap.size w wr) (fun i _ => (intOf i).toNat)
  case atStart => exact ⟨(n : Int) - 1, by omega, by omega, rfl, Below.refl _ _⟩
  case round =>
    obtain ⟨k, hk0, hk, rfl, hbl⟩ := hrel
    by_cases h2 : 0 < k
    · obtain ⟨j, rfl⟩ : ∃ j : Nat, k = (j : Int) + 1 := ⟨(k - 1).toNat, by omega⟩
      obtain ⟨b, off, x, rfl, hx, gx, hx1⟩ := (hl.below hbl).i64 (k := j + 1) (by omega)
      obtain ⟨b2, off2, y, e2, hy, gy, hy1⟩ := (hl.below hbl).i64 (k := j) (by omega)
      simp only [Option.some.injEq, Addr.mk.injEq] at e2
      obtain ⟨rfl, rfl, _⟩ := e2
      have hyx : y < x := by
        have hj := (List.getElem?_eq_some_iff.1 hx).1
        have := List.pairwise_iff_getElem.1 hs.out j (j + 1) (by omega) hj (by omega)
        rw [List.getElem?_eq_getElem (by omega)] at hx hy
        injection hx with hx; injection hy with hy
        rw [hx, hy] at this; exact this
      have hxy := Lib.hid hyx
      clear hx hy hyx
      have hj2 : (j : Int) + 1 < (n : Int) := by omega
      have hj3 : (0 : Int) < (j : Int) + 1 := by omega
      have hw1 : IntKind.i64.wrap (j : Int) = (j : Int) := IntWalk.i64_in _ (by omega)
      have hj4 : (j : Int) < (n : Int) := by omega
      have hj5 : (0 : Int) ≤ (j : Int) := by omega
      have hj6 : j < n := by omega
      have hnn : ((j : Int) + 1).toNat = j + 1 := by omega
      have hn0 : (0 : Int) ≤ (j : Int) + 1 := by omega
      go_wp2
      go_quiet ((go_at_call 20; exact Calls.quiet_of_same (Try.cmp_Less_int2 x y _)))
      clear hw1 hnn
      go_wp2
      · have := hxy.out
        omega
      · go_roundw
        case rel => exact ⟨(j : Int), by omega, by omega, rfl, hbl.draws _⟩
        case measure => simp only [intOf]; omega
    · go_wp2
      go_ret
      exact ⟨rfl, hbl⟩

theorem containsI_calls (A : Option Addr) (n c : Nat) (zs : List Int) (x : Int) (w : World) (M : Nat → Prop) (hl : Sl w M A n c zs) :
    Calls Try.prog 8 #[.slice A n c, .int .i64 x] w fun e w' => e = .returned (.bool (zs.contains x)) ∧ w = w' := by
  have hle := hl.le
  have hlen := hl.len
  rcases Nat.eq_zero_or_pos n with h0 | hp
  · subst h0
    obtain rfl : zs = [] := List.eq_nil_of_length_eq_zero hlen
    exact (Try.slices_Contains_int_empty A c x w).mono fun e w' ⟨h1, h2⟩ => ⟨by simpa using h1, h2.symm⟩
  · obtain ⟨b, off, rfl, _, hc⟩ := hl.ints hp
    refine (Try.slices_Contains_int b off n c zs x w (by omega) hle hc).mono fun e w' ⟨h1, h2⟩ => ⟨?_, h2.symm⟩
    rw [List.take_of_length_le (by omega)] at h1
    exact h1

set_option maxRecDepth 100000 in
set_option maxHeartbeats 4000000 in
theorem filter_calls (A B : Option Addr) (n c n' c' : Nat) (l : List (List Lab)) (m : List Mat) (w : World) (hl : Sl w (fun _ => False) A n c l) (hm : Sl w (fun _ => False) B n' c' m) (hG : Glob w) :
    Calls Try.prog 3 #[.slice A n c, .slice B n' c'] w fun e w' => e = .returned (.bool true) ∧ Below w.heap.size w w' := by
  have hM : ∀ q : Nat, (fun _ => False) q → q < w.heap.size := fun _ h => h.elim
  have hle := hl.le
  have hlen := Lib.hid hl.len
  go_enter Try.func3, Try.ntmps3
  go_wp2_with fail
  refine (indexes_calls w).mono ?_
  rintro e w1 ⟨rfl, hb1⟩
  go_wp2_with fail
  refine (new_calls A n c l w1 (fun _ => False) (fun _ h => h.elim) (hl.below hb1)).mono ?_
  rintro e w2 ⟨hb2, ⟨hne, rfl⟩ | ⟨he0, X, R, v, kvs, rfl, hI, hH, hS⟩⟩
  · have hnb : (newE l != 0) = true := by simpa using hne
    have hne := Lib.hid hne
    go_wp2
    go_ret
    exact ⟨rfl, hb1.call hb2⟩
  · have hb12 := hb1.call hb2
    have hE := newE_ok he0
    have he0 := Lib.hid he0
    go_wp2_with fail
    refine (find_calls hI (fun _ h => h.elim) hb2.size he0.out hH hS (hG.below hb12) B n' c' m (hm.below hb12)).mono ?_
    rintro e w3 ⟨hb3, ⟨hmne, rfl⟩ | ⟨hm0, v3, rfl, ho3⟩⟩
    · have hnb : (matCheck m != 0) = true := by simpa using hmne
      have hmne := Lib.hid hmne
      go_wp2
      go_ret
      exact ⟨rfl, hb12.call hb3⟩
    · have hb13 := hb12.call hb3
      obtain ⟨A3, c3, rfl, hs3⟩ := ho3.sl (fun _ h => h.elim)
      have hm0 := Lib.hid hm0
      have hE := Lib.hid hE
      have hf3 := findOf_len l m
      clear hI hH hS ho3 hb1 hb2 hb3 hb12
      go_wp2
      go_loopw [45] (fun i wr => ∃ k : Nat, k ≤ n ∧ i = .int .i64 k ∧ Below w3.heap.size w3 wr) (fun i _ => n - (intOf i).toNat)
      case atStart => exact ⟨0, Nat.zero_le _, rfl, Below.refl _ _⟩
      case round =>
        obtain ⟨k, hk, rfl, hbl⟩ := hrel
        have hbw := hb13.call hbl
        by_cases hlt : k < n
        · obtain ⟨b, off, x, A', c4, rfl, hx0, gx, hsx⟩ := (hl.below hbw).list hlt
          have hfx : fitsOf x m = (m.all (fitOf x), 0) := by
            unfold fitsOf
            rw [if_neg (fun h => h (hE.out.2 x (List.mem_of_getElem? hx0))), if_neg (fun h => h hm0.out)]
          have hin : (findOf l m).contains (k : Int) = m.all (fitOf x) := by
            rw [Bool.eq_iff_iff, List.contains_iff_mem, mem_findOf]
            have e : ∀ y, fitAt l y (k : Int) = fitOf x y := fun y => by unfold fitAt; rw [Int.toNat_natCast, List.getD_eq_getElem?_getD, hx0]; rfl
            simp only [e]
            exact ⟨fun h => h.2, fun h => ⟨⟨by omega, by rw [hlen.out]; omega⟩, h⟩⟩
          have hx := Lib.hid hx0
          have hfx := Lib.hid hfx
          have hin := Lib.hid hin
          clear hx0
          go_wp2_with (first
            | (go_at_call 7; refine (fits_calls A' B _ c4 n' c' x m wr _ hsx (hm.below hbw) (hG.below hbw)).mono ?_; rintro e w5 ⟨rfl, hb5⟩; rw [hfx.out])
            | (go_at_call 8; refine (containsI_calls A3 _ c3 (findOf l m) (k : Int) _ (fun _ => False) (hs3.below (hbl.call hb5))).mono ?_; rintro e w6 ⟨rfl, rfl⟩; rw [hin.out]))
          go_roundw
          case rel => exact ⟨k + 1, by omega, by go_num, hbl.call hb5⟩
          case measure => simp [intOf]; omega
        · have hle3 : ((findOf l m).length : Int) ≤ (n : Int) := by have := hlen.out; omega
          go_wp2_with (go_at_call 9; refine (isSortedI_calls A3 _ c3 (findOf l m) _ (fun _ => False) (hs3.below hbl) (findOf_rises l m)).mono ?_; rintro e w5 ⟨rfl, hb5⟩)
          go_ret
          exact ⟨rfl, hbw.call hb5⟩
end Go.Proofs.Ytflfgeaggknpaaa
