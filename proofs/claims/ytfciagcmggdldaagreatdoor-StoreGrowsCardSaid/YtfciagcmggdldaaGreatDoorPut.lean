/-
  bits.Put: a number as bytes.
-/
import Derived.Test.YtfciagcmggdldaaGreatDoorBits
import Derived.Test.YtfciagcmggdldaaGreatDoorPLog
import Derived.Test.YtfciagcmggdldaaGreatDoorElems
namespace Go.Proofs.YtfciagcmggdldaaGreatDoor
open Go.RowKit

set_option maxRecDepth 100000 in
theorem or128 (n : Nat) : bits .or .u8 ((n : Int) % 256) 128 = ((UInt8.ofNat (n % 128 + 128)).toNat : Int) := by
  have h1 : (n : Int) % 256 = ((n % 256 : Nat) : Int) := by omega
  have h2 := u8_or_nat (n % 256) 128 (by omega) (by omega)
  rw [h1, show (128 : Int) = ((128 : Nat) : Int) from rfl, h2]
  congr 1
  rw [toNat_ofNat (by omega)]
  have h3 : ∀ k : Fin 256, k.val ||| 128 = k.val % 128 + 128 := by decide
  have := h3 ⟨n % 256, by omega⟩
  simp only at this
  rw [this]
  omega

set_option maxRecDepth 100000 in
set_option maxHeartbeats 4000000 in
theorem put_calls (M : Nat → Prop) (u : Nat) (hu : u < 18446744073709551616) (w : World) (hM : ∀ k, M k → k < w.heap.size) :
    Calls Tryz.prog 44 #[.int .u64 (u : Int)] w fun e w' => ∃ v', e = .returned v' ∧ Own w' M w.heap.size 5 v' (putU u) ∧ Below w.heap.size w w' := by
  have hlen := Lib.hid (putU_len u 10 (by omega) (by omega))
  go_enter Tryz.func44, Tryz.ntmps44
  go_wp2
  go_loopw [0, 3] (fun i o wr => ∃ (n : Nat) (os : List UInt8), n ≤ u ∧ os.length < 10 ∧ i = .int .u64 n ∧ Own wr M w.heap.size 5 o os ∧ Below w.heap.size w wr ∧ Hid (putU u = os ++ putU n)) (fun i _ _ => (intOf i).toNat)
  case atStart => exact ⟨u, [], Nat.le_refl _, by simp, rfl, Own.nil _ _ _ _, Below.refl _ _, rfl⟩
  case round =>
    obtain ⟨n, os, hn, hol, rfl, ho, hbl, hv⟩ := hrel
    have hsz : (os.length + 1) * 1 ≤ 140737488355328 := by omega
    by_cases h : 128 ≤ n
    · have hi : (128 : Int) ≤ (n : Int) := by omega
      have hor := or128 n
      have hv2 : Hid (putU u = (os ++ [UInt8.ofNat (n % 128 + 128)]) ++ putU (n / 128)) := by
        unfold Hid; rw [hv.out, putU_more (by omega)]; simp
      have hol2 : os.length + 1 < 10 := by
        have h1 := hlen.out
        rw [hv2.out] at h1
        have := putU_pos (n / 128)
        simp at h1; omega
      generalize UInt8.ofNat (n % 128 + 128) = y at hor hv2
      go_wp2_with (at_builtin; refine wpList_app1 (α := UInt8) rfl (.tmp 8) (.tmp 12) 50 rfl elemU8 rfl ho (by simp [Act.eval]) y rfl hM hsz hbl.size ?_; intro v' w' ho' hb' hk')
      go_roundw
      case rel => exact ⟨n / 128, os ++ [y], by omega, by simp; omega, by go_num, ho', hbl.trans hb', hv2⟩
      case measure => simp [intOf]; omega
    · have hi : ¬ (128 : Int) ≤ (n : Int) := by omega
      have hv2 : Hid (putU u = os ++ [UInt8.ofNat n]) := by unfold Hid; rw [hv.out, putU_small (by omega)]
      have h8 : Hid ((n : Int) = ((UInt8.ofNat n).toNat : Int)) := by
        unfold Hid; rw [toNat_ofNat (by omega)]
      generalize UInt8.ofNat n = y at h8 hv2
      go_wp2_with (at_builtin; refine wpList_app1 (α := UInt8) rfl (.tmp 14) (.tmp 17) 50 rfl elemU8 rfl ho (by simp [Act.eval]) y (show [Value.int .u8 (n : Int)] = [.int .u8 (y.toNat : Int)] by rw [h8.out]) hM hsz hbl.size ?_; intro v' w' ho' hb' hk')
      go_ret
      exact ⟨_, rfl, by rw [hv2.out]; exact ho', hbl.trans hb'⟩
end Go.Proofs.YtfciagcmggdldaaGreatDoor
