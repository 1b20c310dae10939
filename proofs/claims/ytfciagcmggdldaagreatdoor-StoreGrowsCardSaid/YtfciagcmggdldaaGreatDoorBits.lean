/-
  hash.Mix and Of, bits.Put, Take, Zig, Zag.
-/
import Derived.Test.YtfciagcmggdldaaGreatDoorData
import Derived.Test.YtfciagcmggdldaaGreatDoorProg
import Derived.Laws.Bits64
import Derived.Laws.BitsAllLaws
import Derived.Laws.DeepNot64
import Derived.IntWalk
namespace Go.Proofs.YtfciagcmggdldaaGreatDoor
open Go.RowKit

def u64ok (n : Int) : Prop := 0 ≤ n ∧ n ≤ 18446744073709551615

def mixA (u : Nat) : Nat := (u ^^^ u / 536870912) * 10321020848683521121 % 18446744073709551616
def mixB (u : Nat) : Nat := (mixA u ^^^ mixA u / 4294967296) * 7694936916205891629 % 18446744073709551616
/-- hash.Mix. -/
def mixN (u : Nat) : Nat := mixB u ^^^ mixB u / 268435456
theorem mixN_lt (u : Nat) : mixN u < 18446744073709551616 := by
  have h : mixB u < 2 ^ 64 := Nat.mod_lt _ (by decide)
  exact Nat.xor_lt_two_pow h (Nat.lt_of_le_of_lt (Nat.div_le_self _ _) h)
theorem mix_calls (u : Nat) (hu : u < 18446744073709551616) (w : World) : Calls Tryz.prog 93 #[.int .u64 (u : Int)] w fun e w' => e = .returned (.int .u64 (mixN u : Int)) ∧ w = w' := by
  have e1 : IntKind.u64.wrap (bits .xor .u64 (u : Int) ((u : Int) / 536870912) * 10321020848683521121) = (mixA u : Int) := mixStep_u64 u 536870912 10321020848683521121 hu
  have hA : mixA u < 18446744073709551616 := Nat.mod_lt _ (by decide)
  have e2 : IntKind.u64.wrap (bits .xor .u64 (mixA u : Int) ((mixA u : Int) / 4294967296) * 7694936916205891629) = (mixB u : Int) := mixStep_u64 (mixA u) 4294967296 7694936916205891629 hA
  have hB : mixB u < 18446744073709551616 := Nat.mod_lt _ (by decide)
  have e3 : bits .xor .u64 (mixB u : Int) ((mixB u : Int) / 268435456) = (mixN u : Int) := xorShift_u64 (mixB u) 268435456 hB
  have h0 : (0 : Int) ≤ (u : Int) := by omega
  have h1 : (u : Int) ≤ 18446744073709551615 := by omega
  go_enter Tryz.func93, Tryz.ntmps93
  go_wp2
  go_ret
  exact ⟨rfl, rfl⟩

theorem xor_ones (a : Nat) (h : a < 18446744073709551616) : a ^^^ 18446744073709551615 = 18446744073709551615 - a := by
  have h1 : (BitVec.ofNat 64 a ^^^ BitVec.allOnes 64).toNat = (~~~ (BitVec.ofNat 64 a)).toNat := by rw [BitVec.xor_allOnes]
  rw [BitVec.toNat_xor, BitVec.toNat_not, BitVec.toNat_allOnes, BitVec.toNat_ofNat, Nat.mod_eq_of_lt (by omega : a < 2 ^ 64)] at h1
  have e : (2 : Nat) ^ 64 - 1 = 18446744073709551615 := by decide
  rw [e] at h1
  omega
/-- bits.Zig. -/
def zigN (n : Int) : Nat := if 0 ≤ n then (2 * n).toNat else (-2 * n - 1).toNat
theorem zigN_lt {n : Int} (h : i64ok n) : zigN n < 18446744073709551616 := by
  obtain ⟨h0, h1⟩ := h
  unfold zigN
  split <;> omega
theorem zig_eq {n : Int} (h : i64ok n) : bits .xor .u64 (IntKind.u64.wrap (IntKind.u64.wrap n * 2)) (IntKind.u64.wrap (n / 9223372036854775808)) = (zigN n : Int) := by
  obtain ⟨h0, h1⟩ := h
  rw [IntKind.wrap_u64, IntKind.wrap_u64, IntKind.wrap_u64]
  unfold zigN
  by_cases hn : 0 ≤ n
  · rw [if_pos hn, show n % 18446744073709551616 * 2 % 18446744073709551616 = (((2 * n).toNat : Nat) : Int) by omega, show n / 9223372036854775808 % 18446744073709551616 = ((0 : Nat) : Int) by omega,
      bits_xor_u64_nat _ _ (by omega) (by omega), Nat.xor_zero]
  · rw [if_neg hn, show n % 18446744073709551616 * 2 % 18446744073709551616 = (((2 * n + 18446744073709551616).toNat : Nat) : Int) by omega, show n / 9223372036854775808 % 18446744073709551616 = ((18446744073709551615 : Nat) : Int) by omega,
      bits_xor_u64_nat _ _ (by omega) (by omega), xor_ones _ (by omega)]
    congr 1
    omega
theorem zig_calls (n : Int) (hu : i64ok n) (w : World) : Calls Tryz.prog 45 #[.int .i64 n] w fun e w' => e = .returned (.int .u64 (zigN n : Int)) ∧ w = w' := by
  have hz := zig_eq hu
  obtain ⟨h0, h1⟩ := hu
  go_enter Tryz.func45, Tryz.ntmps45
  go_wp2
  go_ret
  exact ⟨rfl, rfl⟩

/-- bits.Zag. -/
def zagN (u : Nat) : Int := if u % 2 = 0 then (u / 2 : Nat) else -1 - ((u / 2 : Nat) : Int)
theorem zagN_ok (u : Nat) (h : u < 18446744073709551616) : i64ok (zagN u) := by
  unfold zagN i64ok
  split <;> omega
theorem zag_zig {n : Int} (h : i64ok n) : zagN (zigN n) = n := by
  obtain ⟨h0, h1⟩ := h
  unfold zagN zigN
  by_cases hn : 0 ≤ n
  · rw [if_pos hn, if_pos (by omega)]; omega
  · rw [if_neg hn, if_neg (by omega)]; omega
theorem i64_xor_comm (a b : Int) : bits .xor .i64 a b = bits .xor .i64 b a := by
  show IntKind.i64.wrap ((BitVec.ofInt 64 a ^^^ BitVec.ofInt 64 b).toNat : Int) = IntKind.i64.wrap ((BitVec.ofInt 64 b ^^^ BitVec.ofInt 64 a).toNat : Int)
  rw [BitVec.xor_comm]
theorem i64_xor_zero (a : Nat) (ha : a < 9223372036854775808) : bits .xor .i64 (a : Int) 0 = (a : Int) := by
  have h1 : (BitVec.ofInt 64 (a : Int)).toNat = a := by
    rw [BitVec.ofInt_natCast, BitVec.toNat_ofNat]; exact Nat.mod_eq_of_lt (by omega)
  show IntKind.i64.wrap ((BitVec.ofInt 64 (a : Int) ^^^ BitVec.ofInt 64 0).toNat : Int) = _
  rw [show BitVec.ofInt 64 0 = 0#64 from rfl, BitVec.xor_zero, h1]
  exact IntWalk.i64_in _ (by omega)
theorem zag_calls (u : Nat) (hu : u < 18446744073709551616) (w : World) : Calls Tryz.prog 47 #[.int .u64 (u : Int)] w fun e w' => e = .returned (.int .i64 (zagN u)) ∧ w = w' := by
  have ha : bits .and .u64 (u : Int) 1 = ((u % 2 : Nat) : Int) := by
    have := u64_and_nat u 1 hu (by decide)
    rw [Nat.and_one_is_mod] at this
    exact this
  have hd : (u : Int) / 2 = ((u / 2 : Nat) : Int) := by omega
  have hz : bits .xor .i64 ((u : Int) / 2) (wrap64 (-wrap64 (bits .and .u64 (u : Int) 1))) = zagN u := by
    rw [ha, hd]
    unfold zagN
    rcases Nat.mod_two_eq_zero_or_one u with e | e
    · rw [e, if_pos rfl, show wrap64 (-wrap64 ((0 : Nat) : Int)) = 0 by simp [wrap64]]
      exact i64_xor_zero (u / 2) (by omega)
    · rw [e, if_neg (by decide), i64_xor_comm, show wrap64 (-wrap64 ((1 : Nat) : Int)) = -1 by simp [wrap64]]
      exact i64_not (u / 2) (by omega)
  have h0 : (0 : Int) ≤ (u : Int) := by omega
  have h1 : (u : Int) ≤ 18446744073709551615 := by omega
  clear ha hd
  go_enter Tryz.func47, Tryz.ntmps47
  go_wp2
  go_ret
  exact ⟨rfl, rfl⟩
end Go.Proofs.YtfciagcmggdldaaGreatDoor
