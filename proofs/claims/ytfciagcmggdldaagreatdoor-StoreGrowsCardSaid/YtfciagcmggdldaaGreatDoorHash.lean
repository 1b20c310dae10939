/-
  hash.Of.
-/
import Derived.Test.YtfciagcmggdldaaGreatDoorBits
import Derived.Test.YtfciagcmggdldaaGreatDoorLabel
namespace Go.Proofs.YtfciagcmggdldaaGreatDoor
open Go.RowKit

/-- A fold with the place. -/
def goF (f : Nat → Nat → Nat → Nat) : List UInt8 → Nat → Nat → Nat
  | [], _, u => u
  | c :: r, i, u => goF f r (i + 1) (f u c.toNat i)
def stepN (u c i : Nat) : Nat := mixN ((u + c + 256 * i) % 18446744073709551616)
/-- hash.Of. -/
def ofN (seed : Nat) (b : List UInt8) : Nat := goF stepN b 0 (mixN seed)
theorem goF_lt {f : Nat → Nat → Nat → Nat} {N : Nat} (hf : ∀ u c i, f u c i < N) (b : List UInt8) : ∀ (i u : Nat), u < N → goF f b i u < N := by
  induction b with
  | nil => exact fun i u h => h
  | cons c r ih => exact fun i u _ => ih _ _ (hf _ _ _)
theorem ofN_lt (seed : Nat) (b : List UInt8) : ofN seed b < 18446744073709551616 := goF_lt (fun _ _ _ => mixN_lt _) b 0 _ (mixN_lt _)

set_option maxRecDepth 100000 in
set_option maxHeartbeats 1000000 in
theorem of_calls (seed : Nat) (hsd : seed < 18446744073709551616) (A : Option Addr) (n c : Nat) (bs : List UInt8) (w : World) (M : Nat → Prop) (hs : Sl w M A n c bs) (hn : n ≤ 140737488355328) :
    Calls Tryz.prog 71 #[.int .u64 (seed : Int), .slice A n c] w fun e w' => e = .returned (.int .u64 (ofN seed bs : Int)) ∧ w = w' := by
  have hl := Lib.hid hs.len
  go_enter Tryz.func71, Tryz.ntmps71
  go_wp2_with (go_at_call 93; refine (mix_calls seed hsd w).mono ?_; rintro e w' ⟨rfl, rfl⟩)
  go_loop [5, 12] (fun u i => ∃ (k v : Nat), k ≤ n ∧ v < 18446744073709551616 ∧ i = .int .i64 k ∧ u = .int .u64 v ∧ Hid (ofN seed bs = goF stepN (bs.drop k) k v)) (fun _ i => n - (intOf i).toNat)
  case atStart => exact ⟨0, mixN seed, Nat.zero_le _, mixN_lt _, rfl, rfl, rfl⟩
  case round =>
    obtain ⟨k, v, hk, hv, rfl, rfl, ht⟩ := hrel
    by_cases hlt : k < n
    · obtain ⟨b, off, x, rfl, hx, hc⟩ := hs.u8 hlt
      have hd := Lib.hid (drop_cons hx)
      have hx8 : (x.toNat : Int) < 256 := by have := x.toNat_lt; omega
      clear hx
      have hmod : (v + x.toNat + 256 * k) % 18446744073709551616 < 18446744073709551616 := Nat.mod_lt _ (by decide)
      obtain ⟨z, hz⟩ : ∃ z, Hid (z = (v + x.toNat + 256 * k) % 18446744073709551616) := ⟨_, rfl⟩
      rw [← hz.out] at hmod
      have hsum : IntKind.u64.wrap (IntKind.u64.wrap ((v : Int) + (x.toNat : Int)) + 256 * (k : Int)) = (z : Int) := by
        rw [hz.out, IntKind.wrap_u64, IntKind.wrap_u64]; omega
      have hv2 : Hid (ofN seed bs = goF stepN (bs.drop (k + 1)) (k + 1) (mixN z)) := by
        unfold Hid; rw [ht.out, hd.out, goF, stepN, hz.out]
      have hm2 := mixN_lt z
      have hmix := Lib.hid (mix_calls z hmod w)
      go_wp2_with (go_at_call 93; refine hmix.out.mono ?_; rintro e w' ⟨rfl, rfl⟩)
      go_round
      case rel => exact ⟨k + 1, mixN z, by omega, hm2, by go_num, rfl, hv2⟩
      case measure => simp [intOf]; omega
    · have hr : Hid (ofN seed bs = v) := by
        unfold Hid; rw [ht.out, List.drop_eq_nil_of_le (by rw [hl.out]; omega)]; rfl
      go_wp2
      go_ret
      exact ⟨by rw [hr.out]; rfl, rfl⟩
end Go.Proofs.YtfciagcmggdldaaGreatDoor
