/-
  bits.Take: a number off bytes.
-/
import Derived.Test.YtfciagcmggdldaaGreatDoorPut
import Derived.Test.YtfciagcmggdldaaGreatDoorLabel
namespace Go.Proofs.YtfciagcmggdldaaGreatDoor
open Go.RowKit

/-- What Take answers. -/
def takeVals (t : Nat × Nat × Int) : Array Value := #[.int .u64 (t.1 : Int), .int .i64 (t.2.1 : Int), .int .i64 t.2.2]

theorem and127 (x : UInt8) : bits .and .u8 (x.toNat : Int) 127 = ((x.toNat % 128 : Nat) : Int) := by
  have h2 := u8_and_nat x.toNat 127 (by have := x.toNat_lt; omega) (by omega)
  rw [show (127 : Int) = ((127 : Nat) : Int) from rfl, h2]
  congr 1
  exact Nat.and_two_pow_sub_one_eq_mod x.toNat 7

theorem or_add (u a i : Nat) (h : u < 2 ^ i) (hb : u + a * 2 ^ i < 18446744073709551616) : bits .or .u64 (u : Int) ((a * 2 ^ i : Nat) : Int) = ((u + a * 2 ^ i : Nat) : Int) := by
  rw [u64_or_nat u (a * 2 ^ i) (by omega) (by omega)]
  congr 1
  rw [Nat.or_comm, Nat.mul_comm a, ← Nat.two_pow_add_eq_or_of_lt h]
  omega

set_option maxRecDepth 100000 in
set_option maxHeartbeats 4000000 in
theorem take_calls (M : Nat → Prop) (A : Option Addr) (n c : Nat) (bs : List UInt8) (w : World) (hs : Sl w M A n c bs) :
    Calls Tryz.prog 46 #[.slice A n c] w fun e w' => e = .returned (.tuple (takeVals (takeU bs))) ∧ w' = w := by
  have hl := Lib.hid hs.len
  go_enter Tryz.func46, Tryz.ntmps46
  go_wp2
  go_loopw [5, 6] (fun u i wr => ∃ (k v : Nat), k ≤ 9 ∧ k ≤ n ∧ v < 2 ^ (7 * k) ∧ i = .int .i64 k ∧ u = .int .u64 v ∧ wr = w ∧ Hid (takeU bs = takeGo (bs.drop k) k v)) (fun _ i _ => 20 - (intOf i).toNat)
  case atStart => exact ⟨0, 0, by omega, by omega, by omega, rfl, rfl, rfl, rfl⟩
  case round =>
    obtain ⟨k, v, hk, hkn, hv, rfl, rfl, rfl, ht⟩ := hrel
    by_cases hlt : k < n
    · obtain ⟨b, off, x, rfl, hx, hc⟩ := hs.u8 hlt
      have hd := Lib.hid (drop_cons hx)
      have hx8 : (x.toNat : Int) < 256 := by have := x.toNat_lt; omega
      clear hx
      by_cases h9 : k = 9 ∧ 1 < x.toNat
      · have hr : Hid (takeU bs = (0, 0, 4)) := by
          unfold Hid; rw [ht.out, hd.out]; unfold takeGo; rw [if_pos (.inl h9)]
        obtain ⟨rfl, h1⟩ := h9
        have h1i : (1 : Int) < (x.toNat : Int) := by omega
        go_wp2
        go_ret3
        exact ⟨by rw [hr.out]; rfl, rfl⟩
      · by_cases h0 : 0 < k ∧ x.toNat = 0
        · have hr : Hid (takeU bs = (0, 0, 4)) := by
            unfold Hid; rw [ht.out, hd.out]; unfold takeGo; rw [if_pos (.inr h0)]
          obtain ⟨h01, h02⟩ := h0
          have h1i : (0 : Int) < (k : Int) := by omega
          have h1j : (x.toNat : Int) = 0 := by omega
          by_cases hk9 : k = 9
          · subst hk9
            go_wp2
            go_ret3
            exact ⟨by rw [hr.out]; rfl, rfl⟩
          · have hk9' : ¬ (k : Int) = 9 := by omega
            go_wp2
            go_ret3
            exact ⟨by rw [hr.out]; rfl, rfl⟩
        · have ha := and127 x
          have hne0 : 0 < k → ¬ (x.toNat : Int) = 0 := by omega
          have hm : x.toNat % 128 < 128 := Nat.mod_lt _ (by omega)
          have hx9 : 9 ≤ k → x.toNat ≤ 1 := by omega
          have hz : v + x.toNat % 128 * 2 ^ (7 * k) < 18446744073709551616 ∧ v + x.toNat % 128 * 2 ^ (7 * k) < 2 ^ (7 * (k + 1)) := by
            have h2 : 2 ^ (7 * (k + 1)) = 128 * 2 ^ (7 * k) := by rw [show 7 * (k + 1) = 7 + 7 * k by omega, Nat.pow_add]
            have h3 : (x.toNat % 128 + 1) * 2 ^ (7 * k) ≤ 128 * 2 ^ (7 * k) := Nat.mul_le_mul_right _ hm
            rw [Nat.add_mul] at h3
            refine ⟨?_, by rw [h2]; omega⟩
            rcases Nat.lt_or_ge k 9 with h9' | h9'
            · have h4 : 2 ^ (7 * k) ≤ 2 ^ 56 := Nat.pow_le_pow_right (by omega) (by omega)
              have : (2 : Nat) ^ 56 = 72057594037927936 := by decide
              omega
            · have hk9 : k = 9 := by omega
              subst hk9
              have := hx9 (Nat.le_refl _)
              have h5 : x.toNat % 128 * 2 ^ (7 * 9) ≤ 1 * 2 ^ (7 * 9) := Nat.mul_le_mul_right _ (by omega)
              have : (2 : Nat) ^ (7 * 9) = 9223372036854775808 := by decide
              omega
          obtain ⟨hz1, hz2⟩ := hz
          obtain ⟨z, hz⟩ : ∃ z, Hid (z = v + x.toNat % 128 * 2 ^ (7 * k)) := ⟨_, rfl⟩
          have hor : bits .or .u64 (v : Int) (IntKind.u64.wrap (((x.toNat % 128 : Nat) : Int) * 2 ^ (7 * k))) = (z : Int) := by
            have h1 := or_add v (x.toNat % 128) (7 * k) hv hz1
            rw [hz.out, ← h1]
            congr 1
            rw [IntKind.wrap_u64]
            have h2 : ((x.toNat % 128 : Nat) : Int) * 2 ^ (7 * k) = ((x.toNat % 128 * 2 ^ (7 * k) : Nat) : Int) := by rw [Int.natCast_mul, Int.natCast_pow]; rfl
            rw [h2]
            omega
          rw [← hz.out] at hz2
          have hgo : Hid (takeGo (x :: bs.drop (k + 1)) k v = if x.toNat < 128 then (z, k + 1, 0) else takeGo (bs.drop (k + 1)) (k + 1) z) := by
            unfold Hid; rw [hz.out, takeGo, if_neg (by rintro (h | h); exact h9 h; exact h0 h)]
          clear hz1 h9 h0
          generalize x.toNat % 128 = y at ha hm hor hz
          clear hz
          have hw7 : IntKind.i64.wrap (7 * (k : Int)) = 7 * (k : Int) := IntWalk.i64_in _ (by omega)
          have hdone : x.toNat < 128 → Hid (takeU bs = (z, k + 1, 0)) := fun h => by unfold Hid; rw [ht.out, hd.out, hgo.out, if_pos h]
          have hmore : 128 ≤ x.toNat → Hid (takeU bs = takeGo (bs.drop (k + 1)) (k + 1) z) := fun h => by unfold Hid; rw [ht.out, hd.out, hgo.out, if_neg (by omega)]
          by_cases hk9 : 9 ≤ k
          · have hx1 := hx9 hk9
            have hxi : (x.toNat : Int) ≤ 1 := by omega
            have hk9b : ((k : Int) == 9) = true := by rw [beq_iff_eq]; omega
            have h1j := hne0 (by omega)
            have hd2 := hdone (by omega)
            clear hx9 hne0 hdone hmore
            go_wp2
            go_ret3
            exact ⟨by rw [hd2.out]; rfl, rfl⟩
          · by_cases h01 : 0 < k
            · have h1j := hne0 h01
              clear hx9 hne0
              by_cases hx128 : x.toNat < 128
              · have hd2 := hdone hx128
                clear hdone hmore
                go_wp2
                go_ret3
                exact ⟨by rw [hd2.out]; rfl, rfl⟩
              · have hd2 := hmore (by omega)
                clear hdone hmore
                go_wp2
                go_roundw
                case rel => exact ⟨k + 1, z, by omega, by omega, hz2, by go_num, rfl, trivial, hd2⟩
                case measure => simp [intOf]; omega
            · clear hx9 hne0
              by_cases hx128 : x.toNat < 128
              · have hd2 := hdone hx128
                clear hdone hmore
                go_wp2
                go_ret3
                exact ⟨by rw [hd2.out]; rfl, rfl⟩
              · have hd2 := hmore (by omega)
                clear hdone hmore
                go_wp2
                go_roundw
                case rel => exact ⟨k + 1, z, by omega, by omega, hz2, by go_num, rfl, trivial, hd2⟩
                case measure => simp [intOf]; omega
    · have hr : Hid (takeU bs = (0, 0, 3)) := by
        unfold Hid; rw [ht.out, List.drop_eq_nil_of_le (by rw [hl.out]; omega)]; rfl
      go_wp2
      go_ret3
      exact ⟨by rw [hr.out]; rfl, rfl⟩
end Go.Proofs.YtfciagcmggdldaaGreatDoor
