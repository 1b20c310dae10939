/-
  log.Frame.
-/
import Derived.Test.YtfciagcmggdldaaGreatDoorTake
import Derived.Test.YtfciagcmggdldaaGreatDoorHash
namespace Go.Proofs.YtfciagcmggdldaaGreatDoor
open Go.RowKit

def h8b (u j : Nat) : UInt8 := UInt8.ofNat (u / 2 ^ (56 - 8 * j) % 256)
/-- A number as eight bytes. -/
def h8 (u : Nat) : List UInt8 := (List.range 8).map (h8b u)
/-- The eight bytes behind a record. -/
def sum8 (r : List UInt8) : List UInt8 := h8 (ofN r.length r)
theorem sum8_len (r : List UInt8) : (sum8 r).length = 8 := by simp [sum8, h8]
abbrev frameB (r : List UInt8) : List UInt8 := frameL sum8 r

set_option maxRecDepth 100000 in
set_option maxHeartbeats 2000000 in
theorem frame_calls (A : Option Addr) (n c : Nat) (bs : List UInt8) (w : World) (M : Nat → Prop) (hM : ∀ k, M k → k < w.heap.size) (hs : Sl w M A n c bs) (hn : n ≤ 2000) :
    Calls Tryz.prog 61 #[.slice A n c] w fun e w' => (∃ v', e = .returned (.tuple #[v', .int .i64 0]) ∧ Own w' M w.heap.size 5 v' (frameB bs)) ∧ Below w.heap.size w w' := by
  have hl := Lib.hid hs.len
  have hpl := Lib.hid (putU_len n 10 (by omega) (by omega))
  obtain ⟨u, hu⟩ : ∃ u, Hid (u = ofN n bs) := ⟨_, rfl⟩
  have hult : u < 18446744073709551616 := by rw [hu.out]; exact ofN_lt _ _
  have hof : ∀ W, Sl W M A n c bs → Calls Tryz.prog 71 #[.int .u64 (n : Int), .slice A n c] W fun e w' => e = .returned (.int .u64 (u : Int)) ∧ W = w' := fun W h => by
    rw [hu.out]; exact of_calls n (by omega) A n c bs W M h (by omega)
  have hof := Lib.hid hof
  have hput := Lib.hid (put_calls M n (by omega) w hM)
  have hsum : Hid (frameB bs = putU n ++ bs ++ (List.range 8).map fun j => UInt8.ofNat (u / 2 ^ (56 - 8 * j) % 256)) := by
    unfold Hid frameB frameL sum8 h8; rw [hu.out, hl.out]; rfl
  go_enter Tryz.func61, Tryz.ntmps61
  go_wp2_with fail
  refine hput.out.mono ?_
  rintro e w1 ⟨v1, rfl, ho1, hb1⟩
  have hs1 := hs.keep (Keep.own_new hb1 ho1)
  have hsz : ((putU n).length + n) * 1 ≤ 140737488355328 := by have := hpl.out; omega
  go_wp2_with (at_builtin; refine wpList_app (α := UInt8) rfl (.tmp 15) (.tmp 16) 50 rfl elemU8 v1 (putU n) rfl ho1 bs A n c rfl hs1 hsz hb1.size ?_; intro v2 w2 ho2 hg2 hk2)
  have hb2 := hb1.grown hg2 hb1.size (fun k hk => (ho1.lt k hk).1)
  have hs2 := (hs1.keep (Keep.app hg2 hk2)).mono (fun k _ (h : M k) => Or.inl h)
  go_wp2_with fail
  refine (hof.out w2 hs2).mono ?_
  rintro e w3 ⟨rfl, rfl⟩
  go_wp2
  go_loopw [5, 7] (fun o i wr => ∃ (j : Nat), j ≤ 8 ∧ i = .int .i64 (56 - 8 * (j : Int)) ∧ Own wr M w.heap.size 5 o (putU n ++ bs ++ (List.range j).map (h8b u)) ∧ Below w.heap.size w wr) (fun _ i _ => (intOf i + 8).toNat)
  case atStart => exact ⟨0, by omega, rfl, by simpa using ho2, hb2⟩
  case round =>
    obtain ⟨j, hj, rfl, ho, hbl⟩ := hrel
    by_cases hlt : j < 8
    · obtain ⟨m, hm⟩ : ∃ m : Nat, m = 56 - 8 * j := ⟨_, rfl⟩
      have hmi : (56 : Int) - 8 * (j : Int) = (m : Int) := by omega
      rw [hmi]
      have hm56 : m ≤ 56 := by omega
      obtain ⟨xs, hxs⟩ : ∃ xs, Hid (xs = putU n ++ bs ++ (List.range j).map (h8b u)) := ⟨putU n ++ bs ++ (List.range j).map (h8b u), rfl⟩
      rw [← hxs.out] at ho
      have hxl : xs.length ≤ 2100 := by
        have := hpl.out
        have := hl.out
        rw [hxs.out]; simp; omega
      have hsz2 : (xs.length + 1) * 1 ≤ 140737488355328 := by omega
      obtain ⟨y, hy⟩ : ∃ y, Hid (y = h8b u j) := ⟨_, rfl⟩
      have hyv : Hid (((u : Int) / 2 ^ m) % 256 = (y.toNat : Int)) := by
        unfold Hid
        rw [hy.out, h8b, toNat_ofNat (Nat.mod_lt _ (by omega)), ← hm]
        have : (u : Int) / 2 ^ m = ((u / 2 ^ m : Nat) : Int) := by rw [Int.natCast_ediv, Int.natCast_pow]; rfl
        rw [this]; omega
      have hsum2 : Hid (xs ++ [y] = putU n ++ bs ++ (List.range (j + 1)).map (h8b u)) := by
        unfold Hid; rw [hxs.out, hy.out, List.range_succ, List.map_append]; simp
      have hmj := Lib.hid hm
      clear hm hmi
      go_wp2_with (at_builtin; refine wpList_app1 (α := UInt8) rfl (.tmp 25) (.tmp 30) 50 rfl elemU8 rfl ho (by simp [Act.eval]) y (show [Value.int .u8 ((u : Int) / 2 ^ m % 256)] = [.int .u8 (y.toNat : Int)] by rw [hyv.out]) hM hsz2 hbl.size ?_; intro v' w' ho' hb' hk')
      go_roundw
      case rel => exact ⟨j + 1, by omega, by rw [show (m : Int) = 56 - 8 * (j : Int) by have := hmj.out; omega]; congr 1; omega, by rw [← hsum2.out]; exact ho', hbl.trans hb'⟩
      case measure => simp [intOf]; omega
    · have hj8 : j = 8 := by omega
      have ho8 : Hid (∀ v, Own wr M w.heap.size 5 v (putU n ++ bs ++ (List.range j).map (h8b u)) → Own wr M w.heap.size 5 v (frameB bs)) := by
        intro v h; rw [hsum.out]; rw [hj8] at h; exact h
      have ho := ho8.out _ ho
      clear hj8
      have hneg : (56 : Int) - 8 * (j : Int) < 0 := by omega
      go_wp2
      go_ret2
      exact ⟨⟨_, rfl, ho⟩, hbl⟩
end Go.Proofs.YtfciagcmggdldaaGreatDoor
