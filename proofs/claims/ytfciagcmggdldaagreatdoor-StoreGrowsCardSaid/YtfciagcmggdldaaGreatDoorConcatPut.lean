/-
  slices.Grow (at nil) and slices.Concat at []gaugehousekeep.Put.
-/
import Derived.Test.YtfciagcmggdldaaGreatDoorStoreD
import Derived.Lib.AppendZeros
namespace Go.Proofs.YtfciagcmggdldaaGreatDoor
open Go.RowKit

theorem elemPutC : Elem Tryz.prog 22 29 (Rep.size PutD) 40 := by
  have h : (Tryz.prog.info? 29).map (fun i => (i.zero, i.size, i.bytes)) = some (some (.agg #[.slice none 0 0, .int .i64 0, .int .i64 0]), Rep.size PutD, 40) := by kernel_rfl
  obtain ⟨i, hi, hz0, hz1, hz2⟩ := info_parts h
  exact ⟨Tryz.underlying22, i, _, hi, hz0, hz1, hz2, rfl, by decide, by decide⟩

set_option maxRecDepth 100000 in
theorem run_growPut (w : World) (M : Nat → Prop) (n : Nat) (h0 : 0 < n) (hn : n * 40 ≤ 140737488355328) (ty : TypeId) :
    ∃ (g cap : Nat) (w' : World), (Builtin.append_ #[22, 3] ty #[.slice none 0 0, .int .i64 n]).run Tryz.prog w = .ok (.slice (some ⟨g, 0, none⟩) n cap) w' ∧ Own w' M w.heap.size 29 (.slice (some ⟨g, 0, none⟩) 0 cap) ([] : List PutD) ∧ n ≤ cap ∧ cap ≤ maxLen ∧ Below w.heap.size w w' := by
  obtain ⟨hu, i, z, hi, hz, hs, hb, hzs, hpos, hbp⟩ := elemPutC
  have h1 : n * 1 ≤ n * 40 := Nat.mul_le_mul_left _ (by decide)
  have hrun := Lib.run_append_nil_zeros (P := Tryz.prog) w 22 3 ty 29 i z .i64 .i64 hu Tryz.underlying3 hi hz n h0 (by rw [hs]; exact hpos) (by omega) (by rw [hb]; omega)
  have hc1 := grownCap_ge w n 0 29
  have hc2 := grownCap_le_maxLen w n 0 29 (by unfold maxLen; omega)
  refine ⟨_, _, _, hrun, ⟨[], rfl, by simp, ⟨rfl, .inr ⟨w.heap.size, grownCap w n 0 29, _, rfl, Nat.le_refl _, heap_alloc_new w.drew _, Nat.zero_le _, hc2, ?_, by simp⟩⟩⟩, hc1, hc2, (Below.refl _ _).drew.alloc (Nat.le_refl _) _⟩
  rw [Array.size_append, size_zeroCells, size_zeroCells, hzs, ← Nat.add_mul]
  congr 1
  omega

set_option maxRecDepth 100000 in
theorem growPut_calls (w : World) (M : Nat → Prop) (n : Nat) (hn : n * 40 ≤ 140737488355328) :
    Calls Tryz.prog 32 #[.slice none 0 0, .int .i64 n] w fun e w' => ∃ v', e = .returned v' ∧ Own w' M w.heap.size 29 v' ([] : List PutD) ∧ Below w.heap.size w w' := by
  have h1 : n * 1 ≤ n * 40 := Nat.mul_le_mul_left _ (by decide)
  have hnb : (n : Int) ≤ 140737488355328 := by omega
  rcases Nat.eq_zero_or_pos n with h0 | h0
  · subst h0
    go_enter Tryz.func32, Tryz.ntmps32
    go_wp2
    go_ret
    exact ⟨_, rfl, Own.nil _ _ _ _, Below.refl _ _⟩
  · obtain ⟨g, cap, w1, hrun, ho, hc1, hc2, hb⟩ := run_growPut w M n h0 hn 22
    unfold maxLen at hc2
    go_enter Tryz.func32, Tryz.ntmps32
    go_wp2_with (at_builtin; refine Lib.wpList_append_run _ rfl _ _ _ _ rfl _ _ rfl rfl _ _ hrun ?_)
    go_ret
    exact ⟨_, rfl, ho, hb⟩

theorem flat_takePut {zss : List (List PutD)} {k : Nat} {x : List PutD} (hx : zss[k]? = some x) : (zss.take (k + 1)).flatten = (zss.take k).flatten ++ x := by
  have hk : k < zss.length := (List.getElem?_eq_some_iff.1 hx).1
  rw [List.take_succ_eq_append_getElem hk, List.flatten_append]
  rw [List.getElem?_eq_getElem hk] at hx
  injection hx with hx
  rw [hx]; simp
theorem flat_lePut (zss : List (List PutD)) (k : Nat) : (zss.take k).flatten.length ≤ zss.flatten.length := by
  have h : zss.flatten = (zss.take k).flatten ++ (zss.drop k).flatten := by rw [← List.flatten_append, List.take_append_drop]
  rw [h, List.length_append]; omega

set_option maxRecDepth 100000 in
set_option maxHeartbeats 1000000 in
theorem concatPut_calls (A : Option Addr) (n c : Nat) (zss : List (List PutD)) (w : World) (M : Nat → Prop) (hl : Sl w M A n c zss) (hn : zss.flatten.length * 40 ≤ 140737488355328) :
    Calls Tryz.prog 13 #[.slice A n c] w fun e w' => ∃ v', e = .returned v' ∧ Own w' M w.heap.size 29 v' zss.flatten ∧ Below w.heap.size w w' := by
  have hle := hl.le
  have hlen := Lib.hid hl.len
  obtain ⟨S, hS⟩ : ∃ S, S = zss.flatten.length := ⟨_, rfl⟩
  rw [← hS] at hn
  have hSb : (S : Int) ≤ 140737488355328 := by have h1 : S * 1 ≤ S * 40 := Nat.mul_le_mul_left _ (by decide); omega
  have HS := Lib.hid hS
  clear hS
  go_enter Tryz.func13, Tryz.ntmps13
  go_wp2
  go_loop [3, 11] (fun t i => ∃ (k m : Nat), k ≤ n ∧ i = .int .i64 k ∧ t = .int .i64 m ∧ Hid (m = (zss.take k).flatten.length)) (fun _ i => n - (intOf i).toNat)
  case atStart => exact ⟨0, 0, Nat.zero_le _, rfl, rfl, by unfold Hid; simp⟩
  case round =>
    obtain ⟨k, m, hk, rfl, rfl, hm⟩ := hrel
    by_cases hlt : k < n
    · obtain ⟨b, off, x, A', c', rfl, hx0, g0, hsx⟩ := hl.list hlt
      have hx := Lib.hid hx0
      clear hx0
      have hle2 : m + x.length ≤ S := by rw [hm.out, HS.out, ← List.length_append, ← flat_takePut hx.out]; exact flat_lePut _ _
      have hnneg : ¬ ((m : Int) + (x.length : Int) < 0) := by omega
      go_wp2
      go_round
      case rel => exact ⟨k + 1, m + x.length, by omega, by go_num, by go_num, by unfold Hid; rw [flat_takePut hx.out, List.length_append, hm.out]⟩
      case measure => simp [intOf]; omega
    · have hmS : m = S := by rw [hm.out, HS.out, List.take_of_length_le (by rw [hlen.out]; omega)]
      subst hmS
      go_wp2_with (go_at_call 32; refine (growPut_calls _ M m hn).mono ?_; rintro e w1 ⟨v1, rfl, ho1, hb1⟩)
      go_loopw [6, 27] (fun so i wr => ∃ (k : Nat), k ≤ n ∧ i = .int .i64 k ∧ Sl wr (mOr M so) A n c zss ∧ Own wr M w.heap.size 29 so (zss.take k).flatten ∧ Below w.heap.size w wr) (fun _ i _ => n - (intOf i).toNat)
      case atStart => exact ⟨0, Nat.zero_le _, rfl, hl.keep (Keep.own_new hb1 ho1), by simpa using ho1, hb1⟩
      case round =>
        obtain ⟨k, hk, rfl, hsl, ho, hbl⟩ := hrel
        by_cases hlt : k < n
        · obtain ⟨b, off, x, A', c', rfl, hx0, g0, hsx⟩ := hsl.list hlt
          have hx := Lib.hid hx0
          clear hx0
          have hsz : ((zss.take k).flatten.length + x.length) * 40 ≤ 140737488355328 := by
            refine Nat.le_trans (Nat.mul_le_mul_right _ ?_) hn
            rw [HS.out, ← List.length_append, ← flat_takePut hx.out]; exact flat_lePut _ _
          go_wp2_with (at_builtin; refine wpList_app (α := PutD) rfl (.tmp 31) (.tmp 32) 22 rfl elemPutC _ _ rfl ho x _ _ _ rfl hsx hsz hbl.size ?_; intro v' w' ho' hg' hk')
          go_roundw
          case rel => exact ⟨k + 1, by omega, by go_num, hsl.keep (Keep.app hg' hk'), by rw [flat_takePut hx.out]; exact ho', hbl.grown hg' hbl.size (fun j hj => (ho.lt j hj).1)⟩
          case measure => simp [intOf]; omega
        · have hfin : Hid (zss.flatten = (zss.take k).flatten) := by unfold Hid; rw [List.take_of_length_le (by rw [hlen.out]; omega)]
          go_wp2
          go_ret
          exact ⟨_, rfl, by rw [hfin.out]; exact ho, hbl⟩
end Go.Proofs.YtfciagcmggdldaaGreatDoor
