/-
  label.unquoted.
-/
import Derived.Test.YtfciagcmggdldaaGreatDoorRead
import Derived.Test.YtfciagcmggdldaaGreatDoorElems
import Derived.Deep.QuietTactic
import Derived.Lib.IndexBytes
namespace Go.Proofs.YtfciagcmggdldaaGreatDoor
open Go.RowKit

/-- What unquoted answers. -/
def unqVals (r : Option (Str × Str)) : Array Value := match r with
  | some (v, t) => #[.string (strOf v), .string (strOf t), .bool true]
  | none => #[.string ⟨#[]⟩, .string ⟨#[]⟩, .bool false]

theorem extract_drop (s : ByteArray) (k : Nat) : s.extract k s.size = strOf (s.data.toList.drop k) := by
  apply ByteArray.ext
  apply Array.toList_inj.1
  rw [Lib.extract_to_end]
  rfl

theorem byte_eq {x : UInt8} {n : Nat} (hn : n < 256) : ((x.toNat : Int) == (n : Int)) = (x == (UInt8.ofNat n)) := by
  rw [Bool.eq_iff_iff, beq_iff_eq, beq_iff_eq]
  constructor
  · intro h
    apply UInt8.toNat_inj.1
    rw [UInt8.toNat_ofNat']
    omega
  · intro h
    rw [h, UInt8.toNat_ofNat']
    omega

set_option maxRecDepth 100000 in
set_option maxHeartbeats 4000000 in
theorem unquoted_calls (s : ByteArray) (w : World) (hs : s.size ≤ 100000000) :
    Calls Tryz.prog 97 #[.string s] w fun e w' => e = .returned (.tuple (unqVals (unqGo s.data.toList []))) ∧ Below w.heap.size w w' := by
  have hlen := Lib.hid (show s.data.toList.length = s.size from Array.length_toList)
  have hM : ∀ k : Nat, (fun _ => False) k → k < w.heap.size := fun _ h => h.elim
  go_enter Tryz.func97, Tryz.ntmps97
  go_wp2
  go_loopw [5, 6] (fun o i wr => ∃ (k : Nat) (os : List UInt8), k ≤ s.size ∧ os.length ≤ k ∧ i = .int .i64 k ∧ Own wr (fun _ => False) w.heap.size 5 o os ∧ Below w.heap.size w wr ∧ Hid (unqGo s.data.toList [] = unqGo (s.data.toList.drop k) os)) (fun _ i _ => s.size - (intOf i).toNat)
  case atStart => exact ⟨0, [], Nat.zero_le _, Nat.zero_le _, rfl, Own.nil _ _ _ _, Below.refl _ _, rfl⟩
  case round =>
    obtain ⟨k, os, hk, hok, rfl, ho, hbl, hv⟩ := hrel
    by_cases hlt : k < s.size
    · obtain ⟨x, hx⟩ : ∃ x, s.data.toList[k]? = some x := ⟨_, List.getElem?_eq_getElem (by rw [hlen.out]; exact hlt)⟩
      have hsk : s[k]'hlt = x := by
        have h2 := hx
        rw [List.getElem?_eq_getElem (by rw [hlen.out]; exact hlt)] at h2
        injection h2
      have hd := Lib.hid (drop_cons hx)
      clear hx
      have hsz : (os.length + 1) * 1 ≤ 140737488355328 := by omega
      by_cases h34 : x = 34
      · have hb34 : ((x.toNat : Int) == 34) = true := by rw [h34]; rfl
        have hr : Hid (unqGo s.data.toList [] = some (os, s.data.toList.drop (k + 1))) := by unfold Hid; rw [hv.out, hd.out, h34]; rfl
        obtain ⟨A3, c3, rfl, hs3⟩ := ho.sl (fun _ h => h.elim)
        have hbackd := fun q => Sl.back (P := Tryz.prog) (src := 50) (dst := 9) Tryz.underlying50 Tryz.underlying5 Tryz.underlying9 (hs3.keep (.drewN _ wr q))
        clear h34
        have hw1 : IntKind.i64.wrap ((k : Int) + 1) = (k : Int) + 1 := IntWalk.i64_in _ (by omega)
        have hw2 : (0 : Int) ≤ (k : Int) + 1 := by omega
        have hw3 : ((k : Int) + 1).toNat = k + 1 := by omega
        have hw4 : (k : Int) + 1 ≤ (s.size : Int) := by omega
        have hw5 : k + 1 ≤ s.size := by omega
        go_wp2
        go_quiet (fail)
        go_wp2
        go_ret3
        refine ⟨?_, hbl.draws _⟩
        rw [hr.out, extract_drop]; rfl
      · have hb34 : ((x.toNat : Int) == 34) = false := by have := byte_eq (x := x) (n := 34) (by omega); rw [show ((34 : Nat) : Int) = 34 from rfl] at this; rw [this]; simpa using h34
        by_cases h92 : x = 92
        · have hb92 : ((x.toNat : Int) != 92) = false := by rw [h92]; rfl
          have hw1 : IntKind.i64.wrap ((k : Int) + 1) = (k : Int) + 1 := IntWalk.i64_in _ (by omega)
          by_cases hlt2 : k + 1 < s.size
          · obtain ⟨y, hy⟩ : ∃ y, s.data.toList[k + 1]? = some y := ⟨_, List.getElem?_eq_getElem (by rw [hlen.out]; exact hlt2)⟩
            have hsk2 : s[k + 1]'hlt2 = y := by
              have h2 := hy
              rw [List.getElem?_eq_getElem (by rw [hlen.out]; exact hlt2)] at h2
              injection h2
            have hd2 := Lib.hid (drop_cons hy)
            clear hy
            have hlti : (k : Int) + 1 < (s.size : Int) := by omega
            by_cases h110 : y = 110
            · have hb110 : ((y.toNat : Int) == 110) = true := by rw [h110]; rfl
              have hv2 : Hid (unqGo s.data.toList [] = unqGo (s.data.toList.drop (k + 2)) (os ++ [10])) := by
                unfold Hid; rw [hv.out, hd.out, hd2.out, h92, h110]
                rw [unqGo.eq_def]; rfl
              clear h34 h92 h110
              go_wp2_with (at_builtin; refine wpList_app1 (α := UInt8) rfl (.tmp 48) (.tmp 49) 50 rfl elemU8 rfl ho (by simp [Act.eval]) (10 : UInt8) rfl hM hsz hbl.size ?_; intro v' w' ho' hb' hk')
              go_roundw
              case rel => exact ⟨k + 2, os ++ [10], by omega, by simp; omega, by go_num, ho', hbl.trans hb', hv2⟩
              case measure => simp [intOf]; omega
            · have hb110 : ((y.toNat : Int) == 110) = false := by have := byte_eq (x := y) (n := 110) (by omega); rw [show ((110 : Nat) : Int) = 110 from rfl] at this; rw [this]; simpa using h110
              have hv2 : Hid (unqGo s.data.toList [] = unqGo (s.data.toList.drop (k + 2)) (os ++ [y])) := by
                unfold Hid; rw [hv.out, hd.out, hd2.out, h92]
                rw [unqGo.eq_def]
                show unqGo _ (os ++ [if y = 110 then 10 else y]) = _
                rw [if_neg h110]
              clear h34 h92 h110
              go_wp2_with (at_builtin; refine wpList_app1 (α := UInt8) rfl (.tmp 59) (.tmp 64) 50 rfl elemU8 rfl ho (by simp [Act.eval]) y rfl hM hsz hbl.size ?_; intro v' w' ho' hb' hk')
              go_roundw
              case rel => exact ⟨k + 2, os ++ [y], by omega, by simp; omega, by go_num, ho', hbl.trans hb', hv2⟩
              case measure => simp [intOf]; omega
          · have hr : Hid (unqGo s.data.toList [] = none) := by
              unfold Hid; rw [hv.out, hd.out, h92, List.drop_eq_nil_of_le (by rw [hlen.out]; omega)]
              rw [unqGo.eq_def]; rfl
            have hlti : ¬ (k : Int) + 1 < (s.size : Int) := by omega
            clear h34 h92
            go_wp2
            go_ret3
            exact ⟨by rw [hr.out]; rfl, hbl⟩
        · have hb92 : ((x.toNat : Int) != 92) = true := by
            have := byte_eq (x := x) (n := 92) (by omega)
            rw [show ((92 : Nat) : Int) = 92 from rfl] at this
            rw [bne, this]; simpa using h92
          have hv2 : Hid (unqGo s.data.toList [] = unqGo (s.data.toList.drop (k + 1)) (os ++ [x])) := by
            unfold Hid; rw [hv.out, hd.out]; exact unqGo_plain _ _ h34 h92
          clear h34 h92
          go_wp2_with (at_builtin; refine wpList_app1 (α := UInt8) rfl (.tmp 29) (.tmp 33) 50 rfl elemU8 rfl ho (by simp [Act.eval]) x rfl hM hsz hbl.size ?_; intro v' w' ho' hb' hk')
          go_roundw
          case rel => exact ⟨k + 1, os ++ [x], by omega, by simp; omega, by go_num, ho', hbl.trans hb', hv2⟩
          case measure => simp [intOf]; omega
    · have hr : Hid (unqGo s.data.toList [] = none) := by
        unfold Hid; rw [hv.out, List.drop_eq_nil_of_le (by rw [hlen.out]; omega)]
        rw [unqGo.eq_def]
      go_wp2
      go_ret3
      exact ⟨by rw [hr.out]; rfl, hbl⟩
end Go.Proofs.YtfciagcmggdldaaGreatDoor
