/-
  slices.Clone at []gaugehousekeep.Put.
-/
import Derived.Test.YtfciagcmggdldaaGreatDoorStoreD
import Derived.Test.YtfciagcmggdldaaGreatDoorProg
namespace Go.Proofs.YtfciagcmggdldaaGreatDoor
open Go.RowKit

theorem elemPut : Elem Tryz.prog 22 29 (Rep.size PutD) 40 := by
  have h : (Tryz.prog.info? 29).map (fun i => (i.zero, i.size, i.bytes)) = some (some (.agg #[.slice none 0 0, .int .i64 0, .int .i64 0]), Rep.size PutD, 40) := by kernel_rfl
  obtain ⟨i, hi, hz0, hz1, hz2⟩ := info_parts h
  exact ⟨Tryz.underlying22, i, _, hi, hz0, hz1, hz2, rfl, by decide, by decide⟩

set_option maxRecDepth 100000 in
theorem clonePut_calls (A : Option Addr) (n c : Nat) (l : List PutD) (w : World) (M : Nat → Prop) (hl : Sl w M A n c l) (hn : n * 40 ≤ 140737488355328) :
    Calls Tryz.prog 8 #[.slice A n c] w fun e w' => ∃ v', e = .returned v' ∧ Own w' M w.heap.size 29 v' l ∧ Below w.heap.size w w' := by
  cases A with
  | none =>
    have hc := hl.2.2.2.1 rfl
    have hn0 : n = 0 := by have := hl.2.1; omega
    subst hn0
    subst hc
    obtain rfl : l = [] := List.eq_nil_of_length_eq_zero hl.len
    have heq := fun W => Lib.run_eql_slice_nil (P := Tryz.prog) W 22 29 none 0 0 0 0 Tryz.underlying22
    go_enter Tryz.func8, Tryz.ntmps8
    go_wp2
    go_ret
    exact ⟨_, rfl, Own.nil _ _ _ _, Below.refl _ _⟩
  | some a =>
    have ho : Own (w.alloc (.cells #[] 29)) M w.heap.size 29 (.slice (some ⟨w.heap.size, 0, none⟩) 0 0) ([] : List PutD) :=
      ⟨[], rfl, by simp, World.ownsRow_made w #[] 0 (Nat.le_refl _) (Nat.zero_le _) rfl⟩
    have hs : Sl (w.alloc (.cells #[] 29)) (mOr M (.slice (some ⟨w.heap.size, 0, none⟩) 0 0)) (some a) n c l := hl.keep (Keep.own_new ((Below.refl _ _).new _) ho)
    have hsz : (([] : List PutD).length + n) * 40 ≤ 140737488355328 := by simpa using hn
    have heq := fun W => Lib.run_eql_slice_nil (P := Tryz.prog) W 22 29 (some a) n c 0 0 Tryz.underlying22
    go_enter Tryz.func8, Tryz.ntmps8
    go_wp2_with (at_builtin; refine wpList_app (α := PutD) rfl (.tmp 5) (.tmp 6) 22 rfl elemPut _ _ rfl ho l _ _ _ rfl hs hsz (by simp) ?_; intro v' w' ho' hg' hk')
    go_ret
    exact ⟨v', rfl, by simpa using ho', ((Below.refl _ _).new _).grown hg' (by simp) (fun k hk => by cases hk; exact Nat.le_refl _)⟩
end Go.Proofs.YtfciagcmggdldaaGreatDoor
