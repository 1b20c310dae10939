/-
  slices.Clone at []api.Label.
-/
import Derived.Test.YtfciagcmggdldaaGreatDoorData
import Derived.Test.YtfciagcmggdldaaGreatDoorProg
namespace Go.Proofs.YtfciagcmggdldaaGreatDoor
open Go.RowKit

theorem elemLab : Elem Tryz.prog 25 73 (Rep.size Lab) 32 := by
  have h : (Tryz.prog.info? 73).map (fun i => (i.zero, i.size, i.bytes)) = some (some (.agg #[.string ⟨#[]⟩, .string ⟨#[]⟩]), Rep.size Lab, 32) := by kernel_rfl
  obtain ⟨i, hi, hz0, hz1, hz2⟩ := info_parts h
  exact ⟨Tryz.underlying25, i, _, hi, hz0, hz1, hz2, rfl, by decide, by decide⟩

set_option maxRecDepth 100000 in
theorem cloneLab_calls (A : Option Addr) (n c : Nat) (l : List Lab) (w : World) (M : Nat → Prop) (hl : Sl w M A n c l) (hn : n * 32 ≤ 140737488355328) :
    Calls Tryz.prog 30 #[.slice A n c] w fun e w' => ∃ v', e = .returned v' ∧ Own w' M w.heap.size 73 v' l ∧ Below w.heap.size w w' := by
  cases A with
  | none =>
    have hc := hl.2.2.2.1 rfl
    have hn0 : n = 0 := by have := hl.2.1; omega
    subst hn0
    subst hc
    obtain rfl : l = [] := List.eq_nil_of_length_eq_zero hl.len
    have heq := fun W => Lib.run_eql_slice_nil (P := Tryz.prog) W 25 73 none 0 0 0 0 Tryz.underlying25
    go_enter Tryz.func30, Tryz.ntmps30
    go_wp2
    go_ret
    exact ⟨_, rfl, Own.nil _ _ _ _, Below.refl _ _⟩
  | some a =>
    have ho : Own (w.alloc (.cells #[] 73)) M w.heap.size 73 (.slice (some ⟨w.heap.size, 0, none⟩) 0 0) ([] : List Lab) :=
      ⟨[], rfl, by simp, World.ownsRow_made w #[] 0 (Nat.le_refl _) (Nat.zero_le _) rfl⟩
    have hs : Sl (w.alloc (.cells #[] 73)) (mOr M (.slice (some ⟨w.heap.size, 0, none⟩) 0 0)) (some a) n c l := hl.keep (Keep.own_new ((Below.refl _ _).new _) ho)
    have hsz : (([] : List Lab).length + n) * 32 ≤ 140737488355328 := by simpa using hn
    have heq := fun W => Lib.run_eql_slice_nil (P := Tryz.prog) W 25 73 (some a) n c 0 0 Tryz.underlying25
    go_enter Tryz.func30, Tryz.ntmps30
    go_wp2_with (at_builtin; refine wpList_app (α := Lab) rfl (.tmp 5) (.tmp 6) 25 rfl elemLab _ _ rfl ho l _ _ _ rfl hs hsz (by simp) ?_; intro v' w' ho' hg' hk')
    go_ret
    exact ⟨v', rfl, by simpa using ho', ((Below.refl _ _).new _).grown hg' (by simp) (fun k hk => by cases hk; exact Nat.le_refl _)⟩
end Go.Proofs.YtfciagcmggdldaaGreatDoor
