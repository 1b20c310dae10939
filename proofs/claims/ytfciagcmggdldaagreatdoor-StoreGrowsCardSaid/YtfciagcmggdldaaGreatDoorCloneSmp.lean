/-
  slices.Clone at []api.Sample.
-/
import Derived.Test.YtfciagcmggdldaaGreatDoorData
import Derived.Test.YtfciagcmggdldaaGreatDoorProg
namespace Go.Proofs.YtfciagcmggdldaaGreatDoor
open Go.RowKit

theorem elemSmp : Elem Tryz.prog 40 27 (Rep.size Smp) 16 := by
  have h : (Tryz.prog.info? 27).map (fun i => (i.zero, i.size, i.bytes)) = some (some (.agg #[.int .i64 0, .int .i64 0]), Rep.size Smp, 16) := by kernel_rfl
  obtain ⟨i, hi, hz0, hz1, hz2⟩ := info_parts h
  exact ⟨Tryz.underlying40, i, _, hi, hz0, hz1, hz2, rfl, by decide, by decide⟩

set_option maxRecDepth 100000 in
theorem cloneSmp_calls (A : Option Addr) (n c : Nat) (l : List Smp) (w : World) (M : Nat → Prop) (hl : Sl w M A n c l) (hn : n * 16 ≤ 140737488355328) :
    Calls Tryz.prog 31 #[.slice A n c] w fun e w' => ∃ v', e = .returned v' ∧ Own w' M w.heap.size 27 v' l ∧ Below w.heap.size w w' := by
  cases A with
  | none =>
    have hc := hl.2.2.2.1 rfl
    have hn0 : n = 0 := by have := hl.2.1; omega
    subst hn0
    subst hc
    obtain rfl : l = [] := List.eq_nil_of_length_eq_zero hl.len
    have heq := fun W => Lib.run_eql_slice_nil (P := Tryz.prog) W 40 27 none 0 0 0 0 Tryz.underlying40
    go_enter Tryz.func31, Tryz.ntmps31
    go_wp2
    go_ret
    exact ⟨_, rfl, Own.nil _ _ _ _, Below.refl _ _⟩
  | some a =>
    have ho : Own (w.alloc (.cells #[] 27)) M w.heap.size 27 (.slice (some ⟨w.heap.size, 0, none⟩) 0 0) ([] : List Smp) :=
      ⟨[], rfl, by simp, World.ownsRow_made w #[] 0 (Nat.le_refl _) (Nat.zero_le _) rfl⟩
    have hs : Sl (w.alloc (.cells #[] 27)) (mOr M (.slice (some ⟨w.heap.size, 0, none⟩) 0 0)) (some a) n c l := hl.keep (Keep.own_new ((Below.refl _ _).new _) ho)
    have hsz : (([] : List Smp).length + n) * 16 ≤ 140737488355328 := by simpa using hn
    have heq := fun W => Lib.run_eql_slice_nil (P := Tryz.prog) W 40 27 (some a) n c 0 0 Tryz.underlying40
    go_enter Tryz.func31, Tryz.ntmps31
    go_wp2_with (at_builtin; refine wpList_app (α := Smp) rfl (.tmp 5) (.tmp 6) 40 rfl elemSmp _ _ rfl ho l _ _ _ rfl hs hsz (by simp) ?_; intro v' w' ho' hg' hk')
    go_ret
    exact ⟨v', rfl, by simpa using ho', ((Below.refl _ _).new _).grown hg' (by simp) (fun k hk => by cases hk; exact Nat.le_refl _)⟩
end Go.Proofs.YtfciagcmggdldaaGreatDoor
