/-
  index.Or, index.Not and the closed fact 'indexes'.
-/
import Derived.Test.YtflfgeaggknpaaaDel
import Derived.Test.YtflfgeaggknpaaaConcatInt
namespace Go.Proofs.Ytflfgeaggknpaaa
open Go.RowKit

set_option maxRecDepth 100000 in
theorem or_calls (A B : Option Addr) (n c m d : Nat) (zs ys : List Int) (w : World) (M : Nat → Prop) (hM : ∀ k, M k → k < w.heap.size) (hl : Sl w M A n c zs) (hl' : Sl w M B m d ys) (hn : (n + m) * 8 ≤ 140737488355328) :
    Calls Try.prog 10 #[.slice A n c, .slice B m d] w fun e w' => ∃ v', e = .returned v' ∧ Own w' M w.heap.size 3 v' (setOf (zs ++ ys)) ∧ Below w.heap.size w w' := by
  have e1 := hl.len
  have e2 := hl'.len
  have hsz : [zs, ys].flatten.length * 8 ≤ 140737488355328 := by simp; omega
  have hcc : Sl (w.alloc (.cells #[.slice A n c, .slice B m d] 29)) M (some ⟨w.heap.size, 0, none⟩) [zs, ys].length [zs, ys].length [zs, ys] := by
    refine Sl.newN (α := List Int) (css := [[.slice A n c], [.slice B m d]]) hM rfl (fun i y cs hy hc => ?_) rfl (by unfold maxLen; simp) _
    match i with
    | 0 => simp at hy hc; subst hy; subst hc; exact ⟨_, rfl, hl.v⟩
    | 1 => simp at hy hc; subst hy; subst hc; exact ⟨_, rfl, hl'.v⟩
    | k + 2 => simp at hy
  have hM2 : ∀ k, M k → k < (w.alloc (.cells #[.slice A n c, .slice B m d] 29)).heap.size := fun k hk => by have := hM k hk; simp; omega
  clear e1 e2
  go_enter Try.func10, Try.ntmps10
  go_wp2_with (go_at_call 22; refine (concatInt_calls _ _ _ _ _ _ hcc hsz).mono ?_; rintro e w2 ⟨v2, rfl, ho2, hb2⟩)
  obtain ⟨A2, c2, rfl, hs2⟩ := ho2.sl hM2
  go_wp2_with (go_at_call 21; refine (set_calls _ _ _ _ _ _ hs2 hsz).mono ?_; rintro e w3 ⟨v3, rfl, ho3, hb3⟩)
  go_ret
  have hb := ((Below.refl w.heap.size w).new (.cells #[.slice A n c, .slice B m d] 29)).call hb2
  exact ⟨v3, rfl, by simpa using ho3.from_ hb.size, hb.call hb3⟩

theorem setOf_two : (setOf [1, 2]).length = 2 := by
  have hm := mem_setOf [1, 2]
  have hr := setOf_rises [1, 2]
  generalize setOf [1, 2] = l at *
  have h1 := (hm 1).2 (by simp)
  have h2 := (hm 2).2 (by simp)
  match l with
  | [] => cases h1
  | [a] => simp at h1 h2; omega
  | [a, b] => rfl
  | a :: b :: c :: r =>
    have ha := (hm a).1 (by simp)
    have hb := (hm b).1 (by simp)
    have hc := (hm c).1 (by simp)
    simp at ha hb hc hr
    omega

set_option maxRecDepth 100000 in
theorem indexes_calls (w : World) : Calls Try.prog 4 #[] w fun e w' => e = .returned (.bool true) ∧ Below w.heap.size w w' := by
  have h1 : ∀ w : World, Sl (w.alloc (.cells #[.int .i64 1] 3)) (fun _ => False) (some ⟨w.heap.size, 0, none⟩) 1 1 [(1 : Int)] := fun w => Sl.new (y := (1 : Int)) (ca := #[.int .i64 1]) (fun _ h => h.elim) (show Rep.rep (α := Int) w (fun _ => False) [.int .i64 1] 1 from ⟨rfl, by decide, by decide⟩) _
  have h2 : ∀ w : World, Sl (w.alloc (.cells #[.int .i64 2] 3)) (fun _ => False) (some ⟨w.heap.size, 0, none⟩) 1 1 [(2 : Int)] := fun w => Sl.new (y := (2 : Int)) (ca := #[.int .i64 2]) (fun _ h => h.elim) (show Rep.rep (α := Int) w (fun _ => False) [.int .i64 2] 2 from ⟨rfl, by decide, by decide⟩) _
  have h12 := (h1 w).keep (.alloc _ _ (.cells #[.int .i64 2] 3))
  have h22 := h2 (w.alloc (.cells #[.int .i64 1] 3))
  rw [show (w.alloc (.cells #[.int .i64 1] 3)).heap.size = w.heap.size + 1 by simp] at h22
  have hlen := Lib.hid setOf_two
  clear h1 h2
  go_enter Try.func4, Try.ntmps4
  go_wp2_with (go_at_call 10; refine (or_calls _ _ _ _ _ _ _ _ _ _ (fun _ h => h.elim) h12 h22 (by decide)).mono ?_; rintro e w2 ⟨v2, rfl, ho2, hb2⟩; obtain ⟨A2, c2, rfl⟩ := ho2.form; rw [show [(1 : Int)] ++ [2] = [1, 2] from rfl, hlen.out])
  go_ret
  exact ⟨rfl, (((Below.refl _ _).new _).new _).call hb2⟩
end Go.Proofs.Ytflfgeaggknpaaa
