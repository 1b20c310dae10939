/-
  buildOnce, NewReplacer.
-/
import Derived.Test.YtfciagcmggdldaaGreatDoorRepl
namespace Go.Proofs.YtfciagcmggdldaaGreatDoor
open Go.RowKit

def sixAt (w : World) (o : Nat) : Prop := w.cell? ⟨o, 0, none⟩ = some (.string ⟨#[92]⟩) ∧ w.cell? ⟨o, 1, none⟩ = some (.string ⟨#[92, 92]⟩) ∧ w.cell? ⟨o, 2, none⟩ = some (.string ⟨#[34]⟩) ∧
  w.cell? ⟨o, 3, none⟩ = some (.string ⟨#[92, 34]⟩) ∧ w.cell? ⟨o, 4, none⟩ = some (.string ⟨#[10]⟩) ∧ w.cell? ⟨o, 5, none⟩ = some (.string ⟨#[92, 110]⟩)

theorem block_cells {w : World} {b : Nat} {cs : Array Value} {t : TypeId} (h : w.heap[b]? = some (.cells cs t (0, 0))) (i : Nat) (hi : i < cs.size) : w.cell? ⟨b, i, none⟩ = some cs[i] ∧ w.frozen? ⟨b, i, none⟩ = false :=
  ⟨by simp [World.cell?, h, hi], by simp [World.frozen?, h]⟩

set_option maxRecDepth 100000 in
set_option maxHeartbeats 2000000 in
theorem buildOnce_calls (b o c : Nat) (w : World) (hb : w.heap[b]? = some (.cells #[.int .u32 0, .int .i32 1, .int .u32 0, .nilIface, .slice (some ⟨o, 0, none⟩) 6 c] 183 (0, 0))) (ho : sixAt w o) :
    Calls Tryz.prog 108 #[.pointer (some ⟨b, 0, none⟩)] w fun e w' => e = .returned (.tuple #[]) ∧ (w.grownBy w' (some b) ∧ w'.heap[b]? = some (.cells #[.int .u32 0, .int .i32 1, .int .u32 0, .iface 218 (.pointer (some ⟨w.heap.size + 1, 0, none⟩)), .slice none 0 0] 183 (0, 0)) ∧
      ∃ v, BsIs w' w.heap.size (w.heap.size + 1) v (bsF 3) (bsT 3)) := by
  obtain ⟨s0, s1, s2, s3, s4, s5⟩ := ho
  have hlt : b < w.heap.size := (Array.getElem?_eq_some_iff.1 hb).1
  have h4 := (block_cells hb 4 (by simp)).1
  go_enter Tryz.func108, Tryz.ntmps108
  go_wp2_with fail
  refine (build_calls b o c w h4 s0 s1 s2 s3 s4 s5).mono ?_
  rintro e w2 ⟨hb2, v, rfl, hI⟩
  have hb2' := (hb2.block b hlt).trans hb
  obtain ⟨c3, f3⟩ := block_cells hb2' 3 (by simp)
  obtain ⟨c4, f4⟩ := block_cells hb2' 4 (by simp)
  have g1 := grown_setCell w2 b 3 (.iface 218 (.pointer (some ⟨w.heap.size + 1, 0, none⟩)))
  have g2 := grown_setCell (w2.setCell ⟨b, 3, none⟩ (.iface 218 (.pointer (some ⟨w.heap.size + 1, 0, none⟩)))) b 4 (.slice none 0 0)
  have h5 := heap_setCell_of (heap_setCell_of hb2' 3 (.iface 218 (.pointer (some ⟨w.heap.size + 1, 0, none⟩)))) 4 (.slice none 0 0)
  have hI5 := Lib.hid ((hI.grown g1 hlt).grown g2 hlt)
  have g5 := World.grownBy.trans (World.grownBy.trans (⟨hb2.os, hb2.tape, hb2.output, hb2.size, fun k hk _ => hb2.block k hk⟩ : w.grownBy w2 (some b)) g1) g2
  have h5 := Lib.hid h5
  have g5 := Lib.hid g5
  clear g1 g2
  go_wp2
  go_end0
  exact ⟨rfl, g5.out, by simpa using h5.out, v, hI5.out⟩

theorem Sl.cell_str {w : World} {M : Nat → Prop} {g n c : Nat} {xs : List ByteArray} (h : Sl w M (some ⟨g, 0, none⟩) n c xs) {k : Nat} {x : ByteArray} (hx : xs[k]? = some x) : w.cell? ⟨g, k, none⟩ = some (.string x) := by
  have hk := (List.getElem?_eq_some_iff.1 hx).1
  have hl := h.len
  obtain ⟨b, off, l, e, hl2, hc, _⟩ := h.str (k := k) (by omega)
  rw [hx] at hl2
  injection hl2 with hl2
  simp only [Option.some.injEq, Addr.mk.injEq] at e
  obtain ⟨rfl, rfl, _⟩ := e
  rw [hl2]
  simpa using hc
theorem six_of_sl {w : World} {M : Nat → Prop} {g c : Nat} (h : Sl w M (some ⟨g, 0, none⟩) 6 c escOld) : sixAt w g :=
  ⟨h.cell_str (k := 0) rfl, h.cell_str (k := 1) rfl, h.cell_str (k := 2) rfl, h.cell_str (k := 3) rfl, h.cell_str (k := 4) rfl, h.cell_str (k := 5) rfl⟩
theorem six_of {w : World} {base : Nat} {v : Value} (h : Own w (fun _ => False) base 9 v ([] ++ escOld)) : ∃ g c, v = .slice (some ⟨g, 0, none⟩) 6 c ∧ sixAt w g := by
  obtain ⟨A, c, e, hs⟩ := h.sl (fun _ h => h.elim)
  obtain ⟨css, h1, h2, hl, h3⟩ := h
  rcases h3 with ⟨_, hn⟩ | ⟨g, cap, cur, rfl, hr⟩
  · cases hn
  · cases e
    exact ⟨g, _, rfl, six_of_sl hs⟩
theorem sixAt.keep {w w' : World} {g : Nat} (h : sixAt w g) (hb : ∀ k u, w.cell? ⟨g, k, none⟩ = some u → w'.cell? ⟨g, k, none⟩ = some u) : sixAt w' g :=
  ⟨hb _ _ h.1, hb _ _ h.2.1, hb _ _ h.2.2.1, hb _ _ h.2.2.2.1, hb _ _ h.2.2.2.2.1, hb _ _ h.2.2.2.2.2⟩

set_option maxRecDepth 100000 in
set_option maxHeartbeats 2000000 in
theorem newReplacer_calls (o : Nat) (w : World) (ho : Sl w (fun _ => False) (some ⟨o, 0, none⟩) 6 6 escOld) :
    Calls Tryz.prog 88 #[.slice (some ⟨o, 0, none⟩) 6 6] w fun e w' => Below w.heap.size w w' ∧ ∃ b o' c, e = .returned (.pointer (some ⟨b, 0, none⟩)) ∧ w.heap.size ≤ b ∧ o' ≠ b ∧ sixAt w' o' ∧
      w'.heap[b]? = some (.cells #[.int .u32 0, .int .i32 0, .int .u32 0, .nilIface, .slice (some ⟨o', 0, none⟩) 6 c] 183 (0, 0)) := by
  have hsz : (([] : List ByteArray).length + 6) * 16 ≤ 140737488355328 := by decide
  have hs : Sl w (mOr (fun _ => False) (.slice none 0 0)) (some ⟨o, 0, none⟩) 6 6 escOld := by rw [mOr_nil]; exact ho
  go_enter Tryz.func88, Tryz.ntmps88
  go_wp2_with (at_builtin; refine wpList_app (α := ByteArray) rfl (.const (.slice none 0 0)) (.tmp 8) 62 rfl elemStr (.slice none 0 0) [] rfl (Own.nil w (fun _ => False) w.heap.size 9) escOld _ 6 6 rfl hs hsz (Nat.le_refl _) ?_; intro v' w' ho' hg' hk'; obtain ⟨g, c, rfl, hsix⟩ := six_of ho')
  have hb : Below w.heap.size w w' := ⟨hg'.os, hg'.tape, hg'.output, hg'.size, fun k hk => hg'.block k hk (by simp [Value.ownBlock])⟩
  go_ret
  refine ⟨hb.new _, w'.heap.size, g, c, rfl, hb.size, Nat.ne_of_lt (World.block_lt_of_cell? w' _ hsix.1), ?_, ?_⟩
  · exact hsix.keep fun k u hu => ((Below.refl w'.heap.size w').new _ |>.cell (p := ⟨g, k, none⟩) (World.block_lt_of_cell? w' _ hu)).trans hu
  · exact heap_alloc_new w' _

end Go.Proofs.YtfciagcmggdldaaGreatDoor
