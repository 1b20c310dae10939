/-
  (*strings.Replacer).Replace the first time; label.quoted.
-/
import Derived.Test.YtfciagcmggdldaaGreatDoorRepl4
namespace Go.Proofs.YtfciagcmggdldaaGreatDoor
open Go.RowKit

theorem method_repl (a : Addr) (w : World) : (method 376 218 (.pointer (some a)) "Replace").run Tryz.prog w = .ok (181, .pointer (some a)) w := by kernel_rfl

set_option maxRecDepth 100000 in
set_option maxHeartbeats 4000000 in
theorem replacer_calls (b o c : Nat) (s : ByteArray) (w : World) (hb : w.heap[b]? = some (.cells #[.int .u32 0, .int .i32 0, .int .u32 0, .nilIface, .slice (some ⟨o, 0, none⟩) 6 c] 183 (0, 0))) (ho : sixAt w o) (hne : o ≠ b) (hs : s.size ≤ 1000) :
    Calls Tryz.prog 89 #[.pointer (some ⟨b, 0, none⟩), .string s] w fun e w' => e = .returned (.string ⟨(s.data.toList.flatMap esc).toArray⟩) ∧ Below b w w' := by
  have hlt : b < w.heap.size := (Array.getElem?_eq_some_iff.1 hb).1
  obtain ⟨c0, _⟩ := block_cells hb 0 (by simp)
  obtain ⟨c1, f1⟩ := block_cells hb 1 (by simp)
  have hb1 := heap_setCell_of hb 1 (.int .i32 1)
  have ho1 : sixAt (w.setCell ⟨b, 1, none⟩ (.int .i32 1)) o := ho.keep fun k u hu => (World.cell?_setCell_other _ _ _ _ (fun e => hne (congrArg Addr.block e).symm)).trans hu
  have hbo := buildOnce_calls b o c (w.setCell ⟨b, 1, none⟩ (.int .i32 1)) (by simpa using hb1) ho1
  have hdo := do_calls b w c0 c1 f1 _ hbo (fun w' ⟨hg, hh, hr⟩ => by
    obtain ⟨d0, e0⟩ := block_cells hh 0 (by simp)
    obtain ⟨d1, e1⟩ := block_cells hh 1 (by simp)
    exact ⟨d0, d1, e0, e1⟩)
  have hdo := Lib.hid hdo
  have hmf : ∀ (fn : Fn) (first cap : Array Value) (w : World), (Instr.makeFunc fn first cap).run Tryz.prog w = .ok (.func fn first cap) w := fun _ _ _ _ => rfl
  clear hbo
  have hmeth := method_repl
  go_enter Tryz.func89, Tryz.ntmps89
  go_wp2_with fail
  refine hdo.out.mono ?_
  rintro e w2 ⟨rfl, w1, ⟨hg, hh, vv, hI⟩, rfl⟩
  have hsz : (w.setCell ⟨b, 1, none⟩ (.int .i32 1)).heap.size = w.heap.size := by simp [World.setCell]
  rw [hsz] at hh hI
  have g0 := grown_setCell w b 1 (.int .i32 1)
  have g2 := grown_setCell w1.drew b 0 (.int .u32 1)
  have g3 := grown_setCell (w1.drew.setCell ⟨b, 0, none⟩ (.int .u32 1)) b 1 (.int .i32 0)
  have hI2 := Lib.hid (((hI.below (w' := w1.drew) ⟨rfl, rfl, rfl, Nat.le_refl _, fun _ _ => rfl⟩).grown g2 hlt).grown g3 hlt)
  have hB : Below b w ((w1.drew.setCell ⟨b, 0, none⟩ (.int .u32 1)).setCell ⟨b, 1, none⟩ (.int .i32 0)) :=
    (((((Below.refl b w).setCell (p := ⟨b, 1, none⟩) (Nat.le_refl b) (.int .i32 1)).grown hg (by simp; omega) (fun k hk => by injection hk with hk; omega)).draws 1).setCell (p := ⟨b, 0, none⟩) (Nat.le_refl b) (.int .u32 1)).setCell (p := ⟨b, 1, none⟩) (Nat.le_refl b) (.int .i32 0)
  have hh3 := heap_setCell_of (heap_setCell_of (w := w1.drew) hh 0 (.int .u32 1)) 1 (.int .i32 0)
  have c3 : ((w1.drew.setCell ⟨b, 0, none⟩ (.int .u32 1)).setCell ⟨b, 1, none⟩ (.int .i32 0)).cell? ⟨b, 3, none⟩ = some (.iface 218 (.pointer (some ⟨w.heap.size + 1, 0, none⟩))) := by
    have := (block_cells hh3 3 (by simp)).1
    simpa using this
  have hlt2 : b ≤ ((w1.drew.setCell ⟨b, 0, none⟩ (.int .u32 1)).setCell ⟨b, 1, none⟩ (.int .i32 0)).heap.size := by have := hI2.out.lt; omega
  generalize (w1.drew.setCell ⟨b, 0, none⟩ (.int .u32 1)).setCell ⟨b, 1, none⟩ (.int .i32 0) = w2 at *
  clear g2 g3 hh3 hsz g0
  have hrep := Lib.hid (repl_calls s _ _ _ w2 hI2.out hs)
  go_wp2_with (go_at_call 181; refine hrep.out.mono ?_; rintro e w3 ⟨rfl, hb3⟩)
  go_ret
  exact ⟨rfl, hB.trans (hb3.mono hlt2)⟩

def escB (s : ByteArray) : ByteArray := ⟨(s.data.toList.flatMap esc).toArray⟩

set_option maxRecDepth 100000 in
set_option maxHeartbeats 4000000 in
theorem quoted_calls (s : ByteArray) (w : World) (hs : s.size ≤ 1000) :
    Calls Tryz.prog 69 #[.string s] w fun e w' => e = .returned (.string (⟨(quotedL s.data.toList).toArray⟩ : ByteArray)) ∧ Below w.heap.size w w' := by
  have h6 : Sl (w.alloc (.cells #[.string ⟨#[92]⟩, .string ⟨#[92, 92]⟩, .string ⟨#[34]⟩, .string ⟨#[92, 34]⟩, .string ⟨#[10]⟩, .string ⟨#[92, 110]⟩] 9)) (fun _ => False) (some ⟨w.heap.size, 0, none⟩) 6 6 escOld :=
    Sl.newN (α := ByteArray) (css := escOld.map fun x => [.string x]) (fun _ h => h.elim) rfl (fun i y cs hy hc => by
      rw [List.getElem?_map, hy] at hc
      simp at hc
      subst hc
      refine ⟨rfl, ?_⟩
      have := List.mem_of_getElem? hy
      simp only [escOld, List.mem_cons, List.not_mem_nil, or_false] at this
      rcases this with rfl | rfl | rfl | rfl | rfl | rfl <;> decide) rfl (by decide) _
  go_enter Tryz.func69, Tryz.ntmps69
  go_wp2_with fail
  refine (newReplacer_calls w.heap.size _ h6).mono ?_
  rintro e w2 ⟨hb2, b, o', c, rfl, hbb, hne, hsix, hblk⟩
  obtain ⟨es, hes⟩ : ∃ es : ByteArray, Hid (es = ⟨(s.data.toList.flatMap esc).toArray⟩) := ⟨_, rfl⟩
  have hrep := replacer_calls b o' c s w2 hblk hsix hne hs
  rw [← hes.out] at hrep
  have hrep := Lib.hid hrep
  have hesz : es.size ≤ 2000 := by
    have h1 : es.size = (s.data.toList.flatMap esc).length := by rw [hes.out]; rfl
    have h2 : s.data.toList.length = s.size := Array.length_toList
    have h3 := List.countP_le_length (p := sp) (l := s.data.toList)
    rw [h1, escs_len]; omega
  have hB2 := ((Below.refl w.heap.size w).new (.cells #[.string ⟨#[92]⟩, .string ⟨#[92, 92]⟩, .string ⟨#[34]⟩, .string ⟨#[92, 34]⟩, .string ⟨#[10]⟩, .string ⟨#[92, 110]⟩] 9)).call hb2
  go_wp2_with (go_at_call 89; refine hrep.out.mono ?_; rintro e w3 ⟨rfl, hb3⟩)
  go_ret
  refine ⟨eq_str ?_, ?_⟩
  · rw [hes.out]
    exact ByteArray.ext (by simp [quotedL])
  · have : w.heap.size ≤ b := by simp at hbb; omega
    exact hB2.trans (hb3.mono this)
end Go.Proofs.YtfciagcmggdldaaGreatDoor
