/-
  A disk in memory; log.New, Append, Sync.
-/
import Derived.Test.YtfciagcmggdldaaGreatDoorFrame
import Derived.Test.YtfciagcmggdldaaGreatDoorText
namespace Go.Proofs.YtfciagcmggdldaaGreatDoor
open Go.RowKit

/-- What has gone on: blocks of w that are not in F are as they were, and not in F' either. -/
structure Went (F : Nat → Prop) (w w' : World) (F' : Nat → Prop) : Prop where
  os : w'.os = w.os
  tape : w'.tape = w.tape
  output : w'.output = w.output
  size : w.heap.size ≤ w'.heap.size
  keep : Keep F w w' F'

section
variable {F F' F'' : Nat → Prop} {w w' w'' : World} {B : Nat}
theorem Went.refl (F : Nat → Prop) (w : World) : Went F w w F := ⟨rfl, rfl, rfl, Nat.le_refl _, Keep.refl F w⟩
theorem Went.trans (h : Went F w w' F') (g : Went F' w' w'' F'') : Went F w w'' F'' := ⟨g.os.trans h.os, g.tape.trans h.tape, g.output.trans h.output, Nat.le_trans h.size g.size, h.keep.trans g.keep⟩
theorem Went.of_below (h : Below w.heap.size w w') (F : Nat → Prop) : Went F w w' F := ⟨h.os, h.tape, h.output, h.size, .of_below h F⟩
theorem Went.below (h : Went F w w' F') (hF : ∀ k, F k → B ≤ k) (hB : B ≤ w.heap.size) : Below B w w' :=
  ⟨h.os, h.tape, h.output, h.size, fun k hk => (h.keep k (Nat.lt_of_lt_of_le hk hB) (fun hf => by have := hF k hf; omega)).1⟩
theorem Went.mono (h : Went F w w' F') {G G' : Nat → Prop} (hG : ∀ k, F k → G k) (hG' : ∀ k, k < w.heap.size → ¬ G k → ¬ G' k) : Went G w w' G' :=
  ⟨h.os, h.tape, h.output, h.size, fun k hk hn => ⟨(h.keep k hk (fun hf => hn (hG k hf))).1, hG' k hk hn⟩⟩
end

theorem heap_setCell_at {w : World} {X : Nat} {cs : Array Value} {t : TypeId} {fz : Nat × Nat} (h : w.heap[X]? = some (.cells cs t fz)) (i : Nat) (u : Value) : (w.setCell ⟨X, i, none⟩ u).heap[X]? = some (.cells (cs.setIfInBounds i u) t fz) := by
  simp [World.setCell, Array.getElem?_modify, h]
theorem setCell_grown (w : World) (X i : Nat) (u : Value) : w.grownBy (w.setCell ⟨X, i, none⟩ u) (some X) :=
  ⟨rfl, rfl, rfl, by simp [World.setCell], fun k _ hne => by simp [World.setCell, Array.getElem?_modify, show ¬ X = k from fun e => hne (by rw [e])]⟩

section
variable {w w' : World} {M M' : Nat → Prop} {base : Nat} {e : TypeId} {v : Value} {xs : List UInt8}
/-- Bytes read no other block. -/
theorem Own.anyU8 (h : Own w M base e v xs) : Own w M' base e v xs := by
  obtain ⟨css, h1, h2, h3⟩ := h
  exact ⟨css, h1, fun i x cs hx hc => h2 i x cs hx hc, h3⟩
theorem Own.grownU8 {row : Option Nat} (h : Own w M base e v xs) (hg : w.grownBy w' row) (hr : ∀ b, row = some b → v.ownBlock ≠ some b) : Own w' M' base e v xs := by
  obtain ⟨css, h1, h2, h3⟩ := h
  refine ⟨css, h1, fun i x cs hx hc => h2 i x cs hx hc, h3.kept hg ?_⟩
  cases hv : v.ownBlock with
  | none => simp
  | some b =>
    right
    intro e
    exact hr b e.symm hv
end
theorem Went.of_grown {w w' : World} {row : Option Nat} (h : w.grownBy w' row) (F : Nat → Prop) (hr : ∀ k, row = some k → F k) : Went F w w' F := ⟨h.os, h.tape, h.output, h.size, .of_grown h F hr⟩

def Dset (d : Nat) (v : Value) : Nat → Prop := fun k => k = d ∨ v.ownBlock = some k

/-- A disk: its struct at block d, its bytes in a row of its own. -/
structure DiskIn (w : World) (B d : Nat) (v : Value) (bs : List UInt8) (safe : Nat) : Prop where
  x : w.heap[d]? = some (.cells #[v, .int .i64 safe] 109 (0, 0))
  hd : B ≤ d
  own : Own w (fun _ => False) B 5 v bs
  vd : v.ownBlock ≠ some d

section
variable {w w' : World} {B d safe : Nat} {v : Value} {bs : List UInt8}
theorem DiskIn.lt (h : DiskIn w B d v bs safe) : d < w.heap.size := (Array.getElem?_eq_some_iff.1 h.x).1
theorem DiskIn.set_ge (h : DiskIn w B d v bs safe) : ∀ k, Dset d v k → B ≤ k := fun k hk => hk.elim (fun e => by rw [e]; exact h.hd) (fun e => (h.own.lt k e).1)
theorem DiskIn.set_lt (h : DiskIn w B d v bs safe) : ∀ k, Dset d v k → k < w.heap.size := fun k hk => hk.elim (fun e => by rw [e]; exact h.lt) (fun e => (h.own.lt k e).2)
theorem DiskIn.below (h : DiskIn w B d v bs safe) (hb : Below w.heap.size w w') : DiskIn w' B d v bs safe := ⟨(hb.block d h.lt).trans h.x, h.hd, h.own.below hb, h.vd⟩
/-- Another row may have changed. -/
theorem DiskIn.keep {F F' : Nat → Prop} (h : DiskIn w B d v bs safe) (hk : Went F w w' F') (hF : ∀ k, Dset d v k → ¬ F k) : DiskIn w' B d v bs safe := by
  refine ⟨(hk.keep d h.lt (hF d (.inl rfl))).1.trans h.x, h.hd, ?_, h.vd⟩
  obtain ⟨css, h1, h2, h3⟩ := h.own
  refine ⟨css, h1, fun i x cs hx hc => h2 i x cs hx hc, ?_⟩
  refine ⟨h3.1, ?_⟩
  rcases h3.2 with h4 | ⟨g, cap, cur, hv, hg, hh, r⟩
  · exact .inl h4
  · refine .inr ⟨g, cap, cur, hv, hg, ?_, r⟩
    have hgl : g < w.heap.size := (Array.getElem?_eq_some_iff.1 hh).1
    exact (hk.keep g hgl (hF g (.inr (by rw [hv]; rfl)))).1.trans hh
theorem DiskIn.cells (h : DiskIn w B d v bs safe) : w.cell? ⟨d, 0, none⟩ = some v ∧ w.cell? ⟨d, 1, none⟩ = some (.int .i64 safe) ∧ w.frozen? ⟨d, 0, none⟩ = false ∧ w.frozen? ⟨d, 1, none⟩ = false :=
  ⟨by simp [World.cell?, h.x], by simp [World.cell?, h.x], by simp [World.frozen?, h.x], by simp [World.frozen?, h.x]⟩
end

set_option maxRecDepth 100000 in
theorem logNew_calls (w : World) : Calls Tryz.prog 50 #[] w fun e w' => e = .returned (.pointer (some ⟨w.heap.size, 0, none⟩)) ∧ w' = w.alloc (.cells #[.slice none 0 0, .int .i64 0] 109) := by
  go_enter Tryz.func50, Tryz.ntmps50
  go_wp2
  go_ret
  exact ⟨rfl, rfl⟩

theorem frameB_len {bs : List UInt8} (h : bs.length ≤ 2000) : (frameB bs).length ≤ bs.length + 18 := by
  have h1 := frameL_len sum8_len bs
  have h2 := putU_len bs.length 10 (by omega) (by omega)
  show (frameL sum8 bs).length ≤ _
  omega

set_option maxRecDepth 100000 in
set_option maxHeartbeats 1000000 in
theorem append_calls (A : Option Addr) (n c B d safe : Nat) (v : Value) (bs rec : List UInt8) (w : World) (M : Nat → Prop) (hM : ∀ k, M k → k < w.heap.size) (hs : Sl w M A n c rec) (hn : n ≤ 2000) (hD : DiskIn w B d v bs safe) (hb : bs.length ≤ 30000) (hB : B ≤ w.heap.size) :
    Calls Tryz.prog 35 #[.pointer (some ⟨d, 0, none⟩), .slice A n c] w fun e w' =>
      (30000 < bs.length + (frameB rec).length ∧ e = .returned (.int .i64 9) ∧ Below w.heap.size w w') ∨
      (¬ 30000 < bs.length + (frameB rec).length ∧ e = .returned (.int .i64 0) ∧ ∃ v', DiskIn w' B d v' (bs ++ frameB rec) safe ∧ Went (Dset d v) w w' (Dset d v')) := by
  have hfr := Lib.hid (frame_calls A n c rec w M hM hs hn)
  have hlen := frameB_len (bs := rec) (by rw [hs.len]; exact hn)
  rw [hs.len] at hlen
  obtain ⟨fr, hfe⟩ : ∃ fr, Hid (fr = frameB rec) := ⟨_, rfl⟩
  rw [← hfe.out] at hfr hlen ⊢
  clear hfe
  obtain ⟨A0, c0, rfl⟩ := hD.own.form
  go_enter Tryz.func35, Tryz.ntmps35
  go_wp2_with fail
  refine hfr.out.mono ?_
  rintro e w1 ⟨⟨v1, rfl, ho1⟩, hb1⟩
  have hD1 := hD.below hb1
  obtain ⟨g0, g1, f0, f1⟩ := hD1.cells
  obtain ⟨A1, c1, rfl⟩ := ho1.form
  have hw1 : IntKind.i64.wrap ((bs.length : Int) + (fr.length : Int)) = (bs.length : Int) + (fr.length : Int) := IntWalk.i64_in _ (by omega)
  by_cases hbig : 30000 < bs.length + fr.length
  · have hbi : (30000 : Int) < (bs.length : Int) + (fr.length : Int) := by omega
    go_wp2
    go_ret
    exact .inl ⟨hbig, rfl, hb1⟩
  · have hbi : ¬ (30000 : Int) < (bs.length : Int) + (fr.length : Int) := by omega
    have hv0 : ∀ k, (Value.slice A0 bs.length c0).ownBlock = some k → k < w.heap.size := fun k hk => (hD.own.lt k hk).2
    have ho1' : Own w1 (mOr (fun _ => False) (.slice A0 bs.length c0)) w.heap.size 5 (.slice A1 fr.length c1) fr := ho1.anyU8
    obtain ⟨A1', c1', e1, hs1⟩ := ho1'.sl (fun k hk => hk.elim (fun h => h.elim) (hv0 k))
    injection e1 with e1 e2 e3
    subst e1; subst e3
    have hsz : (bs.length + fr.length) * 1 ≤ 140737488355328 := by omega
    have hB1 : B ≤ w1.heap.size := Nat.le_trans hB hb1.size
    have hpost : ∀ (v2 : Value) (w2 : World), Own w2 (fun _ => False) B 5 v2 (bs ++ fr) → w1.grownBy w2 (Value.slice A0 bs.length c0).ownBlock → (v2.ownBlock = (Value.slice A0 bs.length c0).ownBlock ∨ v2.ownBlock = some w1.heap.size) →
        Hid (w2.cell? ⟨d, 0, none⟩ = some (.slice A0 bs.length c0) ∧ w2.frozen? ⟨d, 0, none⟩ = false ∧ DiskIn (w2.setCell ⟨d, 0, none⟩ v2) B d v2 (bs ++ fr) safe ∧ Went (Dset d (.slice A0 bs.length c0)) w (w2.setCell ⟨d, 0, none⟩ v2) (Dset d v2)) := by
      intro v2 w2 ho2 hg2 hk2
      have hx2 : w2.heap[d]? = some (.cells #[.slice A0 bs.length c0, .int .i64 safe] 109 (0, 0)) := (hg2.block d hD1.lt (fun e => hD.vd e.symm)).trans hD1.x
      have hgs := setCell_grown w2 d 0 v2
      have hvd : v2.ownBlock ≠ some d := fun e => hk2.elim (fun e2 => hD.vd (e2 ▸ e)) (fun e2 => by rw [e] at e2; injection e2 with e2; have := hD1.lt; omega)
      refine ⟨by simp [World.cell?, hx2], by simp [World.frozen?, hx2], ⟨?_, hD.hd, ho2.grownU8 hgs (fun b hb => by injection hb with hb; subst hb; exact hvd), hvd⟩, ?_⟩
      · rw [heap_setCell_at hx2]; rfl
      · have k1 : Went (Dset d (.slice A0 bs.length c0)) w w1 (Dset d (.slice A0 bs.length c0)) := Went.of_below hb1 _
        have k2 : Went (Dset d (.slice A0 bs.length c0)) w1 (w2.setCell ⟨d, 0, none⟩ v2) (Dset d (.slice A0 bs.length c0)) := (Went.of_grown hg2 _ (fun k hk => .inr hk)).trans (Went.of_grown hgs _ (fun k hk => by injection hk with hk; exact .inl hk.symm))
        refine ⟨(k1.trans k2).os, (k1.trans k2).tape, (k1.trans k2).output, (k1.trans k2).size, fun k hk hn => ⟨((k1.trans k2).keep k hk hn).1, fun hh => ?_⟩⟩
        rcases hh with hh | hh
        · exact hn (.inl hh)
        · rcases hk2 with e | e
          · exact hn (.inr (e ▸ hh))
          · rw [e] at hh; injection hh with hh; have := hb1.size; omega
    have hpost := Lib.hid hpost
    have ho0 := hD1.own
    clear hv0 hD hD1
    go_wp2_with (at_builtin; refine wpList_app (α := UInt8) rfl (.tmp 30) (.tmp 31) 50 rfl elemU8 (.slice A0 bs.length c0) bs rfl ho0 fr A1 fr.length c1 rfl hs1 hsz hB1 ?_; intro v2 w2 ho2 hg2 hk2; obtain ⟨q0, q1, q2, q3⟩ := (hpost.out v2 w2 ho2 hg2 hk2).out; obtain ⟨A2, c2, rfl⟩ := ho2.form; have q2 := Lib.hid q2; have q3 := Lib.hid q3)
    go_ret
    have q2 := q2.out
    have q3 := q3.out
    rw [List.length_append] at q2 q3
    exact .inr ⟨hbig, rfl, _, q2, q3⟩

set_option maxRecDepth 100000 in
theorem sync_calls (B d safe : Nat) (v : Value) (bs : List UInt8) (w : World) (hD : DiskIn w B d v bs safe) :
    Calls Tryz.prog 51 #[.pointer (some ⟨d, 0, none⟩)] w fun e w' => e = .returned (.tuple #[]) ∧ DiskIn w' B d v bs bs.length ∧ w.grownBy w' (some d) := by
  have hD2 := hD
  obtain ⟨g0, g1, f0, f1⟩ := hD.cells
  obtain ⟨A0, c0, rfl⟩ := hD.own.form
  go_enter Tryz.func51, Tryz.ntmps51
  go_wp2
  go_end0
  have hgs := setCell_grown w d 1 (.int .i64 bs.length)
  refine ⟨rfl, ⟨?_, hD2.hd, hD2.own.grownU8 hgs (fun b hb => by injection hb with hb; subst hb; exact hD2.vd), hD2.vd⟩, hgs⟩
  rw [heap_setCell_at hD2.x]; rfl
end Go.Proofs.YtfciagcmggdldaaGreatDoor
