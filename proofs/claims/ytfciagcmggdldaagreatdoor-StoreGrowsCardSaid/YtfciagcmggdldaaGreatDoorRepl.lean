/-
  strings.NewReplacer at the three signs that a label's text escapes, and Replace.
-/
import Derived.Test.YtfciagcmggdldaaGreatDoorOnce
import Derived.Test.YtfciagcmggdldaaGreatDoorData
import Derived.Lib.Strings
import Derived.Deep.MidRow
import Derived.Deep.WholeRow
namespace Go.Proofs.YtfciagcmggdldaaGreatDoor
open Go.RowKit

/-- The signs and what stands for them. -/
def escOld : List ByteArray := [⟨#[92]⟩, ⟨#[92, 92]⟩, ⟨#[34]⟩, ⟨#[92, 34]⟩, ⟨#[10]⟩, ⟨#[92, 110]⟩]

/-- The one element type of a list of strings. -/
theorem elemStr : Elem Tryz.prog 62 9 (Rep.size ByteArray) 16 := by
  have h : (Tryz.prog.info? 9).map (fun i => (i.zero, i.size, i.bytes)) = some (some (.string ⟨#[]⟩), Rep.size ByteArray, 16) := by kernel_rfl
  obtain ⟨i, hi, hz0, hz1, hz2⟩ := info_parts h
  exact ⟨Tryz.underlying62, i, _, hi, hz0, hz1, hz2, rfl, by decide, by decide⟩

theorem heap_setCell_of {w : World} {X : Nat} {cs : Array Value} {t : TypeId} {fz : Nat × Nat} (h : w.heap[X]? = some (.cells cs t fz)) (i : Nat) (u : Value) : (w.setCell ⟨X, i, none⟩ u).heap[X]? = some (.cells (cs.setIfInBounds i u) t fz) := by
  simp [World.setCell, Array.getElem?_modify, h]
theorem grown_setCell (w : World) (X i : Nat) (u : Value) : w.grownBy (w.setCell ⟨X, i, none⟩ u) (some X) :=
  ⟨rfl, rfl, rfl, by simp [World.setCell], fun k _ hne => by simp [World.setCell, Array.getElem?_modify, show ¬ X = k from fun e => hne (by rw [e])]⟩
/-- Many cells of one block stored, one behind the other. -/
theorem heap_setCells {t : TypeId} {fz : Nat × Nat} {X : Nat} : ∀ (vs : List Value) (w : World) (cs : Array Value) (o : Nat), w.heap[X]? = some (.cells cs t fz) → o + vs.length ≤ cs.size →
    ∃ cs', (w.setCells X o vs).heap[X]? = some (.cells cs' t fz) ∧ cs'.size = cs.size ∧ (∀ i, cs'[i]? = if o ≤ i ∧ i < o + vs.length then vs[i - o]? else cs[i]?) ∧ w.grownBy (w.setCells X o vs) (some X)
  | [], w, cs, o, h, _ => ⟨cs, h, rfl, fun i => by rw [if_neg (by simp)], ⟨rfl, rfl, rfl, Nat.le_refl _, fun _ _ _ => rfl⟩⟩
  | v :: r, w, cs, o, h, hl => by
    simp only [List.length_cons] at hl
    obtain ⟨cs', h1, h2, h3, h4⟩ := heap_setCells r (w.setCell ⟨X, o, none⟩ v) (cs.setIfInBounds o v) (o + 1) (heap_setCell_of h o v) (by simp; omega)
    refine ⟨cs', h1, by simpa using h2, fun i => ?_, World.grownBy.trans (grown_setCell w X o v) h4⟩
    rw [h3 i]
    by_cases e : i = o
    · subst e
      rw [if_neg (by omega), if_pos (by simp), Array.getElem?_setIfInBounds_self_of_lt (by omega), Nat.sub_self]; rfl
    · by_cases g : o + 1 ≤ i ∧ i < o + 1 + r.length
      · rw [if_pos g, if_pos (by simp; omega), show i - o = (i - (o + 1)) + 1 by omega]; rfl
      · rw [if_neg g, if_neg (by simp; omega), Array.getElem?_setIfInBounds_ne (fun e2 => e e2.symm)]

/-- What may change beside, or was there before. -/
def bsM (base G : Nat) : Nat → Prop := fun k => k = G ∨ k < base
/-- The struct of the replacements in block G: for each byte its replacement (none: empty), the list of signs in the row v. -/
structure BsIs (w : World) (base G : Nat) (v : Value) (f : Nat → List UInt8) (tl : List ByteArray) : Prop where
  blk : ∃ cs : Array Value, w.heap[G]? = some (.cells cs 217 (0, 0)) ∧ cs.size = 257 ∧ cs[256]? = some v ∧
    ∀ i, i < 256 → (f i = [] → cs[i]? = some (.slice none 0 0)) ∧ (f i ≠ [] → ∃ A c, cs[i]? = some (.slice (some A) (f i).length c) ∧ Sl w (mOr (bsM base G) v) (some A) (f i).length c (f i))
  ltG : base ≤ G
  own : Own w (bsM base G) base 9 v tl
  ne : v.ownBlock ≠ some G

section
variable {w w' : World} {base G : Nat} {v : Value} {f : Nat → List UInt8} {tl : List ByteArray}
theorem BsIs.lt (h : BsIs w base G v f tl) : G < w.heap.size := by
  obtain ⟨cs, h1, _⟩ := h.blk
  exact (Array.getElem?_eq_some_iff.1 h1).1
theorem BsIs.below (h : BsIs w base G v f tl) (hb : Below w.heap.size w w') : BsIs w' base G v f tl where
  blk := by
    obtain ⟨cs, h1, h2, h3, h4⟩ := h.blk
    refine ⟨cs, (hb.block G h.lt).trans h1, h2, h3, fun i hi => ⟨(h4 i hi).1, fun hn => ?_⟩⟩
    obtain ⟨A, c, h5, h6⟩ := (h4 i hi).2 hn
    exact ⟨A, c, h5, h6.below hb⟩
  ltG := h.ltG
  own := h.own.below hb
  ne := h.ne
theorem BsIs.cell_tl (h : BsIs w base G v f tl) : w.cell? ⟨G, 256, none⟩ = some v ∧ w.frozen? ⟨G, 256, none⟩ = false := by
  obtain ⟨cs, h1, _, h3, _⟩ := h.blk
  exact ⟨by simp [World.cell?, h1, h3], by simp [World.frozen?, h1]⟩
theorem BsIs.cell_none (h : BsIs w base G v f tl) {i : Nat} (hi : i < 256) (hf : f i = []) : w.cell? ⟨G, i, none⟩ = some (.slice none 0 0) ∧ w.frozen? ⟨G, i, none⟩ = false := by
  obtain ⟨cs, h1, _, _, h4⟩ := h.blk
  exact ⟨by simp [World.cell?, h1, (h4 i hi).1 hf], by simp [World.frozen?, h1]⟩
theorem BsIs.cell_some (h : BsIs w base G v f tl) {i : Nat} (hi : i < 256) (hf : f i ≠ []) : ∃ b off c, w.cell? ⟨G, i, none⟩ = some (.slice (some ⟨b, off, none⟩) (f i).length c) ∧ Sl w (mOr (bsM base G) v) (some ⟨b, off, none⟩) (f i).length c (f i) := by
  obtain ⟨cs, h1, _, _, h4⟩ := h.blk
  obtain ⟨A, c, h5, h6⟩ := (h4 i hi).2 hf
  obtain ⟨b, off, e, _⟩ := h6.addr (List.length_pos_iff.2 hf)
  injection e with e
  subst e
  exact ⟨b, off, c, by simp [World.cell?, h1, h5], h6⟩

/-- One sign more in the list. -/
theorem BsIs.app (h : BsIs w base G v f tl) {v' : Value} {s : ByteArray} (ho : Own w' (bsM base G) base 9 v' (tl ++ [s])) (hg : w.grownBy w' v.ownBlock) (hat : v'.ownBlock = v.ownBlock ∨ v'.ownBlock = some w.heap.size) :
    BsIs (w'.setCell ⟨G, 256, none⟩ v') base G v' f (tl ++ [s]) := by
  have hne' : v'.ownBlock ≠ some G := fun e => hat.elim (fun e2 => h.ne (e2 ▸ e)) (fun e2 => by rw [e] at e2; injection e2 with e2; have := h.lt; omega)
  have hgs := grown_setCell w' G 256 v'
  obtain ⟨cs, h1, h2, h3, h4⟩ := h.blk
  have h1' := (hg.block G h.lt (fun e => h.ne e.symm)).trans h1
  refine ⟨⟨cs.setIfInBounds 256 v', heap_setCell_of h1' 256 v', by simpa using h2, by rw [Array.getElem?_setIfInBounds_self_of_lt (by omega)], fun i hi => ?_⟩, h.ltG, ?_, hne'⟩
  · rw [Array.getElem?_setIfInBounds_ne (by omega)]
    refine ⟨(h4 i hi).1, fun hn => ?_⟩
    obtain ⟨A, c, h5, h6⟩ := (h4 i hi).2 hn
    refine ⟨A, c, h5, (h6.keep (Keep.app hg hat)).keep (.of_grown hgs _ (fun k e => ?_))⟩
    injection e with e
    exact .inl (.inl e.symm)
  · obtain ⟨css, g1, g2, g3⟩ := ho
    refine ⟨css, g1, fun i x cs hx hc => g2 i x cs hx hc, g3.kept hgs ?_⟩
    cases hv : v'.ownBlock with
    | none => simp
    | some b => right; intro e; exact hne' (hv.trans e)
/-- One replacement more. -/
theorem BsIs.put (h : BsIs w base G v f tl) {i : Nat} (hi : i < 256) {A : Addr} {c : Nat} {xs : List UInt8} (hx : xs ≠ []) (hs : Sl w (mOr (bsM base G) v) (some A) xs.length c xs) :
    BsIs (w.setCell ⟨G, i, none⟩ (.slice (some A) xs.length c)) base G v (fun j => if j = i then xs else f j) tl := by
  have hgs := grown_setCell w G i (.slice (some A) xs.length c)
  have hk : Keep (mOr (bsM base G) v) w (w.setCell ⟨G, i, none⟩ (.slice (some A) xs.length c)) (mOr (bsM base G) v) := .of_grown hgs _ (fun k e => by injection e with e; exact .inl (.inl e.symm))
  obtain ⟨cs, h1, h2, h3, h4⟩ := h.blk
  refine ⟨⟨cs.setIfInBounds i (.slice (some A) xs.length c), heap_setCell_of h1 i _, by simpa using h2, by rw [Array.getElem?_setIfInBounds_ne (by omega)]; exact h3, fun j hj => ?_⟩, h.ltG, ?_, h.ne⟩
  · by_cases e : j = i
    · subst e
      rw [Array.getElem?_setIfInBounds_self_of_lt (by omega), if_pos rfl]
      exact ⟨fun e => absurd e hx, fun _ => ⟨A, c, rfl, hs.keep hk⟩⟩
    · rw [Array.getElem?_setIfInBounds_ne (fun e2 => e e2.symm), if_neg e]
      refine ⟨(h4 j hj).1, fun hn => ?_⟩
      obtain ⟨B, d, h5, h6⟩ := (h4 j hj).2 hn
      exact ⟨B, d, h5, h6.keep hk⟩
  · obtain ⟨css, g1, g2, g3⟩ := h.own
    refine ⟨css, g1, fun i x cs hx hc => g2 i x cs hx hc, g3.kept hgs ?_⟩
    cases hv : v.ownBlock with
    | none => simp
    | some b => right; intro e; exact h.ne (hv.trans e)
end

/-- The struct of the replacements, all empty yet. -/
theorem zeros_bs (v : Value) : ∃ cs : Array Value, cs.toList = Tryz.zeroCells217.toList.set 256 v ∧ cs.size = 257 ∧ Tryz.zeroCells217.size = 257 ∧ cs[256]? = some v ∧ ∀ i, i < 256 → cs[i]? = some (.slice none 0 0) := by
  have h : Tryz.zeroCells217 = Array.replicate 257 (.slice none 0 0) := by kernel_rfl
  refine ⟨Tryz.zeroCells217.setIfInBounds 256 v, by rw [Array.toList_setIfInBounds], by rw [h]; simp, by rw [h]; simp, by rw [h]; simp, fun i hi => ?_⟩
  rw [h, Array.getElem?_setIfInBounds_ne (by omega), Array.getElem?_replicate, if_pos (by omega)]

theorem BsIs.round {W w' w0 : World} {base G n0 c0 : Nat} {A0 : Option Addr} {f : Nat → List UInt8} {tl : List ByteArray} {v' : Value} {s : ByteArray} (hI : BsIs W base G (.slice A0 n0 c0) f tl) (hB : Below base w0 W)
    (ho : Own w' (bsM base G) base 9 v' (tl ++ [s])) (hg : W.grownBy w' (Value.slice A0 n0 c0).ownBlock) (hat : v'.ownBlock = (Value.slice A0 n0 c0).ownBlock ∨ v'.ownBlock = some W.heap.size) {i : Nat} (hi : i < 256) (hf : f i = []) (nb : ByteArray) (hn0 : 0 < nb.size) (hn : nb.size ≤ 9223372036854775807) :
    ∃ (A' : Option Addr) (c' b6 o6 c6 : Nat) (w6 : World), v' = .slice A' (tl.length + 1) c' ∧ w'.cell? ⟨G, 256, none⟩ = some (.slice A0 n0 c0) ∧ w'.frozen? ⟨G, 256, none⟩ = false ∧
      (convert 9 50 (.string nb)).run Tryz.prog (w'.setCell ⟨G, 256, none⟩ v') = .ok (.slice (some ⟨b6, o6, none⟩) nb.size c6) w6 ∧ w6.cell? ⟨G, i, none⟩ = some (.slice none 0 0) ∧ w6.frozen? ⟨G, i, none⟩ = false ∧
      Hid (BsIs (w6.setCell ⟨G, i, none⟩ (.slice (some ⟨b6, o6, none⟩) nb.size c6)) base G v' (fun j => if j = i then nb.data.toList else f j) (tl ++ [s]) ∧ Below base w0 (w6.setCell ⟨G, i, none⟩ (.slice (some ⟨b6, o6, none⟩) nb.size c6))) := by
  have hI3 := hI.app ho hg hat
  have hd1 := hg.block G hI.lt (fun e => hI.ne e.symm)
  have hB3 := (hB.grown hg (Nat.le_trans hI.ltG (Nat.le_of_lt hI.lt)) (fun q hq => (hI.own.lt q hq).1)).setCell (p := ⟨G, 256, none⟩) hI.ltG v'
  have hmut : ∀ q, mOr (bsM base G) v' q → q < (w'.setCell ⟨G, 256, none⟩ v').heap.size := by
    rintro q ((hq | hq) | hq)
    · have := hI3.lt; omega
    · have := hI3.lt; have := hI3.ltG; omega
    · exact (hI3.own.lt q hq).2
  obtain ⟨A6, c6, w6, hcv6, hb6, hs6⟩ := conv_bytes (P := Tryz.prog) (src := 9) (dst := 50) Tryz.underlying9 Tryz.underlying50 Tryz.underlying5 (w'.setCell ⟨G, 256, none⟩ v') (mOr (bsM base G) v') hmut nb hn
  have hI6 := hI3.below hb6
  obtain ⟨A', c', hv⟩ := ho.form
  rw [List.length_append] at hv
  obtain ⟨b6, o6, rfl, _⟩ := hs6.addr hn0
  obtain ⟨cz1, cz2⟩ := hI6.cell_none hi hf
  have hne : nb.data.toList ≠ [] := fun e => by
    have : nb.data.toList.length = nb.size := Array.length_toList
    rw [e] at this; simp at this; omega
  have hlen : nb.data.toList.length = nb.size := Array.length_toList
  rw [← hlen] at hs6 hcv6 ⊢
  exact ⟨A', c', b6, o6, c6, w6, hv, (World.cell?_of_block (a := ⟨G, 256, none⟩) hd1).trans hI.cell_tl.1, (World.frozen?_of_block (a := ⟨G, 256, none⟩) hd1).trans hI.cell_tl.2, hcv6, cz1, cz2,
    hI6.put hi hne hs6, (hB3.trans (hb6.mono (Nat.le_trans hI3.ltG (Nat.le_of_lt hI3.lt)))).setCell hI.ltG _⟩

theorem BsIs.grown {w w' : World} {base G : Nat} {v : Value} {f : Nat → List UInt8} {tl : List ByteArray} (h : BsIs w base G v f tl) {b : Nat} (hg : w.grownBy w' (some b)) (hb : b < base) : BsIs w' base G v f tl where
  blk := by
    obtain ⟨cs, h1, h2, h3, h4⟩ := h.blk
    have hG := h.ltG
    refine ⟨cs, (hg.block G h.lt (fun e => by injection e with e; omega)).trans h1, h2, h3, fun i hi => ⟨(h4 i hi).1, fun hn => ?_⟩⟩
    obtain ⟨A, c, h5, h6⟩ := (h4 i hi).2 hn
    exact ⟨A, c, h5, h6.keep (.of_grown hg _ (fun k e => by injection e with e; exact .inl (.inr (by omega))))⟩
  ltG := h.ltG
  own := by
    obtain ⟨css, g1, g2, g3⟩ := h.own
    refine ⟨css, g1, fun i x cs hx hc => g2 i x cs hx hc, g3.kept hg ?_⟩
    cases hv : v.ownBlock with
    | none => simp
    | some q => right; intro e; injection e with e; have := (h.own.lt q hv).1; omega
  ne := h.ne

/-- What is set behind k signs (from the last to the first). -/
def bsF : Nat → Nat → List UInt8
  | 0, _ => []
  | 1, i => if i = 10 then [92, 110] else []
  | 2, i => if i = 34 then [92, 34] else if i = 10 then [92, 110] else []
  | _, i => if i = 92 then [92, 92] else if i = 34 then [92, 34] else if i = 10 then [92, 110] else []
def bsT : Nat → List ByteArray
  | 0 => []
  | 1 => [⟨#[10]⟩]
  | 2 => [⟨#[10]⟩, ⟨#[34]⟩]
  | _ => [⟨#[10]⟩, ⟨#[34]⟩, ⟨#[92]⟩]

theorem BsIs.made (w : World) (cs : Array Value) (hcz : cs.size = 257) (h256 : cs[256]? = some (.slice (some ⟨w.heap.size, 0, none⟩) 0 3)) (h0 : ∀ i, i < 256 → cs[i]? = some (.slice none 0 0)) :
    BsIs ((w.alloc (.cells (madeCells #[.string ⟨#[]⟩] 3) 9)).alloc (.cells cs 217)) w.heap.size (w.heap.size + 1) (.slice (some ⟨w.heap.size, 0, none⟩) 0 3) (bsF 0) (bsT 0) where
  blk := by
    have := heap_alloc_new (w.alloc (.cells (madeCells #[.string ⟨#[]⟩] 3) 9)) (.cells cs 217 (0, 0))
    refine ⟨cs, by simpa using this, hcz, h256, fun i hi => ⟨fun _ => h0 i hi, fun hn => absurd rfl hn⟩⟩
  ltG := Nat.le_succ _
  own := by
    have : Own (w.alloc (.cells (madeCells #[.string ⟨#[]⟩] 3) 9)) (bsM w.heap.size (w.heap.size + 1)) w.heap.size 9 (.slice (some ⟨w.heap.size, 0, none⟩) 0 3) ([] : List ByteArray) :=
      ⟨[], rfl, by simp, World.ownsRow_made w _ 3 (Nat.le_refl _) (by unfold maxLen; omega) (by rw [size_madeCells]; rfl)⟩
    exact this.alloc _
  ne := by simp [Value.ownBlock]

set_option maxRecDepth 100000 in
set_option maxHeartbeats 4000000 in
theorem build_calls (b o c : Nat) (w : World) (h4 : w.cell? ⟨b, 4, none⟩ = some (.slice (some ⟨o, 0, none⟩) 6 c))
    (s0 : w.cell? ⟨o, 0, none⟩ = some (.string ⟨#[92]⟩)) (s1 : w.cell? ⟨o, 1, none⟩ = some (.string ⟨#[92, 92]⟩)) (s2 : w.cell? ⟨o, 2, none⟩ = some (.string ⟨#[34]⟩)) (s3 : w.cell? ⟨o, 3, none⟩ = some (.string ⟨#[92, 34]⟩))
    (s4 : w.cell? ⟨o, 4, none⟩ = some (.string ⟨#[10]⟩)) (s5 : w.cell? ⟨o, 5, none⟩ = some (.string ⟨#[92, 110]⟩)) :
    Calls Tryz.prog 119 #[.pointer (some ⟨b, 0, none⟩)] w fun e w' => Below w.heap.size w w' ∧ ∃ v, e = .returned (.iface 218 (.pointer (some ⟨w.heap.size + 1, 0, none⟩))) ∧ BsIs w' w.heap.size (w.heap.size + 1) v (bsF 3) (bsT 3) := by
  obtain ⟨cs, hcl, hcz, hz0, hc256, hc0⟩ := zeros_bs (.slice (some ⟨w.heap.size, 0, none⟩) 0 3)
  have hmade := Lib.hid (BsIs.made w cs hcz hc256 hc0)
  have hmk : (Instr.makeSlice 62 (.int .i64 0) (.int .i64 3)).run Tryz.prog w = .ok (.slice (some ⟨w.heap.size, 0, none⟩) 0 3) (w.alloc (.cells (madeCells #[.string ⟨#[]⟩] 3) 9)) := by
    have h : (Tryz.prog.info? 9).map (fun i => (i.zero, i.size, i.bytes)) = some (some (.string ⟨#[]⟩), 1, 16) := by kernel_rfl
    obtain ⟨i, hi, hz0, hz1, hz2⟩ := info_parts h
    have hr := run_make (P := Tryz.prog) w 62 9 i (.string ⟨#[]⟩) Tryz.underlying62 hi hz0 .i64 .i64 0 3 (by decide) (by decide) (by rw [hz2]; decide) (by decide)
    rw [hz1] at hr
    exact hr
  have hst : (storeCells ⟨w.heap.size + 1, 0, none⟩ (Tryz.zeroCells217.toList.set 256 (.slice (some ⟨w.heap.size, 0, none⟩) 0 3))).run Tryz.prog ((w.alloc (.cells (madeCells #[.string ⟨#[]⟩] 3) 9)).alloc (.cells Tryz.zeroCells217 217)) =
      .ok () ((w.alloc (.cells (madeCells #[.string ⟨#[]⟩] 3) 9)).alloc (.cells cs 217)) := by
    rw [← hcl]
    have := run_storeCells_new (P := Tryz.prog) (w.alloc (.cells (madeCells #[.string ⟨#[]⟩] 3) 9)) 217 Tryz.zeroCells217 cs (by rw [hcz]; kernel_rfl) (by rw [hz0, hcz]) (Array.all_eq_true_iff_forall_mem.2 fun u hu => by
      obtain ⟨i, hi⟩ := Array.getElem?_of_mem hu
      have hil : i < 257 := by rw [← hcz]; exact (Array.getElem?_eq_some_iff.1 hi).1
      by_cases e : i = 256
      · subst e; rw [hc256] at hi; injection hi with hi; subst hi; rfl
      · rw [hc0 i (by omega)] at hi; injection hi with hi; subst hi; rfl)
    simpa using this
  clear hcl hcz hz0 hc256 hc0
  go_enter Tryz.func119, Tryz.ntmps119
  go_wp2
  go_loop [4, 5] (fun f i => (f = .bool true ∧ i = .int .i64 0) ∨ (f = .bool false ∧ (i = .int .i64 2 ∨ i = .int .i64 4 ∨ i = .int .i64 6))) (fun _ i => 10 - (intOf i).toNat)
  case atStart => exact .inl ⟨rfl, rfl⟩
  case round =>
    rcases hrel with ⟨rfl, rfl⟩ | ⟨rfl, rfl | rfl | rfl⟩
    · go_wp2
      exact ⟨.inr ⟨rfl, .inl rfl⟩, by decide⟩
    · go_wp2
      exact ⟨.inr ⟨rfl, .inr (.inl rfl)⟩, by decide⟩
    · go_wp2
      exact ⟨.inr ⟨rfl, .inr (.inr rfl)⟩, by decide⟩
    · go_wp2
      go_loopw [12] (fun i wr => ∃ (k : Nat) (v : Value), k ≤ 3 ∧ i = .int .i64 (4 - 2 * (k : Int)) ∧ Below w.heap.size w wr ∧ Hid (BsIs wr w.heap.size (w.heap.size + 1) v (bsF k) (bsT k))) (fun i _ => (intOf i + 2).toNat)
      case atStart => exact ⟨0, _, by omega, rfl, ((Below.refl _ _).new _).new _, hmade⟩
      case round =>
        clear hmade hst hmk
        obtain ⟨k, v, hk, rfl, hbl, hI⟩ := hrel
        obtain rfl | rfl | rfl | rfl : k = 0 ∨ k = 1 ∨ k = 2 ∨ k = 3 := by omega
        -- ROUNDS
        · rw [show (4 - 2 * ((0 : Nat) : Int)) = 4 from rfl]
          obtain ⟨A0, c0, rfl⟩ := hI.out.own.form
          obtain ⟨cx1, cx2⟩ := hI.out.cell_tl
          obtain ⟨cy1, cy2⟩ := hI.out.cell_none (i := 10) (by omega) rfl
          have hltG := hI.out.lt
          have t0 : wr.cell? ⟨o, 4, none⟩ = some (.string ⟨#[10]⟩) := (bcell hbl o 4 (World.block_lt_of_cell? w _ s4)).trans s4
          have t1 : wr.cell? ⟨o, 4 + 1, none⟩ = some (.string ⟨#[92, 110]⟩) := (bcell hbl o (4 + 1) (World.block_lt_of_cell? w _ s5)).trans s5
          have hob : ((⟨#[10]⟩ : ByteArray)[0]'(by decide)).toNat = 10 := rfl
          have heq := fun W => Lib.run_eql_slice_nil (P := Tryz.prog) W 50 5 none 0 0 0 0 Tryz.underlying50
          have hback := Sl.back (P := Tryz.prog) (src := 50) (dst := 9) Tryz.underlying50 Tryz.underlying5 Tryz.underlying9 (Sl.new (w := wr) (M := fun _ => False) (y := (10 : UInt8)) (ca := #[.int .u8 10]) (fun _ h => h.elim) rfl 5)
          have hI2 := Lib.hid ((hI.out.below ((Below.refl _ _).new (.cells #[.int .u8 10] 5))).below ((Below.refl _ _).new (.cells #[.string ⟨#[10]⟩] 9)))
          have hB2 := (hbl.new (.cells #[.int .u8 10] 5)).new (.cells #[.string ⟨#[10]⟩] 9)
          have hsl : Sl ((wr.alloc (.cells #[.int .u8 10] 5)).alloc (.cells #[.string ⟨#[10]⟩] 9)) (mOr (bsM w.heap.size (w.heap.size + 1)) (.slice A0 (bsT 0).length c0)) (some ⟨(wr.alloc (.cells #[.int .u8 10] 5)).heap.size, 0, none⟩) 1 1 [(⟨#[10]⟩ : ByteArray)] := Sl.new (fun q hq => by
            rcases hq with (hq | hq) | hq
            · simp; omega
            · simp; omega
            · have := (hI.out.own.lt q hq).2; simp; omega) (show Rep.rep (α := ByteArray) _ _ [.string ⟨#[10]⟩] _ from ⟨rfl, by decide⟩) _
          rw [show (wr.alloc (.cells #[.int .u8 10] 5)).heap.size = wr.heap.size + 1 by simp] at hsl
          have hsz : ((bsT 0).length + 1) * 16 ≤ 140737488355328 := by decide
          have hbs : w.heap.size ≤ ((wr.alloc (.cells #[.int .u8 10] 5)).alloc (.cells #[.string ⟨#[10]⟩] 9)).heap.size := hB2.size
          go_wp2_with (at_builtin; refine wpList_app (α := ByteArray) (w := ((wr.alloc (.cells #[.int .u8 10] 5)).alloc (.cells #[.string ⟨#[10]⟩] 9))) rfl (.tmp 119) (.tmp 123) 62 rfl elemStr (.slice A0 (bsT 0).length c0) (bsT 0) rfl hI2.out.own [⟨#[10]⟩] _ 1 1 rfl hsl hsz hbs ?_; intro v' w' ho' hg' hk'; obtain ⟨A', c', b6, o6, c6, w6, rfl, hd2, hd3, hcv6, cz1, cz2, hF⟩ := hI2.out.round hB2 ho' hg' hk' (i := 10) (by omega) rfl ⟨#[92, 110]⟩ (by decide) (by decide))
          obtain ⟨hF1, hF2⟩ := hF.out
          have hfe : (fun j => if j = 10 then (⟨#[92, 110]⟩ : ByteArray).data.toList else bsF 0 j) = bsF (0 + 1) := by
            funext j
            rfl
          rw [hfe] at hF1
          exact ⟨⟨0 + 1, _, by omega, rfl, hF2, hF1⟩, by decide⟩
        · rw [show (4 - 2 * ((1 : Nat) : Int)) = 2 from rfl]
          obtain ⟨A0, c0, rfl⟩ := hI.out.own.form
          obtain ⟨cx1, cx2⟩ := hI.out.cell_tl
          obtain ⟨cy1, cy2⟩ := hI.out.cell_none (i := 34) (by omega) rfl
          have hltG := hI.out.lt
          have t0 : wr.cell? ⟨o, 2, none⟩ = some (.string ⟨#[34]⟩) := (bcell hbl o 2 (World.block_lt_of_cell? w _ s2)).trans s2
          have t1 : wr.cell? ⟨o, 2 + 1, none⟩ = some (.string ⟨#[92, 34]⟩) := (bcell hbl o (2 + 1) (World.block_lt_of_cell? w _ s3)).trans s3
          have hob : ((⟨#[34]⟩ : ByteArray)[0]'(by decide)).toNat = 34 := rfl
          have heq := fun W => Lib.run_eql_slice_nil (P := Tryz.prog) W 50 5 none 0 0 0 0 Tryz.underlying50
          have hback := Sl.back (P := Tryz.prog) (src := 50) (dst := 9) Tryz.underlying50 Tryz.underlying5 Tryz.underlying9 (Sl.new (w := wr) (M := fun _ => False) (y := (34 : UInt8)) (ca := #[.int .u8 34]) (fun _ h => h.elim) rfl 5)
          have hI2 := Lib.hid ((hI.out.below ((Below.refl _ _).new (.cells #[.int .u8 34] 5))).below ((Below.refl _ _).new (.cells #[.string ⟨#[34]⟩] 9)))
          have hB2 := (hbl.new (.cells #[.int .u8 34] 5)).new (.cells #[.string ⟨#[34]⟩] 9)
          have hsl : Sl ((wr.alloc (.cells #[.int .u8 34] 5)).alloc (.cells #[.string ⟨#[34]⟩] 9)) (mOr (bsM w.heap.size (w.heap.size + 1)) (.slice A0 (bsT 1).length c0)) (some ⟨(wr.alloc (.cells #[.int .u8 34] 5)).heap.size, 0, none⟩) 1 1 [(⟨#[34]⟩ : ByteArray)] := Sl.new (fun q hq => by
            rcases hq with (hq | hq) | hq
            · simp; omega
            · simp; omega
            · have := (hI.out.own.lt q hq).2; simp; omega) (show Rep.rep (α := ByteArray) _ _ [.string ⟨#[34]⟩] _ from ⟨rfl, by decide⟩) _
          rw [show (wr.alloc (.cells #[.int .u8 34] 5)).heap.size = wr.heap.size + 1 by simp] at hsl
          have hsz : ((bsT 1).length + 1) * 16 ≤ 140737488355328 := by decide
          have hbs : w.heap.size ≤ ((wr.alloc (.cells #[.int .u8 34] 5)).alloc (.cells #[.string ⟨#[34]⟩] 9)).heap.size := hB2.size
          go_wp2_with (at_builtin; refine wpList_app (α := ByteArray) (w := ((wr.alloc (.cells #[.int .u8 34] 5)).alloc (.cells #[.string ⟨#[34]⟩] 9))) rfl (.tmp 119) (.tmp 123) 62 rfl elemStr (.slice A0 (bsT 1).length c0) (bsT 1) rfl hI2.out.own [⟨#[34]⟩] _ 1 1 rfl hsl hsz hbs ?_; intro v' w' ho' hg' hk'; obtain ⟨A', c', b6, o6, c6, w6, rfl, hd2, hd3, hcv6, cz1, cz2, hF⟩ := hI2.out.round hB2 ho' hg' hk' (i := 34) (by omega) rfl ⟨#[92, 34]⟩ (by decide) (by decide))
          obtain ⟨hF1, hF2⟩ := hF.out
          have hfe : (fun j => if j = 34 then (⟨#[92, 34]⟩ : ByteArray).data.toList else bsF 1 j) = bsF (1 + 1) := by
            funext j
            rfl
          rw [hfe] at hF1
          exact ⟨⟨1 + 1, _, by omega, rfl, hF2, hF1⟩, by decide⟩
        · rw [show (4 - 2 * ((2 : Nat) : Int)) = 0 from rfl]
          obtain ⟨A0, c0, rfl⟩ := hI.out.own.form
          obtain ⟨cx1, cx2⟩ := hI.out.cell_tl
          obtain ⟨cy1, cy2⟩ := hI.out.cell_none (i := 92) (by omega) rfl
          have hltG := hI.out.lt
          have t0 : wr.cell? ⟨o, 0, none⟩ = some (.string ⟨#[92]⟩) := (bcell hbl o 0 (World.block_lt_of_cell? w _ s0)).trans s0
          have t1 : wr.cell? ⟨o, 0 + 1, none⟩ = some (.string ⟨#[92, 92]⟩) := (bcell hbl o (0 + 1) (World.block_lt_of_cell? w _ s1)).trans s1
          have hob : ((⟨#[92]⟩ : ByteArray)[0]'(by decide)).toNat = 92 := rfl
          have heq := fun W => Lib.run_eql_slice_nil (P := Tryz.prog) W 50 5 none 0 0 0 0 Tryz.underlying50
          have hback := Sl.back (P := Tryz.prog) (src := 50) (dst := 9) Tryz.underlying50 Tryz.underlying5 Tryz.underlying9 (Sl.new (w := wr) (M := fun _ => False) (y := (92 : UInt8)) (ca := #[.int .u8 92]) (fun _ h => h.elim) rfl 5)
          have hI2 := Lib.hid ((hI.out.below ((Below.refl _ _).new (.cells #[.int .u8 92] 5))).below ((Below.refl _ _).new (.cells #[.string ⟨#[92]⟩] 9)))
          have hB2 := (hbl.new (.cells #[.int .u8 92] 5)).new (.cells #[.string ⟨#[92]⟩] 9)
          have hsl : Sl ((wr.alloc (.cells #[.int .u8 92] 5)).alloc (.cells #[.string ⟨#[92]⟩] 9)) (mOr (bsM w.heap.size (w.heap.size + 1)) (.slice A0 (bsT 2).length c0)) (some ⟨(wr.alloc (.cells #[.int .u8 92] 5)).heap.size, 0, none⟩) 1 1 [(⟨#[92]⟩ : ByteArray)] := Sl.new (fun q hq => by
            rcases hq with (hq | hq) | hq
            · simp; omega
            · simp; omega
            · have := (hI.out.own.lt q hq).2; simp; omega) (show Rep.rep (α := ByteArray) _ _ [.string ⟨#[92]⟩] _ from ⟨rfl, by decide⟩) _
          rw [show (wr.alloc (.cells #[.int .u8 92] 5)).heap.size = wr.heap.size + 1 by simp] at hsl
          have hsz : ((bsT 2).length + 1) * 16 ≤ 140737488355328 := by decide
          have hbs : w.heap.size ≤ ((wr.alloc (.cells #[.int .u8 92] 5)).alloc (.cells #[.string ⟨#[92]⟩] 9)).heap.size := hB2.size
          go_wp2_with (at_builtin; refine wpList_app (α := ByteArray) (w := ((wr.alloc (.cells #[.int .u8 92] 5)).alloc (.cells #[.string ⟨#[92]⟩] 9))) rfl (.tmp 119) (.tmp 123) 62 rfl elemStr (.slice A0 (bsT 2).length c0) (bsT 2) rfl hI2.out.own [⟨#[92]⟩] _ 1 1 rfl hsl hsz hbs ?_; intro v' w' ho' hg' hk'; obtain ⟨A', c', b6, o6, c6, w6, rfl, hd2, hd3, hcv6, cz1, cz2, hF⟩ := hI2.out.round hB2 ho' hg' hk' (i := 92) (by omega) rfl ⟨#[92, 92]⟩ (by decide) (by decide))
          obtain ⟨hF1, hF2⟩ := hF.out
          have hfe : (fun j => if j = 92 then (⟨#[92, 92]⟩ : ByteArray).data.toList else bsF 2 j) = bsF (2 + 1) := by
            funext j
            rfl
          rw [hfe] at hF1
          exact ⟨⟨2 + 1, _, by omega, rfl, hF2, hF1⟩, by decide⟩
        -- END
        · rw [show (4 - 2 * ((3 : Nat) : Int)) = -2 from rfl]
          go_wp2
          go_ret
          exact ⟨hbl, v, rfl, hI.out⟩
end Go.Proofs.YtfciagcmggdldaaGreatDoor
