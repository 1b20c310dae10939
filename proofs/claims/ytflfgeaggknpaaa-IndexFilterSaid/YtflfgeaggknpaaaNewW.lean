/-
  An index in memory: its struct, its map and their rows; what becomes of it when something is appended.
-/
import Derived.Test.YtflfgeaggknpaaaKeys
import Derived.Test.YtflfgeaggknpaaaCloneLab
import Derived.Test.YtflfgeaggknpaaaInts
namespace Go.Proofs.Ytflfgeaggknpaaa
open Go.RowKit

section
variable {α : Type} [Rep α] {w w' : World} {M M' : Nat → Prop} {base : Nat} {e : TypeId} {v : Value} {xs : List α}
theorem step_app {P : Program} {ops : Array Oper} {o : Oper} {a : Act} {K : Act → World → Prop} {Q : Exit → Act → World → Prop} {E' : Prop} (hgd : o.guard = none) (s x : Operand) (t : TypeId)
    (ho : o.op = .call { callee := .builtin .append, args := #[s, x], argTypes := #[t, t] }) {bytes : Nat} (E : Elem P t e (Rep.size α) bytes) (v : Value) (xs : List α) (hs : a.eval s = v) (hown : Own w M base e v xs)
    (ys : List α) (A : Option Addr) (m cap : Nat) (hx : a.eval x = .slice A m cap) (hsl : Sl w (mOr M v) A m cap ys) (hb : (xs.length + m) * bytes ≤ 140737488355328) (hbase : base ≤ w.heap.size)
    (h : ∀ v' w', Own w' M base e v' (xs ++ ys) → w.grownBy w' v.ownBlock → (v'.ownBlock = v.ownBlock ∨ v'.ownBlock = some w.heap.size) → K (a.put o.dst v') w') :
    if Region.wanted o (yielded ops a.tmps) = true then Oper.wp P o a w K Q else E' := by
  have hw : Region.wanted o (yielded ops a.tmps) = true := by simp [Region.wanted, hgd]
  rw [if_pos hw]
  obtain ⟨v', w', hr, h2, h3, h4⟩ := run_app (P := P) (ty := o.type) E hown hsl hb hbase
  unfold Oper.wp execOp
  simp only [ho, resolve, invoke, builtin, Sem.run_bind, Sem.run_pure, Result.andThen_ok, List.map_toArray, List.map_cons, List.map_nil, hs, hx, hr]
  exact h v' w' h2 h3 h4

theorem Own.grown {row : Option Nat} (h : Own w M base e v xs) (hg : w.grownBy w' row) (hr : ∀ b, row = some b → v.ownBlock ≠ some b ∧ M b) : Own w' M base e v xs := by
  obtain ⟨css, h1, h2, h3⟩ := h
  refine ⟨css, h1, fun i x cs hx hc => Rep.keep (.of_grown hg _ (fun k hk => .inl (hr k hk).2)) (h2 i x cs hx hc), h3.kept hg ?_⟩
  cases hv : v.ownBlock with
  | none => simp
  | some b =>
    right
    intro e
    exact (hr b e.symm).1 hv
theorem Own.ofM (h : Own w M base e v xs) (hm : ∀ k, k < w.heap.size → M' k → M k ∨ v.ownBlock = some k) : Own w M' base e v xs := by
  obtain ⟨css, h1, h2, h3⟩ := h
  exact ⟨css, h1, fun i x cs hx hc => Rep.mono (h2 i x cs hx hc) (fun k hk hh => hh.elim (fun h => hm k hk h) .inr), h3⟩
end

theorem grown_of_below {w w' : World} {row : Option Nat} (hb : Below w.heap.size w w') : w.grownBy w' row := ⟨hb.os, hb.tape, hb.output, hb.size, fun k hk _ => hb.block k hk⟩

theorem heap_setCell_at {w : World} {X : Nat} {cs : Array Value} {t : TypeId} {fz : Nat × Nat} (h : w.heap[X]? = some (.cells cs t fz)) (i : Nat) (u : Value) : (w.setCell ⟨X, i, none⟩ u).heap[X]? = some (.cells (cs.setIfInBounds i u) t fz) := by
  simp [World.setCell, Array.getElem?_modify, h]
theorem setCell_grown (w : World) (X i : Nat) (u : Value) : w.grownBy (w.setCell ⟨X, i, none⟩ u) (some X) :=
  ⟨rfl, rfl, rfl, by simp [World.setCell], fun k _ hne => by simp [World.setCell, Array.getElem?_modify, show ¬ X = k from fun e => hne (by rw [e])]⟩

/-- A row of a map's value: its block, its numbers. -/
abbrev RowV := Option Nat × List Int
def RowR (w : World) (base : Nat) (v : Value) (x : RowV) : Prop := v.ownBlock = x.1 ∧ Own w (fun _ => False) base 3 v x.2

/-- An index that is being made. -/
structure IdxIn (w : World) (M : Nat → Prop) (base X R : Nat) (v : Value) (all : List (List Lab)) (kvs : List (Lab × RowV)) : Prop where
  x : w.heap[X]? = some (.cells #[v, .map (some R)] 41 (0, 0))
  hX : base ≤ X
  hR : base ≤ R
  own : Own w (fun k => M k ∨ k = X ∨ k = R ∨ ∃ kv ∈ kvs, kv.2.1 = some k) base 32 v all
  map : MapAt w labEnc (RowR w base) R kvs
  okk : ∀ kv ∈ kvs, labOk kv.1
  dis : ∀ kv ∈ kvs, ∀ kv' ∈ kvs, ∀ b, kv.2.1 = some b → kv'.2.1 = some b → kv.1 = kv'.1
  vrow : ∀ kv ∈ kvs, ∀ b, kv.2.1 = some b → b < w.heap.size ∧ b ≠ X ∧ b ≠ R ∧ v.ownBlock ≠ some b
  vX : v.ownBlock ≠ some X
  vR : v.ownBlock ≠ some R

section
variable {w w' : World} {M : Nat → Prop} {base X R : Nat} {v : Value} {all : List (List Lab)} {kvs : List (Lab × RowV)}

theorem IdxIn.ltX (h : IdxIn w M base X R v all kvs) : X < w.heap.size := (Array.getElem?_eq_some_iff.1 h.x).1
theorem IdxIn.ltR (h : IdxIn w M base X R v all kvs) : R < w.heap.size := h.map.lt
theorem IdxIn.ne (h : IdxIn w M base X R v all kvs) : X ≠ R := by
  intro e
  obtain ⟨es, cl, hb, _⟩ := h.map
  rw [← e, h.x] at hb
  cases hb

theorem IdxIn.below (h : IdxIn w M base X R v all kvs) (hb : Below w.heap.size w w') : IdxIn w' M base X R v all kvs where
  x := (hb.block X h.ltX).trans h.x
  hX := h.hX
  hR := h.hR
  own := h.own.below hb
  map := (h.map.of_block (hb.block R h.ltR)).mono fun v kv _ ⟨e, o⟩ => ⟨e, o.below hb⟩
  okk := h.okk
  dis := h.dis
  vrow := fun kv hk b hb' => by obtain ⟨h1, h2⟩ := h.vrow kv hk b hb'; exact ⟨Nat.lt_of_lt_of_le h1 hb.size, h2⟩
  vX := h.vX
  vR := h.vR

/-- The cells of the struct. -/
theorem IdxIn.cells (h : IdxIn w M base X R v all kvs) : w.cell? ⟨X, 0, none⟩ = some v ∧ w.cell? ⟨X, 1, none⟩ = some (.map (some R)) ∧ w.frozen? ⟨X, 0, none⟩ = false :=
  ⟨by simp [World.cell?, h.x], by simp [World.cell?, h.x], by simp [World.frozen?, h.x]⟩

/-- One series more. -/
theorem IdxIn.put_all (h : IdxIn w M base X R v all kvs) {v' : Value} {s : List Lab} (ho : Own w' (fun k => M k ∨ k = X ∨ k = R ∨ ∃ kv ∈ kvs, kv.2.1 = some k) base 32 v' (all ++ [s])) (hg : w.grownBy w' v.ownBlock)
    (hat : v'.ownBlock = v.ownBlock ∨ v'.ownBlock = some w.heap.size) : IdxIn (w'.setCell ⟨X, 0, none⟩ v') M base X R v' (all ++ [s]) kvs := by
  have hX' : w'.heap[X]? = some (.cells #[v, .map (some R)] 41 (0, 0)) := (hg.block X h.ltX (fun e => h.vX e.symm)).trans h.x
  have hgs := setCell_grown w' X 0 v'
  have hne := h.ne
  have v'X : v'.ownBlock ≠ some X := fun e => hat.elim (fun e2 => h.vX (e2 ▸ e)) (fun e2 => by rw [e] at e2; injection e2 with e2; have := h.ltX; omega)
  have v'R : v'.ownBlock ≠ some R := fun e => hat.elim (fun e2 => h.vR (e2 ▸ e)) (fun e2 => by rw [e] at e2; injection e2 with e2; have := h.ltR; omega)
  have hrowX : ∀ kv ∈ kvs, kv.2.1 ≠ some X := fun kv hk e => (h.vrow kv hk X e).2.1 rfl
  have hRb : (w'.setCell ⟨X, 0, none⟩ v').heap[R]? = w.heap[R]? := (hgs.block R (Nat.lt_of_lt_of_le h.ltR hg.size) (fun e => by injection e with e; exact hne e.symm)).trans (hg.block R h.ltR (fun e => h.vR e.symm))
  refine ⟨?_, h.hX, h.hR, ?_, ?_, h.okk, h.dis, ?_, v'X, v'R⟩
  · rw [heap_setCell_at hX']; rfl
  · exact ho.grown hgs fun b hb => by injection hb with hb; subst hb; exact ⟨v'X, .inr (.inl rfl)⟩
  · refine (h.map.of_block hRb).mono fun u kv hk ⟨e, o⟩ => ⟨e, ?_⟩
    have o2 : Own w' (fun k => k = X) base 3 u kv.2.2 := by
      have o1 : Own w (fun k => v.ownBlock = some k ∨ k = X) base 3 u kv.2.2 := Own.of_ints o.ints.1 o.ints.2
      have o2 := o1.grown hg fun b hb => ⟨fun e3 => (h.vrow kv hk b (e.symm.trans e3)).2.2.2 hb, .inl hb⟩
      exact Own.of_ints o2.ints.1 o2.ints.2
    have o3 := o2.grown hgs fun b hb => by injection hb with hb; subst hb; exact ⟨fun e3 => hrowX kv hk (e.symm.trans e3), rfl⟩
    exact Own.of_ints o3.ints.1 o3.ints.2
  · intro kv hk b hb
    obtain ⟨h1, h2, h3, h4⟩ := h.vrow kv hk b hb
    exact ⟨Nat.lt_of_lt_of_le h1 (Nat.le_trans hg.size hgs.size), h2, h3, fun e => hat.elim (fun e2 => h4 (e2 ▸ e)) (fun e2 => by rw [e] at e2; injection e2 with e2; omega)⟩

/-- One number more behind a label. -/
theorem IdxIn.put_row (h : IdxIn w M base X R v all kvs) (y : Lab) (hy : labOk y) (i : Int) :
    ∃ (v0 : Value) (st : Nat) (es1 : Array MapEntry) (clock1 : Nat), (∀ u : World, u.heap[R]? = w.heap[R]? → (Instr.mapEntry 39 (.map (some R)) (labEnc y)).run Try.prog u = .ok (.tuple #[v0, goInt st]) (World.putObj u R (.map es1 clock1))) ∧
      RowR w base v0 ((mget kvs y).getD (none, [])) ∧ v0.ownBlock ≠ some R ∧
      ∀ (w1 w2 : World) (v1 : Value), w.grownBy w1 (some R) → w1.heap[R]? = some (.map es1 clock1) → Own w2 (fun _ => False) base 3 v1 (((mget kvs y).getD (none, [])).2 ++ [i]) → w1.grownBy w2 v0.ownBlock →
        (v1.ownBlock = v0.ownBlock ∨ v1.ownBlock = some w1.heap.size) →
        ∃ w3, (Instr.entryStore 39 (.map (some R)) (goInt st) v1).run Try.prog w2 = .ok () w3 ∧ IdxIn w3 M base X R v all (mset kvs y (v1.ownBlock, ((mget kvs y).getD (none, [])).2 ++ [i])) ∧ w2.grownBy w3 (some R) := by
  obtain ⟨v0, st, es1, clock1, hrun, hv0, hnext⟩ := run_mapEntry (P := Try.prog) Try.underlying39 labKey h.okk h.map y hy (z := .slice none 0 0) (fun u => by go_simp)
  have hrow0 : RowR w base v0 ((mget kvs y).getD (none, [])) := by
    rcases hv0 with ⟨e, rfl⟩ | ⟨x, e, hx⟩
    · rw [e]; exact ⟨rfl, Own.nil _ _ _ _⟩
    · rw [e]; exact hx
  have hb0 : ∀ b, v0.ownBlock = some b → b < w.heap.size ∧ b ≠ X ∧ b ≠ R ∧ v.ownBlock ≠ some b ∧ ∀ kv ∈ kvs, kv.2.1 = some b → kv.1 = y := by
    intro b hb
    rcases hv0 with ⟨e, rfl⟩ | ⟨x, e, hx⟩
    · cases hb
    · have hm := mget_mem e
      obtain ⟨h1, h2, h3, h4⟩ := h.vrow _ hm b (hx.1.symm.trans hb)
      exact ⟨h1, h2, h3, h4, fun kv hk hkb => h.dis kv hk _ hm b hkb (hx.1.symm.trans hb)⟩
  refine ⟨v0, st, es1, clock1, hrun, hrow0, fun e => (hb0 R e).2.2.1 rfl, fun w1 w2 v1 g1 hR1 o1 g2 hat => ?_⟩
  have hR2 : w2.heap[R]? = some (.map es1 clock1) := (g2.block R (Nat.lt_of_lt_of_le h.ltR g1.size) (fun e => (hb0 R e.symm).2.2.1 rfl)).trans hR1
  have hb1 : ∀ b, v1.ownBlock = some b → b < w2.heap.size ∧ b ≠ X ∧ b ≠ R ∧ v.ownBlock ≠ some b ∧ ∀ kv ∈ kvs, kv.1 ≠ y → kv.2.1 ≠ some b := by
    intro b hb
    refine ⟨(o1.lt b hb).2, ?_⟩
    rcases hat with e | e
    · obtain ⟨_, h2, h3, h4, h5⟩ := hb0 b (e.symm.trans hb)
      exact ⟨h2, h3, h4, fun kv hk hne hkb => hne (h5 kv hk hkb)⟩
    · rw [hb] at e; injection e with e
      have hs := g1.size
      exact ⟨by have := h.ltX; omega, by have := h.ltR; omega, fun e2 => by have := (h.own.lt b e2).2; omega, fun kv hk _ hkb => by have := (h.vrow kv hk b hkb).1; omega⟩
  obtain ⟨o, hs, hm⟩ := hnext w2 (RowR w2 base) v1 (v1.ownBlock, ((mget kvs y).getD (none, [])).2 ++ [i]) hR2 (fun u kv hk hne ⟨e, o⟩ => ⟨e, by
    have p1 : Own w (fun k => k = R ∨ v0.ownBlock = some k) base 3 u kv.2.2 := Own.of_ints o.ints.1 o.ints.2
    have p2 := p1.grown g1 fun b hb => by injection hb with hb; subst hb; exact ⟨fun e3 => (h.vrow kv hk _ (e.symm.trans e3)).2.2.1 rfl, .inl rfl⟩
    have p3 := p2.grown g2 fun b hb => ⟨fun e3 => hne ((hb0 b hb).2.2.2.2 kv hk (e.symm.trans e3)), .inr hb⟩
    exact Own.of_ints p3.ints.1 p3.ints.2⟩) ⟨rfl, o1⟩
  have g3 := putObj_grown w2 R o
  refine ⟨_, hs, ?_, g3⟩
  have hmem : ∀ kv ∈ mset kvs y (v1.ownBlock, ((mget kvs y).getD (none, [])).2 ++ [i]), kv = (y, (v1.ownBlock, ((mget kvs y).getD (none, [])).2 ++ [i])) ∨ (kv ∈ kvs ∧ kv.1 ≠ y) := fun kv hk => mem_mset h.map.nodup hk
  generalize ((mget kvs y).getD (none, [])).2 ++ [i] = nums at *
  have hsz12 := Nat.le_trans g1.size g2.size
  have hX2 : w2.heap[X]? = w.heap[X]? := (g2.block X (Nat.lt_of_lt_of_le h.ltX g1.size) (fun e => (hb0 X e.symm).2.1 rfl)).trans (g1.block X h.ltX (fun e => by injection e with e; exact h.ne e))
  refine ⟨?_, h.hX, h.hR, ?_, ?_, ?_, ?_, ?_, h.vX, h.vR⟩
  · rw [g3.block X (Nat.lt_of_lt_of_le h.ltX hsz12) (fun e => by injection e with e; exact h.ne e), hX2, h.x]
  · have q1 : Own w (fun k => (M k ∨ k = X ∨ k = R ∨ ∃ kv ∈ kvs, kv.2.1 = some k) ∨ v0.ownBlock = some k ∨ w.heap.size ≤ k) base 32 v all := h.own.ofM fun k hk hh => .inl (hh.elim id fun e => e.elim (fun e => by
      rcases hv0 with ⟨_, rfl⟩ | ⟨x, e1, hx⟩
      · cases e
      · exact .inr (.inr (.inr ⟨_, mget_mem e1, hx.1.symm.trans e⟩))) fun e => absurd hk (by omega))
    have q2 := q1.grown g1 fun b hb => by injection hb with hb; subst hb; exact ⟨h.vR, .inl (.inr (.inr (.inl rfl)))⟩
    have q3 := q2.grown g2 fun b hb => ⟨(hb0 b hb).2.2.2.1, .inr (.inl hb)⟩
    have q4 := q3.grown g3 fun b hb => by injection hb with hb; subst hb; exact ⟨h.vR, .inl (.inr (.inr (.inl rfl)))⟩
    refine q4.ofM fun k _ hh => .inl ?_
    rcases hh with hh | hh | hh | ⟨kv, hk, hh⟩
    · exact .inl (.inl hh)
    · exact .inl (.inr (.inl hh))
    · exact .inl (.inr (.inr (.inl hh)))
    · rcases hmem kv hk with rfl | ⟨hk', _⟩
      · rcases hat with e | e
        · exact .inr (.inl (e.symm.trans hh))
        · refine .inr (.inr ?_)
          have hh' : v1.ownBlock = some k := hh
          rw [hh'] at e; injection e with e; have := g1.size; omega
      · exact .inl (.inr (.inr (.inr ⟨kv, hk', hh⟩)))
  · refine hm.mono fun u kv hk ⟨e, o⟩ => ⟨e, ?_⟩
    have p1 : Own w2 (fun k => k = R) base 3 u kv.2.2 := Own.of_ints o.ints.1 o.ints.2
    have p2 := p1.grown g3 fun b hb => by
      injection hb with hb; subst hb
      refine ⟨fun e3 => ?_, rfl⟩
      rcases hmem kv hk with rfl | ⟨hk', hne⟩
      · exact (hb1 _ (e.symm.trans e3)).2.2.1 rfl
      · exact (h.vrow kv hk' _ (e.symm.trans e3)).2.2.1 rfl
    exact Own.of_ints p2.ints.1 p2.ints.2
  · intro kv hk
    rcases hmem kv hk with rfl | ⟨hk', _⟩
    · exact hy
    · exact h.okk kv hk'
  · intro kv hk kv' hk' b hb hb'
    rcases hmem kv hk with rfl | ⟨hk1, hne1⟩ <;> rcases hmem kv' hk' with rfl | ⟨hk2, hne2⟩
    · rfl
    · exact absurd hb' ((hb1 b hb).2.2.2.2 kv' hk2 hne2)
    · exact absurd hb ((hb1 b hb').2.2.2.2 kv hk1 hne1)
    · exact h.dis kv hk1 kv' hk2 b hb hb'
  · intro kv hk b hb
    rcases hmem kv hk with rfl | ⟨hk', hne⟩
    · obtain ⟨h1, h2, h3, h4, _⟩ := hb1 b hb
      exact ⟨Nat.lt_of_lt_of_le h1 g3.size, h2, h3, h4⟩
    · obtain ⟨h1, h2⟩ := h.vrow kv hk' b hb
      exact ⟨Nat.lt_of_lt_of_le h1 (Nat.le_trans hsz12 g3.size), h2⟩
end
end Go.Proofs.Ytflfgeaggknpaaa
