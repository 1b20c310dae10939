/-
  Words for data in memory: what cells hold (Rep), a slice that reads as a list (Sl), a row that a call owns (Own), what a call may change (Keep, Below). Nothing of the program is named here.
-/
import Derived.WalkKit
import Derived.WalkLawsBesides
import Derived.WalkSpells
import Derived.Lib.Hide
import Derived.Deep.LoopGhost
import Derived.BigQuiet
import Derived.Maps.AppendAt
import Derived.Deep.AppendLies
namespace Go.Proofs.YtfciagcmggdldaaGreatDoor
open Go.RowKit

theorem eq_bool {a b : Bool} (h : b = a) : Ending.returned (.bool a) = .returned (.bool b) := by rw [h]
theorem eq_int {k : IntKind} {a b : Int} (h : b = a) : Ending.returned (.int k a) = .returned (.int k b) := by rw [h]
theorem eq_str {a b : ByteArray} (h : b = a) : Ending.returned (.string a) = .returned (.string b) := by rw [h]

theorem _root_.Go.RowKit.Below.new {w0 w : World} (h : Below w0.heap.size w0 w) (o : Obj) : Below w0.heap.size w0 (w.alloc o) := h.alloc h.size o
theorem _root_.Go.RowKit.Below.call {w0 w w' : World} (h : Below w0.heap.size w0 w) (g : Below w.heap.size w w') : Below w0.heap.size w0 w' := h.trans (g.mono h.size)
theorem _root_.Go.RowKit.Below.draws {w0 w : World} {B : Nat} (h : Below B w0 w) (n : Nat) : Below B w0 (w.drewN n) := ⟨h.os, h.tape, h.output, h.size, h.block⟩

/-- What a call has left as it was, in the walk's form. -/
theorem bcell {W w1 : World} (hb : Below W.heap.size W w1) : ∀ b o, b < W.heap.size → w1.cell? ⟨b, o, none⟩ = W.cell? ⟨b, o, none⟩ := fun b o h => hb.cell (p := ⟨b, o, none⟩) h
theorem bfroz {W w1 : World} (hb : Below W.heap.size W w1) : ∀ b o, b < W.heap.size → w1.frozen? ⟨b, o, none⟩ = W.frozen? ⟨b, o, none⟩ := fun b o h => hb.frozen (p := ⟨b, o, none⟩) h

/-- Blocks of w that are not in M stay as they are, and are not in M' either. -/
def Keep (M : Nat → Prop) (w w' : World) (M' : Nat → Prop) : Prop :=
  ∀ k, k < w.heap.size → ¬ M k → w'.heap[k]? = w.heap[k]? ∧ ¬ M' k

theorem Keep.lt {M M' : Nat → Prop} {w w' : World} (h : Keep M w w' M') {k : Nat} (hk : k < w.heap.size) (hm : ¬ M k) : k < w'.heap.size := by
  have := (h k hk hm).1
  rw [Array.getElem?_eq_getElem hk] at this
  exact (Array.getElem?_eq_some_iff.1 this).1

theorem Keep.cell {M M' : Nat → Prop} {w w' : World} (h : Keep M w w' M') {p : Addr} (hk : p.block < w.heap.size) (hm : ¬ M p.block) : w'.cell? p = w.cell? p :=
  World.cell?_of_block (h p.block hk hm).1

theorem Keep.refl (M : Nat → Prop) (w : World) : Keep M w w M := fun _ _ hm => ⟨rfl, hm⟩
theorem Keep.trans {M M' M'' : Nat → Prop} {w w' w'' : World} (h : Keep M w w' M') (g : Keep M' w' w'' M'') : Keep M w w'' M'' := fun k hk hm =>
  ⟨((g k (h.lt hk hm) (h k hk hm).2).1).trans (h k hk hm).1, (g k (h.lt hk hm) (h k hk hm).2).2⟩
theorem Keep.of_below {w w' : World} (h : Below w.heap.size w w') (M : Nat → Prop) : Keep M w w' M := fun k hk hm => ⟨h.block k hk, hm⟩
theorem Keep.of_grown {w w' : World} {row : Option Nat} (h : w.grownBy w' row) (M : Nat → Prop) (hr : ∀ k, row = some k → M k) : Keep M w w' M := fun k hk hm => ⟨h.block k hk (fun e => hm (hr k e.symm)), hm⟩
theorem Keep.alloc (M : Nat → Prop) (w : World) (o : Obj) : Keep M w (w.alloc o) M := fun k hk hm => ⟨Below.heap_alloc w o k hk, hm⟩
theorem Keep.drewN (M : Nat → Prop) (w : World) (n : Nat) : Keep M w (w.drewN n) M := fun _ _ hm => ⟨rfl, hm⟩

/-- What cells hold, read as data. -/
class Rep (α : Type) where
  size : Nat
  pos : 0 < size
  rep : World → (Nat → Prop) → List Value → α → Prop
  len : ∀ {w M cs a}, rep w M cs a → cs.length = size
  one : ∀ {w M cs a}, rep w M cs a → ∀ u ∈ cs, u.oneCell' = true
  keep : ∀ {w w' M M' cs a}, Keep M w w' M' → rep w M cs a → rep w' M' cs a

section
variable {α : Type} [Rep α] {w w' w'' : World} {M M' : Nat → Prop}

/-- Block b holds, from off on, the list's elements, one behind the other. -/
def RowAt (w : World) (M : Nat → Prop) (b off : Nat) (xs : List α) : Prop :=
  b < w.heap.size ∧ ¬ M b ∧ ∀ i x, xs[i]? = some x → ∃ cs, Rep.rep w M cs x ∧ ∀ j u, cs[j]? = some u → w.cell? ⟨b, off + i * Rep.size α + j, none⟩ = some u

theorem RowAt.keep {b off : Nat} {xs : List α} (hk : Keep M w w' M') (h : RowAt w M b off xs) : RowAt w' M' b off xs := by
  obtain ⟨hb, hm, hx⟩ := h
  refine ⟨hk.lt hb hm, (hk b hb hm).2, fun i x hi => ?_⟩
  obtain ⟨cs, hr, hc⟩ := hx i x hi
  exact ⟨cs, Rep.keep hk hr, fun j u hu => (hk.cell hb hm).trans (hc j u hu)⟩

/-- The slice value '.slice A n c' reads as the list xs. -/
def Sl (w : World) (M : Nat → Prop) (A : Option Addr) (n c : Nat) (xs : List α) : Prop :=
  xs.length = n ∧ n ≤ c ∧ c ≤ maxLen ∧ (A = none → c = 0) ∧ (0 < n → ∃ b off, A = some ⟨b, off, none⟩ ∧ RowAt w M b off xs)

theorem Sl.keep {A : Option Addr} {n c : Nat} {xs : List α} (h : Sl w M A n c xs) (hk : Keep M w w' M') : Sl w' M' A n c xs := by
  obtain ⟨h1, h2, h3, h4, h5⟩ := h
  refine ⟨h1, h2, h3, h4, fun hn => ?_⟩
  obtain ⟨b, off, e, hr⟩ := h5 hn
  exact ⟨b, off, e, hr.keep hk⟩
theorem Sl.below {A : Option Addr} {n c : Nat} {xs : List α} (h : Sl w M A n c xs) (hb : Below w.heap.size w w') : Sl w' M A n c xs := h.keep (.of_below hb M)
theorem Sl.len {A : Option Addr} {n c : Nat} {xs : List α} (h : Sl w M A n c xs) : xs.length = n := h.1
theorem Sl.le {A : Option Addr} {n c : Nat} {xs : List α} (h : Sl w M A n c xs) : n ≤ 9223372036854775807 := by have := h.2.1; have := h.2.2.1; unfold maxLen at this; omega
theorem Sl.cle {A : Option Addr} {n c : Nat} {xs : List α} (h : Sl w M A n c xs) : c ≤ 9223372036854775807 := by have := h.2.2.1; unfold maxLen at this; omega
theorem Sl.nil (w : World) (M : Nat → Prop) : Sl w M none 0 0 ([] : List α) := ⟨rfl, Nat.le_refl _, Nat.zero_le _, fun _ => rfl, fun h => absurd h (by omega)⟩
theorem Sl.addr {A : Option Addr} {n c : Nat} {xs : List α} (h : Sl w M A n c xs) (hn : 0 < n) : ∃ b off, A = some ⟨b, off, none⟩ ∧ RowAt w M b off xs := h.2.2.2.2 hn
/-- One element: its cells. -/
theorem Sl.at_ {A : Option Addr} {n c : Nat} {xs : List α} (h : Sl w M A n c xs) {k : Nat} (hk : k < n) :
    ∃ b off x cs, A = some ⟨b, off, none⟩ ∧ xs[k]? = some x ∧ Rep.rep w M cs x ∧ ∀ j u, cs[j]? = some u → w.cell? ⟨b, off + k * Rep.size α + j, none⟩ = some u := by
  obtain ⟨b, off, e, _, _, hx⟩ := h.addr (by omega)
  have hl : k < xs.length := by have := h.1; omega
  obtain ⟨cs, hr, hc⟩ := hx k xs[k] (List.getElem?_eq_getElem hl)
  exact ⟨b, off, _, cs, e, List.getElem?_eq_getElem hl, hr, hc⟩
/-- A cut from k on. -/
theorem Sl.from_ {A : Option Addr} {n c : Nat} {xs : List α} (h : Sl w M A n c xs) {k : Nat} (hk : k ≤ n) :
    Sl w M (if c = k then A else A.map (·.add (k * Rep.size α))) (n - k) (c - k) (xs.drop k) := by
  obtain ⟨h1, h2, h3, h4, h5⟩ := h
  refine ⟨by simp [h1], by omega, by omega, ?_, fun hn => ?_⟩
  · intro e
    split at e
    · have := h4 e; omega
    · cases A with
      | none => have := h4 rfl; omega
      | some a => simp at e
  · obtain ⟨b, off, rfl, hb, hm, hx⟩ := h5 (by omega)
    rw [if_neg (by omega)]
    have ha : (⟨b, off, none⟩ : Addr).add (k * Rep.size α) = ⟨b, off + k * Rep.size α, none⟩ := by unfold Addr.add; split <;> simp_all
    refine ⟨b, off + k * Rep.size α, by simp [ha], hb, hm, fun i x hi => ?_⟩
    rw [List.getElem?_drop] at hi
    obtain ⟨cs, hr, hc⟩ := hx _ x hi
    refine ⟨cs, hr, fun j u hu => ?_⟩
    rw [show off + k * Rep.size α + i * Rep.size α + j = off + (k + i) * Rep.size α + j by rw [Nat.add_mul]; omega]
    exact hc j u hu
/-- All but the first, in the walk's form. -/
theorem Sl.tail {b o n c : Nat} {x : α} {r : List α} (h : Sl w M (some ⟨b, o, none⟩) n c (x :: r)) (s : Nat) (hs : Rep.size α = s) :
    Sl w M (if c = 1 then some ⟨b, o, none⟩ else some ⟨b, o + s, none⟩) (n - 1) (c - 1) r := by
  subst hs
  have hn : 1 ≤ n := by have := h.len; simp at this; omega
  have h1 := h.from_ (k := 1) hn
  rw [Nat.one_mul] at h1
  have ha : (⟨b, o, none⟩ : Addr).add (Rep.size α) = ⟨b, o + Rep.size α, none⟩ := by
    unfold Addr.add
    rw [if_neg (by have := Rep.pos (α := α); omega)]
  simp only [Option.map_some, ha] at h1
  exact h1
/-- A cut up to k (within the length). -/
theorem Sl.upto {A : Option Addr} {n c : Nat} {xs : List α} (h : Sl w M A n c xs) {k : Nat} (hk : k ≤ n) : Sl w M A k c (xs.take k) := by
  obtain ⟨h1, h2, h3, h4, h5⟩ := h
  refine ⟨by simp [h1]; omega, by omega, h3, h4, fun hn => ?_⟩
  obtain ⟨b, off, e, hb, hm, hx⟩ := h5 (by omega)
  exact ⟨b, off, e, hb, hm, fun i x hi => hx i x (by rw [List.getElem?_take] at hi; split at hi; exact hi; cases hi)⟩

/-- One slice value. -/
def SlV (w : World) (M : Nat → Prop) (v : Value) (xs : List α) : Prop := ∃ A c, v = .slice A xs.length c ∧ Sl w M A xs.length c xs
theorem Sl.v {A : Option Addr} {n c : Nat} {xs : List α} (h : Sl w M A n c xs) : SlV w M (.slice A n c) xs := by have e := h.1; subst e; exact ⟨A, c, rfl, h⟩
theorem SlV.keep {v : Value} {xs : List α} (h : SlV w M v xs) (hk : Keep M w w' M') : SlV w' M' v xs := by
  obtain ⟨A, c, rfl, h⟩ := h
  exact ⟨A, c, rfl, h.keep hk⟩
theorem SlV.below {v : Value} {xs : List α} (h : SlV w M v xs) (hb : Below w.heap.size w w') : SlV w' M v xs := h.keep (.of_below hb M)

instance : Rep (List α) where
  size := 1
  pos := Nat.one_pos
  rep w M cs xs := ∃ v, cs = [v] ∧ SlV w M v xs
  len := by rintro w M cs a ⟨v, rfl, _⟩; rfl
  one := by rintro w M cs a ⟨v, rfl, A, c, rfl, _⟩ u hu; simp at hu; subst hu; rfl
  keep := by rintro w w' M M' cs a hk ⟨v, rfl, h⟩; exact ⟨v, rfl, h.keep hk⟩
end

/-! ### Plain data -/

/-- An int64 or int. -/
instance : Rep Int where
  size := 1
  pos := Nat.one_pos
  rep _ _ cs x := cs = [.int .i64 x] ∧ -9223372036854775808 ≤ x ∧ x ≤ 9223372036854775807
  len := by rintro w M cs a ⟨rfl, _⟩; rfl
  one := by rintro w M cs a ⟨rfl, _⟩ u hu; simp at hu; subst hu; rfl
  keep := by rintro w w' M M' cs a hk h; exact h
instance : Rep UInt64 where
  size := 1
  pos := Nat.one_pos
  rep _ _ cs x := cs = [.int .u64 (x.toNat : Int)]
  len := by rintro w M cs a rfl; rfl
  one := by rintro w M cs a rfl u hu; simp at hu; subst hu; rfl
  keep := by rintro w w' M M' cs a hk h; exact h
instance : Rep UInt8 where
  size := 1
  pos := Nat.one_pos
  rep _ _ cs x := cs = [.int .u8 (x.toNat : Int)]
  len := by rintro w M cs a rfl; rfl
  one := by rintro w M cs a rfl u hu; simp at hu; subst hu; rfl
  keep := by rintro w w' M M' cs a hk h; exact h
instance : Rep ByteArray where
  size := 1
  pos := Nat.one_pos
  rep _ _ cs s := cs = [.string s] ∧ s.size ≤ 9223372036854775807
  len := by rintro w M cs a ⟨rfl, _⟩; rfl
  one := by rintro w M cs a ⟨rfl, _⟩ u hu; simp at hu; subst hu; rfl
  keep := by rintro w w' M M' cs a hk h; exact h

/-! ### A row that the call owns -/

/-- What is known of an element type: its slice type t, its zero's cells. -/
structure Elem (P : Program) (t e : TypeId) (size bytes : Nat) : Prop where
  under : P.underlying t = some (.slice e)
  info : ∃ (i : TypeInfo) (z : Value), P.info? e = some i ∧ i.zero = some z ∧ i.size = size ∧ i.bytes = bytes ∧ z.cells.size = size ∧ 0 < size ∧ 0 < bytes

/-- M, and the row that v owns. -/
def mOr (M : Nat → Prop) (v : Value) : Nat → Prop := fun k => M k ∨ v.ownBlock = some k

theorem Rep.mono {α : Type} [Rep α] {w : World} {M M' : Nat → Prop} {cs : List Value} {a : α} (h : Rep.rep w M cs a) (hm : ∀ k, k < w.heap.size → M' k → M k) : Rep.rep w M' cs a :=
  Rep.keep (fun k hk hn => ⟨rfl, fun hh => hn (hm k hk hh)⟩) h
theorem SlV.mono {α : Type} [Rep α] {w : World} {M M' : Nat → Prop} {v : Value} {xs : List α} (h : SlV w M v xs) (hm : ∀ k, k < w.heap.size → M' k → M k) : SlV w M' v xs :=
  h.keep (fun k hk hn => ⟨rfl, fun hh => hn (hm k hk hh)⟩)
theorem Sl.mono {α : Type} [Rep α] {w : World} {M M' : Nat → Prop} {A : Option Addr} {n c : Nat} {xs : List α} (h : Sl w M A n c xs) (hm : ∀ k, k < w.heap.size → M' k → M k) : Sl w M' A n c xs :=
  h.keep (fun k hk hn => ⟨rfl, fun hh => hn (hm k hk hh)⟩)

section
variable {α : Type} [Rep α] {w w' w'' : World} {M M' : Nat → Prop} {base : Nat} {e : TypeId} {v : Value} {xs : List α}

/-- v owns a row of its own, from block base on, that holds xs; no element reads a block of M, nor the row itself. -/
def Own (w : World) (M : Nat → Prop) (base : Nat) (e : TypeId) (v : Value) (xs : List α) : Prop :=
  ∃ css : List (List Value), css.length = xs.length ∧ (∀ (i : Nat) (x : α) (cs : List Value), xs[i]? = some x → css[i]? = some cs → Rep.rep w (mOr M v) cs x) ∧ w.ownsRow base e (Rep.size α) v xs.length css.flatten

theorem Own.nil (w : World) (M : Nat → Prop) (base : Nat) (e : TypeId) : Own w M base e (.slice none 0 0) ([] : List α) := ⟨[], rfl, by simp, World.ownsRow_nil w base e _⟩

theorem Own.below (h : Own w M base e v xs) (hb : Below w.heap.size w w') : Own w' M base e v xs := by
  obtain ⟨css, h1, h2, h3⟩ := h
  exact ⟨css, h1, fun i x cs hx hc => Rep.keep (.of_below hb _) (h2 i x cs hx hc),
    h3.kept (row := none) ⟨hb.os, hb.tape, hb.output, hb.size, fun k hk _ => hb.block k hk⟩ (by cases v.ownBlock <;> simp)⟩
theorem Own.alloc (h : Own w M base e v xs) (o : Obj) : Own (w.alloc o) M base e v xs := h.below ((Below.refl _ _).alloc (Nat.le_refl _) o)
theorem Own.drewN (h : Own w M base e v xs) (n : Nat) : Own (w.drewN n) M base e v xs := h.below ⟨rfl, rfl, rfl, Nat.le_refl _, fun _ _ => rfl⟩
theorem Own.drew (h : Own w M base e v xs) : Own w.drew M base e v xs := h.below ⟨rfl, rfl, rfl, Nat.le_refl _, fun _ _ => rfl⟩
theorem Own.lt (h : Own w M base e v xs) : ∀ k, v.ownBlock = some k → base ≤ k ∧ k < w.heap.size := by
  obtain ⟨css, h1, h2, h3⟩ := h
  exact h3.lt
theorem Own.from_ {base' : Nat} (h : Own w M base e v xs) (hb : base' ≤ base) : Own w M base' e v xs := by
  obtain ⟨css, h1, h2, hl, h3⟩ := h
  refine ⟨css, h1, h2, hl, ?_⟩
  rcases h3 with h3 | ⟨g, cap, cur, hv, hg, r⟩
  · exact .inl h3
  · exact .inr ⟨g, cap, cur, hv, Nat.le_trans hb hg, r⟩
theorem Own.form (h : Own w M base e v xs) : ∃ A c, v = .slice A xs.length c := by
  obtain ⟨css, h1, h2, hl, h3⟩ := h
  rcases h3 with ⟨rfl, hn⟩ | ⟨g, cap, cur, rfl, _⟩
  · exact ⟨none, 0, by rw [hn]⟩
  · exact ⟨_, _, rfl⟩

theorem flatten_get {css : List (List Value)} {s : Nat} (hs : ∀ c ∈ css, c.length = s) : ∀ {i : Nat} {cs : List Value} {j : Nat}, css[i]? = some cs → j < s → css.flatten[i * s + j]? = cs[j]? := by
  induction css with
  | nil => intro i cs j h; simp at h
  | cons c r ih =>
    intro i cs j h hj
    have hc : c.length = s := hs c (by simp)
    cases i with
    | zero =>
      simp at h; subst h
      rw [List.flatten_cons, Nat.zero_mul, Nat.zero_add, List.getElem?_append_left (by omega)]
    | succ i =>
      simp only [List.getElem?_cons_succ] at h
      rw [List.flatten_cons, List.getElem?_append_right (by rw [hc, Nat.add_mul]; omega), hc, show (i + 1) * s + j - s = i * s + j by rw [Nat.add_mul]; omega]
      exact ih (fun c hc => hs c (List.mem_cons_of_mem _ hc)) h hj

/-- A row that is owned reads as a slice, once no block of it is in M. -/
theorem Own.sl (h : Own w M base e v xs) (hM : ∀ k, M k → k < base) : SlV w M v xs := by
  obtain ⟨css, h1, h2, hl, h3⟩ := h
  have h2' : ∀ (i : Nat) (x : α) (cs : List Value), xs[i]? = some x → css[i]? = some cs → Rep.rep w M cs x := fun i x cs hx hc => Rep.mono (h2 i x cs hx hc) (fun k _ hk => .inl hk)
  have hsz : ∀ c ∈ css, c.length = Rep.size α := by
    intro c hc
    obtain ⟨i, hi⟩ := List.mem_iff_getElem?.1 hc
    have hlt : i < css.length := (List.getElem?_eq_some_iff.1 hi).1
    exact Rep.len (h2 i (xs[i]'(by omega)) c (List.getElem?_eq_getElem (by omega)) hi)
  rcases h3 with ⟨rfl, hn⟩ | ⟨g, cap, cur, rfl, hg, hh, hc1, hc2, hc3, hc4⟩
  · have : xs = [] := List.eq_nil_of_length_eq_zero hn
    subst this
    exact ⟨none, 0, rfl, Sl.nil w M⟩
  · refine ⟨_, _, rfl, rfl, hc1, hc2, by simp, fun hn => ⟨g, 0, rfl, (Array.getElem?_eq_some_iff.1 hh).1, fun hm => by have := hM g hm; omega, fun i x hi => ?_⟩⟩
    have hil : i < xs.length := (List.getElem?_eq_some_iff.1 hi).1
    have hcs : css[i]? = some (css[i]'(by omega)) := List.getElem?_eq_getElem (by omega)
    have hr := h2' i x _ hi hcs
    refine ⟨_, hr, fun j u hu => ?_⟩
    have hj : j < Rep.size α := by rw [← Rep.len hr]; exact (List.getElem?_eq_some_iff.1 hu).1
    have hf := flatten_get hsz hcs hj
    rw [hu, ← hc4, List.getElem?_take] at hf
    split at hf
    · rw [cell_of_row w g _ cur e (0, 0) hh, Nat.zero_add]
      simpa using hf
    · cases hf

/-- The first of what is owned: the slice cut up to k. -/
theorem Own.upto {A : Option Addr} {n c k : Nat} (h : Own w M base e (.slice A n c) xs) (hk : k ≤ xs.length) : Own w M base e (.slice A k c) (xs.take k) := by
  obtain ⟨css, h1, h2, hl, h3⟩ := h
  have hsz : ∀ c ∈ css, c.length = Rep.size α := by
    intro c hc
    obtain ⟨i, hi⟩ := List.mem_iff_getElem?.1 hc
    have hlt : i < css.length := (List.getElem?_eq_some_iff.1 hi).1
    exact Rep.len (h2 i (xs[i]'(by omega)) c (List.getElem?_eq_getElem (by omega)) hi)
  have hft : ∀ (k : Nat) (css : List (List Value)), (∀ c ∈ css, c.length = Rep.size α) → k ≤ css.length → (css.take k).flatten = css.flatten.take (k * Rep.size α) := by
    intro k
    induction k with
    | zero => intro css _ _; simp
    | succ k ih =>
      intro css hs hk
      cases css with
      | nil => simp at hk
      | cons c r =>
        rw [List.take_succ_cons, List.flatten_cons, List.flatten_cons, ih r (fun c hc => hs c (List.mem_cons_of_mem _ hc)) (by simpa using hk), List.take_append]
        have hc : c.length = Rep.size α := hs c (by simp)
        have h1 : List.take ((k + 1) * Rep.size α) c = c := List.take_of_length_le (by rw [hc, Nat.add_mul]; omega)
        rw [h1, hc, Nat.add_mul, Nat.one_mul, Nat.add_sub_cancel]
  refine ⟨css.take k, by simp [h1], fun i x cs hx hc => ?_, ?_⟩
  · rw [List.getElem?_take] at hx hc
    split at hx
    · rename_i hik
      rw [if_pos hik] at hc
      exact Rep.mono (h2 i x cs hx hc) (fun j _ hj => hj.elim .inl (fun e => .inr (by cases A <;> exact e)))
    · cases hx
  · have hlt : (xs.take k).length = k := by rw [List.length_take]; omega
    rw [hlt, hft k css hsz (by omega)]
    refine ⟨by rw [List.length_take, hl]; exact Nat.min_eq_left (Nat.mul_le_mul_right _ hk), ?_⟩
    rcases h3 with ⟨hv, hn⟩ | ⟨g, cap, cur, hv, hg, hh, hc1, hc2, hc3, hc4⟩
    · injection hv with h4 h5 h6
      subst h4; subst h6
      have : k = 0 := by omega
      subst this
      exact .inl ⟨rfl, rfl⟩
    · injection hv with h4 h5 h6
      subst h4; subst h5; subst h6
      refine .inr ⟨g, _, cur, rfl, hg, hh, by omega, hc2, hc3, ?_⟩
      rw [← hc4, List.take_take, Nat.min_eq_left (Nat.mul_le_mul_right _ hk)]

theorem Keep.app {v' : Value} (hg : w.grownBy w' v.ownBlock) (ho : v'.ownBlock = v.ownBlock ∨ v'.ownBlock = some w.heap.size) : Keep (mOr M v) w w' (mOr M v') := by
  intro k hk hn
  have h1 : ¬ M k := fun h => hn (.inl h)
  have h2 : v.ownBlock ≠ some k := fun h => hn (.inr h)
  refine ⟨hg.block k hk (fun e => h2 e.symm), fun hh => ?_⟩
  rcases hh with hh | hh
  · exact h1 hh
  · rcases ho with e | e
    · exact h2 (e ▸ hh)
    · rw [e] at hh; injection hh; omega

/-- 'append(out, y..)': the cells of all that comes lie one behind the other. -/
theorem run_app {P : Program} {t ty : TypeId} {bytes : Nat} (E : Elem P t e (Rep.size α) bytes) (hown : Own w M base e v xs) {ys : List α} {A : Option Addr} {m cap : Nat} (hs : Sl w (mOr M v) A m cap ys)
    (hb : (xs.length + m) * bytes ≤ 140737488355328) (hbase : base ≤ w.heap.size) :
    ∃ v' w', (Builtin.append_ #[t, t] ty #[v, .slice A m cap]).run P w = .ok v' w' ∧ Own w' M base e v' (xs ++ ys) ∧ w.grownBy w' v.ownBlock ∧ (v'.ownBlock = v.ownBlock ∨ v'.ownBlock = some w.heap.size) := by
  obtain ⟨css, h1, h2, h3⟩ := hown
  obtain ⟨hu, i, z, hi, hz, hsi, hby, hzs, hpos, hbp⟩ := E
  have hm1 : xs.length + m ≤ maxLen := by
    have : (xs.length + m) * 1 ≤ (xs.length + m) * bytes := Nat.mul_le_mul_left _ hbp
    unfold maxLen; omega
  rcases Nat.eq_zero_or_pos m with h0 | h0
  · subst h0
    have hy : ys = [] := List.eq_nil_of_length_eq_zero hs.1
    subst hy
    cases A with
    | none =>
      have hc := hs.2.2.2.1 rfl
      subst hc
      refine ⟨v, w, ?_, by simpa using ⟨css, h1, h2, h3⟩, World.grownBy.refl w _, .inl rfl⟩
      rcases h3.2 with ⟨rfl, hn⟩ | ⟨g, c, cur, rfl, _, _, hnc, _⟩
      · simp [Builtin.append_, run_underlying hu, sizeOf, typeInfo, hi, Builtin.lenOf, Builtin.firstCells]
      · simp [Builtin.append_, run_underlying hu, sizeOf, typeInfo, hi, Builtin.lenOf, Builtin.firstCells, hnc, storeCells]
    | some a =>
      obtain ⟨v', w', hrun, hown', hg, _, ho⟩ := run_append_own_at (P := P) w base t ty e i z _ bytes hu hi hz hsi hby hzs hpos v xs.length css.flatten h3 a 0 cap [] (by simp) (by simp) (by simp) hm1 hb hbase
      refine ⟨v', w', hrun, ⟨css, by simp [h1], fun i x c hx hcc => ?_, by simpa using hown'⟩, hg, ho⟩
      exact Rep.keep (.app hg ho) (h2 i x c (by simpa using hx) hcc)
  · obtain ⟨b, off, rfl, hb1, hb2, hx⟩ := hs.addr h0
    have hlen : ys.length = m := hs.1
    have hadd : ∀ j, (⟨b, off, none⟩ : Addr).add j = ⟨b, off + j, none⟩ := by intro j; unfold Addr.add; split <;> simp_all
    -- the cells of ys, one behind the other
    have hall : ∃ dss : List (List Value), dss.length = ys.length ∧ (∀ (i : Nat) (y : α) (cs : List Value), ys[i]? = some y → dss[i]? = some cs → Rep.rep w (mOr M v) cs y ∧ ∀ j u, cs[j]? = some u → w.cell? ⟨b, off + i * Rep.size α + j, none⟩ = some u) := by
      have key : ∀ k, k ≤ ys.length → ∃ dss : List (List Value), dss.length = k ∧ (∀ (i : Nat) (y : α) (cs : List Value), i < k → ys[i]? = some y → dss[i]? = some cs → Rep.rep w (mOr M v) cs y ∧ ∀ j u, cs[j]? = some u → w.cell? ⟨b, off + i * Rep.size α + j, none⟩ = some u) := by
        intro k
        induction k with
        | zero => intro _; exact ⟨[], rfl, fun i y cs h => by omega⟩
        | succ k ih =>
          intro hk
          obtain ⟨dss, hd, hr⟩ := ih (by omega)
          obtain ⟨cs, hc1, hc2⟩ := hx k ys[k] (List.getElem?_eq_getElem (by omega))
          refine ⟨dss ++ [cs], by simp [hd], fun i y c hi hy hcc => ?_⟩
          by_cases hik : i < k
          · rw [List.getElem?_append_left (by omega)] at hcc
            exact hr i y c hik hy hcc
          · have : i = k := by omega
            subst this
            rw [List.getElem?_append_right (by omega), hd, Nat.sub_self] at hcc
            simp at hcc
            subst hcc
            rw [List.getElem?_eq_getElem (by omega)] at hy
            injection hy with hy
            subst hy
            exact ⟨hc1, hc2⟩
      obtain ⟨dss, hd, hr⟩ := key ys.length (Nat.le_refl _)
      refine ⟨dss, hd, fun i y cs hy hc => ?_⟩
      have := hr i y cs (List.getElem?_eq_some_iff.1 hy).1 hy hc
      simpa using this
    obtain ⟨dss, hd, hr⟩ := hall
    have hsz : ∀ c ∈ dss, c.length = Rep.size α := by
      intro c hc
      obtain ⟨i, hi⟩ := List.mem_iff_getElem?.1 hc
      have hlt : i < dss.length := (List.getElem?_eq_some_iff.1 hi).1
      exact Rep.len (hr i (ys[i]'(by omega)) c (List.getElem?_eq_getElem (by omega)) hi).1
    have hfl : dss.flatten.length = m * Rep.size α := by
      rw [← hlen, ← hd]
      clear hr hd
      induction dss with
      | nil => simp
      | cons c r ih =>
        rw [List.flatten_cons, List.length_append, ih (fun c hc => hsz c (List.mem_cons_of_mem _ hc)), hsz c (by simp), List.length_cons, Nat.add_mul]
        omega
    have hget : ∀ j u, dss.flatten[j]? = some u → ∃ i c k, dss[i]? = some c ∧ c[k]? = some u ∧ j = i * Rep.size α + k := by
      clear hr hd hfl
      induction dss with
      | nil => intro j u h; simp at h
      | cons c r ih =>
        intro j u h
        rw [List.flatten_cons, List.getElem?_append] at h
        split at h
        · exact ⟨0, c, j, rfl, h, by omega⟩
        · obtain ⟨i, c', k, hi, hk, he⟩ := ih (fun c hc => hsz c (List.mem_cons_of_mem _ hc)) _ u h
          have := hsz c (by simp)
          exact ⟨i + 1, c', k, hi, hk, by rw [Nat.add_mul]; omega⟩
    obtain ⟨v', w', hrun, hown', hg, _, ho⟩ := run_append_own_at (P := P) w base t ty e i z _ bytes hu hi hz hsi hby hzs hpos v xs.length css.flatten h3 ⟨b, off, none⟩ m cap dss.flatten hfl
      (fun j u hj => by
        obtain ⟨i, c, k, hi, hk, he⟩ := hget j u hj
        have hil : i < ys.length := by rw [← hd]; exact (List.getElem?_eq_some_iff.1 hi).1
        rw [hadd, he, ← Nat.add_assoc]
        have := (hr i _ c (List.getElem?_eq_getElem hil) hi).2 k u hk
        simpa using this)
      (fun u hu => by
        obtain ⟨j, hj⟩ := List.mem_iff_getElem?.1 hu
        obtain ⟨i, c, k, hi, hk, he⟩ := hget j u hj
        have hil : i < ys.length := by rw [← hd]; exact (List.getElem?_eq_some_iff.1 hi).1
        exact Rep.one (hr i _ c (List.getElem?_eq_getElem hil) hi).1 u (List.mem_of_getElem? hk)) hm1 hb hbase
    refine ⟨v', w', hrun, ⟨css ++ dss, by simp [h1, hd], fun i x c hx hcc => ?_, by rw [List.length_append, hlen]; simpa using hown'⟩, hg, ho⟩
    refine Rep.keep (.app hg ho) ?_
    rw [List.getElem?_append] at hx hcc
    split at hx
    · rw [if_pos (by omega)] at hcc
      exact h2 i x c hx hcc
    · rw [if_neg (by omega), h1] at hcc
      exact (hr _ x c hx hcc).1

/-- One element in a block of its own, as 'append(out, x)' lays it. -/
theorem Sl.new {y : α} {ca : Array Value} (hM : ∀ k, M k → k < w.heap.size) (hr : Rep.rep w M ca.toList y) (e' : TypeId) : Sl (w.alloc (.cells ca e')) M (some ⟨w.heap.size, 0, none⟩) 1 1 [y] := by
  have hh : (w.alloc (.cells ca e')).heap[w.heap.size]? = some (.cells ca e' (0, 0)) := heap_alloc_new w _
  refine ⟨rfl, Nat.le_refl _, by unfold maxLen; omega, by simp, fun _ => ⟨_, 0, rfl, by simp, fun h => by have := hM _ h; omega, fun i x hi => ?_⟩⟩
  have h0 : i = 0 := by
    have := (List.getElem?_eq_some_iff.1 hi).1
    simp at this; omega
  subst h0
  simp at hi
  subst hi
  refine ⟨ca.toList, Rep.keep (.alloc M w _) hr, fun j u hu => ?_⟩
  rw [cell_of_row _ _ _ ca e' (0, 0) hh]
  simpa using hu

/-- Some elements in a block of their own, as a literal lays them. -/
theorem Sl.newN {ys : List α} {ca : Array Value} {css : List (List Value)} (hM : ∀ k, M k → k < w.heap.size) (hlen : css.length = ys.length) (hr : ∀ (i : Nat) (y : α) (cs : List Value), ys[i]? = some y → css[i]? = some cs → Rep.rep w M cs y) (hca : ca.toList = css.flatten) (hbig : ys.length ≤ maxLen) (e' : TypeId) :
    Sl (w.alloc (.cells ca e')) M (some ⟨w.heap.size, 0, none⟩) ys.length ys.length ys := by
  have hh : (w.alloc (.cells ca e')).heap[w.heap.size]? = some (.cells ca e' (0, 0)) := heap_alloc_new w _
  have hsz : ∀ c ∈ css, c.length = Rep.size α := by
    intro c hc
    obtain ⟨i, hi⟩ := List.mem_iff_getElem?.1 hc
    have hlt : i < css.length := (List.getElem?_eq_some_iff.1 hi).1
    exact Rep.len (hr i (ys[i]'(by omega)) c (List.getElem?_eq_getElem (by omega)) hi)
  refine ⟨rfl, Nat.le_refl _, hbig, by simp, fun _ => ⟨_, 0, rfl, by simp, fun h => by have := hM _ h; omega, fun i x hi => ?_⟩⟩
  have hil : i < ys.length := (List.getElem?_eq_some_iff.1 hi).1
  have hcs : css[i]? = some (css[i]'(by omega)) := List.getElem?_eq_getElem (by omega)
  have hrr := hr i x _ hi hcs
  refine ⟨_, Rep.keep (.alloc M w _) hrr, fun j u hu => ?_⟩
  have hj : j < Rep.size α := by rw [← Rep.len hrr]; exact (List.getElem?_eq_some_iff.1 hu).1
  have hf := flatten_get hsz hcs hj
  rw [hu, ← hca] at hf
  rw [cell_of_row _ _ _ ca e' (0, 0) hh, Nat.zero_add]
  simpa using hf

theorem wpList_app {P : Program} {ops : Array Oper} {rest : List Oper} {o : Oper} {a : Act} {Q : Exit → Act → World → Prop} (hgd : o.guard = none) (s x : Operand) (t : TypeId)
    (ho : o.op = .call { callee := .builtin .append, args := #[s, x], argTypes := #[t, t] }) {bytes : Nat} (E : Elem P t e (Rep.size α) bytes) (v : Value) (xs : List α) (hs : a.eval s = v) (hown : Own w M base e v xs)
    (ys : List α) (A : Option Addr) (m cap : Nat) (hx : a.eval x = .slice A m cap) (hsl : Sl w (mOr M v) A m cap ys) (hb : (xs.length + m) * bytes ≤ 140737488355328) (hbase : base ≤ w.heap.size)
    (h : ∀ v' w', Own w' M base e v' (xs ++ ys) → w.grownBy w' v.ownBlock → (v'.ownBlock = v.ownBlock ∨ v'.ownBlock = some w.heap.size) → wpList P ops Q rest (a.put o.dst v') w') :
    wpList P ops Q (o :: rest) a w := by
  refine wpList_plain hgd fun K hK => ?_
  obtain ⟨v', w', hr, h2, h3, h4⟩ := run_app (P := P) (ty := o.type) E hown hsl hb hbase
  unfold Oper.wp execOp
  simp only [ho, resolve, invoke, builtin, Sem.run_bind, Sem.run_pure, Result.andThen_ok, List.map_toArray, List.map_cons, List.map_nil, hs, hx, hr]
  exact hK _ _ (h v' w' h2 h3 h4)

/-- 'append(out, y)', y's cells in the block that the operation before it has made. -/
theorem wpList_app1 {P : Program} {ops : Array Oper} {rest : List Oper} {o : Oper} {a : Act} {Q : Exit → Act → World → Prop} (hgd : o.guard = none) (s x : Operand) (t : TypeId)
    (ho : o.op = .call { callee := .builtin .append, args := #[s, x], argTypes := #[t, t] }) {bytes : Nat} (E : Elem P t e (Rep.size α) bytes) {v : Value} {xs : List α} (hs : a.eval s = v) (hown : Own w M base e v xs)
    {ca : Array Value} {e' : TypeId} (hx : a.eval x = .slice (some ⟨w.heap.size, 0, none⟩) 1 1) (y : α) (hr : Rep.rep w (mOr M v) ca.toList y) (hM : ∀ k, M k → k < base) (hb : (xs.length + 1) * bytes ≤ 140737488355328) (hbase : base ≤ w.heap.size)
    (h : ∀ v' w', Own w' M base e v' (xs ++ [y]) → Below base w w' → Keep (mOr M v) w w' (mOr M v') → wpList P ops Q rest (a.put o.dst v') w') :
    wpList P ops Q (o :: rest) a (w.alloc (.cells ca e')) := by
  refine wpList_app (w := w.alloc (.cells ca e')) hgd s x t ho E v xs hs (hown.alloc _) [y] _ 1 1 hx (Sl.new (fun k hk => ?_) hr e') hb (by simp; omega) fun v' w' h1 h2 h3 => ?_
  · rcases hk with hk | hk
    · have := hM k hk; omega
    · exact (hown.lt k hk).2
  · have hg : w.grownBy w' v.ownBlock := ⟨h2.os, h2.tape, h2.output, Nat.le_trans (by simp) h2.size, fun k hk hne => (h2.block k (by simp; omega) hne).trans (Below.heap_alloc w _ k hk)⟩
    exact h v' w' h1 ((Below.refl _ _).grown hg hbase (fun k hk => (hown.lt k hk).1)) ((Keep.alloc _ w _).trans (Keep.app h2 h3))
theorem Keep.own_new (hb : Below w.heap.size w w') (ho : Own w' M w.heap.size e v xs) : Keep M w w' (mOr M v) := fun k hk hm =>
  ⟨hb.block k hk, fun h => h.elim hm fun e => by have := (ho.lt k e).1; omega⟩
theorem mOr_nil (M : Nat → Prop) : mOr M (.slice none 0 0) = M := by
  funext k
  apply propext
  unfold mOr
  simp [Value.ownBlock]
theorem mOr_lt {B : Nat} (hM : ∀ k, M k → k < B) (hown : Own w M base e v xs) (hB : B ≤ w.heap.size) : ∀ k, mOr M v k → k < w.heap.size := by
  rintro k (hk | hk)
  · have := hM k hk; omega
  · exact (hown.lt k hk).2
end
end Go.Proofs.YtfciagcmggdldaaGreatDoor
