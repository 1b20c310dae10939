/-
  The program's plain data, and how cells hold them. Nothing of the program's code is named here.
-/
import Derived.Test.YtfciagcmggdldaaGreatDoorBase
import Derived.Lib.ConvBytes
import Derived.Lib.Strings
import Derived.Laws.IdiomStrings
namespace Go.Proofs.YtfciagcmggdldaaGreatDoor
open Go.RowKit

/-- A label: its name and value. -/
structure Lab where
  name : ByteArray
  value : ByteArray
  deriving DecidableEq
/-- A match of labels. -/
structure Mat where
  kind : Int
  name : ByteArray
  value : ByteArray
  deriving DecidableEq
/-- A sample. -/
structure Smp where
  T : Int
  V : Int
  deriving DecidableEq

def i64ok (n : Int) : Prop := -9223372036854775808 ≤ n ∧ n ≤ 9223372036854775807

instance : Rep Lab where
  size := 2
  pos := by decide
  rep _ _ cs l := cs = [.string l.name, .string l.value] ∧ l.name.size ≤ 9223372036854775807 ∧ l.value.size ≤ 9223372036854775807
  len := by rintro w M cs a ⟨rfl, _⟩; rfl
  one := by rintro w M cs a ⟨rfl, _⟩ u hu; simp at hu; rcases hu with rfl | rfl <;> rfl
  keep := by rintro w w' M M' cs a hk h; exact h
instance : Rep Mat where
  size := 3
  pos := by decide
  rep _ _ cs l := cs = [.int .i64 l.kind, .string l.name, .string l.value] ∧ i64ok l.kind ∧ l.name.size ≤ 9223372036854775807 ∧ l.value.size ≤ 9223372036854775807
  len := by rintro w M cs a ⟨rfl, _⟩; rfl
  one := by rintro w M cs a ⟨rfl, _⟩ u hu; simp at hu; rcases hu with rfl | rfl | rfl <;> rfl
  keep := by rintro w w' M M' cs a hk h; exact h
instance : Rep Smp where
  size := 2
  pos := by decide
  rep _ _ cs l := cs = [.int .i64 l.T, .int .i64 l.V] ∧ i64ok l.T ∧ i64ok l.V
  len := by rintro w M cs a ⟨rfl, _⟩; rfl
  one := by rintro w M cs a ⟨rfl, _⟩ u hu; simp at hu; rcases hu with rfl | rfl <;> rfl
  keep := by rintro w w' M M' cs a hk h; exact h

section
variable {w : World} {M : Nat → Prop} {A : Option Addr} {n c : Nat}
theorem Sl.lab {xs : List Lab} (h : Sl w M A n c xs) {k : Nat} (hk : k < n) :
    ∃ b off l, A = some ⟨b, off, none⟩ ∧ xs[k]? = some l ∧ w.cell? ⟨b, off + k * 2, none⟩ = some (.string l.name) ∧ w.cell? ⟨b, off + k * 2 + 1, none⟩ = some (.string l.value) ∧ l.name.size ≤ 9223372036854775807 ∧ l.value.size ≤ 9223372036854775807 := by
  obtain ⟨b, off, x, cs, e, hx, ⟨rfl, h1, h2⟩, hc⟩ := h.at_ hk
  exact ⟨b, off, x, e, hx, hc 0 _ rfl, hc 1 _ rfl, h1, h2⟩
theorem Sl.mat {xs : List Mat} (h : Sl w M A n c xs) {k : Nat} (hk : k < n) :
    ∃ b off l, A = some ⟨b, off, none⟩ ∧ xs[k]? = some l ∧ w.cell? ⟨b, off + k * 3, none⟩ = some (.int .i64 l.kind) ∧ w.cell? ⟨b, off + k * 3 + 1, none⟩ = some (.string l.name) ∧ w.cell? ⟨b, off + k * 3 + 2, none⟩ = some (.string l.value) ∧
      i64ok l.kind ∧ l.name.size ≤ 9223372036854775807 ∧ l.value.size ≤ 9223372036854775807 := by
  obtain ⟨b, off, x, cs, e, hx, ⟨rfl, h1, h2⟩, hc⟩ := h.at_ hk
  exact ⟨b, off, x, e, hx, hc 0 _ rfl, hc 1 _ rfl, hc 2 _ rfl, h1, h2⟩
theorem Sl.smp {xs : List Smp} (h : Sl w M A n c xs) {k : Nat} (hk : k < n) :
    ∃ b off l, A = some ⟨b, off, none⟩ ∧ xs[k]? = some l ∧ w.cell? ⟨b, off + k * 2, none⟩ = some (.int .i64 l.T) ∧ w.cell? ⟨b, off + k * 2 + 1, none⟩ = some (.int .i64 l.V) ∧ i64ok l.T ∧ i64ok l.V := by
  obtain ⟨b, off, x, cs, e, hx, ⟨rfl, h1, h2⟩, hc⟩ := h.at_ hk
  exact ⟨b, off, x, e, hx, hc 0 _ rfl, hc 1 _ rfl, h1, h2⟩
theorem Sl.i64 {xs : List Int} (h : Sl w M A n c xs) {k : Nat} (hk : k < n) :
    ∃ b off l, A = some ⟨b, off, none⟩ ∧ xs[k]? = some l ∧ w.cell? ⟨b, off + k, none⟩ = some (.int .i64 l) ∧ i64ok l := by
  obtain ⟨b, off, x, cs, e, hx, ⟨rfl, h1⟩, hc⟩ := h.at_ hk
  exact ⟨b, off, x, e, hx, by simpa [Rep.size] using hc 0 _ rfl, h1⟩
/-- All cells of a slice of ints, in the library's form. -/
theorem Sl.ints {xs : List Int} (h : Sl w M A n c xs) (hn : 0 < n) : ∃ b off, A = some ⟨b, off, none⟩ ∧ b < w.heap.size ∧ ∀ j, j < xs.length → w.cell? ⟨b, off + j, none⟩ = some (.int .i64 (xs.getD j 0)) := by
  obtain ⟨b, off, e, hb, hm, hx⟩ := h.addr hn
  refine ⟨b, off, e, hb, fun j hj => ?_⟩
  obtain ⟨cs, ⟨rfl, _⟩, hc⟩ := hx j xs[j] (List.getElem?_eq_getElem hj)
  have := hc 0 _ rfl
  rw [show off + j * Rep.size Int + 0 = off + j by simp [Rep.size]] at this
  rw [this, List.getD_eq_getElem?_getD, List.getElem?_eq_getElem hj]; rfl
theorem flatten_ints (zs : List Int) : (zs.map fun z => [Value.int .i64 z]).flatten = zs.map (Value.int .i64) := by
  induction zs with
  | nil => rfl
  | cons x r ih => simp only [List.map_cons, List.flatten_cons, ih]; rfl
/-- A row of ints that the call owns, in the library's form. -/
theorem Own.of_ints {base : Nat} {e : TypeId} {v : Value} {zs : List Int} (h : w.ownsRow base e 1 v zs.length (zs.map (Value.int .i64))) (hz : ∀ z ∈ zs, i64ok z) : Own w M base e v zs := by
  refine ⟨zs.map fun z => [Value.int .i64 z], by simp, fun i x cs hx hc => ?_, by rw [flatten_ints]; exact h⟩
  rw [List.getElem?_map, hx] at hc
  simp at hc
  subst hc
  exact ⟨rfl, hz x (List.mem_of_getElem? hx)⟩
theorem Own.ints {base : Nat} {e : TypeId} {v : Value} {zs : List Int} (h : Own w M base e v zs) : w.ownsRow base e 1 v zs.length (zs.map (Value.int .i64)) ∧ ∀ z ∈ zs, i64ok z := by
  obtain ⟨css, h1, h2, h3⟩ := h
  have hcs : css = zs.map fun z => [Value.int .i64 z] := by
    refine List.ext_getElem? fun i => ?_
    rw [List.getElem?_map]
    rcases Nat.lt_or_ge i zs.length with hi | hi
    · have hx := List.getElem?_eq_getElem hi
      have hc := List.getElem?_eq_getElem (show i < css.length by omega)
      obtain ⟨e1, _⟩ := h2 i _ _ hx hc
      rw [hx, hc, e1]; rfl
    · rw [List.getElem?_eq_none (by omega), List.getElem?_eq_none hi]; rfl
  rw [hcs, flatten_ints] at h3
  refine ⟨h3, fun z hz => ?_⟩
  obtain ⟨i, hi⟩ := List.mem_iff_getElem?.1 hz
  have hil := (List.getElem?_eq_some_iff.1 hi).1
  obtain ⟨_, h4⟩ := h2 i z _ hi (List.getElem?_eq_getElem (by omega))
  exact h4
theorem Sl.u8 {xs : List UInt8} (h : Sl w M A n c xs) {k : Nat} (hk : k < n) :
    ∃ b off l, A = some ⟨b, off, none⟩ ∧ xs[k]? = some l ∧ w.cell? ⟨b, off + k, none⟩ = some (.int .u8 (l.toNat : Int)) := by
  obtain ⟨b, off, x, cs, e, hx, rfl, hc⟩ := h.at_ hk
  exact ⟨b, off, x, e, hx, by simpa [Rep.size] using hc 0 _ rfl⟩
theorem Sl.str {xs : List ByteArray} (h : Sl w M A n c xs) {k : Nat} (hk : k < n) :
    ∃ b off l, A = some ⟨b, off, none⟩ ∧ xs[k]? = some l ∧ w.cell? ⟨b, off + k, none⟩ = some (.string l) ∧ l.size ≤ 9223372036854775807 := by
  obtain ⟨b, off, x, cs, e, hx, ⟨rfl, h1⟩, hc⟩ := h.at_ hk
  exact ⟨b, off, x, e, hx, by simpa [Rep.size] using hc 0 _ rfl, h1⟩
theorem Sl.list {α : Type} [Rep α] {xs : List (List α)} (h : Sl w M A n c xs) {k : Nat} (hk : k < n) :
    ∃ b off x A' c', A = some ⟨b, off, none⟩ ∧ xs[k]? = some x ∧ w.cell? ⟨b, off + k, none⟩ = some (.slice A' x.length c') ∧ Sl w M A' x.length c' x := by
  obtain ⟨b, off, x, cs, e, hx, ⟨v, rfl, A', c', rfl, hs⟩, hc⟩ := h.at_ hk
  exact ⟨b, off, x, A', c', e, hx, by simpa [Rep.size] using hc 0 _ rfl, hs⟩
end

/-- '[]byte(s)': a new row. -/
theorem conv_bytes {P : Program} {src dst e : TypeId} {u : TypeDesc} (hs : P.underlying src = some u) (hd : P.underlying dst = some (.slice e)) (he : P.underlying e = some (.int .u8)) (w : World) (M : Nat → Prop) (hM : ∀ k, M k → k < w.heap.size) (s : ByteArray) (hn : s.size ≤ 9223372036854775807) :
    ∃ (A : Option Addr) (c : Nat) (w' : World), (convert src dst (.string s)).run P w = .ok (.slice A s.size c) w' ∧ Below w.heap.size w w' ∧ Sl w' M A s.size c s.data.toList := by
  refine ⟨_, _, _, Lib.run_convert_string_bytes w src dst e s hs hd he, ⟨rfl, rfl, rfl, by rw [Lib.bytesWorld_size]; omega, fun k hk => Lib.bytesWorld_at_old w e s k hk⟩, ?_⟩
  refine ⟨Array.length_toList, grownCap_ge .., grownCap_le_maxLen _ _ _ _ (by unfold maxLen; omega), by simp, fun _ => ⟨_, 0, rfl, by rw [Lib.bytesWorld_size]; omega, fun h => by have := hM _ h; omega, fun i x hx => ?_⟩⟩
  have hi : i < s.size := by
    have := (List.getElem?_eq_some_iff.1 hx).1
    rw [Array.length_toList] at this
    exact this
  refine ⟨[.int .u8 (x.toNat : Int)], rfl, fun j u hu => ?_⟩
  have hj : j = 0 := by
    have := (List.getElem?_eq_some_iff.1 hu).1
    simp at this; omega
  subst hj
  simp at hu
  subst hu
  have := Lib.bytesWorld_cell w e s i hi
  rw [show 0 + i * Rep.size UInt8 + 0 = i by simp [Rep.size], this]
  have hg : s.data.toList.getD i 0 = x := by rw [List.getD_eq_getElem?_getD, hx]; rfl
  rw [hg]

/-- 'string(b)'. -/
theorem Sl.back {P : Program} {src dst e : TypeId} (hs : P.underlying src = some (.slice e)) (he : P.underlying e = some (.int .u8)) (hd : P.underlying dst = some .string) {w : World} {M : Nat → Prop} {A : Option Addr} {n c : Nat} {xs : List UInt8} (h : Sl w M A n c xs) :
    (convert src dst (.slice A n c)).run P w = .ok (.string ⟨xs.toArray⟩) w := by
  have hl := h.len
  cases A with
  | none =>
    have hc := h.2.2.2.1 rfl
    have hn : n = 0 := by have := h.2.1; omega
    subst hn
    obtain rfl : xs = [] := List.eq_nil_of_length_eq_zero hl
    rw [run_convert_bytes_string w src dst e none 0 c hs he hd]
    rfl
  | some a =>
    subst hl
    refine run_convert_bytes_back w src dst e a c xs hs he hd fun j hj => ?_
    obtain ⟨b, off, x, e1, hx, hc⟩ := h.u8 hj
    injection e1 with e1
    subst e1
    rw [List.getElem?_eq_getElem hj] at hx
    injection hx with hx
    rw [hx, show (⟨b, off, none⟩ : Addr).add j = ⟨b, off + j, none⟩ from by unfold Addr.add; split <;> simp_all]
    exact hc

theorem bytes_ext {a b : ByteArray} (h : a.toList = b.toList) : a = b := by
  have e : a.data.toList = b.data.toList := by rw [← Lib.toList_data, ← Lib.toList_data]; exact h
  exact ByteArray.ext (Array.toList_inj.1 e)
end Go.Proofs.YtfciagcmggdldaaGreatDoor
