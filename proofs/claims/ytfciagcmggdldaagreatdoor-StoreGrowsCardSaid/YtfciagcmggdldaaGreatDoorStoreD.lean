/-
  How cells hold series and puts.
-/
import Derived.Test.YtfciagcmggdldaaGreatDoorPStore
namespace Go.Proofs.YtfciagcmggdldaaGreatDoor
open Go.RowKit

instance : Rep Ser where
  size := 2
  pos := by decide
  rep w M cs s := ∃ v u, cs = [v, u] ∧ SlV w M v s.L ∧ SlV w M u s.S
  len := by rintro w M cs a ⟨v, u, rfl, _⟩; rfl
  one := by
    rintro w M cs a ⟨v, u, rfl, ⟨A, c, rfl, _⟩, ⟨B, d, rfl, _⟩⟩ x hx
    simp at hx
    rcases hx with rfl | rfl <;> rfl
  keep := by rintro w w' M M' cs a hk ⟨v, u, rfl, h1, h2⟩; exact ⟨v, u, rfl, h1.keep hk, h2.keep hk⟩
instance : Rep PutD where
  size := 3
  pos := by decide
  rep w M cs p := ∃ v, cs = [v, .int .i64 p.X.T, .int .i64 p.X.V] ∧ SlV w M v p.L ∧ i64ok p.X.T ∧ i64ok p.X.V
  len := by rintro w M cs a ⟨v, rfl, _⟩; rfl
  one := by
    rintro w M cs a ⟨v, rfl, ⟨A, c, rfl, _⟩, _⟩ x hx
    simp at hx
    rcases hx with rfl | rfl | rfl <;> rfl
  keep := by rintro w w' M M' cs a hk ⟨v, rfl, h1, h2⟩; exact ⟨v, rfl, h1.keep hk, h2⟩

section
variable {w : World} {M : Nat → Prop} {A : Option Addr} {n c : Nat}
theorem Sl.ser {xs : List Ser} (h : Sl w M A n c xs) {k : Nat} (hk : k < n) :
    ∃ b off s A1 c1 A2 c2, A = some ⟨b, off, none⟩ ∧ xs[k]? = some s ∧ w.cell? ⟨b, off + k * 2, none⟩ = some (.slice A1 s.L.length c1) ∧ w.cell? ⟨b, off + k * 2 + 1, none⟩ = some (.slice A2 s.S.length c2) ∧ Sl w M A1 s.L.length c1 s.L ∧ Sl w M A2 s.S.length c2 s.S := by
  obtain ⟨b, off, x, cs, e, hx, ⟨v, u, rfl, ⟨A1, c1, rfl, h1⟩, ⟨A2, c2, rfl, h2⟩⟩, hc⟩ := h.at_ hk
  exact ⟨b, off, x, A1, c1, A2, c2, e, hx, hc 0 _ rfl, hc 1 _ rfl, h1, h2⟩
theorem Sl.put {xs : List PutD} (h : Sl w M A n c xs) {k : Nat} (hk : k < n) :
    ∃ b off p A1 c1, A = some ⟨b, off, none⟩ ∧ xs[k]? = some p ∧ w.cell? ⟨b, off + k * 3, none⟩ = some (.slice A1 p.L.length c1) ∧ w.cell? ⟨b, off + k * 3 + 1, none⟩ = some (.int .i64 p.X.T) ∧ w.cell? ⟨b, off + k * 3 + 2, none⟩ = some (.int .i64 p.X.V) ∧
      Sl w M A1 p.L.length c1 p.L ∧ i64ok p.X.T ∧ i64ok p.X.V := by
  obtain ⟨b, off, x, cs, e, hx, ⟨v, rfl, ⟨A1, c1, rfl, h1⟩, h2, h3⟩, hc⟩ := h.at_ hk
  exact ⟨b, off, x, A1, c1, e, hx, hc 0 _ rfl, hc 1 _ rfl, hc 2 _ rfl, h1, h2, h3⟩
end
end Go.Proofs.YtfciagcmggdldaaGreatDoor
