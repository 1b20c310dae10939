/-
  A label as a map's key.
-/
import Derived.Test.YtflfgeaggknpaaaEntry
import Derived.Test.YtflfgeaggknpaaaData
import Derived.Test.YtflfgeaggknpaaaProg
import Derived.DeepKeys4
namespace Go.Proofs.Ytflfgeaggknpaaa
open Go.RowKit
open Go.Maps (Keyed)

def labEnc (l : Lab) : Value := .agg #[.string l.name, .string l.value]
def labOk (l : Lab) : Prop := l.name.size ≤ maxLen ∧ l.value.size ≤ maxLen

theorem labLaid : laidOutB Try.prog = true := by kernel_rfl
theorem labRow : (45 : TypeId) < Try.prog.types.size := of_decide_eq_true (by kernel_rfl)
theorem labWide : (match Try.prog.underlying 45 with | some (.array _ _) | some (.struct _) => true | _ => false) = true := by rw [Try.underlying45]
theorem labLit (l : Lab) (h : labOk l) : ∃ x, keyOf Try.prog 45 (labEnc l) = some x := by
  obtain ⟨h1, h2⟩ := h
  have ht : Try.prog.keyType 45 = true := by kernel_rfl
  have hc : Try.prog.cellsOf 45 = 2 := by kernel_rfl
  have hc1 : Try.prog.cellsOf 9 = 1 := by kernel_rfl
  have hf : (labEnc l).formed Try.prog 45 = true := by simp [labEnc, Value.formed, Try.underlying45, hc]
  obtain ⟨n, hn⟩ : ∃ n, Try.prog.types.size + 1 = n + 2 := ⟨Try.prog.types.size - 1, by have h : 0 < Try.prog.types.size := Nat.lt_of_le_of_lt (Nat.zero_le _) labRow; omega⟩
  unfold keyOf
  rw [Try.underlying45]
  simp only [ht, hf, Bool.and_self, if_true]
  rw [hn]
  simp [Program.keyLits, Try.underlying45, Try.underlying9, labEnc, Value.cells, hc, hc1, h1, h2]
theorem labKey : KeyOk Try.prog 45 labEnc labOk :=
  ⟨Keyed.of_law (deep_law_laid labLaid (m := 2) (by omega) labRow (by kernel_rfl) labWide), fun a b h => by
    cases a; cases b
    simp [labEnc] at h
    rw [h.1, h.2], labLit⟩
end Go.Proofs.Ytflfgeaggknpaaa
