/-
  What slices.Equal at plain element types leans on.
-/
import Derived.Test.YtfciagcmggdldaaGreatDoorElems
import Derived.Test.YtfciagcmggdldaaGreatDoorLabel
import Derived.Deep.QuietTactic
import Derived.BigQuiet
import Derived.Laws.StructEq
import Derived.Shelf.SlicesE.Kit
namespace Go.Proofs.YtfciagcmggdldaaGreatDoor
open Go.RowKit

theorem take_eq_step {α : Type} {xs ys : List α} {k : Nat} {x y : α} (h : xs.take k = ys.take k) (hx : xs[k]? = some x) (hy : ys[k]? = some y) (e : x = y) : xs.take (k + 1) = ys.take (k + 1) := by
  rw [List.take_add_one, List.take_add_one, h, hx, hy, e]
theorem ne_of_get {α : Type} {xs ys : List α} {k : Nat} {x y : α} (hx : xs[k]? = some x) (hy : ys[k]? = some y) (e : ¬ x = y) : ¬ xs = ys := by
  rintro rfl
  rw [hx] at hy
  injection hy with hy
  exact e hy

def labV (x : Lab) : Value := .agg #[.string x.name, .string x.value]
def smpV (x : Smp) : Value := .agg #[.int .i64 x.T, .int .i64 x.V]

theorem bytes_iff (a b : ByteArray) : a.toList = b.toList ↔ a = b := ⟨bytes_ext, fun h => by rw [h]⟩

theorem neqLab (x y : Lab) (w : World) : (binOp .neq 73 (.agg #[.string x.name, .string x.value]) (.agg #[.string y.name, .string y.value])).run Tryz.prog w = .ok (.bool (!decide (x = y))) w := by
  have u3 := Tryz.underlying9
  have hS : Tryz.prog.underlying 73 = some (.struct (Tryz.prog.fieldsOf 73)) := by kernel_rfl
  have hp : Tryz.prog.stoodInHeld 73 = false := by kernel_rfl
  rw [run_neq_struct, show (10000 : Nat) = 9999 + 1 from rfl, run_equalIn_agg w 9999 73 _ _ hS hp]
  simp only [Program.fieldsOf, Tryz.underlying73]
  go_simp
  obtain ⟨a, b⟩ := x
  obtain ⟨c, d⟩ := y
  by_cases h1 : a = c <;> by_cases h2 : b = d <;> simp [bytes_iff, h1, h2]
theorem neqSmp (x y : Smp) (w : World) : (binOp .neq 27 (.agg #[.int .i64 x.T, .int .i64 x.V]) (.agg #[.int .i64 y.T, .int .i64 y.V])).run Tryz.prog w = .ok (.bool (!decide (x = y))) w := by
  have u3 := Tryz.underlying2
  have hS : Tryz.prog.underlying 27 = some (.struct (Tryz.prog.fieldsOf 27)) := by kernel_rfl
  have hp : Tryz.prog.stoodInHeld 27 = false := by kernel_rfl
  rw [run_neq_struct, show (10000 : Nat) = 9999 + 1 from rfl, run_equalIn_agg w 9999 27 _ _ hS hp]
  simp only [Program.fieldsOf, Tryz.underlying27]
  go_simp
  obtain ⟨a, b⟩ := x
  obtain ⟨c, d⟩ := y
  by_cases h1 : a = c <;> by_cases h2 : b = d <;> simp [h1, h2]
end Go.Proofs.YtfciagcmggdldaaGreatDoor
