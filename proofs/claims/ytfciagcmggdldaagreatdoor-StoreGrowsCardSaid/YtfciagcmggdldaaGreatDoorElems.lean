/-
  What is known of element types.
-/
import Derived.Test.YtfciagcmggdldaaGreatDoorData
import Derived.Test.YtfciagcmggdldaaGreatDoorProg
namespace Go.Proofs.YtfciagcmggdldaaGreatDoor
open Go.RowKit

theorem elemU8 : Elem Tryz.prog 50 5 (Rep.size UInt8) 1 := by
  have h : (Tryz.prog.info? 5).map (fun i => (i.zero, i.size, i.bytes)) = some (some (.int .u8 0), Rep.size UInt8, 1) := by kernel_rfl
  obtain ⟨i, hi, hz0, hz1, hz2⟩ := info_parts h
  exact ⟨Tryz.underlying50, i, _, hi, hz0, hz1, hz2, rfl, by decide, by decide⟩
end Go.Proofs.YtfciagcmggdldaaGreatDoor
