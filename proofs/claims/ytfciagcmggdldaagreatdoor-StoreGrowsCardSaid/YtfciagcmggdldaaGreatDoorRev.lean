/-
  slices.Reverse at puts.
-/
import Derived.Test.YtfciagcmggdldaaGreatDoorSortShelf
import Derived.Test.YtfciagcmggdldaaGreatDoorClonePut
namespace Go.Proofs.YtfciagcmggdldaaGreatDoor
open Go.RowKit Go.Sort Go.Shelf

/-- An element's three cells. -/
abbrev Cel := {l : List Value // l.length = 3 ∧ ∀ v ∈ l, v.oneCell' = true}
instance : Inhabited Cel := ⟨[.int .i64 0, .int .i64 0, .int .i64 0], rfl, by intro v hv; simp at hv; subst hv; rfl⟩

theorem flatK_get (L : List Cel) {j : Nat} (hj : j < L.length * 3) : (flatK (fun x : Cel => x.1) 3 L.toArray)[j]? = (L.map (·.1)).flatten[j]? := by
  have hd : j / 3 < L.length := Nat.div_lt_of_lt_mul (by omega)
  have hm : j % 3 < 3 := Nat.mod_lt _ (by decide)
  have h1 : (L.map (·.1))[j / 3]? = some (L[j / 3]).1 := by rw [List.getElem?_map, List.getElem?_eq_getElem hd]; rfl
  have hs : ∀ c ∈ L.map (·.1), c.length = 3 := fun c hc => by
    obtain ⟨x, _, rfl⟩ := List.mem_map.1 hc
    exact x.2.1
  have h2 := flatten_get hs h1 hm
  rw [show j / 3 * 3 + j % 3 = j by omega] at h2
  rw [h2]
  have hsz : j < (flatK (fun x : Cel => x.1) 3 L.toArray).size := by rw [size_flatK]; simpa using hj
  rw [Array.getElem?_eq_getElem hsz]
  have h3 := get_flatK (fun x : Cel => x.1) 3 L.toArray j (by simpa using hj)
  rw [getElem!_pos _ j hsz] at h3
  rw [h3, getElem!_pos L.toArray (j / 3) (by simpa using hd)]
  have hl : j % 3 < (L[j / 3]).1.length := by rw [(L[j / 3]).2.1]; exact hm
  have e : L.toArray[j / 3]'(by simpa using hd) = L[j / 3] := by simp
  rw [e, getElem!_pos (L[j / 3]).1 (j % 3) hl, List.getElem?_eq_getElem hl]

theorem own_len {α : Type} [Rep α] {w : World} {M : Nat → Prop} {base : Nat} {e : TypeId} {A : Option Addr} {n c : Nat} {xs : List α} (h : Own w M base e (.slice A n c) xs) : n = xs.length := by
  obtain ⟨A', c', e'⟩ := h.form
  injection e'

set_option maxRecDepth 100000 in
theorem reverse_calls (A : Option Addr) (n c : Nat) (xs : List PutD) (w : World) (M : Nat → Prop) (base : Nat) (ho : Own w M base 29 (.slice A n c) xs) (hn : n ≤ 1000) :
    Calls Tryz.prog 9 #[.slice A n c] w fun e w' => e = .returned (.tuple #[]) ∧ Own w' M base 29 (.slice A n c) xs.reverse ∧ w.grownBy w' (Value.slice A n c).ownBlock := by
  have hnl := own_len ho
  obtain ⟨css, h1, h2, hl, h3⟩ := ho
  rcases h3 with ⟨hv, hz⟩ | ⟨g, cap, cur, hv, hg, hh, hc1, hc2, hc3, hc4⟩
  · injection hv with e1 e2 e3
    subst e1; subst e2; subst e3
    have hx : xs = [] := List.eq_nil_of_length_eq_zero hz
    subst hx
    clear hl h1 h2 hnl hz
    go_enter Tryz.func9, Tryz.ntmps9
    go_wp2
    refine wp_loop_rounds 1 ?_
    rw [rounds_succ]
    go_wp2
    go_end0
    exact ⟨rfl, Own.nil _ _ _ _, World.grownBy.refl w _⟩
  · injection hv with e1 e2 e3
    subst e1; subst e2; subst e3
    have hall : ∀ c ∈ css, c.length = 3 ∧ ∀ v ∈ c, v.oneCell' = true := fun c hc => by
      obtain ⟨i, hi⟩ := List.mem_iff_getElem?.1 hc
      have hlt : i < css.length := (List.getElem?_eq_some_iff.1 hi).1
      have hr := h2 i (xs[i]'(by omega)) c (List.getElem?_eq_getElem (by omega)) hi
      exact ⟨Rep.len hr, Rep.one hr⟩
    obtain ⟨L, hL⟩ : ∃ L : List Cel, L.map (·.1) = css := ⟨css.attachWith _ hall, by simp⟩
    have hLl : L.length = xs.length := by rw [← h1, ← hL, List.length_map]
    have hcsz : css.flatten.length = xs.length * 3 := hl
    have hcur : ∀ j, j < xs.length * 3 → cur[j]? = css.flatten[j]? := fun j hj => by
      have hc5 : cur.toList.take (xs.length * 3) = css.flatten := hc4
      rw [← hc5, List.getElem?_take, if_pos hj, Array.getElem?_toList]
    have hH : HoldsK (fun x : Cel => x.1) 3 w g 0 L.toArray := fun j hj => by
      rw [size_flatK] at hj
      have hj' : j < L.length * 3 := by simpa using hj
      have hf := flatK_get L hj'
      rw [hL] at hf
      have hsz : j < (flatK (fun x : Cel => x.1) 3 L.toArray).size := by rw [size_flatK]; simpa using hj
      rw [getElem!_pos _ j hsz]
      rw [Array.getElem?_eq_getElem hsz, ← hcur j (by omega)] at hf
      exact ⟨by simp [World.cell?, hh, ← hf], by simp [World.frozen?, hh]⟩
    have hcall := AnyQ.slices_Reverse Tryz.revPut 3 (fun _ => rfl) (fun _ => rfl) (fun x : Cel => x.1) (fun x => x.2.1) (fun x => x.2.2) g 0 c L.toArray w hH (by simp; omega)
    rw [show L.toArray.size = xs.length by simp [hLl]] at hcall
    change Calls Tryz.prog 9 _ _ _ at hcall
    refine hcall.mono fun e w' hp => ?_
    obtain ⟨he, k, hw⟩ := hp
    subst he
    subst hw
    have hgl : g < w.heap.size := (Array.getElem?_eq_some_iff.1 hh).1
    have hgr : w.grownBy (putRowK (fun x : Cel => x.1) 3 (Sort.ahead w k) g 0 L.toArray.reverse) (some g) :=
      ⟨rfl, rfl, rfl, by simp [putRowK, putRow, mapBlock, Sort.ahead], fun q hq hne => by simp [putRowK, putRow, mapBlock, Sort.ahead, Array.getElem?_modify, show ¬ g = q from fun e => hne (by rw [e])]⟩
    have hhp : (putRowK (fun x : Cel => x.1) 3 (Sort.ahead w k) g 0 L.toArray.reverse).heap[g]? = some (.cells (putCells id 0 (flatK (fun x : Cel => x.1) 3 L.toArray.reverse) cur) 29 (0, 0)) := by
      simp [putRowK, putRow, mapBlock, Sort.ahead, Array.getElem?_modify, hh, onCells]
    refine ⟨rfl, ⟨css.reverse, by simp [h1], fun i x cs hx hc => ?_, ?_, .inr ⟨g, c, _, by rw [List.length_reverse], hg, hhp, by simpa using hc1, hc2, by simpa [putCells] using hc3, ?_⟩⟩, hgr⟩
    · have hil : i < xs.length := by have := (List.getElem?_eq_some_iff.1 hx).1; simpa using this
      rw [List.getElem?_reverse hil] at hx
      rw [List.getElem?_reverse (by omega)] at hc
      rw [h1] at hc
      exact Rep.keep (.of_grown hgr _ (fun q hq => .inr hq)) (h2 _ x cs hx hc)
    · rw [List.length_reverse, List.length_flatten, List.map_reverse, List.sum_reverse, ← List.length_flatten]; exact hl
    · rw [List.length_reverse]
      refine List.ext_getElem? fun j => ?_
      have hrl : css.reverse.flatten.length = xs.length * 3 := by rw [List.length_flatten, List.map_reverse, List.sum_reverse, ← List.length_flatten]; exact hl
      rw [List.getElem?_take]
      show (if j < xs.length * 3 then _ else _) = _
      by_cases hj : j < xs.length * 3
      · rw [if_pos hj, Array.getElem?_toList]
        have hLr : (L.reverse.map (·.1)) = css.reverse := by rw [List.map_reverse, hL]
        have hf := flatK_get L.reverse (j := j) (by simpa [hLl] using hj)
        rw [hLr] at hf
        rw [← hf]
        have hsz : j < (flatK (fun x : Cel => x.1) 3 L.reverse.toArray).size := by rw [size_flatK]; simpa [hLl] using hj
        have hjc : j < cur.size := by
          have : xs.length * 3 ≤ c * 3 := Nat.mul_le_mul_right _ hc1
          have h6 : cur.size = c * 3 := hc3
          omega
        rw [List.reverse_toArray]
        unfold putCells
        rw [Array.getElem?_mapIdx, Array.getElem?_eq_getElem hjc, Array.getElem?_eq_getElem hsz]
        simp only [Option.map_some]
        rw [if_pos ⟨Nat.zero_le _, by omega⟩, Nat.sub_zero, getElem!_pos _ j hsz]
        rfl
      · rw [if_neg hj, List.getElem?_eq_none (by omega)]
end Go.Proofs.YtfciagcmggdldaaGreatDoor
