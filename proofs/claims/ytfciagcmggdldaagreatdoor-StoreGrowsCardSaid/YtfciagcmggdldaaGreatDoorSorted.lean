/-
  slices.Sorted(maps.Keys(m)) at a store's map.
-/
import Derived.Test.YtfciagcmggdldaaGreatDoorSortShelf
import Derived.Test.YtfciagcmggdldaaGreatDoorStoreIn
import Derived.Shelf.SlIter.Nil
import Derived.Shelf.AbstractIn
namespace Go.Proofs.YtfciagcmggdldaaGreatDoor
open Go.RowKit Go.Maps Go.Sort Go.Shelf

def anyR : Value → Option (DataW Unit × List MemPlace) := fun _ => some (.nil, [])

theorem MapAt.owns {V : Type} {w : World} {R : Value → V → Prop} {r : Nat} {kvs : List (ByteArray × V)} {P : Program} {kt : TypeId} (h : MapAt w Value.string R r kvs) (hk : P.underlying kt = some .string) (hok : ∀ kv ∈ kvs, kv.1.size ≤ maxLen) (hlen : kvs.length ≤ maxLen) :
    ∃ D0 : DataW Unit, w.ownsMap P kt anyR r kvs.length D0 ∧ Maps.size D0 = kvs.length ∧ (strKeys D0).Perm (kvs.map fun kv => kv.1.data.toList) := by
  obtain ⟨es, clock, hb, hs, he, hn, hbo, hbu⟩ := h
  have hmem : ∀ e ∈ es.toList, ∃ (i : Nat) (kv : ByteArray × V), es[i]? = some e ∧ kvs[i]? = some kv ∧ e.key = .string kv.1 := fun e hem => by
    obtain ⟨i, hi⟩ := List.mem_iff_getElem?.1 hem
    rw [Array.getElem?_toList] at hi
    have hil : i < kvs.length := by rw [← hs]; exact (Array.getElem?_eq_some_iff.1 hi).1
    exact ⟨i, _, hi, List.getElem?_eq_getElem hil, (he i e _ hi (List.getElem?_eq_getElem hil)).1⟩
  have hrd : ∀ e ∈ es.toList, ∀ s : ByteArray, e.key = .string s → s.size ≤ maxLen → WideElems.rd P kt anyR e = some (.string s.data.toList, .nil) := fun e _ s hks hss => by
    have := WideMaps.keyOf_string_mk (P := P) hk hss
    unfold WideElems.rd
    rw [hks, this]; rfl
  have hmap : es.toList.map (WideElems.rg P kt anyR) = kvs.map fun kv => (Lit.string kv.1.data.toList, DataW.nil) := by
    refine List.ext_getElem? fun i => ?_
    rw [List.getElem?_map, List.getElem?_map]
    rcases Nat.lt_or_ge i kvs.length with hi | hi
    · have hx := List.getElem?_eq_getElem hi
      have hie : i < es.size := by omega
      have hex : es[i]? = some es[i] := Array.getElem?_eq_getElem hie
      have hex' : es.toList[i]? = some es[i] := by rw [Array.getElem?_toList]; exact hex
      rw [hx, hex']
      have h1 := (he i _ _ hex hx).1
      simp only [Option.map_some]
      rw [WideElems.rg_of (hrd _ (List.mem_of_getElem? hex') _ h1 (hok _ (List.getElem_mem hi)))]
    · rw [List.getElem?_eq_none hi, List.getElem?_eq_none (by rw [Array.length_toList]; omega)]; rfl
  refine ⟨.map ((es.toList.map (WideElems.rg P kt anyR)).foldr DataW.insert []), ⟨es, clock, hb, ⟨by omega, ⟨?_, ?_, ?_⟩, fun e hem => ?_⟩, by omega, rfl⟩, ?_, ?_⟩
  · intro e hem
    obtain ⟨i, kv, h1, _, _⟩ := hmem e hem
    exact hbo i e h1
  · rw [List.nodup_iff_pairwise_ne, List.pairwise_map, List.pairwise_iff_getElem]
    intro a b ha hb' hlt hab
    have := hbu a b es[a] es[b] (Array.getElem?_eq_getElem (by simpa using ha)) (Array.getElem?_eq_getElem (by simpa using hb')) (by simpa using hab)
    omega
  · have hke : es.toList.map (·.key) = kvs.map fun kv => Value.string kv.1 := by
      refine List.ext_getElem? fun i => ?_
      rw [List.getElem?_map, List.getElem?_map]
      rcases Nat.lt_or_ge i kvs.length with hi | hi
      · have hx := List.getElem?_eq_getElem hi
        have hie : i < es.size := by omega
        have hex : es[i]? = some es[i] := Array.getElem?_eq_getElem hie
        rw [hx, Array.getElem?_toList, hex]
        simp only [Option.map_some]
        rw [(he i _ _ hex hx).1]
      · rw [List.getElem?_eq_none hi, List.getElem?_eq_none (by rw [Array.length_toList]; omega)]; rfl
    rw [hke]
    have : (kvs.map fun kv => Value.string kv.1) = (kvs.map (·.1)).map Value.string := by rw [List.map_map]; rfl
    rw [this]
    rw [List.nodup_iff_pairwise_ne, List.pairwise_map]
    rw [List.nodup_iff_pairwise_ne] at hn
    exact hn.imp fun hne e => hne (by injection e)
  · obtain ⟨i, kv, _, h2, h3⟩ := hmem e hem
    exact ⟨_, hrd e hem kv.1 h3 (hok _ (List.mem_of_getElem? h2))⟩
  · rw [Maps.size_eq, (WideShapes.sorted_perm _).length_eq, hmap, List.length_map]
  · show (((es.toList.map (WideElems.rg P kt anyR)).foldr DataW.insert []).map fun p => _root_.Go.strOf p.1).Perm _
    refine ((WideShapes.sorted_perm _).map _).trans ?_
    rw [hmap, List.map_map]
    exact List.Perm.of_eq rfl

/-- The keys, as a walk meets them. -/
def keysL {V : Type} (kvs : List (ByteArray × V)) : List ByteArray := ((kvs.map fun kv => kv.1.data.toList).mergeSort fun x y => decide (x ≤ y)).map strOf

theorem Own.of_strs {w : World} {M : Nat → Prop} {base : Nat} {e : TypeId} {v : Value} {zs : List (List UInt8)} (h : w.ownsRow base e 1 v zs.length (zs.map encStr)) (hz : ∀ z ∈ zs, z.length ≤ 9223372036854775807) : Own w M base e v (zs.map strOf) := by
  refine ⟨zs.map fun z => [encStr z], by simp, fun i x cs hx hc => ?_, ?_⟩
  · rw [List.getElem?_map] at hx hc
    cases hzi : zs[i]? with
    | none => rw [hzi] at hx; cases hx
    | some z =>
      rw [hzi] at hx hc
      simp at hx hc
      subst hx; subst hc
      exact ⟨rfl, hz z (List.mem_of_getElem? hzi)⟩
  · rw [List.length_map]
    have : (zs.map fun z => [encStr z]).flatten = zs.map encStr := by
      clear h hz
      induction zs with
      | nil => rfl
      | cons x r ih => simp only [List.map_cons, List.flatten_cons, ih]; rfl
    rw [this]
    exact h

theorem sortsA (m : Nat) : AnyZ.SortsIn Tryz.prog Tryz.sortedA_ren Fence.wide m :=
  ⟨fun blk off cap ss W hH hblk hsz => callsIn_wide.2 (Tryz.slices_Sort_string blk off cap ss W hH hblk hsz),
   fun p cap W => callsIn_wide.2 (Tryz.slices_Sort_string_none p cap W)⟩

theorem keys_calls (r : Nat) (W : World) : Calls Tryz.prog 29 #[.map (some r)] W fun e w' => e = .returned (.func (.func 56) #[] #[.pointer (some ⟨W.heap.size, 0, none⟩)]) ∧ w' = W.alloc (.cells #[.map (some r)] 67) :=
  (callsIn_wide (n := 5)).1 (AnyZ.keys_in Tryz.keysA Fence.wide 5 trivial rfl (some r) W)

theorem sorted_calls (w : World) (M : Nat → Prop) {R : Value → Ser → Prop} (r : Nat) (kvs : Kvs) (h : MapAt w Value.string R r kvs) (hok : ∀ kv ∈ kvs, kv.1.size ≤ maxLen) (hlen : kvs.length ≤ 100000) :
    Calls Tryz.prog 28 #[.func (.func 56) #[] #[.pointer (some ⟨w.heap.size, 0, none⟩)]] (w.alloc (.cells #[.map (some r)] 67)) fun e w' =>
      ∃ v', e = .returned v' ∧ Own w' M w.heap.size 9 v' (keysL kvs) ∧ Below w.heap.size w w' := by
  have hlm : kvs.length ≤ maxLen := by unfold maxLen; omega
  obtain ⟨D0, hown, hsz, hperm⟩ := h.owns Tryz.underlying9 hok hlm
  have hmax : Maps.size D0 ≤ maxLen := by rw [hsz]; exact hlm
  have hbytes : Maps.size D0 * 16 ≤ 140737488355328 := by rw [hsz]; omega
  have hbl := hown.lt
  have hseq : SeqGives Fence.wide 2 Tryz.prog 56 #[.pointer (some ⟨w.heap.size, 0, none⟩)] encStr (fun ss => ss.Perm (strKeys D0)) (Maps.size D0) (w.alloc (.cells #[.map (some r)] 67)) :=
    AnyZ.keys_gives (ρ := Tryz.keysA_ren) { Tryz.keysA with } Fence.wide _ trivial rfl (by omega) w.heap.size r kvs.length D0 _ (by simp) (by simp) (by
      obtain ⟨es, clock, hb, Ft, hs, hD⟩ := hown
      exact ⟨es, clock, (Below.heap_alloc _ _ r hbl).trans hb, Ft, hs, hD⟩)
  have cS := AnyZ.sorted_in Tryz.sortedA Fence.wide 5 trivial trivial trivial trivial rfl (by omega) (sortsA _) (enters_of Tryz.func55 (by kernel_rfl) rfl) 56 #[.pointer (some ⟨w.heap.size, 0, none⟩)] trivial (enters_of Tryz.func56 (by kernel_rfl) rfl) _ _ hmax hbytes _ hseq
  change CallsIn _ _ Tryz.prog 28 _ _ _ at cS
  refine ((callsIn_wide (n := 5)).1 cS).mono ?_
  rintro e w' ⟨v, ss, rfl, hS, hrow, _, hb⟩
  have hk : (ss.mergeSort fun x y => decide (x ≤ y)) = ((kvs.map fun kv => kv.1.data.toList).mergeSort fun x y => decide (x ≤ y)) := mergeSort_of_perm (hS.trans hperm)
  have hkl : (ss.mergeSort fun x y => decide (x ≤ y)).length = ss.length := List.length_mergeSort ..
  rw [← hkl] at hrow
  rw [hk] at hrow
  have hle : ∀ z ∈ (kvs.map fun kv => kv.1.data.toList).mergeSort (fun x y => decide (x ≤ y)), z.length ≤ 9223372036854775807 := fun z hz => by
    rw [List.mem_mergeSort] at hz
    obtain ⟨kv, hkv, rfl⟩ := List.mem_map.1 hz
    have h1 := hok kv hkv
    have h2 : kv.1.data.toList.length = kv.1.size := Array.length_toList
    unfold maxLen at h1
    omega
  exact ⟨v, rfl, (Own.of_strs hrow hle).from_ (by simp), ((Below.refl _ _).new _).trans (hb.mono (by simp))⟩
end Go.Proofs.YtfciagcmggdldaaGreatDoor
