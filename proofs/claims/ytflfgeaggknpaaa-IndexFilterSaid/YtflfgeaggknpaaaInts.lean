/-
  Slices of ints: the library's Clone, Sort, Compact, BinarySearch, Contains, IsSorted over the words Sl and Own; index.set.
-/
import Derived.Test.YtflfgeaggknpaaaData
import Derived.Test.YtflfgeaggknpaaaShelf
import Derived.Sort.OwnSortedInts
namespace Go.Proofs.Ytflfgeaggknpaaa
open Go.RowKit

theorem call_then {P : Program} {f : FuncId} {args : Array Value} {w : World} {R R' : Ending → World → Prop} (h : Calls P f args w R) (hr : ∀ e w', R e w' → R' e w') : Calls P f args w R' := h.mono hr

theorem cloneI_calls (A : Option Addr) (n c : Nat) (zs : List Int) (w : World) (M : Nat → Prop) (hl : Sl w M A n c zs) (hn : n * 8 ≤ 140737488355328) :
    Calls Try.prog 30 #[.slice A n c] w fun e w' => ∃ v', e = .returned v' ∧ Own w' M w.heap.size 3 v' zs ∧ Below w.heap.size w w' := by
  have hz : ∀ z ∈ zs, i64ok z := by
    intro z hz
    obtain ⟨i, hi⟩ := List.mem_iff_getElem?.1 hz
    have hil := (List.getElem?_eq_some_iff.1 hi).1
    obtain ⟨b, off, x, _, hx, _, hok⟩ := hl.i64 (k := i) (by rw [← hl.len]; exact hil)
    rw [hi] at hx; injection hx with hx; subst hx; exact hok
  rcases Nat.eq_zero_or_pos n with h0 | h0
  · subst h0
    have he : zs = [] := List.eq_nil_of_length_eq_zero hl.len
    subst he
    cases A with
    | none => exact (Try.slices_Clone_int_nil 0 c w).mono fun e w' ⟨he, hw⟩ => ⟨_, he, Own.nil _ _ _ _, by rw [hw]; exact Below.refl _ _⟩
    | some a => exact (Try.slices_Clone_int_zero a c w).mono fun e w' ⟨v', he, hw, _, hb⟩ => ⟨v', he, Own.of_ints hw hz, hb⟩
  · obtain ⟨b, off, rfl, hb, hc⟩ := hl.ints h0
    refine (Try.slices_Clone_int b off n c zs w (by rw [hl.len]; exact Nat.le_refl _) hn hc).mono fun e w' ⟨v', he, hw, _, hb⟩ => ⟨v', he, Own.of_ints ?_ hz, hb⟩
    have e2 : zs.take n = zs := List.take_of_length_le (by rw [hl.len]; exact Nat.le_refl _)
    rw [e2] at hw
    rw [hl.len]
    exact hw

/-- Rising. -/
def sortI (zs : List Int) : List Int := zs.mergeSort fun x y => decide (x ≤ y)
theorem sortI_len (zs : List Int) : (sortI zs).length = zs.length := List.length_mergeSort zs
theorem mem_sortI (zs : List Int) (z : Int) : z ∈ sortI zs ↔ z ∈ zs := (List.mergeSort_perm zs _).mem_iff
theorem sortI_sorted (zs : List Int) : (sortI zs).Pairwise (· ≤ ·) := by
  have := List.pairwise_mergeSort (le := fun x y : Int => decide (x ≤ y)) (fun a b c h1 h2 => by simp at *; omega) (fun a b => by simp; omega) zs
  exact this.imp (fun h => by simpa using h)

theorem sortI_calls (v : Value) (zs : List Int) (w : World) (M : Nat → Prop) (base : Nat) (e : TypeId) (ho : Own w M base e v zs) (hn : zs.length < 4611686018427387904) :
    Calls Try.prog 31 #[v] w fun en w' => en = .returned (.tuple #[]) ∧ Own w' M base e v (sortI zs) ∧ w.grownBy w' v.ownBlock := by
  obtain ⟨⟨hl, h⟩, hz⟩ := ho.ints
  rcases h with ⟨rfl, h0⟩ | ⟨g, cap, cur, rfl, hg, hh, hc1, hc2, hc3, hc4⟩
  · have he : zs = [] := List.eq_nil_of_length_eq_zero h0
    subst he
    exact (Try.slices_Sort_int_none none 0 w).mono fun en w' ⟨he, hw⟩ => ⟨he, by rw [show sortI [] = [] by simp [sortI]]; exact Own.nil _ _ _ _, by rw [hw]; exact World.grownBy.refl w _⟩
  · rw [Nat.mul_one] at hc4
    refine (Try.slices_Sort_int g 0 cap zs w (holds_of_blockI hh hc4) (Array.getElem?_eq_some_iff.1 hh).1 hn).mono fun en w' ⟨he, k, os, hw⟩ => ⟨he, ?_, ?_⟩
    · rw [hw]
      refine Own.of_ints ?_ (fun z hz' => hz z ((mem_sortI zs z).1 hz'))
      have := ownsRow_sortedI (n := k) (os := os) (sortI_len zs) hg hh hc1 hc2 hc3
      rw [sortI_len]
      exact this
    · rw [hw]; exact grownBy_sortedI _

theorem get_bang (zs : List Int) (i : Nat) (h : i < zs.length) : zs.toArray[i]! = zs[i] := by simp [h]
theorem mem_of_compact {zs : List Int} {z : Int} (h : z ∈ Lib.compact zs) : z ∈ zs := by
  unfold Lib.compact Lib.compactUpTo at h
  obtain ⟨i, hi, rfl⟩ := List.mem_map.1 h
  have hi' := List.mem_range.1 (List.mem_filter.1 hi).1
  rw [get_bang zs i hi']
  exact List.getElem_mem hi'
theorem mem_compact (zs : List Int) (z : Int) : z ∈ Lib.compact zs ↔ z ∈ zs := by
  refine ⟨mem_of_compact, fun h => ?_⟩
  have key : ∀ i (hi : i < zs.length), zs[i] = z → z ∈ Lib.compact zs := by
    intro i
    induction i with
    | zero =>
      intro hi e
      unfold Lib.compact Lib.compactUpTo
      exact List.mem_map.2 ⟨0, List.mem_filter.2 ⟨List.mem_range.2 hi, by simp [Lib.keeps]⟩, by rw [get_bang zs 0 hi]; exact e⟩
    | succ i ih =>
      intro hi e
      by_cases h2 : zs[i]'(by omega) = z
      · exact ih (by omega) h2
      · unfold Lib.compact Lib.compactUpTo
        refine List.mem_map.2 ⟨i + 1, List.mem_filter.2 ⟨List.mem_range.2 hi, ?_⟩, by rw [get_bang zs _ hi]; exact e⟩
        unfold Lib.keeps
        rw [get_bang zs _ hi, Nat.add_sub_cancel, get_bang zs i (by omega), e]
        exact decide_eq_true (.inr (Ne.symm h2))
  obtain ⟨i, hi, e⟩ := List.mem_iff_getElem.1 h
  exact key i hi e
theorem compact_rises {zs : List Int} (h : zs.Pairwise (· ≤ ·)) : (Lib.compact zs).Pairwise (· < ·) := by
  unfold Lib.compact Lib.compactUpTo
  rw [List.pairwise_map]
  have hr : ((List.range zs.length).filter (Lib.keeps zs.toArray)).Pairwise (fun i j => i < j ∧ (i ∈ (List.range zs.length).filter (Lib.keeps zs.toArray)) ∧ j ∈ (List.range zs.length).filter (Lib.keeps zs.toArray)) :=
    (List.pairwise_lt_range.filter _).imp_of_mem (fun ha hb h => ⟨h, ha, hb⟩)
  refine hr.imp fun {i j} ⟨hij, hi, hj⟩ => ?_
  have hjl := List.mem_range.1 (List.mem_filter.1 hj).1
  have hjk := (List.mem_filter.1 hj).2
  unfold Lib.keeps at hjk
  rw [get_bang zs i (by omega), get_bang zs j hjl]
  rw [get_bang zs j hjl, get_bang zs (j - 1) (by omega)] at hjk
  have hne : zs[j] ≠ zs[j - 1]'(by omega) := by
    rcases of_decide_eq_true hjk with h0 | h0
    · omega
    · exact h0
  have hle : ∀ (a b : Nat) (ha : a < zs.length) (hb : b < zs.length), a ≤ b → zs[a] ≤ zs[b] := by
    intro a b ha hb hab
    rcases Nat.lt_or_eq_of_le hab with h1 | h1
    · exact List.pairwise_iff_getElem.1 h a b ha hb h1
    · subst h1; omega
  have h1 := hle i (j - 1) (by omega) (by omega) (by omega)
  have h2 := hle (j - 1) j (by omega) hjl (by omega)
  omega

theorem compactI_calls (v : Value) (zs : List Int) (w : World) (M : Nat → Prop) (base : Nat) (e : TypeId) (ho : Own w M base e v zs) (hn : zs.length ≤ 9223372036854775807) :
    Calls Try.prog 32 #[v] w fun en w' => ∃ v', en = .returned v' ∧ Own w' M base e v' (Lib.compact zs) ∧ w.grownBy w' v.ownBlock := by
  obtain ⟨⟨hl, h⟩, hz⟩ := ho.ints
  rcases h with ⟨rfl, h0⟩ | ⟨g, cap, cur, rfl, hg, hh, hc1, hc2, hc3, hc4⟩
  · have he : zs = [] := List.eq_nil_of_length_eq_zero h0
    subst he
    exact (Try.slices_Compact_int_empty none 0 w).mono fun en w' ⟨he, hw⟩ => ⟨_, he, Own.nil _ _ _ _, by rw [hw]; exact World.grownBy.refl w _⟩
  · rw [Nat.mul_one] at hc4
    have hle := Lib.compact_length_le zs
    refine (Try.slices_Compact_int g 0 cap zs w (holds_of_blockI hh hc4) hn hc1).mono fun en w' ⟨he, k, hw⟩ => ⟨_, he, ?_, ?_⟩
    · rw [hw]
      have hlen : (Lib.compact zs ++ List.replicate (zs.length - (Lib.compact zs).length) (0 : Int)).length = zs.length := by rw [List.length_append, List.length_replicate]; omega
      have h1 := ownsRow_sortedI (w := w) (n := k) (os := #[]) hlen hg hh hc1 hc2 hc3
      rw [Sort.grow_empty] at h1
      have h2 : Own (Sort.putRow (Value.int .i64) (Sort.ahead w k) g 0 (Lib.compact zs ++ List.replicate (zs.length - (Lib.compact zs).length) (0 : Int)).toArray) M base e (.slice (some ⟨g, 0, none⟩) zs.length cap) (Lib.compact zs ++ List.replicate (zs.length - (Lib.compact zs).length) (0 : Int)) := by
        refine Own.of_ints (by rw [hlen]; exact h1) fun z hz' => ?_
        rcases List.mem_append.1 hz' with hz' | hz'
        · exact hz z (mem_of_compact hz')
        · have := List.eq_of_mem_replicate hz'
          subst this; unfold i64ok; omega
      have h3 := h2.upto (k := (Lib.compact zs).length) (by rw [List.length_append]; omega)
      rw [List.take_left] at h3
      exact h3
    · rw [hw]
      have := grownBy_sortedI (w := w) (g := g) (n := k) (os := #[]) (Lib.compact zs ++ List.replicate (zs.length - (Lib.compact zs).length) 0).toArray
      rw [Sort.grow_empty] at this
      exact this

/-- The library's set of a list of ints: rising, each once. -/
def setOf (zs : List Int) : List Int := Lib.compact (sortI zs)
theorem mem_setOf (zs : List Int) (z : Int) : z ∈ setOf zs ↔ z ∈ zs := (mem_compact _ z).trans (mem_sortI zs z)
theorem setOf_rises (zs : List Int) : (setOf zs).Pairwise (· < ·) := compact_rises (sortI_sorted zs)
theorem setOf_len (zs : List Int) : (setOf zs).length ≤ zs.length := by
  have := Lib.compact_length_le (sortI zs)
  rw [sortI_len] at this
  exact this

set_option maxRecDepth 100000 in
theorem set_calls (A : Option Addr) (n c : Nat) (zs : List Int) (w : World) (M : Nat → Prop) (hl : Sl w M A n c zs) (hn : n * 8 ≤ 140737488355328) :
    Calls Try.prog 21 #[.slice A n c] w fun e w' => ∃ v', e = .returned v' ∧ Own w' M w.heap.size 3 v' (setOf zs) ∧ Below w.heap.size w w' := by
  have hlen := Lib.hid hl.len
  go_enter Try.func21, Try.ntmps21
  go_wp2_with (first
    | (go_at_call 30; refine (cloneI_calls _ _ _ _ _ _ hl hn).mono ?_; rintro e w1 ⟨v1, rfl, ho1, hb1⟩)
    | (go_at_call 31; refine (sortI_calls _ _ _ _ _ _ ho1 (by rw [hlen.out]; omega)).mono ?_; rintro e w2 ⟨rfl, ho2, hg2⟩)
    | (go_at_call 32; refine (compactI_calls _ _ _ _ _ _ ho2 (by rw [sortI_len, hlen.out]; omega)).mono ?_; rintro e w3 ⟨v3, rfl, ho3, hg3⟩))
  go_ret
  refine ⟨v3, rfl, ho3, ?_⟩
  have h2 := hb1.grown hg2 hb1.size (fun k hk => (ho1.lt k hk).1)
  exact h2.grown hg3 h2.size (fun k hk => (ho2.lt k hk).1)

/-! ### index.And -/
def sliceLen : Value → Nat
  | .slice _ n _ => n
  | _ => 0
def andGo : List Int → List Int → List Int
  | [], _ => []
  | _ :: _, [] => []
  | a :: ps, b :: qs => if a < b then andGo ps (b :: qs) else if b < a then andGo (a :: ps) qs else a :: andGo ps qs
termination_by ps qs => ps.length + qs.length
theorem andGo_nil (ps : List Int) : andGo ps [] = [] := by cases ps <;> rw [andGo]

theorem elemInt : Elem Try.prog 29 3 (Rep.size Int) 8 := by
  have h : (Try.prog.info? 3).map (fun i => (i.zero, i.size, i.bytes)) = some (some (.int .i64 0), 1, 8) := by kernel_rfl
  obtain ⟨i, hi, hz0, hz1, hz2⟩ := info_parts h
  exact ⟨Try.underlying29, i, _, hi, hz0, hz1, hz2, rfl, by decide, by decide⟩

theorem Sl.cons {α : Type} [Rep α] {w : World} {M : Nat → Prop} {A : Option Addr} {n c : Nat} {x : α} {r : List α} (h : Sl w M A n c (x :: r)) : 0 < n := by have := h.len; simp at this; omega

set_option maxRecDepth 100000 in
set_option maxHeartbeats 1000000 in
theorem and_calls (A B : Option Addr) (n c m d : Nat) (zs ys : List Int) (w : World) (M : Nat → Prop) (hM : ∀ k, M k → k < w.heap.size) (hl : Sl w M A n c zs) (hl' : Sl w M B m d ys) (hn : n * 8 ≤ 140737488355328) (hm : m * 8 ≤ 140737488355328) :
    Calls Try.prog 15 #[.slice A n c, .slice B m d] w fun e w' => ∃ v', e = .returned v' ∧ Own w' M w.heap.size 3 v' (andGo (setOf zs) (setOf ys)) ∧ Below w.heap.size w w' := by
  have hlz := Lib.hid (Nat.le_trans (setOf_len zs) (Nat.le_of_eq hl.len))
  go_enter Try.func15, Try.ntmps15
  go_wp2_with fail
  refine (set_calls _ _ _ _ _ _ hl hn).mono ?_
  rintro e w1 ⟨v1, rfl, ho1, hb1⟩
  go_wp2_with fail
  refine (set_calls _ _ _ _ _ _ (hl'.below hb1) hm).mono ?_
  rintro e w2 ⟨v2, rfl, ho2, hb2⟩
  obtain ⟨A1, c1, rfl, hs1⟩ := (ho1.below hb2).sl hM
  obtain ⟨A2, c2, rfl, hs2⟩ := ho2.sl (fun k hk => Nat.lt_of_lt_of_le (hM k hk) hb1.size)
  have hb := hb1.call hb2
  clear hb1 hb2 ho1 ho2 hl hl'
  go_wp2_with fail
  go_loopw [0, 1, 5] (fun sa sb so wr => ∃ (A1 A2 : Option Addr) (n1 n2 c1 c2 : Nat) (ps qs os : List Int), sa = .slice A1 n1 c1 ∧ sb = .slice A2 n2 c2 ∧ Sl wr (mOr M so) A1 n1 c1 ps ∧ Sl wr (mOr M so) A2 n2 c2 qs ∧
      Own wr M w.heap.size 3 so os ∧ Below w.heap.size w wr ∧ Hid (andGo (setOf zs) (setOf ys) = os ++ andGo ps qs) ∧ Hid (os.length + ps.length ≤ n))
    (fun sa sb _ _ => sliceLen sa + sliceLen sb)
  case atStart => exact ⟨A1, A2, _, _, c1, c2, _, _, [], rfl, rfl, by rw [mOr_nil]; exact hs1, by rw [mOr_nil]; exact hs2, Own.nil _ _ _ _, hb, rfl, by unfold Hid; simpa using hlz.out⟩
  case round =>
    clear hs1 hs2 hb
    obtain ⟨A1, A2, n1, n2, c1, c2, ps, qs, os, rfl, rfl, h1, h2, ho, hbl, hv, hsz⟩ := hrel
    rcases Nat.eq_zero_or_pos n1 with h0 | hp1
    · subst h0
      obtain rfl : ps = [] := List.eq_nil_of_length_eq_zero h1.len
      go_wp2
      go_ret
      exact ⟨_, rfl, by rw [hv.out, andGo, List.append_nil]; exact ho, hbl⟩
    · rcases Nat.eq_zero_or_pos n2 with h0 | hp2
      · subst h0
        obtain rfl : qs = [] := List.eq_nil_of_length_eq_zero h2.len
        go_wp2
        go_ret
        exact ⟨_, rfl, by rw [hv.out, andGo_nil, List.append_nil]; exact ho, hbl⟩
      · obtain ⟨b1, o1, x, rfl, hx, g1, hx1⟩ := h1.i64 (k := 0) hp1
        obtain ⟨b2, o2, y, rfl, hy, g2, hy1⟩ := h2.i64 (k := 0) hp2
        obtain ⟨x', ps, rfl⟩ := List.exists_cons_of_length_pos (show 0 < ps.length by rw [h1.len]; exact hp1)
        obtain ⟨y', qs, rfl⟩ := List.exists_cons_of_length_pos (show 0 < qs.length by rw [h2.len]; exact hp2)
        obtain rfl : x = x' := by simpa using hx.symm
        obtain rfl : y = y' := by simpa using hy.symm
        clear hx hy
        rw [Nat.add_zero] at g1 g2
        have hle1 := h1.le
        have hle2 := h2.le
        have hc1 := h1.2.1
        have hc2 := h2.2.1
        have hlp1 : (0 : Int) < (n1 : Int) := by omega
        have hlp2 : (0 : Int) < (n2 : Int) := by omega
        have hf1 := Lib.hid (h1.tail 1 rfl)
        have hf2 := Lib.hid (h2.tail 1 rfl)
        go_wp2
        go_quiet (fail)
        by_cases hxy : x < y
        · have hv2 : Hid (andGo (setOf zs) (setOf ys) = os ++ andGo ps (y :: qs)) := by unfold Hid; rw [hv.out, andGo, if_pos hxy]
          have hsz2 : Hid (os.length + ps.length ≤ n) := by have := hsz.out; unfold Hid; simp at this; omega
          go_wp2
          go_roundw
          case rel => exact ⟨_, _, _, _, _, _, ps, y :: qs, os, rfl, rfl, hf1.out.keep (.drewN _ _ _), h2.keep (.drewN _ _ _), ho.drewN _, hbl.draws _, hv2, hsz2⟩
          case measure => simp only [sliceLen]; omega
        · have hyx' : y ≤ x := by omega
          by_cases hyx : y < x
          · have hv2 : Hid (andGo (setOf zs) (setOf ys) = os ++ andGo (x :: ps) qs) := by unfold Hid; rw [hv.out, andGo, if_neg hxy, if_pos hyx]
            clear hxy
            go_wp2
            go_quiet (fail)
            go_wp2
            go_roundw
            case rel => exact ⟨_, _, _, _, _, _, x :: ps, qs, os, rfl, rfl, h1.keep (.drewN _ _ _), hf2.out.keep (.drewN _ _ _), ho.drewN _, hbl.draws _, hv2, hsz⟩
            case measure => simp only [sliceLen]; omega
          · have hxe : x = y := by omega
            have hv2 : Hid (andGo (setOf zs) (setOf ys) = (os ++ [x]) ++ andGo ps qs) := by unfold Hid; rw [hv.out, andGo, if_neg hxy, if_neg hyx, List.append_assoc]; rfl
            clear hv hxe hxy
            have hyx'' : x ≤ y := by omega
            clear hyx
            have hsz3 : Hid ((os ++ [x]).length + ps.length ≤ n) := by have := hsz.out; unfold Hid; simp at this ⊢; omega
            have hsz2 : (os.length + 1) * 8 ≤ 140737488355328 := by have := hsz.out; simp at this; omega
            go_wp2
            go_quiet (fail)
            go_wp2_with (at_builtin; refine wpList_app1 (α := Int) rfl (.tmp 18) (.tmp 22) 29 rfl elemInt rfl (ho.drewN _) rfl x ⟨rfl, hx1⟩ hM hsz2 hbl.size ?_; intro v' w' ho' hb' hk')
            go_quiet (fail)
            go_wp2
            go_roundw
            case rel => exact ⟨_, _, _, _, _, _, ps, qs, os ++ [x], rfl, rfl, (hf1.out.keep (.drewN _ _ _)).keep (hk'.trans (.drewN _ _ _)), (hf2.out.keep (.drewN _ _ _)).keep (hk'.trans (.drewN _ _ _)), ho'.drewN _, ((hbl.draws _).trans hb').draws _, hv2, hsz3⟩
            case measure => simp only [sliceLen]; omega
end Go.Proofs.Ytflfgeaggknpaaa
