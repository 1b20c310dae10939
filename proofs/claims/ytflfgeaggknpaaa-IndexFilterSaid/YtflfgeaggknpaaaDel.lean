/-
  slices.IndexFunc and slices.DeleteFunc at []int, with the closure that index.Find hands in.
-/
import Derived.Test.YtflfgeaggknpaaaInts
namespace Go.Proofs.Ytflfgeaggknpaaa
open Go.RowKit

section
variable {P : Program} {w : World} {base g n cap i : Nat} {e : TypeId} {size : Nat} {xs : List Value}
/-- 'clear(s[i:])' at a row of the call's own. -/
theorem run_clear_tail {t ty : TypeId} {bytes : Nat} (E : Elem P t e size bytes) (hz : ∀ i, P.info? e = some i → ∀ z, i.zero = some z → ∀ u ∈ z.cells.toList, u.oneCell' = true) (h : w.ownsRow base e size (.slice (some ⟨g, 0, none⟩) n cap) n xs) (hi : i ≤ n) :
    ∃ w', (Builtin.clear_ #[t] ty #[.slice (if cap = i then some ⟨g, 0, none⟩ else some ⟨g, i * size, none⟩) (n - i) (cap - i)]).run P w = .ok (.tuple #[]) w' ∧ w'.ownsRow base e size (.slice (some ⟨g, 0, none⟩) i cap) i (xs.take (i * size)) ∧ w.grownBy w' (some g) := by
  obtain ⟨hl, h⟩ := h
  rcases h with ⟨h', _⟩ | ⟨g', cap', cur, h', hb, hh, hnc, hcm, hcs, htake⟩
  · simp at h'
  · simp only [Value.slice.injEq, Option.some.injEq, Addr.mk.injEq, and_true, true_and] at h'
    obtain ⟨rfl, rfl⟩ := h'
    obtain ⟨hu, inf, z, hinf, hzz, hs, hby, hzs, hpos, hbp⟩ := E
    have hxt : cur.toList.take (i * size) = xs.take (i * size) := by
      rw [← htake, List.take_take, Nat.min_eq_left (Nat.mul_le_mul_right _ hi)]
    rcases Nat.lt_or_eq_of_le hi with hlt | heq
    · have hcap : cap ≠ i := by omega
      rw [if_neg hcap]
      obtain ⟨k, hk⟩ : ∃ k, n - i = k + 1 := ⟨n - i - 1, by omega⟩
      have hzc : (zeroValue e).run P w = .ok z w := by simp [zeroValue, typeInfo, hinf, hzz]
      have hlen : (Builtin.zeroCells z.cells (n - i)).toList.length = (n - i) * size := by rw [Array.length_toList, size_zeroCells, hzs]
      have hone : ∀ u ∈ (Builtin.zeroCells z.cells (n - i)).toList, u.oneCell' = true := by
        intro u hu
        have hu' : u ∈ Builtin.zeroCells z.cells (n - i) := by simpa using hu
        unfold Builtin.zeroCells at hu'
        obtain ⟨j, hj, rfl⟩ := Array.mem_map.1 hu'
        have hm : j % z.cells.size < z.cells.size := Nat.mod_lt _ (by rw [hzs]; exact hpos)
        refine hz inf hinf z hzz _ ?_
        rw [getElem!_pos z.cells _ hm]
        exact Array.getElem_mem_toList hm
      have hst := run_storeCells_at P g (i * size) e (Builtin.zeroCells z.cells (n - i)).toList 0 cur w hh (by rw [hlen, hcs, Nat.add_zero, ← Nat.add_mul]; exact Nat.mul_le_mul_right _ (by omega)) hone
      rw [Nat.add_zero] at hst
      refine ⟨w.setRow g (cur.toList.take (i * size) ++ (Builtin.zeroCells z.cells (n - i)).toList ++ cur.toList.drop (i * size + (Builtin.zeroCells z.cells (n - i)).toList.length)).toArray, ?_, ?_, ?_⟩
      · rw [hk] at hst ⊢
        simp [Builtin.clear_, run_underlying hu, hzc, hst, Result.andThen]
      · have hcl : i * size ≤ cur.toList.length := by rw [Array.length_toList, hcs]; exact Nat.mul_le_mul_right _ (by omega)
        refine ⟨by rw [List.length_take, hl]; exact Nat.min_eq_left (Nat.mul_le_mul_right _ hi), .inr ⟨g, cap, _, rfl, hb, setRow_heap w g cur _ e _ hh, by omega, hcm, ?_, ?_⟩⟩
        · simp only [List.size_toArray, List.length_append, List.length_take, List.length_drop, hlen, Array.length_toList, hcs]
          have h1 : n * size ≤ cap * size := Nat.mul_le_mul_right _ hnc
          have h2 : i * size ≤ n * size := Nat.mul_le_mul_right _ hi
          rw [Nat.sub_mul]
          omega
        · rw [List.append_assoc, ← hxt]
          have : (cur.toList.take (i * size)).length = i * size := by rw [List.length_take]; omega
          exact List.take_left' this
      · exact ⟨rfl, rfl, rfl, by simp [World.setRow], fun k _ hk => setRow_other w g k _ (fun e => hk (by rw [e]))⟩
    · subst heq
      refine ⟨w, ?_, ?_, World.grownBy.refl w _⟩
      · rw [Nat.sub_self]
        by_cases hc : cap = i
        · rw [if_pos hc]; simp [Builtin.clear_, run_underlying hu]
        · rw [if_neg hc]; simp [Builtin.clear_, run_underlying hu]
      · exact ⟨by rw [List.length_take, hl]; exact Nat.min_self _, .inr ⟨g, cap, cur, rfl, hb, hh, hnc, hcm, hcs, hxt⟩⟩
end

/-- Where the first one stands, or -1. -/
def idxI (q : Int → Bool) : List Int → Int
  | [] => -1
  | x :: r => if q x = true then 0 else if idxI q r = -1 then -1 else idxI q r + 1
theorem idxI_lo (q : Int → Bool) (l : List Int) : -1 ≤ idxI q l ∧ idxI q l < l.length := by
  induction l with
  | nil => simp [idxI]
  | cons x r ih =>
    unfold idxI
    split
    · simp
    · split <;> simp <;> omega
theorem idxI_all {q : Int → Bool} {l : List Int} (h : idxI q l = -1) : ∀ x ∈ l, q x = false := by
  induction l with
  | nil => intro x hx; cases hx
  | cons y r ih =>
    intro x hx
    unfold idxI at h
    by_cases hy : q y = true
    · rw [if_pos hy] at h; cases h
    · rw [if_neg hy] at h
      by_cases hr : idxI q r = -1
      · rcases List.mem_cons.1 hx with rfl | hx
        · simpa using hy
        · exact ih hr x hx
      · rw [if_neg hr] at h
        have := idxI_lo q r
        omega
theorem idxI_at {q : Int → Bool} {l : List Int} (h : idxI q l ≠ -1) : ∃ k : Nat, idxI q l = k ∧ k < l.length ∧ (∀ x ∈ l.take k, q x = false) ∧ ∃ x, l[k]? = some x ∧ q x = true := by
  induction l with
  | nil => exact absurd rfl h
  | cons y r ih =>
    unfold idxI at h ⊢
    by_cases hy : q y = true
    · rw [if_pos hy]; exact ⟨0, rfl, by simp, by simp, y, rfl, hy⟩
    · rw [if_neg hy] at h ⊢
      by_cases hr : idxI q r = -1
      · rw [if_pos hr] at h; exact absurd rfl h
      · rw [if_neg hr]
        obtain ⟨k, hk, hkl, hall, x, hx, hqx⟩ := ih hr
        refine ⟨k + 1, by omega, by simp; omega, fun z hz => ?_, x, hx, hqx⟩
        rw [List.take_succ_cons] at hz
        rcases List.mem_cons.1 hz with rfl | hz
        · simpa using hy
        · exact hall z hz
theorem idxI_drop {q : Int → Bool} {l : List Int} {k : Nat} {x : Int} (hx : l[k]? = some x) (hk : k < l.length) (h : ∀ y ∈ l.take k, q y = false) (hq : q x = true) : idxI q l = k := by
  induction l generalizing k with
  | nil => simp at hx
  | cons y r ih =>
    unfold idxI
    cases k with
    | zero => simp at hx; subst hx; rw [if_pos hq]; rfl
    | succ k =>
      have hy : q y = false := h y (by simp)
      rw [if_neg (by rw [hy]; decide), ih (k := k) hx (by simpa using hk) (fun z hz => h z (by rw [List.take_succ_cons]; exact List.mem_cons_of_mem _ hz))]
      rw [if_neg (by omega)]; omega
theorem idxI_none {q : Int → Bool} {l : List Int} (h : ∀ y ∈ l, q y = false) : idxI q l = -1 := by
  induction l with
  | nil => rfl
  | cons y r ih => unfold idxI; rw [if_neg (by rw [h y (by simp)]; decide), if_pos (ih fun z hz => h z (List.mem_cons_of_mem _ hz))]

theorem take_snoc_all {q : Int → Bool} {l : List Int} {k : Nat} {x : Int} (hx : l[k]? = some x) (h : ∀ y ∈ l.take k, q y = false) (hq : q x = false) : ∀ y ∈ l.take (k + 1), q y = false := by
  intro y hy
  have hk : k < l.length := (List.getElem?_eq_some_iff.1 hx).1
  rw [List.take_succ_eq_append_getElem hk] at hy
  rcases List.mem_append.1 hy with hy | hy
  · exact h y hy
  · simp at hy
    rw [List.getElem?_eq_getElem hk] at hx
    injection hx with hx
    rw [hy, hx]; exact hq

set_option maxRecDepth 100000 in
set_option maxHeartbeats 1000000 in
theorem indexFuncI_calls (A : Option Addr) (n c : Nat) (zs : List Int) (p1 p2 : Addr) (q : Int → Bool) (w : World) (M : Nat → Prop) (hl : Sl w M A n c zs)
    (hp : ∀ (z : Int) (w' : World), z ∈ zs → Below w.heap.size w w' → Calls Try.prog 17 #[.int .i64 z, .pointer (some p1), .pointer (some p2)] w' fun e w'' => e = .returned (.bool (q z)) ∧ Below w'.heap.size w' w'') :
    Calls Try.prog 25 #[.slice A n c, .func (.func 17) #[] #[.pointer (some p1), .pointer (some p2)]] w fun e w' => e = .returned (.int .i64 (idxI q zs)) ∧ Below w.heap.size w w' := by
  have hn := hl.le
  have hlen := Lib.hid hl.len
  have HP := Lib.hid hp
  clear hp
  go_enter Try.func25, Try.ntmps25
  go_wp2
  go_loopw [8] (fun i wr => ∃ k : Nat, k ≤ n ∧ i = .int .i64 k ∧ Below w.heap.size w wr ∧ Hid (∀ y ∈ zs.take k, q y = false)) (fun i _ => n - (intOf i).toNat)
  case atStart => exact ⟨0, Nat.zero_le _, rfl, Below.refl _ _, by unfold Hid; simp⟩
  case round =>
    obtain ⟨k, hk, rfl, hbl, hv⟩ := hrel
    by_cases hlt : k < n
    · obtain ⟨b, off, x, rfl, hx0, g0, hx1⟩ := (hl.below hbl).i64 hlt
      have hx := Lib.hid hx0
      clear hx0 hl
      go_wp2_with (go_at_call 17; refine (HP.out x _ (List.mem_of_getElem? hx.out) hbl).mono ?_; rintro e w2 ⟨rfl, hb2⟩)
      · go_ret
        exact ⟨eq_int (idxI_drop hx.out (by rw [hlen.out]; exact hlt) hv.out (by assumption)), hbl.call hb2⟩
      · go_roundw
        case rel => exact ⟨k + 1, by omega, by go_num, hbl.call hb2, take_snoc_all hx.out hv.out (by assumption)⟩
        case measure => simp [intOf]; omega
    · go_wp2
      go_ret
      refine ⟨eq_int (idxI_none fun y hy => hv.out y ?_), hbl⟩
      rw [List.take_of_length_le (by rw [hlen.out]; omega)]; exact hy

theorem Own.set_int {w : World} {M : Nat → Prop} {base g n c : Nat} {e : TypeId} {rs : List Int} (h : Own w M base e (.slice (some ⟨g, 0, none⟩) n c) rs) (hn : rs.length = n) (i : Nat) {v : Int} (hv : i64ok v) :
    Own (w.setCell ⟨g, i, none⟩ (.int .i64 v)) M base e (.slice (some ⟨g, 0, none⟩) n c) (rs.set i v) ∧ w.grownBy (w.setCell ⟨g, i, none⟩ (.int .i64 v)) (some g) := by
  obtain ⟨h1, h2⟩ := h.ints
  subst hn
  obtain ⟨h3, h4⟩ := h1.stored i (.int .i64 v)
  refine ⟨Own.of_ints ?_ fun z hz => ?_, h4⟩
  · rw [List.length_set, List.map_set]; exact h3
  · rcases List.mem_or_eq_of_mem_set hz with hz | rfl
    · exact h2 z hz
    · exact hv
theorem Own.int_at {w : World} {M : Nat → Prop} {base g n c : Nat} {e : TypeId} {rs : List Int} (h : Own w M base e (.slice (some ⟨g, 0, none⟩) n c) rs) (hn : rs.length = n) {i : Nat} (hi : i < n) :
    ∃ x, rs[i]? = some x ∧ w.cell? ⟨g, i, none⟩ = some (.int .i64 x) ∧ w.frozen? ⟨g, i, none⟩ = false ∧ i64ok x := by
  obtain ⟨h1, h2⟩ := h.ints
  subst hn
  have hx := List.getElem?_eq_getElem hi
  refine ⟨rs[i], hx, ?_, h1.frozenAt i, h2 _ (List.getElem_mem hi)⟩
  rw [h1.cellAt i (by omega), List.getElem?_map, hx]; rfl

set_option maxRecDepth 100000 in
set_option maxHeartbeats 2000000 in
theorem deleteFuncI_calls (v : Value) (zs : List Int) (p1 p2 : Addr) (q : Int → Bool) (w : World) (M : Nat → Prop) (base : Nat) (ho : Own w M base 3 v zs) (hM : ∀ k, M k → k < base)
    (hp : ∀ (z : Int) (w' : World), z ∈ zs → w.grownBy w' v.ownBlock → Calls Try.prog 17 #[.int .i64 z, .pointer (some p1), .pointer (some p2)] w' fun e w'' => e = .returned (.bool (q z)) ∧ Below w'.heap.size w' w'') :
    Calls Try.prog 16 #[v, .func (.func 17) #[] #[.pointer (some p1), .pointer (some p2)]] w fun e w' => ∃ v', e = .returned v' ∧ Own w' M base 3 v' (zs.filter fun z => !q z) ∧ w.grownBy w' v.ownBlock := by
  obtain ⟨A, c, hv, hsl⟩ := ho.sl hM
  have HP := Lib.hid hp
  have hp2 : ∀ (z : Int) (w' : World), z ∈ zs → Below w.heap.size w w' → Calls Try.prog 17 #[.int .i64 z, .pointer (some p1), .pointer (some p2)] w' fun e w'' => e = .returned (.bool (q z)) ∧ Below w'.heap.size w' w'' :=
    fun z w' hz hb => hp z w' hz ⟨hb.os, hb.tape, hb.output, hb.size, fun k hk _ => hb.block k hk⟩
  have HP2 := Lib.hid hp2
  clear hp hp2
  have hle := hsl.le
  have hcn := hsl.2.1
  by_cases hi0 : idxI q zs = -1
  · have hfin : Hid ((zs.filter fun z => !q z) = zs) := by
      unfold Hid
      rw [List.filter_eq_self]
      intro x hx
      simp [idxI_all hi0 x hx]
    have hI := Lib.hid hi0
    clear hi0
    subst hv
    go_enter Try.func16, Try.ntmps16
    go_wp2_with (go_at_call 25; refine (indexFuncI_calls _ _ _ _ _ _ _ _ _ hsl HP2.out).mono ?_; rintro e w2 ⟨rfl, hb2⟩; rw [hI.out])
    go_ret
    exact ⟨_, rfl, by rw [hfin.out]; exact ho.below hb2, ⟨hb2.os, hb2.tape, hb2.output, hb2.size, fun k hk _ => hb2.block k hk⟩⟩
  · obtain ⟨k0, hk0, hkl, hpre, x0, hx0, hq0⟩ := idxI_at hi0
    have hI := Lib.hid hk0
    clear hi0 hk0
    have hg : ∃ g, A = some ⟨g, 0, none⟩ := by
      obtain ⟨⟨_, h⟩, _⟩ := ho.ints
      rcases h with ⟨h, h0⟩ | ⟨g, cap, cur, h, _⟩
      · omega
      · rw [hv] at h
        injection h with h
        exact ⟨g, h⟩
    obtain ⟨g, rfl⟩ := hg
    subst hv
    obtain ⟨n, hnn⟩ : ∃ n, n = zs.length := ⟨_, rfl⟩
    rw [← hnn] at hsl ho hle hcn hkl ⊢
    have hlen := Lib.hid hnn
    clear hnn
    have hrow0 : Hid ((zs.take k0) = (zs.take (k0 + 1)).filter fun z => !q z) := by
      unfold Hid
      rw [List.take_succ_eq_append_getElem (by rw [← hlen.out]; exact hkl), List.filter_append]
      have h1 : (zs.take k0).filter (fun z => !q z) = zs.take k0 := by
        rw [List.filter_eq_self]
        intro x hx
        simp [hpre x hx]
      have h2 : zs[k0]'(by rw [← hlen.out]; exact hkl) = x0 := by
        rw [List.getElem?_eq_getElem (by rw [← hlen.out]; exact hkl)] at hx0
        injection hx0
      rw [h1, h2]
      simp [hq0]
    clear hpre hx0 hq0
    go_enter Try.func16, Try.ntmps16
    have hne : ((k0 : Int) == -1) = false := by simp
    go_wp2_with (go_at_call 25; refine (indexFuncI_calls _ _ _ _ _ _ _ _ _ hsl HP2.out).mono ?_; rintro e w2 ⟨rfl, hb2⟩; rw [hI.out])
    clear hne
    go_loopw [5, 6] (fun si sj wr => ∃ (i j : Nat) (rs : List Int), si = .int .i64 i ∧ sj = .int .i64 j ∧ i < j ∧ j ≤ n ∧ Hid (rs.length = n) ∧ Own wr M base 3 (.slice (some ⟨g, 0, none⟩) n c) rs ∧
        Hid (rs.take i = (zs.take j).filter fun z => !q z) ∧ Hid (rs.drop j = zs.drop j) ∧ w.grownBy wr (some g)) (fun _ j _ => n - (intOf j).toNat)
    case atStart => exact ⟨k0, k0 + 1, zs, rfl, rfl, by omega, by omega, hlen.out.symm, ho.below hb2, hrow0, rfl, ⟨hb2.os, hb2.tape, hb2.output, hb2.size, fun k hk _ => hb2.block k hk⟩⟩
    case round =>
      clear hrow0
      obtain ⟨i, j, rs, rfl, rfl, hij, hjn, hrl, hor, htk, hdr, hgr⟩ := hrel
      by_cases hlt : j < n
      · obtain ⟨x, hx0, g0, _, hx1⟩ := hor.int_at hrl.out hlt
        have hxz : zs[j]? = some x := by
          have h1 : (rs.drop j)[0]? = (zs.drop j)[0]? := by rw [hdr.out]
          rw [List.getElem?_drop, List.getElem?_drop, Nat.add_zero] at h1
          rw [← h1]; exact hx0
        have hmem := List.mem_of_getElem? hxz
        have hzx := Lib.hid hxz
        have hcalls := Lib.hid (HP.out x wr hmem hgr)
        have hjz : j < zs.length := (List.getElem?_eq_some_iff.1 hxz).1
        have htz : Hid (zs.take (j + 1) = zs.take j ++ [x]) := by
          unfold Hid
          rw [List.take_succ_eq_append_getElem hjz]
          rw [List.getElem?_eq_getElem hjz] at hxz
          injection hxz with hxz
          rw [hxz]
        clear hx0 hxz hjz
        go_wp2_with (go_at_call 17; refine (hcalls.out).mono ?_; rintro e w3 ⟨rfl, hb3⟩; obtain ⟨y3, _, gy3, fy3, _⟩ := (hor.below hb3).int_at hrl.out (i := i) (by omega))
        · have hq : q x = false := by simpa using (by assumption : (!q x) = true)
          obtain ⟨ho4, hg4⟩ := (hor.below hb3).set_int hrl.out i hx1
          go_roundw
          case rel =>
            refine ⟨i + 1, j + 1, rs.set i x, by go_num, by go_num, by omega, by omega, ?_, ho4, ?_, ?_, ?_⟩
            · unfold Hid; rw [List.length_set]; exact hrl.out
            · unfold Hid
              rw [htz.out, List.filter_append, ← htk.out, List.take_succ_eq_append_getElem (by rw [List.length_set, hrl.out]; omega), List.take_set_of_le (Nat.le_refl _), List.getElem_set_self]
              simp [hq]
            · unfold Hid
              rw [List.drop_set_of_lt (by omega)]
              have : rs.drop (j + 1) = (rs.drop j).drop 1 := by rw [List.drop_drop]
              rw [this, hdr.out, List.drop_drop]
            · exact (hgr.trans ⟨hb3.os, hb3.tape, hb3.output, hb3.size, fun k hk _ => hb3.block k hk⟩).trans hg4
          case measure => simp [intOf]; omega
        · have hq : q x = true := by simpa using (by assumption : (!q x) = false)
          go_roundw
          case rel =>
            refine ⟨i, j + 1, rs, rfl, by go_num, by omega, by omega, hrl, hor.below hb3, ?_, ?_, hgr.trans ⟨hb3.os, hb3.tape, hb3.output, hb3.size, fun k hk _ => hb3.block k hk⟩⟩
            · unfold Hid
              rw [htz.out, List.filter_append, ← htk.out]
              simp [hq]
            · unfold Hid
              have : rs.drop (j + 1) = (rs.drop j).drop 1 := by rw [List.drop_drop]
              rw [this, hdr.out, List.drop_drop]
          case measure => simp [intOf]; omega
      · have hfin : Hid ((zs.filter fun z => !q z) = rs.take i) := by
          unfold Hid
          rw [htk.out, List.take_of_length_le (by rw [← hlen.out]; omega)]
        have hown := hor.ints
        obtain ⟨hrow, hints⟩ := hown
        rw [hrl.out] at hrow
        have hin : i ≤ n := by omega
        have hone : ∀ i, Try.prog.info? 3 = some i → ∀ z, i.zero = some z → ∀ u ∈ z.cells.toList, u.oneCell' = true := by
          have h : (Try.prog.info? 3).map (fun i => (i.zero, i.size, i.bytes)) = some (some (.int .i64 0), 1, 8) := by kernel_rfl
          obtain ⟨i, hi, hz0, hz1, hz2⟩ := info_parts h
          intro i' hi' z hz u hu
          rw [hi] at hi'
          injection hi' with hi'
          subst hi'
          rw [hz0] at hz
          injection hz with hz
          subst hz
          simp [Value.cells] at hu
          subst hu
          rfl
        obtain ⟨w4, hrun4, hown4, hg4⟩ := run_clear_tail (ty := 0) (size := 1) (bytes := 8) elemInt hone hrow hin
        rw [if_neg (by omega), Nat.mul_one] at hrun4
        rw [Nat.mul_one] at hown4
        have hic : i ≤ c := by omega
        go_wp2
        go_ret
        refine ⟨_, rfl, ?_, hgr.trans hg4⟩
        rw [hfin.out]
        have hlt2 : (rs.take i).length = i := by rw [List.length_take, hrl.out]; omega
        refine Own.of_ints ?_ fun z hz => hints z (List.mem_of_mem_take hz)
        rw [hlt2, List.map_take]
        exact hown4
end Go.Proofs.Ytflfgeaggknpaaa
