/-
  index.Not (of nothing), Find$1, Find.
-/
import Derived.Test.YtflfgeaggknpaaaFindP
import Derived.Test.YtflfgeaggknpaaaDel
namespace Go.Proofs.Ytflfgeaggknpaaa
open Go.RowKit

set_option maxRecDepth 100000 in
set_option maxHeartbeats 2000000 in
theorem not_calls (n : Nat) (hn : n ≤ 1000) (w : World) (M : Nat → Prop) (hM : ∀ k, M k → k < w.heap.size) :
    Calls Try.prog 14 #[.int .i64 (n : Int), .slice none 0 0] w fun e w' => ∃ v', e = .returned (.tuple #[v', .int .i64 0]) ∧ Own w' M w.heap.size 3 v' (nums n) ∧ Below w.heap.size w w' := by
  go_enter Try.func14, Try.ntmps14
  go_wp2_with fail
  refine (set_calls none 0 0 [] w M (Sl.nil _ _) (by decide)).mono ?_
  rintro e w1 ⟨v1, rfl, ho1, hb1⟩
  obtain ⟨A1, c1, rfl⟩ := ho1.form
  have h0 : (setOf ([] : List Int)).length = 0 := by have := setOf_len []; simp at this; simp [this]
  rw [h0]
  clear ho1 h0
  go_wp2
  go_loopw [6, 19] (fun o i wr => ∃ k : Nat, k ≤ n ∧ i = .int .i64 k ∧ Own wr M w.heap.size 3 o (nums k) ∧ Below w.heap.size w wr) (fun _ i _ => n - (intOf i).toNat)
  case atStart => exact ⟨0, Nat.zero_le _, rfl, Own.nil _ _ _ _, hb1⟩
  case round =>
    obtain ⟨k, hk, rfl, ho, hbl⟩ := hrel
    by_cases hlt : k < n
    · have hsz : ((nums k).length + 1) * 8 ≤ 140737488355328 := by simp [nums]; omega
      have hns := Lib.hid (nums_succ k)
      go_wp2_with (first
        | (go_at_call 24; refine (Try.slices_BinarySearch_int_empty A1 c1 _ _).mono ?_; rintro e w2 ⟨rfl, rfl⟩)
        | (at_builtin; refine wpList_app1 (α := Int) rfl (.tmp 30) (.tmp 32) 29 rfl elemInt rfl ho rfl (k : Int) ⟨rfl, by omega, by omega⟩ hM hsz hbl.size ?_; intro v' w' ho' hb' hk'))
      go_roundw
      case rel => exact ⟨k + 1, by omega, by go_num, by rw [hns.out]; exact ho', hbl.trans hb'⟩
      case measure => simp [intOf]; omega
    · obtain rfl : k = n := by omega
      go_wp2
      go_ret2
      exact ⟨_, rfl, ho, hbl⟩

section
variable {w : World} {M : Nat → Prop} {base X R : Nat} {v : Value} {l : List (List Lab)} {kvs : List (Lab × RowV)}
theorem IdxIn.reads (h : IdxIn w M base X R v l kvs) (hM : ∀ k, M k → k < base) : SlV w M v l := (h.own.ofM (M' := M) fun _ _ h => .inl (.inl h)).sl hM

set_option maxRecDepth 100000 in
set_option maxHeartbeats 2000000 in
theorem find1_calls (h : IdxIn w M base X R v l kvs) (hM : ∀ k, M k → k < base) (hE : newE l = 0) (hG : Glob w) (p1 p2 : Nat) (y : Mat) (hp1 : w.cell? ⟨p1, 0, none⟩ = some (.pointer (some ⟨X, 0, none⟩)))
    (hk : w.cell? ⟨p2, 0, none⟩ = some (.int .i64 y.kind)) (hn : w.cell? ⟨p2, 1, none⟩ = some (.string y.name)) (hv : w.cell? ⟨p2, 2, none⟩ = some (.string y.value)) (k : Nat) (hkl : k < l.length) :
    Calls Try.prog 17 #[.int .i64 (k : Int), .pointer (some ⟨p1, 0, none⟩), .pointer (some ⟨p2, 0, none⟩)] w fun e w' => e = .returned (.bool (!fitAt l y k)) ∧ Below w.heap.size w w' := by
  obtain ⟨A, c, rfl, hs⟩ := h.reads hM
  obtain ⟨cx, _, _⟩ := h.cells
  have hle := hs.le
  obtain ⟨b, off, x, A', c', rfl, hx, gx, hsx⟩ := hs.list hkl
  have hfa : Hid (fitAt l y k = fitOf x y) := by unfold Hid fitAt; rw [Int.toNat_natCast, List.getD_eq_getElem?_getD, hx]; rfl
  have hsm := value_small ((newE_ok hE).2 x (List.mem_of_getElem? hx)) y.name
  have hsd := hsx.keep (.drewN M w 1)
  have hGd : Glob (w.drewN 1) := hG.below ((Below.refl _ _).draws 1)
  have hi0 : (0 : Int) ≤ (k : Int) := by omega
  have hi1 : (k : Int) < (l.length : Int) := by omega
  clear hx h hs hE hG hsx
  go_enter Try.func17, Try.ntmps17
  go_wp2
  go_region_held3 (fun u => u.cell? ⟨p1, 0, none⟩ = some (.pointer (some ⟨X, 0, none⟩)) ∧ u.cell? ⟨X, 0, none⟩ = some (.slice (some ⟨b, off, none⟩) l.length c) ∧ u.cell? ⟨b, off + k, none⟩ = some (.slice A' x.length c') ∧
      u.cell? ⟨p2, 0, none⟩ = some (.int .i64 y.kind) ∧ u.cell? ⟨p2, 1, none⟩ = some (.string y.name) ∧ u.cell? ⟨p2, 2, none⟩ = some (.string y.value)) (go_keep)
    (first | (go_at_call 18; refine (fit_calls A' x.length c' x y _ M hsd hGd hsm).mono ?_; rintro e w2 ⟨rfl, hb2⟩
              have hk2 : ∀ (q o : Nat) (u : Value), w.cell? ⟨q, o, none⟩ = some u → w2.cell? ⟨q, o, none⟩ = some u := fun q o u hu => (hb2.cell (p := ⟨q, o, none⟩) (World.block_lt_of_cell? w _ hu)).trans hu
              have d1 := hk2 _ _ _ hp1; have d2 := hk2 _ _ _ cx; have d3 := hk2 _ _ _ gx; have d4 := hk2 _ _ _ hk; have d5 := hk2 _ _ _ hn; have d6 := hk2 _ _ _ hv; clear hk2))
  all_goals
    go_wp2
    go_ret
    exact ⟨eq_bool (by rw [hfa.out]), ((Below.refl _ _).draws 1).call hb2⟩

set_option maxRecDepth 100000 in
set_option maxHeartbeats 4000000 in
theorem find_calls (h : IdxIn w M base X R v l kvs) (hM : ∀ k, M k → k < base) (hbs : base ≤ w.heap.size) (hE : newE l = 0) (hH : HoldsTo l l.length [] kvs) (hS : ShortTo 2000 kvs) (hG : Glob w) (B : Option Addr) (n c : Nat) (m : List Mat) (hm : Sl w M B n c m) :
    Calls Try.prog 6 #[.pointer (some ⟨X, 0, none⟩), .slice B n c] w fun e w' => Below w.heap.size w w' ∧ ((matCheck m ≠ 0 ∧ e = .returned (.tuple #[.slice none 0 0, .int .i64 (matCheck m)])) ∨
      (matCheck m = 0 ∧ ∃ v', e = .returned (.tuple #[v', .int .i64 0]) ∧ Own w' M w.heap.size 3 v' (findOf l m))) := by
  obtain ⟨A, c', rfl, hs⟩ := h.reads hM
  have hl200 := (newE_ok hE).1
  have hle := hm.le
  have hlen := Lib.hid hm.len
  have hMw : ∀ k, M k → k < w.heap.size := fun k hk => Nat.lt_of_lt_of_le (hM k hk) hbs
  have hmb := hm.below ((Below.refl _ _).new (.cells #[.pointer (some ⟨X, 0, none⟩)] 25))
  go_enter Try.func6, Try.ntmps6
  go_wp2_with (first
    | (go_at_call 13; refine (checkMatch_calls _ _ _ _ _ M hmb).mono ?_; rintro e w2 ⟨rfl, hb2⟩
       have hB2 := ((Below.refl w.heap.size w).new (.cells #[.pointer (some ⟨X, 0, none⟩)] 25)).call hb2
       have cx2 : w2.cell? ⟨X, 0, none⟩ = some (.slice A l.length c') := ((h.below hB2).cells).1
       have cp2 : w2.cell? ⟨w.heap.size, 0, none⟩ = some (.pointer (some ⟨X, 0, none⟩)) := (hb2.cell (p := ⟨w.heap.size, 0, none⟩) (by simp)).trans (by simp))
    | (go_at_call 14; refine (not_calls l.length (by omega) w2 M (fun k hk => Nat.lt_of_lt_of_le (hMw k hk) hB2.size)).mono ?_; rintro e w3 ⟨v3, rfl, ho3, hb3⟩
       have hc3 := bcell hb3))
  · go_ret2
    have hb : matCheck m ≠ 0 := by simpa using (by assumption : (matCheck m != 0) = true)
    exact ⟨hB2, .inl ⟨hb, rfl⟩⟩
  · have hb := Lib.hid (show matCheck m = 0 by simpa using (by assumption : (matCheck m != 0) = false))
    have hB3 := hB2.call hb3
    have cp3 := (hb3.cell (p := ⟨w.heap.size, 0, none⟩) (World.block_lt_of_cell? w2 _ cp2)).trans cp2
    have ho3 : Own w3 M (w.heap.size + 1) 3 v3 (findOf l (m.take 0)) := by rw [List.take_zero, findOf_nil]; exact ho3.from_ (World.block_lt_of_cell? w2 _ cp2)
    clear cx2 cp2 hc3 hb3 hB2 hb2 hmb
    go_loopw [7, 27] (fun o i wr => ∃ k : Nat, k ≤ n ∧ i = .int .i64 k ∧ Own wr M (w.heap.size + 1) 3 o (findOf l (m.take k)) ∧ Below w.heap.size w wr ∧ wr.cell? ⟨w.heap.size, 0, none⟩ = some (.pointer (some ⟨X, 0, none⟩))) (fun _ i _ => n - (intOf i).toNat)
    case atStart => exact ⟨0, Nat.zero_le _, rfl, ho3, hB3, cp3⟩
    case round =>
      clear ho3 hB3 cp3
      obtain ⟨k, hk, rfl, ho, hbl, cp⟩ := hrel
      by_cases hlt : k < n
      · obtain ⟨b, off, y, rfl, hy0, gy0, gy1, gy2, hyk, hyn, hyv⟩ := (hm.below hbl).mat hlt
        have hy := Lib.hid hy0
        clear hy0
        have hm2 := hm
        clear hm
        obtain ⟨yk, hyk⟩ : ∃ yk, Hid (y.kind = yk) := ⟨_, rfl⟩
        rw [hyk.out] at gy0
        have hBn := hbl.new (.cells #[.int .i64 yk, .string y.name, .string y.value] 49)
        have hIn := h.below hBn
        have hon := ho.alloc (.cells #[.int .i64 yk, .string y.name, .string y.value] 49)
        obtain ⟨_, cx1, _⟩ := hIn.cells
        have hMn : ∀ q, M q → q < w.heap.size + 1 := fun q hq => Nat.lt_succ_of_lt (hMw q hq)
        have cpn := cell_alloc_of cp (.cells #[.int .i64 yk, .string y.name, .string y.value] 49)
        have hsn : w.heap.size + 1 ≤ (wr.alloc (.cells #[.int .i64 yk, .string y.name, .string y.value] 49)).heap.size := by have := hbl.size; simp; omega
        have hmz : ∀ z, z ∈ findOf l (m.take k) → 0 ≤ z ∧ z < l.length := fun z hz => (mem_findOf.1 hz).1
        have hp : ∀ (z : Int) (w' : World), z ∈ findOf l (m.take k) → (wr.alloc (.cells #[.int .i64 yk, .string y.name, .string y.value] 49)).grownBy w' u7.ownBlock →
            Calls Try.prog 17 #[.int .i64 z, .pointer (some ⟨w.heap.size, 0, none⟩), .pointer (some ⟨wr.heap.size, 0, none⟩)] w' fun e w'' => e = .returned (.bool (!fitAt l y z)) ∧ Below w'.heap.size w' w'' := by
          intro z w' hz hg
          obtain ⟨z0, z1⟩ := hmz z hz
          obtain ⟨i, rfl⟩ : ∃ i : Nat, z = i := ⟨z.toNat, by omega⟩
          have hBw := hBn.grown hg hBn.size (fun q hq => by have := (ho.lt q hq).1; omega)
          have hcell : ∀ (a : Addr) (u : Value), u7.ownBlock ≠ some a.block → (wr.alloc (.cells #[.int .i64 yk, .string y.name, .string y.value] 49)).cell? a = some u → w'.cell? a = some u := fun a u hne hu =>
            (World.cell?_of_block (hg.block a.block (World.block_lt_of_cell? _ a hu) (fun e => hne e.symm))).trans hu
          have hy2 : u7.ownBlock ≠ some wr.heap.size := fun e => by have := (ho.lt _ e).2; omega
          exact find1_calls (h.below hBw) hM hE (hG.below hBw) w.heap.size wr.heap.size y (hcell _ _ (fun e => by have := (ho.lt _ e).1; simp at this; omega) cpn) (hcell _ _ hy2 (by rw [hyk.out]; simp)) (hcell _ _ hy2 (by simp)) (hcell _ _ hy2 (by simp)) i (by omega)
        have hP := Lib.hid hp
        have hLook : ∃ (A5 : Option Addr) (n5 c5 : Nat), Hid ((Instr.lookup 39 (.map (some R)) (.agg #[.string y.name, .string y.value]) false).run Try.prog (wr.alloc (.cells #[.int .i64 yk, .string y.name, .string y.value] 49)).drew = .ok (.slice A5 n5 c5) (wr.alloc (.cells #[.int .i64 yk, .string y.name, .string y.value] 49)).drew) ∧
            Hid (Sl (wr.alloc (.cells #[.int .i64 yk, .string y.name, .string y.value] 49)) M A5 n5 c5 (((mget kvs ⟨y.name, y.value⟩).getD (none, [])).2)) := by
          have hmap := MapAt.of_block (w' := (wr.alloc (.cells #[.int .i64 yk, .string y.name, .string y.value] 49)).drew) hIn.map rfl
          obtain ⟨u, hr, hu⟩ := run_lookup_map (P := Try.prog) Try.underlying39 labKey h.okk hmap ⟨y.name, y.value⟩ ⟨by unfold maxLen; exact hyn, by unfold maxLen; exact hyv⟩ (z := .slice none 0 0) (by go_simp) false
          rcases hu with ⟨e, rfl⟩ | ⟨x, e, hx⟩
          · exact ⟨none, 0, 0, hr, by unfold Hid; rw [e]; exact Sl.nil _ _⟩
          · obtain ⟨A5, c5, rfl, hs5⟩ := (Own.of_ints (M := M) hx.2.ints.1 hx.2.ints.2).sl (fun q hq => hM q hq)
            exact ⟨A5, x.2.length, c5, hr, by unfold Hid; rw [e]; exact hs5⟩
        obtain ⟨A5, n5, c5, hL, hS5⟩ := hLook
        clear hp hmz
        have hfin : Hid (findOf l (m.take (k + 1)) = (findOf l (m.take k)).filter fun z => !!fitAt l y z) := by
          unfold Hid
          rw [take_snoc hy.out, findOf_snoc]
          exact List.filter_congr fun z _ => by simp
        clear ho3
        by_cases hk1 : yk = 1
        · subst hk1
          by_cases hve : y.value.toList.isEmpty = true
          · have hvf : (!y.value.toList.isEmpty) = false := by rw [hve]; rfl
            clear hve
            go_wp2_with (go_at_call 16; refine (deleteFuncI_calls u7 (findOf l (m.take k)) ⟨w.heap.size, 0, none⟩ ⟨wr.heap.size, 0, none⟩ (fun z => !fitAt l y z) _ M (w.heap.size + 1) hon hMn hP.out).mono ?_; rintro e w4 ⟨v4, rfl, ho4, hg4⟩)
            go_roundw
            case rel => exact ⟨k + 1, by omega, by go_num, by rw [hfin.out]; exact ho4, hBn.grown hg4 hBn.size (fun q hq => by have := (ho.lt q hq).1; omega), (World.cell?_of_block (hg4.block w.heap.size (by omega) (fun e => by have := (ho.lt _ e.symm).1; omega))).trans cpn⟩
            case measure => simp [intOf]; omega
          · have hvf : (!y.value.toList.isEmpty) = true := by simpa using hve
            have hvn : Hid (y.value ≠ ⟨#[]⟩) := fun e => hve (by rw [e]; simp)
            clear hve
            have hLd := hL.out
            have hz7 : (findOf l (m.take k)).length * 8 ≤ 140737488355328 := by have := findOf_len l (m.take k); omega
            have hz5 : n5 * 8 ≤ 140737488355328 := by have := hS5.out.len; have := hS ⟨y.name, y.value⟩; omega
            have cy1 : (wr.alloc (.cells #[.int .i64 1, .string y.name, .string y.value] 49)).cell? ⟨wr.heap.size, 1, none⟩ = some (.string y.name) := by simp
            have cy2 : (wr.alloc (.cells #[.int .i64 1, .string y.name, .string y.value] 49)).cell? ⟨wr.heap.size, 2, none⟩ = some (.string y.value) := by simp
            have hS5d := Sl.keep hS5.out (.drewN M _ 1)
            obtain ⟨A7, c7, hu7, hS7⟩ := hon.sl hMn
            have hS7 := Sl.keep hS7 (.drewN M _ 1)
            go_wp2
            go_region_held3 (fun u => u.cell? ⟨w.heap.size, 0, none⟩ = some (.pointer (some ⟨X, 0, none⟩)) ∧ u.cell? ⟨X, 1, none⟩ = some (.map (some R)) ∧ u.cell? ⟨wr.heap.size, 1, none⟩ = some (.string y.name) ∧ u.cell? ⟨wr.heap.size, 2, none⟩ = some (.string y.value)) (go_keep)
              (first | (go_at_call 15; refine (and_calls A7 A5 _ c7 n5 c5 (findOf l (m.take k)) _ (wr.alloc (.cells #[.int .i64 1, .string y.name, .string y.value] 49)).drew M (fun q hq => Nat.lt_of_lt_of_le (hMn q hq) hsn) hS7 hS5d hz7 hz5).mono ?_; rintro e w5 ⟨v5, rfl, ho5, hb5⟩
                        have hk5 : ∀ (q o : Nat) (u : Value), (wr.alloc (.cells #[.int .i64 1, .string y.name, .string y.value] 49)).cell? ⟨q, o, none⟩ = some u → w5.cell? ⟨q, o, none⟩ = some u := fun q o u hu => (hb5.cell (p := ⟨q, o, none⟩) (World.block_lt_of_cell? _ _ hu)).trans hu
                        have d1 := hk5 _ _ _ cpn; have d2 := hk5 _ _ _ cx1; have d3 := hk5 _ _ _ cy1; have d4 := hk5 _ _ _ cy2; clear hk5))
            all_goals
              go_wp2
              go_roundw
              case rel => exact ⟨k + 1, by omega, by go_num, by rw [take_snoc hy.out, ← find_and hE _ hyk.out hvn.out hH]; exact ho5.from_ hsn, (hBn.draws 1).call hb5, d1⟩
              case measure => simp [intOf]; omega
        · have hkt : (yk == 1) = false := by simp [hk1]
          have hk1 := Lib.hid hk1
          go_wp2_with (go_at_call 16; refine (deleteFuncI_calls u7 (findOf l (m.take k)) ⟨w.heap.size, 0, none⟩ ⟨wr.heap.size, 0, none⟩ (fun z => !fitAt l y z) _ M (w.heap.size + 1) hon hMn hP.out).mono ?_; rintro e w4 ⟨v4, rfl, ho4, hg4⟩)
          go_roundw
          case rel => exact ⟨k + 1, by omega, by go_num, by rw [hfin.out]; exact ho4, hBn.grown hg4 hBn.size (fun q hq => by have := (ho.lt q hq).1; omega), (World.cell?_of_block (hg4.block w.heap.size (by omega) (fun e => by have := (ho.lt _ e.symm).1; omega))).trans cpn⟩
          case measure => simp [intOf]; omega
      · obtain rfl : k = n := by omega
        rw [List.take_of_length_le (by rw [hlen.out]; omega)] at ho
        go_wp2
        go_ret2
        exact ⟨hbl, .inr ⟨hb.out, _, rfl, ho.from_ (by omega)⟩⟩
end
end Go.Proofs.Ytflfgeaggknpaaa
