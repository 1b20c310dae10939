/-
  index.New.
-/
import Derived.Test.YtflfgeaggknpaaaNewW
import Derived.Test.YtflfgeaggknpaaaLabel2
import Derived.Deep.RegionLaw
import Derived.Deep.RegionHeld3
import Derived.Deep.DeepCutAuto
namespace Go.Proofs.Ytflfgeaggknpaaa
open Go.RowKit

theorem elemLabs : Elem Try.prog 22 32 (Rep.size (List Lab)) 24 := by
  have h : (Try.prog.info? 32).map (fun i => (i.zero, i.size, i.bytes)) = some (some (.slice none 0 0), Rep.size (List Lab), 24) := by kernel_rfl
  obtain ⟨i, hi, hz0, hz1, hz2⟩ := info_parts h
  exact ⟨Try.underlying22, i, _, hi, hz0, hz1, hz2, rfl, by decide, by decide⟩

/-- The first error among the series. -/
def newGo : List (List Lab) → Int
  | [] => 0
  | s :: r => if labCheck s ≠ 0 then labCheck s else newGo r
def newE (l : List (List Lab)) : Int := if 200 < l.length then 2 else newGo l

theorem new_bad {l : List (List Lab)} {k : Nat} {x : List Lab} {r : Int} (h : Hid (r = newGo (l.drop k))) (hx : Hid (l[k]? = some x)) (hb : labCheck x ≠ 0) : r = labCheck x := by
  rw [h.out, drop_cons hx.out, newGo, if_pos hb]
theorem new_on {l : List (List Lab)} {k : Nat} {x : List Lab} {r : Int} (h : Hid (r = newGo (l.drop k))) (hx : Hid (l[k]? = some x)) (hb : labCheck x = 0) : r = newGo (l.drop (k + 1)) := by
  rw [h.out, drop_cons hx.out, newGo, if_neg (fun h => h hb)]

/-- What the map holds: behind each label the numbers of the series that have it. -/
def HoldsTo (l : List (List Lab)) (k : Nat) (pre : List Lab) (kvs : List (Lab × RowV)) : Prop :=
  ∀ (y : Lab) (i : Int), i ∈ ((mget kvs y).getD (none, [])).2 ↔ (∃ m : Nat, i = m ∧ m < k ∧ ∃ s, l[m]? = some s ∧ y ∈ s) ∨ (i = k ∧ y ∈ pre)
def ShortTo (N : Nat) (kvs : List (Lab × RowV)) : Prop := ∀ y, ((mget kvs y).getD (none, [])).2.length ≤ N

theorem HoldsTo.start (l : List (List Lab)) : HoldsTo l 0 [] [] := fun y i => by simp [mget]
theorem HoldsTo.step {l : List (List Lab)} {k : Nat} {pre : List Lab} {kvs : List (Lab × RowV)} (h : HoldsTo l k pre kvs) (y : Lab) (b : Option Nat) :
    HoldsTo l k (pre ++ [y]) (mset kvs y (b, ((mget kvs y).getD (none, [])).2 ++ [(k : Int)])) := by
  intro z i
  rw [mget_mset]
  by_cases e : y = z
  · subst e
    rw [if_pos rfl]
    rw [Option.getD_some, List.mem_append, List.mem_singleton, h y i]
    constructor
    · rintro (h | h)
      · exact h.elim .inl fun h => .inr ⟨h.1, List.mem_append.2 (.inl h.2)⟩
      · exact .inr ⟨h, List.mem_append.2 (.inr (List.mem_singleton.2 rfl))⟩
    · rintro (h | ⟨h1, _⟩)
      · exact .inl (.inl h)
      · exact .inr h1
  · rw [if_neg e, h z i]
    have : ¬ z = y := fun e2 => e e2.symm
    simp [this]
theorem HoldsTo.next {l : List (List Lab)} {k : Nat} {x : List Lab} {kvs : List (Lab × RowV)} (h : HoldsTo l k x kvs) (hx : l[k]? = some x) : HoldsTo l (k + 1) [] kvs := by
  intro z i
  rw [h z i]
  constructor
  · rintro (⟨m, h1, h2, h3⟩ | ⟨h1, h2⟩)
    · exact .inl ⟨m, h1, by omega, h3⟩
    · exact .inl ⟨k, h1, by omega, x, hx, h2⟩
  · rintro (⟨m, h1, h2, s, h3, h4⟩ | ⟨_, h2⟩)
    · by_cases e : m = k
      · subst e; rw [hx] at h3; injection h3 with h3; subst h3; exact .inr ⟨h1, h4⟩
      · exact .inl ⟨m, h1, by omega, s, h3, h4⟩
    · cases h2
theorem ShortTo.start : ShortTo 0 [] := fun y => by simp [mget]
theorem ShortTo.step {N : Nat} {kvs : List (Lab × RowV)} (h : ShortTo N kvs) (y : Lab) (b : Option Nat) (i : Int) : ShortTo (N + 1) (mset kvs y (b, ((mget kvs y).getD (none, [])).2 ++ [i])) := by
  intro z
  rw [mget_mset]
  by_cases e : y = z
  · rw [if_pos e]; simp; exact h y
  · rw [if_neg e]; have := h z; omega

theorem IdxIn.made (w : World) (M : Nat → Prop) : IdxIn ((w.alloc (.map #[] 0)).alloc (.cells #[.slice none 0 0, .map (some w.heap.size)] 41)) M w.heap.size (w.heap.size + 1) w.heap.size (.slice none 0 0) [] [] where
  x := by have := heap_alloc_new (w.alloc (.map #[] 0)) (.cells #[.slice none 0 0, .map (some w.heap.size)] 41 (0, 0)); simpa using this
  hX := Nat.le_succ _
  hR := Nat.le_refl _
  own := Own.nil _ _ _ _
  map := (MapAt.made w labEnc _).of_block (Below.heap_alloc _ _ _ (by simp))
  okk := by simp
  dis := by simp
  vrow := by simp
  vX := by simp [Value.ownBlock]
  vR := by simp [Value.ownBlock]

theorem own_int_grown {w w' : World} {M M' : Nat → Prop} {base : Nat} {e : TypeId} {v : Value} {xs : List Int} {row : Option Nat} (h : Own w M base e v xs) (hg : w.grownBy w' row) (hr : ∀ b, row = some b → v.ownBlock ≠ some b) : Own w' M' base e v xs := by
  have p1 : Own w (fun k => row = some k) base e v xs := Own.of_ints h.ints.1 h.ints.2
  have p2 := p1.grown hg fun b hb => ⟨hr b hb, hb⟩
  exact Own.of_ints p2.ints.1 p2.ints.2
theorem take_snoc {α : Type} {l : List α} {k : Nat} {x : α} (hx : l[k]? = some x) : l.take (k + 1) = l.take k ++ [x] := by
  rw [List.take_add_one, hx]; rfl
theorem Sl.one {α : Type} [Rep α] {w : World} {M : Nat → Prop} {g : Nat} {ca : Array Value} {t : TypeId} {fz : Nat × Nat} {y : α} (h : w.heap[g]? = some (.cells ca t fz)) (hM : ¬ M g) (hr : Rep.rep w M ca.toList y) : Sl w M (some ⟨g, 0, none⟩) 1 1 [y] := by
  refine ⟨rfl, Nat.le_refl _, by unfold maxLen; omega, by simp, fun _ => ⟨_, 0, rfl, (Array.getElem?_eq_some_iff.1 h).1, hM, fun i x hi => ?_⟩⟩
  have h0 : i = 0 := by
    have := (List.getElem?_eq_some_iff.1 hi).1
    simp at this; omega
  subst h0
  simp at hi
  subst hi
  refine ⟨ca.toList, hr, fun j u hu => ?_⟩
  rw [cell_of_row _ _ _ ca t fz h]
  simpa using hu

theorem cell_alloc_of {w : World} {a : Addr} {v : Value} (h : w.cell? a = some v) (o : Obj) : (w.alloc o).cell? a = some v :=
  (World.cell?_of_block (Below.heap_alloc w o a.block (World.block_lt_of_cell? w a h))).trans h

set_option maxRecDepth 100000 in
set_option maxHeartbeats 2000000 in
theorem new_calls (A : Option Addr) (n c : Nat) (l : List (List Lab)) (w : World) (M : Nat → Prop) (hM : ∀ k, M k → k < w.heap.size) (hl : Sl w M A n c l) :
    Calls Try.prog 5 #[.slice A n c] w fun e w' => Below w.heap.size w w' ∧ ((newE l ≠ 0 ∧ e = .returned (.tuple #[.pointer none, .int .i64 (newE l)])) ∨
      (newE l = 0 ∧ ∃ X R v kvs, e = .returned (.tuple #[.pointer (some ⟨X, 0, none⟩), .int .i64 0]) ∧ IdxIn w' M w.heap.size X R v l kvs ∧ HoldsTo l l.length [] kvs ∧ ShortTo 2000 kvs)) := by
  have hn := hl.le
  have hlen := Lib.hid hl.len
  have hmade := Lib.hid (IdxIn.made w M)
  have hmk : ∀ W : World, (Instr.makeMap 39 none).run Try.prog W = .ok (.map (some W.heap.size)) (W.alloc (.map #[] 0)) := fun W => rfl
  go_enter Try.func5, Try.ntmps5
  by_cases h200 : (200 : Int) < (n : Int)
  · go_wp2
    go_ret2
    exact ⟨Below.refl _ _, .inl ⟨by rw [newE, if_pos (by rw [hlen.out]; omega)]; decide, by rw [newE, if_pos (by rw [hlen.out]; omega)]; rfl⟩⟩
  · have hr : Hid (newE l = newGo l) := by unfold Hid; rw [newE, if_neg (by rw [hlen.out]; omega)]
    go_wp2
    go_loopw [18] (fun i wr => ∃ (k : Nat) (v : Value) (kvs : List (Lab × RowV)), k ≤ n ∧ i = .int .i64 k ∧ Below w.heap.size w wr ∧ Hid (newE l = newGo (l.drop k)) ∧ Hid (IdxIn wr M w.heap.size (w.heap.size + 1) w.heap.size v (l.take k) kvs) ∧ Hid (HoldsTo l k [] kvs) ∧ Hid (ShortTo (10 * k) kvs)) (fun i _ => n - (intOf i).toNat)
    case atStart => exact ⟨0, _, [], Nat.zero_le _, rfl, ((Below.refl _ _).new _).new _, hr, hmade, Lib.hid (HoldsTo.start l), Lib.hid ShortTo.start⟩
    case round =>
      clear hr hmade hmk
      obtain ⟨k, v, kvs, hk, rfl, hbl, hv, hI, hH, hS⟩ := hrel
      by_cases hlt : k < n
      · obtain ⟨b, off, x, A', c', rfl, hx0, g0w, hsxw⟩ := hl.list hlt
        have g0 := (bcell hbl b (off + k) (World.block_lt_of_cell? w _ g0w)).trans g0w
        have hsx := hsxw.below hbl
        have hx := Lib.hid hx0
        clear hx0
        go_wp2_with (go_at_call 11; refine (check_calls _ _ _ _ _ _ hsx).mono ?_; rintro e w2 ⟨rfl, hb2⟩; have hc2 := bcell hb2)
        · go_ret2
          have hb : labCheck x ≠ 0 := by simpa using (by assumption : (labCheck x != 0) = true)
          have hv2 := new_bad hv hx hb
          exact ⟨hbl.call hb2, .inl ⟨by rw [hv2]; exact hb, by rw [hv2]; rfl⟩⟩
        · have hb : labCheck x = 0 := by simpa using (by assumption : (labCheck x != 0) = false)
          have hv2 := Lib.hid (new_on hv hx hb)
          have hx10 := Lib.hid (labCheck_ok hb).1
          have hxs := Lib.hid (labCheck_ok hb).2
          clear hb
          have hI2 := hI.out.below hb2
          obtain ⟨cx0, cx1, fx0⟩ := hI2.cells
          have hltX := hI2.ltX
          have hI2 := Lib.hid hI2
          have hszx : x.length * 32 ≤ 140737488355328 := by have := hx10.out; omega
          have hsx2 := hsx.below hb2
          have hszk : ((l.take k).length + 1) * 24 ≤ 140737488355328 := by rw [List.length_take]; omega
          have hstep : ∀ (w3 : World) (v2 : Value), Below w2.drew.heap.size w2.drew w3 → Own w3 M w2.drew.heap.size 45 v2 x →
            Hid (Own (w3.alloc (.cells #[v2] 32)) (fun q => M q ∨ q = w.heap.size + 1 ∨ q = w.heap.size ∨ ∃ kv ∈ kvs, kv.2.1 = some q) w.heap.size 32 v (l.take k) ∧
              Sl (w3.alloc (.cells #[v2] 32)) (mOr (fun q => M q ∨ q = w.heap.size + 1 ∨ q = w.heap.size ∨ ∃ kv ∈ kvs, kv.2.1 = some q) v) (some ⟨w3.heap.size, 0, none⟩) 1 1 [x] ∧ w.heap.size ≤ (w3.alloc (.cells #[v2] 32)).heap.size ∧
              ∀ w4, (w3.alloc (.cells #[v2] 32)).grownBy w4 v.ownBlock → w4.cell? ⟨w.heap.size + 1, 0, none⟩ = some v ∧ w4.frozen? ⟨w.heap.size + 1, 0, none⟩ = false) := by
            intro w3 v2 hb3 ho2
            have hI3 := (hI2.out.below (w' := w2.drew) ⟨rfl, rfl, rfl, Nat.le_refl _, fun _ _ => rfl⟩).below hb3
            have hs3 : w2.heap.size ≤ w3.heap.size := hb3.size
            have hmut : ∀ q, mOr (fun q => M q ∨ q = w.heap.size + 1 ∨ q = w.heap.size ∨ ∃ kv ∈ kvs, kv.2.1 = some q) v q → q < w2.heap.size := by
              have hi := hI2.out
              rintro q ((h | h | h | ⟨kv, hk, h⟩) | h)
              · have := hM q h; omega
              · omega
              · omega
              · exact (hi.vrow kv hk q h).1
              · exact (hi.own.lt q h).2
            have ho2' : Own w3 (mOr (fun q => M q ∨ q = w.heap.size + 1 ∨ q = w.heap.size ∨ ∃ kv ∈ kvs, kv.2.1 = some q) v) w2.drew.heap.size 45 v2 x := ho2
            have hI4 := hI3.below ((Below.refl _ _).new (.cells #[v2] 32))
            refine ⟨hI4.own, Sl.new (fun q hq => Nat.lt_of_lt_of_le (hmut q hq) hs3) (show Rep.rep (α := List Lab) w3 _ [v2] x from ⟨v2, rfl, ho2'.sl hmut⟩) _, by simp; omega, fun w4 hg4 => ?_⟩
            have hX4 := (hg4.block _ hI4.ltX (fun e => hI4.vX e.symm)).trans hI4.x
            exact ⟨by simp [World.cell?, hX4], by simp [World.frozen?, hX4]⟩
          go_cut [] from 26 to 38 (fun wx => ∃ v' : Value, Below w.heap.size w wx ∧ Hid (IdxIn wx M w.heap.size (w.heap.size + 1) w.heap.size v' (l.take (k + 1)) kvs))
          case first =>
            go_region_law
              (first
               | (go_simp; go_at_call 12; refine (cloneLab_calls _ _ _ _ _ M (hsx2.keep (.drewN _ _ 1)) hszx).mono ?_; rintro e w3 ⟨v2, rfl, ho2, hb3⟩; obtain ⟨A2, c2, rfl⟩ := ho2.form; have hc3 := bcell hb3; have cx3 : w3.cell? ⟨w.heap.size + 1, 0, none⟩ = some v := (hc3 _ 0 (by simpa using hltX)).trans (by simpa using cx0); have cx3a := fun o => cell_alloc_of cx3 o)
               | (refine step_app (α := List Lab) (w := w3.alloc (.cells #[.slice A2 x.length c2] 32)) rfl (.tmp 32) (.tmp 35) 22 rfl elemLabs v (l.take k) (by simp [Act.eval]) (hstep w3 _ hb3 ho2).out.1 [x] (some ⟨w3.heap.size, 0, none⟩) 1 1 (by simp [Act.eval]) (hstep w3 _ hb3 ho2).out.2.1 hszk (hstep w3 _ hb3 ho2).out.2.2.1 ?_; intro v4 w4 ho4 hg4 hat4; obtain ⟨cx4, fx4⟩ := (hstep w3 _ hb3 ho2).out.2.2.2 w4 hg4; obtain ⟨A4, c4, rfl⟩ := ho4.form))
            all_goals
              go_wp2_with fail
              go_meet
              have hB3 := (((hbl.call hb2).draws 1).call hb3).new (.cells #[.slice A2 x.length c2] 32)
              have hB4 := hB3.grown hg4 hB3.size (fun q hq => (hI2.out.own.lt q hq).1)
              have hI3 := ((hI2.out.below (w' := w2.drew) ⟨rfl, rfl, rfl, Nat.le_refl _, fun _ _ => rfl⟩).below hb3).below ((Below.refl _ _).new (.cells #[.slice A2 x.length c2] 32))
              have hI5 := hI3.put_all ho4 hg4 hat4
              have hlk : (l.take k ++ [x]).length = min k l.length + 1 := by simp
              rw [hlk, ← take_snoc hx.out] at hI5
              exact ⟨_, hB4.setCell (Nat.le_succ _) _, hI5⟩
          case rest =>
            obtain ⟨v', hbl', hI'⟩ := hcut
            clear hstep cx0 cx1 fx0 hltX hI2 hsx2 g0 g0w hc2
            have hxn := hsxw.le
            go_wp2
            go_loopw [41] (fun j wr => ∃ (jj : Nat) (kvs' : List (Lab × RowV)), jj ≤ x.length ∧ j = .int .i64 jj ∧ Below w.heap.size w wr ∧ Hid (IdxIn wr M w.heap.size (w.heap.size + 1) w.heap.size v' (l.take (k + 1)) kvs') ∧ Hid (HoldsTo l k (x.take jj) kvs') ∧ Hid (ShortTo (10 * k + jj) kvs')) (fun j _ => x.length - (intOf j).toNat)
            case atStart => exact ⟨0, kvs, Nat.zero_le _, rfl, hbl', hI', hH, hS⟩
            case round =>
              clear hI' hH hS hbl' hI hbl
              obtain ⟨j, kvs', hj, rfl, hbl, hI, hH, hS⟩ := hrel
              by_cases hjl : j < x.length
              · obtain ⟨b2, off2, y, rfl, hy0, gy0, gy1, hsy0, hsy1⟩ := (hsxw.below hbl).lab hjl
                have hy := Lib.hid hy0
                clear hy0
                go_wp2
                have hIn := hI.out.below ((Below.refl _ _).new (.cells #[.string y.name, .string y.value] 45))
                obtain ⟨_, cx1, _⟩ := hIn.cells
                have hltX := hIn.ltX
                have hneX := hIn.ne
                have hltR := hIn.ltR
                obtain ⟨v0, st, es1, clk, hrun, hrow, hv0R, hnext⟩ := hIn.put_row y ⟨by unfold maxLen; omega, by unfold maxLen; omega⟩ (k : Int)
                have hlo : ((mget kvs' y).getD (none, [])).2.length ≤ 10 * k + j := hS.out y
                have hHo := Lib.hid (hH.out.step y)
                have hSo := Lib.hid (hS.out.step y)
                have ho0 := hrow.2
                clear hrow
                generalize ((mget kvs' y).getD (none, [])).2 = old at hnext hlo hHo hSo ho0
                have hbase0 := Lib.hid ho0.lt
                obtain ⟨A0, c0, rfl⟩ := ho0.form
                obtain ⟨al, hal⟩ : ∃ al, Hid (al = l.take (k + 1)) := ⟨_, rfl⟩
                rw [← hal.out] at hnext hIn
                have hrun1 := hrun (wr.alloc (.cells #[.string y.name, .string y.value] 45)).drew rfl
                have hrun2 := hrun ((wr.alloc (.cells #[.string y.name, .string y.value] 45)).alloc (.cells #[.int .i64 (k : Int)] 3)).drew (Below.heap_alloc _ _ _ hltR)
                have hN := Lib.hid hnext
                clear hnext hrun
                unfold labEnc at hrun1 hrun2
                have cxa := fun o => cell_alloc_of cx1 o
                have hps : ∀ (u : World) (r : Nat) (o : Obj), (World.putObj u r o).heap.size = u.heap.size := fun u r o => by simp [World.putObj]
                have hwy : w.heap.size ≠ wr.heap.size := by have := hltR; have := hIn.ltX; simp at this; omega
                obtain ⟨W3, hW3⟩ : ∃ W3, W3 = wr.alloc (.cells #[.string y.name, .string y.value] 45) := ⟨_, rfl⟩
                have hstep : ∀ W1 : World, W3.grownBy W1 (some w.heap.size) → W1.heap[w.heap.size]? = some (.map es1 clk) → W1.heap[wr.heap.size + 1]? = some (.cells #[.int .i64 (k : Int)] 3 (0, 0)) →
                    Hid (Own W1 (fun _ => False) w.heap.size 3 (.slice A0 old.length c0) old ∧ Sl W1 (mOr (fun _ => False) (.slice A0 old.length c0)) (some ⟨wr.heap.size + 1, 0, none⟩) 1 1 [(k : Int)] ∧ w.heap.size ≤ W1.heap.size) := by
                  intro W1 g1 r1 c1
                  have hsz1 : w.heap.size ≤ W1.heap.size := Nat.le_trans (Nat.le_of_lt hltR) (by rw [← hW3]; exact g1.size)
                  refine ⟨own_int_grown (by rw [hW3]; exact ho0) g1 (fun b hb => by injection hb with hb; subst hb; exact hv0R), Sl.one c1 (fun hh => ?_) (show Rep.rep (α := Int) W1 _ [.int .i64 (k : Int)] k from ⟨rfl, by omega, by omega⟩), hsz1⟩
                  rcases hh with hh | hh
                  · exact hh
                  · have := (hbase0.out _ hh).2
                    simp at this
                have hlast : ∀ (W1 w2 : World) (v1 : Value), W3.grownBy W1 (some w.heap.size) → W1.heap[w.heap.size]? = some (.map es1 clk) → Own w2 (fun _ => False) w.heap.size 3 v1 (old ++ [(k : Int)]) →
                    W1.grownBy w2 (Value.slice A0 old.length c0).ownBlock → (v1.ownBlock = (Value.slice A0 old.length c0).ownBlock ∨ v1.ownBlock = some W1.heap.size) →
                    ∃ w3 kv'', (Instr.entryStore 39 (.map (some w.heap.size)) (.int .i64 st) v1).run Try.prog w2 = .ok () w3 ∧ Hid (Below w.heap.size w w3 ∧ IdxIn w3 M w.heap.size (w.heap.size + 1) w.heap.size v' al kv'' ∧ HoldsTo l k (x.take (j + 1)) kv'' ∧ ShortTo (10 * k + (j + 1)) kv'') := by
                  intro W1 w4 v1 g1 r1 o1 g2 hat
                  obtain ⟨w5, e5, i5, g5⟩ := hN.out W1 w4 v1 (by rw [← hW3]; exact g1) r1 o1 g2 hat
                  have q0 : Below w.heap.size w W3 := by rw [hW3]; exact hbl.new _
                  have q1 := q0.grown g1 q0.size (fun b hb => by injection hb with hb; omega)
                  have q2 := q1.grown g2 q1.size (fun b hb => (hbase0.out b hb).1)
                  have q3 := q2.grown g5 q2.size (fun b hb => by injection hb with hb; omega)
                  refine ⟨w5, _, e5, q3, i5, ?_, ?_⟩
                  · rw [take_snoc hy.out]; exact hHo.out v1.ownBlock
                  · exact hSo.out v1.ownBlock k
                have hsz : (old.length + 1) * 8 ≤ 140737488355328 := by have := hx10.out; omega
                have ga : W3.grownBy (World.putObj (W3.alloc (.cells #[.int .i64 (k : Int)] 3)).drew w.heap.size (.map es1 clk)) (some w.heap.size) :=
                  World.grownBy.trans (grown_of_below (((Below.refl _ _).new _).draws 1)) (putObj_grown _ _ _)
                have gb : W3.grownBy ((World.putObj W3.drew w.heap.size (.map es1 clk)).alloc (.cells #[.int .i64 (k : Int)] 3)) (some w.heap.size) :=
                  World.grownBy.trans (grown_of_below ((Below.refl _ _).draws 1)) (World.grownBy.trans (putObj_grown _ _ _) (grown_of_below ((Below.refl _ _).new _)))
                have ra : (World.putObj (W3.alloc (.cells #[.int .i64 (k : Int)] 3)).drew w.heap.size (.map es1 clk)).heap[w.heap.size]? = some (.map es1 clk) :=
                  putObj_same (by have := hltR; rw [← hW3] at this; simp; omega)
                have rb : ((World.putObj W3.drew w.heap.size (.map es1 clk)).alloc (.cells #[.int .i64 (k : Int)] 3)).heap[w.heap.size]? = some (.map es1 clk) :=
                  (Below.heap_alloc _ _ _ (by rw [hps, hW3]; exact hltR)).trans (putObj_same (by rw [hW3]; exact hltR))
                have ca : (World.putObj (W3.alloc (.cells #[.int .i64 (k : Int)] 3)).drew w.heap.size (.map es1 clk)).heap[wr.heap.size + 1]? = some (.cells #[.int .i64 (k : Int)] 3 (0, 0)) := by
                  rw [(putObj_grown _ _ _).block (wr.heap.size + 1) (by rw [hW3]; simp) (fun e => by injection e with e; have := hltR; simp at this; omega)]
                  have := heap_alloc_new W3 (.cells #[.int .i64 (k : Int)] 3 (0, 0))
                  rw [show W3.heap.size = wr.heap.size + 1 by rw [hW3]; simp] at this
                  exact this
                have cb : ((World.putObj W3.drew w.heap.size (.map es1 clk)).alloc (.cells #[.int .i64 (k : Int)] 3)).heap[wr.heap.size + 1]? = some (.cells #[.int .i64 (k : Int)] 3 (0, 0)) := by
                  have := heap_alloc_new (World.putObj W3.drew w.heap.size (.map es1 clk)) (.cells #[.int .i64 (k : Int)] 3 (0, 0))
                  rw [hps, show W3.drew.heap.size = wr.heap.size + 1 by rw [hW3]; simp] at this
                  exact this
                subst hW3
                have sa := hstep _ ga ra ca
                have sb := hstep _ gb rb cb
                have la := Lib.hid (hlast _ · · ga ra)
                have lb := Lib.hid (hlast _ · · gb rb)
                clear hstep hlast ga gb ra rb ca cb hps
                have hlen1 : (old ++ [(k : Int)]).length = old.length + 1 := by simp
                have hlen1 := Lib.hid hlen1
                go_wp2
                go_region_law
                  (first
                   | (refine step_app (α := Int) (w := World.putObj ((wr.alloc (.cells #[.string y.name, .string y.value] 45)).alloc (.cells #[.int .i64 (k : Int)] 3)).drew w.heap.size (.map es1 clk)) rfl (.tmp 50) (.tmp 52) 29 rfl elemInt (.slice A0 old.length c0) old (by simp [Act.eval, Act.put]) sa.out.1 [(k : Int)] (some ⟨wr.heap.size + 1, 0, none⟩) 1 1 (by simp [Act.eval, Act.put]) sa.out.2.1 hsz sa.out.2.2 ?_
                      intro v1 w4 ho1 hg4 hat4
                      obtain ⟨w5, kv'', hE5, hF⟩ := la.out w4 v1 ho1 hg4 hat4
                      obtain ⟨A5, c5, rfl⟩ := ho1.form
                      rw [hlen1.out] at hE5)
                   | (refine step_app (α := Int) (w := (World.putObj (wr.alloc (.cells #[.string y.name, .string y.value] 45)).drew w.heap.size (.map es1 clk)).alloc (.cells #[.int .i64 (k : Int)] 3)) rfl (.tmp 50) (.tmp 52) 29 rfl elemInt (.slice A0 old.length c0) old (by simp [Act.eval, Act.put]) sb.out.1 [(k : Int)] (some ⟨wr.heap.size + 1, 0, none⟩) 1 1 (by simp [Act.eval, Act.put]) sb.out.2.1 hsz sb.out.2.2 ?_
                      intro v1 w4 ho1 hg4 hat4
                      obtain ⟨w5, kv'', hE5, hF⟩ := lb.out w4 v1 ho1 hg4 hat4
                      obtain ⟨A5, c5, rfl⟩ := ho1.form
                      rw [hlen1.out] at hE5)
                   | (trace_state; fail))
                all_goals
                  obtain ⟨hbl2, hI2, hH2, hS2⟩ := hF.out
                  rw [hal.out] at hI2
                  go_wp2
                  go_roundw
                  case rel => exact ⟨j + 1, kv'', by omega, by go_num, hbl2, Lib.hid hI2, Lib.hid hH2, Lib.hid hS2⟩
                  case measure => simp [intOf]; omega
              · go_wp2
                go_roundw
                case rel =>
                  obtain rfl : j = x.length := by omega
                  rw [List.take_length] at hH
                  exact ⟨k + 1, v', kvs', by omega, by go_num, hbl, hv2, hI, Lib.hid (hH.out.next hx.out), Lib.hid (fun z => Nat.le_trans (hS.out z) (by have := hx10.out; omega))⟩
                case measure => simp [intOf]; omega
      · go_wp2
        go_ret2
        obtain rfl : k = n := by omega
        rw [List.drop_of_length_le (by rw [hlen.out]; omega)] at hv
        exact ⟨hbl, .inr ⟨hv.out, _, _, v, kvs, rfl, by have := hI.out; rw [List.take_of_length_le (by rw [hlen.out]; omega)] at this; exact this, by rw [hlen.out]; exact hH.out, fun y => Nat.le_trans (hS.out y) (by omega)⟩⟩
end Go.Proofs.Ytflfgeaggknpaaa
