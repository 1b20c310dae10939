/-
  gaugehousekeep.stores, StoreSet.
-/
import Derived.Test.YtfciagcmggdldaaGreatDoorStored
import Derived.Test.YtfciagcmggdldaaGreatDoorSame
import Derived.Test.YtfciagcmggdldaaGreatDoorRev
import Derived.Test.YtfciagcmggdldaaGreatDoorConcatPut
namespace Go.Proofs.YtfciagcmggdldaaGreatDoor
open Go.RowKit

/-- All of a store, as a slice. -/
theorem all_sl (B p r d safe : Nat) (v : Value) (kvs : Kvs) (bs : List UInt8) (W : World) (hSt : StoreIn W No B p r d v kvs bs safe) (hsh : Short kvs) :
    Calls Tryz.prog 12 #[.pointer (some ⟨p, 0, none⟩)] W fun e w' => ∃ A' c', e = .returned (.slice A' (allL kvs).length c') ∧ Sl w' No A' (allL kvs).length c' (allL kvs) ∧ Below W.heap.size W w' := by
  refine (all_calls B p r d safe v kvs bs W No (no_lt W) hSt hsh).mono ?_
  rintro e w' ⟨v', rfl, ho, hb⟩
  obtain ⟨A', c', rfl, hs⟩ := ho.sl (hSt.set_lt (no_lt W))
  exact ⟨A', c', rfl, hs.mono (fun k _ hk => hk.elim), hb⟩

theorem zero_put : (putSt [] [] zeroPut).2.2 = 0 ∧ Short (putSt [] [] zeroPut).1 ∧ (putSt [] [] zeroPut).1.length = 1 := by
  have he : putE zeroPut = 0 := by unfold putE zeroPut; rw [if_neg (by decide), if_neg (by simp)]
  obtain ⟨s, hm, hi⟩ := Inv.start.put (by simp) zeroPut he
  have hel := encB_len he ⟨by show (-9223372036854775808 : Int) ≤ 0; omega, by show (0 : Int) ≤ 9223372036854775807; omega⟩ ⟨by show (-9223372036854775808 : Int) ≤ 0; omega, by show (0 : Int) ≤ 9223372036854775807; omega⟩
  have hfr := frameB_len (bs := encB zeroPut) (by omega)
  have hp : putSt [] [] zeroPut = (mset [] (putKey zeroPut) s, [] ++ frameB (encB zeroPut), 0) := by
    unfold putSt
    rw [if_neg (fun h => h he), hm, if_neg (fun h => h rfl), if_neg (by simp only [List.length_nil]; omega)]
  rw [hp]
  exact ⟨rfl, hi.short (by simp), rfl⟩

set_option maxRecDepth 100000 in
set_option maxHeartbeats 1000000 in
theorem stores_calls (w : World) (hS : SignsAt w) : Calls Tryz.prog 7 #[] w fun e w' => e = .returned (.bool true) ∧ Below w.heap.size w w' := by
  obtain ⟨z1, z2, z3⟩ := zero_put
  have hnew := Lib.hid (storeNew_calls No w)
  have hput : ∀ w1, Below w.heap.size w w1 → StoreIn w1 No w.heap.size (w.heap.size + 2) w.heap.size (w.heap.size + 1) (.slice none 0 0) [] [] 0 → Calls Tryz.prog 14 #[.pointer (some ⟨w.heap.size + 2, 0, none⟩), .slice none 0 0, .agg #[.int .i64 0, .int .i64 0]] w1 fun e w' => e = .returned (.int .i64 0) ∧ ∃ v', StoreIn w' No w.heap.size (w.heap.size + 2) w.heap.size (w.heap.size + 1) v' (putSt [] [] zeroPut).1 (putSt [] [] zeroPut).2.1 0 ∧ Below w.heap.size w w' := fun w1 hb1 hSt => by
    refine (put_st_calls none 0 0 w.heap.size _ _ _ 0 (.slice none 0 0) [] [] zeroPut w1 No (no_lt w1) (Sl.nil _ _) ⟨by show (-9223372036854775808 : Int) ≤ 0; omega, by show (0 : Int) ≤ 9223372036854775807; omega⟩ ⟨by show (-9223372036854775808 : Int) ≤ 0; omega, by show (0 : Int) ≤ 9223372036854775807; omega⟩ hSt (by simp) hb1.size (hS.below hb1)).mono ?_
    intro e w' h
    obtain ⟨v', h1, h2, h3⟩ := h.below hSt hb1.size
    exact ⟨by rw [h1, z1], v', h2, hb1.trans h3⟩
  have hput := Lib.hid hput
  obtain ⟨kvs, hkvs⟩ : ∃ kvs, (putSt [] [] zeroPut).1 = kvs := ⟨_, rfl⟩
  rw [hkvs] at z2 z3 hput
  have hal := allL_len kvs
  rw [z3] at hal
  have hall : ∀ w2 v', StoreIn w2 No w.heap.size (w.heap.size + 2) w.heap.size (w.heap.size + 1) v' kvs (putSt [] [] zeroPut).2.1 0 → Calls Tryz.prog 12 #[.pointer (some ⟨w.heap.size + 2, 0, none⟩)] w2 fun e w' => ∃ A' c', e = .returned (.slice A' 1 c') ∧ Below w2.heap.size w2 w' := fun w2 v' h => by
    refine (all_sl _ _ _ _ _ v' kvs _ w2 h z2).mono ?_
    rw [hal]
    rintro e w' ⟨A', c', rfl, _, hb⟩
    exact ⟨A', c', rfl, hb⟩
  have hall := Lib.hid hall
  clear hal z3 z1 z2 hkvs
  go_enter Tryz.func7, Tryz.ntmps7
  go_wp2_with (first
    | (go_at_call 23; refine hnew.out.mono ?_; rintro e w1 ⟨rfl, hb1, hS1⟩)
    | (go_at_call 14; refine (hput.out w1 hb1 hS1).mono ?_; rintro e w2 ⟨rfl, v2, hS2, hb2⟩)
    | (go_at_call 12; refine (hall.out w2 v2 hS2).mono ?_; rintro e w3 ⟨A3, c3, rfl, hb3⟩))
  go_ret
  exact ⟨rfl, hb2.call hb3⟩

theorem two_sl (W : World) (A B : Option Addr) (n c m d : Nat) (xs ys : List PutD) (hx : Sl W No A n c xs) (hy : Sl W No B m d ys) (T : TypeId) :
    Sl (W.alloc (.cells #[.slice A n c, .slice B m d] T)) No (some ⟨W.heap.size, 0, none⟩) 2 2 [xs, ys] := by
  refine Sl.newN (α := List PutD) (ys := [xs, ys]) (css := [[.slice A n c], [.slice B m d]]) (no_lt W) rfl (fun i y cs hy' hc => ?_) rfl (by unfold maxLen; simp) T
  match i, hy', hc with
  | 0, hy', hc => cases hy'; cases hc; exact ⟨_, rfl, hx.v⟩
  | 1, hy', hc => cases hy'; cases hc; exact ⟨_, rfl, hy.v⟩

set_option maxRecDepth 100000 in
set_option maxHeartbeats 2000000 in
theorem set_calls (A : Option Addr) (n c : Nat) (l : List PutD) (w : World) (hl : Sl w No A n c l) (hS : SignsAt w) (hX : ∀ q ∈ l, i64ok q.X.T ∧ i64ok q.X.V) :
    Calls Tryz.prog 3 #[.slice A n c] w fun e w' => e = .returned (.bool true) ∧ Below w.heap.size w w' := by
  have hle := hl.le
  have hlen := Lib.hid hl.len
  have hst := Lib.hid (stores_calls w hS)
  by_cases hbig : 12 < n
  · have hbi : (12 : Int) < (n : Int) := by omega
    go_enter Tryz.func3, Tryz.ntmps3
    go_wp2_with (go_at_call 7; refine hst.out.mono ?_; rintro e w1 ⟨rfl, hb1⟩)
    go_ret
    exact ⟨rfl, hb1⟩
  · have hbi : ¬ (12 : Int) < (n : Int) := by omega
    go_enter Tryz.func3, Tryz.ntmps3
    go_wp2_with fail
    refine hst.out.mono ?_
    rintro e w1 ⟨rfl, hb1⟩
    have hcl := Lib.hid (clonePut_calls A n c l w1 No (hl.below hb1) (by omega))
    go_wp2_with fail
    refine hcl.out.mono ?_
    rintro e w2 ⟨v2, rfl, ho2, hb2⟩
    obtain ⟨AB, cB, rfl⟩ := ho2.form
    have hln : l.length = n := hlen.out
    rw [hln] at ho2 ⊢
    have hrv := Lib.hid (reverse_calls AB n cB l w2 No w1.heap.size ho2 (by omega))
    clear hln
    go_wp2_with fail
    refine hrv.out.mono ?_
    rintro e w3 ⟨rfl, ho3, hg3⟩
    have hb3 : Below w.heap.size w w3 := (hb1.call hb2).grown hg3 (hb1.call hb2).size (fun k hk => Nat.le_trans hb1.size (ho2.lt k hk).1)
    have hsb : Sl w3 No AB n cB l.reverse := by
      obtain ⟨A', c', e', h'⟩ := ho3.sl (fun _ h => h.elim)
      injection e' with e1 e2 e3
      subst e1; subst e3
      rw [← e2] at h'
      exact h'
    have hsl : Sl w3 No A n c l := hl.below hb3
    have hst2 : Sl w3 No A (n / 2) c (l.take (n / 2)) := hsl.upto (by omega)
    clear ho2 ho3 hg3 hb2 hcl hrv hst hb1
    have hq : (n : Int) / 2 = ((n / 2 : Nat) : Int) := by omega
    have hqn : n / 2 ≤ c := by have := hl.2.1; omega
    have hl12 : l.length ≤ 12 := by rw [hlen.out]; omega
    obtain ⟨l2, hl2⟩ : ∃ l2, Hid (l.reverse ++ l.take (n / 2) = l2) := ⟨_, rfl⟩
    have hl2l : l2.length ≤ 24 := by rw [← hl2.out, List.length_append, List.length_reverse, List.length_take]; omega
    have hm2 : ∀ q, q ∈ l2 ↔ q ∈ l := fun q => by
      rw [← hl2.out, List.mem_append, List.mem_reverse]
      exact ⟨fun h => h.elim id List.mem_of_mem_take, .inl⟩
    obtain ⟨i1, _⟩ := inv_run (l := l) (by omega) hX
    obtain ⟨i2, _⟩ := inv_run hl2l (fun q hq => hX q ((hm2 q).1 hq))
    have hf1 : (l.filter fun q => putE q == 0).length ≤ 100 := Nat.le_trans (List.length_filter_le _ _) (by omega)
    have hf2 : (l2.filter fun q => putE q == 0).length ≤ 100 := Nat.le_trans (List.length_filter_le _ _) (by omega)
    have hsame : allL (runPuts l ([], [])).1 = allL (runPuts l2 ([], [])).1 := allL_same i1.nodup i2.nodup (i1.same i2 fun q => by rw [List.mem_filter, List.mem_filter, hm2 q])
    have S1 : ∀ W, Below w3.heap.size w3 W → Calls Tryz.prog 11 #[.slice A n c] W fun e w' => ∃ p r d v, e = .returned (.pointer (some ⟨p, 0, none⟩)) ∧ StoreIn w' No W.heap.size p r d v (runPuts l ([], [])).1 (runPuts l ([], [])).2 0 ∧ Below W.heap.size W w' := fun W hb => stored_calls A n c l W No (no_lt W) (hsl.below hb) ((hS.below hb3).below hb)
    have S2 : ∀ W A' c', Below w3.heap.size w3 W → Sl W No A' l2.length c' l2 → Calls Tryz.prog 11 #[.slice A' l2.length c'] W fun e w' => ∃ p r d v, e = .returned (.pointer (some ⟨p, 0, none⟩)) ∧ StoreIn w' No W.heap.size p r d v (runPuts l2 ([], [])).1 (runPuts l2 ([], [])).2 0 ∧ Below W.heap.size W w' := fun W A' c' hb hs => stored_calls A' _ c' l2 W No (no_lt W) hs ((hS.below hb3).below hb)
    have A1 : ∀ W B p r d v, StoreIn W No B p r d v (runPuts l ([], [])).1 (runPuts l ([], [])).2 0 → Calls Tryz.prog 12 #[.pointer (some ⟨p, 0, none⟩)] W fun e w' => ∃ A' c', e = .returned (.slice A' (allL (runPuts l ([], [])).1).length c') ∧ Sl w' No A' (allL (runPuts l ([], [])).1).length c' (allL (runPuts l ([], [])).1) ∧ Below W.heap.size W w' := fun W B p r d v h => all_sl B p r d 0 v _ _ W h (i1.short hf1)
    have A2 : ∀ W B p r d v, StoreIn W No B p r d v (runPuts l2 ([], [])).1 (runPuts l2 ([], [])).2 0 → Calls Tryz.prog 12 #[.pointer (some ⟨p, 0, none⟩)] W fun e w' => ∃ A' c', e = .returned (.slice A' (allL (runPuts l2 ([], [])).1).length c') ∧ Sl w' No A' (allL (runPuts l2 ([], [])).1).length c' (allL (runPuts l2 ([], [])).1) ∧ Below W.heap.size W w' := fun W B p r d v h => all_sl B p r d 0 v _ _ W h (i2.short hf2)
    have EQ : ∀ W X Y cx cy, Sl W No X (allL (runPuts l ([], [])).1).length cx (allL (runPuts l ([], [])).1) → Sl W No Y (allL (runPuts l2 ([], [])).1).length cy (allL (runPuts l2 ([], [])).1) → Calls Tryz.prog 10 #[.slice X (allL (runPuts l ([], [])).1).length cx, .slice Y (allL (runPuts l2 ([], [])).1).length cy] W fun e w' => e = .returned (.bool true) ∧ Below W.heap.size W w' := fun W X Y cx cy h1 h2 => by
      have := sameSeries_calls X Y _ cx _ cy _ _ W No No h1 h2
      rw [decide_eq_true hsame] at this
      exact this
    have TW : ∀ W, Below w3.heap.size w3 W → Sl (W.alloc (.cells #[.slice AB n cB, .slice A (n / 2) c] 22)) No (some ⟨W.heap.size, 0, none⟩) 2 2 [l.reverse, l.take (n / 2)] := fun W hb => two_sl W AB A n cB (n / 2) c _ _ (hsb.below hb) (hst2.below hb) _
    have CC : ∀ W X, Sl W No X 2 2 [l.reverse, l.take (n / 2)] → Calls Tryz.prog 13 #[.slice X 2 2] W fun e w' => ∃ A' c', e = .returned (.slice A' l2.length c') ∧ Sl w' No A' l2.length c' l2 ∧ Below W.heap.size W w' := fun W X h => by
      have e2 : [l.reverse, l.take (n / 2)].flatten = l2 := by rw [← hl2.out]; simp
      refine (concatPut_calls X 2 2 _ W No h (by rw [e2]; omega)).mono ?_
      rw [e2]
      rintro e w' ⟨v', rfl, ho, hb⟩
      obtain ⟨A', c', rfl, hs⟩ := ho.sl (no_lt W)
      exact ⟨A', c', rfl, hs, hb⟩
    have S1 := Lib.hid S1
    have S2 := Lib.hid S2
    have A1 := Lib.hid A1
    have A2 := Lib.hid A2
    have EQ := Lib.hid EQ
    have TW := Lib.hid TW
    have CC := Lib.hid CC
    generalize (allL (runPuts l ([], [])).1) = L1 at A1 EQ
    generalize (allL (runPuts l2 ([], [])).1) = L2 at A2 EQ
    generalize runPuts l ([], []) = R1 at S1 A1
    generalize runPuts l2 ([], []) = R2 at S2 A2
    clear hsame i1 i2 hf1 hf2 hm2 hX hS hsl hsb hst2 hl hlen hl12 hl2
    have L0 : Below w3.heap.size w3 w3.drew := (Below.refl _ _).draws 1
    have hw2 : IntKind.i64.wrap ((n / 2 : Nat) : Int) = ((n / 2 : Nat) : Int) := IntWalk.i64_in _ (by omega)
    have L0' : ∀ o, Below w3.heap.size w3 (w3.alloc o).drew := fun o => ((Below.refl _ _).new o).draws 1
    have D3 : ∀ o, Below (w3.alloc o).heap.size (w3.alloc o) (w3.alloc o).drew := fun o => (Below.refl _ _).draws 1
    generalize n / 2 = h at hq hqn TW CC hw2 ⊢
    have hhc : (h : Int) ≤ (c : Int) := by omega
    have hh0 : (0 : Int) ≤ (h : Int) := by omega
    go_wp2
    go_region_held3 (fun _ => True) (trivial)
      (first
        | (go_at_call 11; with_reducible refine (S1.out _ (by first | exact L0 | exact L0' _)).mono ?_; rintro e w4 ⟨p1, r1, d1, v1, rfl, hSt1, hb4⟩; have L4 : Below w3.heap.size w3 w4 := (by first | exact L0.call hb4 | exact (L0' _).call hb4))
        | (go_at_call 12; with_reducible refine (A1.out _ _ p1 r1 d1 v1 (by first | exact hSt1 | exact hSt1.below ((Below.refl _ _).new _))).mono ?_; rintro e w5 ⟨A5, c5, rfl, hs5, hb5⟩; have L5 : Below w3.heap.size w3 w5 := (by first | exact L4.call hb5 | exact (L4.new _).call hb5))
        | (go_at_call 13; refine (CC.out _ _ (by first | exact (((TW.out w3 (Below.refl _ _)).below (D3 _)).below hb4).below hb5 | exact (TW.out w4 L4).below hb5 | exact TW.out w5 L5)).mono ?_; rintro e w6 ⟨A6, c6, rfl, hs6, hb6⟩; have L6 : Below w3.heap.size w3 w6 := (by first | exact L5.call hb6 | exact (L5.new _).call hb6); have hs56 := (by first | exact hs5.below hb6 | exact (hs5.below ((Below.refl _ _).new _)).below hb6 : Sl w6 No A5 L1.length c5 L1))
        | (go_at_call 11; with_reducible refine (S2.out _ _ _ L6 hs6).mono ?_; rintro e w7 ⟨p2, r2, d2, v2, rfl, hSt2, hb7⟩)
        | (go_at_call 12; with_reducible refine (A2.out _ _ p2 r2 d2 v2 hSt2).mono ?_; rintro e w8 ⟨A8, c8, rfl, hs8, hb8⟩)
        | (go_at_call 10; refine (EQ.out _ _ _ _ _ ((hs56.below hb7).below hb8) hs8).mono ?_; rintro e w9 ⟨rfl, hb9⟩))
    all_goals
      have hfin := hb3.call (((L6.call hb7).call hb8).call hb9)
      go_wp2
      go_ret
      exact ⟨rfl, hfin⟩
end Go.Proofs.YtfciagcmggdldaaGreatDoor
