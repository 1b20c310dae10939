/-
  (*store.Store).All.
-/
import Derived.Test.YtfciagcmggdldaaGreatDoorSorted
import Derived.Test.YtfciagcmggdldaaGreatDoorSPut
import Derived.Test.YtfciagcmggdldaaGreatDoorCloneSmp
namespace Go.Proofs.YtfciagcmggdldaaGreatDoor
open Go.RowKit

theorem elemSer : Elem Tryz.prog 32 42 (Rep.size Ser) 48 := by
  have h : (Tryz.prog.info? 42).map (fun i => (i.zero, i.size, i.bytes)) = some (some (.agg #[.slice none 0 0, .slice none 0 0]), Rep.size Ser, 48) := by kernel_rfl
  obtain ⟨i, hi, hz0, hz1, hz2⟩ := info_parts h
  exact ⟨Tryz.underlying32, i, _, hi, hz0, hz1, hz2, rfl, by decide, by decide⟩

theorem mem_keysL {V : Type} {kvs : List (ByteArray × V)} {k : ByteArray} : k ∈ keysL kvs ↔ k ∈ kvs.map (·.1) := by
  unfold keysL
  rw [List.mem_map]
  constructor
  · rintro ⟨z, hz, rfl⟩
    rw [List.mem_mergeSort] at hz
    obtain ⟨kv, hkv, rfl⟩ := List.mem_map.1 hz
    exact List.mem_map.2 ⟨kv, hkv, rfl⟩
  · intro h
    obtain ⟨kv, hkv, rfl⟩ := List.mem_map.1 h
    exact ⟨kv.1.data.toList, by rw [List.mem_mergeSort]; exact List.mem_map.2 ⟨kv, hkv, rfl⟩, rfl⟩
theorem keysL_len {V : Type} (kvs : List (ByteArray × V)) : (keysL kvs).length = kvs.length := by
  unfold keysL; rw [List.length_map, List.length_mergeSort, List.length_map]

def serAt (kvs : Kvs) (k : ByteArray) : Ser := (mget kvs k).getD ⟨[], []⟩
/-- All series, by their keys. -/
def allL (kvs : Kvs) : List Ser := (keysL kvs).map (serAt kvs)
theorem allL_len (kvs : Kvs) : (allL kvs).length = kvs.length := by unfold allL; rw [List.length_map, keysL_len]

/-- Each series is short enough to be cloned. -/
def Short (kvs : Kvs) : Prop := kvs.length ≤ 100000 ∧ ∀ kv ∈ kvs, kv.2.L.length ≤ 1000 ∧ kv.2.S.length ≤ 1000

theorem ser_step {w : World} {M : Nat → Prop} {base : Nat} {v : Value} {xs : List Ser} (ho : Own w M base 42 v xs) (hM : ∀ k, M k → k < w.heap.size) {v3 v4 : Value} {s : Ser} (h3 : SlV w (mOr M v) v3 s.L) (h4 : SlV w (mOr M v) v4 s.S) :
    Own (w.alloc (.cells #[v3, v4] 42)) M base 42 v xs ∧ Sl (w.alloc (.cells #[v3, v4] 42)) (mOr M v) (some ⟨w.heap.size, 0, none⟩) 1 1 [s] :=
  ⟨ho.alloc _, Sl.new (fun k hk => by
    rcases hk with hk | hk
    · exact hM k hk
    · exact (ho.lt k hk).2) (show Rep.rep (α := Ser) w _ [v3, v4] s from ⟨v3, v4, rfl, h3, h4⟩) _⟩

set_option maxRecDepth 100000 in
set_option maxHeartbeats 2000000 in
theorem all_calls (B p r d safe : Nat) (v : Value) (kvs : Kvs) (bs : List UInt8) (w : World) (M : Nat → Prop) (hM : ∀ k, M k → k < w.heap.size) (hSt : StoreIn w M B p r d v kvs bs safe) (hsh : Short kvs) :
    Calls Tryz.prog 12 #[.pointer (some ⟨p, 0, none⟩)] w fun e w' => ∃ v', e = .returned v' ∧ Own w' (Mset M p r d v) w.heap.size 42 v' (allL kvs) ∧ Below w.heap.size w w' := by
  have hMs := hSt.set_lt hM
  obtain ⟨g0, g1, _⟩ := hSt.cells
  have hsc := sorted_calls w (Mset M p r d v) r kvs hSt.map hSt.okk hsh.1
  have hnod := Lib.hid hSt.map.nodup
  obtain ⟨ks, hks⟩ : ∃ ks, Hid (keysL kvs = ks) := ⟨_, rfl⟩
  have hkl := keysL_len kvs
  rw [hks.out] at hsc hkl
  have hsh := Lib.hid hsh
  have hkn : ks.length ≤ 100000 := by rw [hkl]; exact hsh.out.1
  have hmem : ∀ x, x ∈ ks → ∃ s, mget kvs x = some s ∧ (x, s) ∈ kvs := fun x hx => by
    rw [← hks.out, mem_keysL] at hx
    obtain ⟨kv, hkv, rfl⟩ := List.mem_map.1 hx
    exact ⟨kv.2, mget_of_mem hnod.out hkv, hkv⟩
  have hmem := Lib.hid hmem
  have hfin : Hid (allL kvs = ks.map (serAt kvs)) := by unfold Hid allL; rw [hks.out]
  rw [hfin.out]
  have hsc := Lib.hid hsc
  clear hkl
  go_enter Tryz.func12, Tryz.ntmps12
  go_wp2_with (first
    | (go_at_call 29; refine (keys_calls r _).mono ?_; rintro e w' ⟨rfl, rfl⟩)
    | (go_at_call 28; refine hsc.out.mono ?_; rintro e w2 ⟨v2, rfl, ho2, hb2⟩; obtain ⟨A2, c2, rfl, hs2⟩ := ho2.sl hMs))
  go_loopw [3, 14] (fun o i wr => ∃ k : Nat, k ≤ ks.length ∧ i = .int .i64 k ∧ Own wr (Mset M p r d v) w2.heap.size 42 o ((ks.take k).map (serAt kvs)) ∧ Below w2.heap.size w2 wr) (fun _ i _ => ks.length - (intOf i).toNat)
  case atStart => exact ⟨0, Nat.zero_le _, rfl, Own.nil _ _ _ _, Below.refl _ _⟩
  case round =>
    obtain ⟨k, hk, rfl, ho, hbl⟩ := hrel
    have hB := hb2.call hbl
    by_cases hlt : k < ks.length
    · obtain ⟨b, off, x, rfl, hx0, gx, hxs⟩ := (hs2.below hbl).str hlt
      obtain ⟨s, hs, hkv⟩ := hmem.out x (List.mem_of_getElem? hx0)
      have hsa : serAt kvs x = s := by unfold serAt; rw [hs]; rfl
      have hStr := hSt.below hB
      obtain ⟨q0, q1, _⟩ := hStr.cells
      have hok := hSt.okk _ hkv
      obtain ⟨A5, c5, rfl⟩ := ho.form
      have hol0 : ∀ q, (Value.slice A5 ((ks.take k).map (serAt kvs)).length c5).ownBlock = some q → w2.heap.size ≤ q ∧ q < wr.heap.size := ho.lt
      have hmapx : MapAt wr Value.string (serR wr (mOr (Mset M p r d v) (.slice A5 ((ks.take k).map (serAt kvs)).length c5))) r kvs :=
        (hSt.map.of_block (hB.block r hSt.ltr)).mono fun u kv _ hs => by
          obtain ⟨A, c, A2, c2, e, h1, h2⟩ := hs
          refine ⟨A, c, A2, c2, e, (h1.mono (fun q hq hh => hh.elim id (fun h3 => ?_))).below hB, (h2.mono (fun q hq hh => hh.elim id (fun h3 => ?_))).below hB⟩ <;> (have := (hol0 q h3).1; have := hb2.size; omega)
      obtain ⟨val, hrun, hval⟩ := run_lookup_map Tryz.underlying67 (strKey Tryz.underlying9) hStr.okk hmapx x (by simpa using hok) (zeroSer _) false
      rcases hval with ⟨hno, _⟩ | ⟨s', hs', A3, c3, A4, c4, rfl, hL, hSS⟩
      · rw [hs] at hno; cases hno
      · rw [hs] at hs'
        injection hs' with hs'
        subst hs'
        obtain ⟨hl1, hl2⟩ := hsh.out.2 _ hkv
        simp only at hl1 hl2
        have hrun : (Instr.lookup 67 (.map (some r)) (.string x) false).run Tryz.prog wr = .ok (.agg #[.slice A3 s.L.length c3, .slice A4 s.S.length c4]) wr := hrun
        have hx := Lib.hid hx0
        have hsa := Lib.hid hsa
        clear hx0 hs hok hkv
        obtain ⟨os, hos⟩ : ∃ os, Hid (os = (ks.take k).map (serAt kvs)) := ⟨_, rfl⟩
        rw [← hos.out] at ho hL hSS hol0 ⊢
        have hol : os.length ≤ 100000 := by rw [hos.out, List.length_map, List.length_take]; omega
        have hsz : (os.length + 1) * 48 ≤ 140737488355328 := by omega
        have hMr : ∀ q, Mset M p r d v q → q < wr.heap.size := fun q hq => Nat.lt_of_lt_of_le (hMs q hq) hB.size
        have hW : Below w.heap.size w (wr.alloc (.cells #[.slice A3 s.L.length c3, .slice A4 s.S.length c4] 42)).drew := (hB.new _).draws 1
        have hWr : Below wr.heap.size wr (wr.alloc (.cells #[.slice A3 s.L.length c3, .slice A4 s.S.length c4] 42)).drew := ((Below.refl _ _).new _).draws 1
        have hMM : ∀ (u : World), wr.heap.size ≤ u.heap.size → ∀ q, (mOr (Mset M p r d v) (.slice A5 os.length c5)) q → q < u.heap.size := fun u hu q hq => by
          rcases hq with hq | hq
          · have := hMr q hq; omega
          · have := (hol0 q hq).2; omega
        have hclL : Calls Tryz.prog 30 #[.slice A3 s.L.length c3] (wr.alloc (.cells #[.slice A3 s.L.length c3, .slice A4 s.S.length c4] 42)).drew fun e w' => ∃ A' c', e = .returned (.slice A' s.L.length c') ∧ Sl w' (mOr (Mset M p r d v) (.slice A5 os.length c5)) A' s.L.length c' s.L ∧ Below (wr.alloc (.cells #[.slice A3 s.L.length c3, .slice A4 s.S.length c4] 42)).drew.heap.size (wr.alloc (.cells #[.slice A3 s.L.length c3, .slice A4 s.S.length c4] 42)).drew w' := by
          refine (cloneLab_calls A3 _ c3 s.L _ (mOr (Mset M p r d v) (.slice A5 os.length c5)) (hL.below hWr) (by omega)).mono ?_
          rintro e w' ⟨v', rfl, ho', hb'⟩
          obtain ⟨A', c', rfl, h'⟩ := ho'.sl (hMM _ (by simp))
          exact ⟨A', c', rfl, h', hb'⟩
        have hclS : ∀ u, Below (wr.alloc (.cells #[.slice A3 s.L.length c3, .slice A4 s.S.length c4] 42)).drew.heap.size (wr.alloc (.cells #[.slice A3 s.L.length c3, .slice A4 s.S.length c4] 42)).drew u → Calls Tryz.prog 31 #[.slice A4 s.S.length c4] u fun e w' => ∃ A' c', e = .returned (.slice A' s.S.length c') ∧ Sl w' (mOr (Mset M p r d v) (.slice A5 os.length c5)) A' s.S.length c' s.S ∧ Below u.heap.size u w' := fun u hu => by
          refine (cloneSmp_calls A4 _ c4 s.S _ (mOr (Mset M p r d v) (.slice A5 os.length c5)) ((hSS.below hWr).below hu) (by omega)).mono ?_
          rintro e w' ⟨v', rfl, ho', hb'⟩
          obtain ⟨A', c', rfl, h'⟩ := ho'.sl (hMM _ (by have := hu.size; simp at this; omega))
          exact ⟨A', c', rfl, h', hb'⟩
        have hsee : ∀ u, Below (wr.alloc (.cells #[.slice A3 s.L.length c3, .slice A4 s.S.length c4] 42)).drew.heap.size (wr.alloc (.cells #[.slice A3 s.L.length c3, .slice A4 s.S.length c4] 42)).drew u → Hid (u.cell? ⟨wr.heap.size, 0, none⟩ = some (.slice A3 s.L.length c3) ∧ u.cell? ⟨wr.heap.size, 1, none⟩ = some (.slice A4 s.S.length c4)) := fun u hu =>
          ⟨(bcell hu wr.heap.size 0 (by simp)).trans (by simp), (bcell hu wr.heap.size 1 (by simp)).trans (by simp)⟩
        have hlast : ∀ (u : World) (B3 B4 : Option Addr) (d3 d4 : Nat), Below (wr.alloc (.cells #[.slice A3 s.L.length c3, .slice A4 s.S.length c4] 42)).drew.heap.size (wr.alloc (.cells #[.slice A3 s.L.length c3, .slice A4 s.S.length c4] 42)).drew u → Sl u (mOr (Mset M p r d v) (.slice A5 os.length c5)) B3 s.L.length d3 s.L → Sl u (mOr (Mset M p r d v) (.slice A5 os.length c5)) B4 s.S.length d4 s.S →
            Hid (Own (u.alloc (.cells #[.slice B3 s.L.length d3, .slice B4 s.S.length d4] 42)) (Mset M p r d v) w2.heap.size 42 (.slice A5 os.length c5) os ∧ Sl (u.alloc (.cells #[.slice B3 s.L.length d3, .slice B4 s.S.length d4] 42)) (mOr (Mset M p r d v) (.slice A5 os.length c5)) (some ⟨u.heap.size, 0, none⟩) 1 1 [s] ∧ w2.heap.size ≤ (u.alloc (.cells #[.slice B3 s.L.length d3, .slice B4 s.S.length d4] 42)).heap.size ∧
              ∀ w5, (u.alloc (.cells #[.slice B3 s.L.length d3, .slice B4 s.S.length d4] 42)).grownBy w5 (Value.slice A5 os.length c5).ownBlock → w5.cell? ⟨wr.heap.size, 0, none⟩ = some (.slice A3 s.L.length c3) ∧ w5.cell? ⟨wr.heap.size, 1, none⟩ = some (.slice A4 s.S.length c4) ∧ Below w2.heap.size w2 w5) := by
          intro u B3 B4 d3 d4 hu h3 h4
          have hsu : wr.heap.size + 1 ≤ u.heap.size := by have := hu.size; simpa using this
          obtain ⟨o1, o2⟩ := ser_step ((ho.below hWr).below hu) (fun q hq => Nat.lt_of_lt_of_le (hMr q hq) (by omega)) h3.v h4.v
          refine ⟨o1, o2, by have := hbl.size; simp; omega, fun w5 hg5 => ?_⟩
          have hblk : w5.heap[wr.heap.size]? = u.heap[wr.heap.size]? := (hg5.block wr.heap.size (by simp; omega) (fun e => by have := (hol0 _ e.symm).2; omega)).trans (Below.heap_alloc u _ _ (by omega))
          obtain ⟨c1', c2'⟩ := (hsee u hu).out
          have hb2w : Below w2.heap.size w2 (u.alloc (.cells #[.slice B3 s.L.length d3, .slice B4 s.S.length d4] 42)) := (((hbl.new _).draws 1).call hu).new _
          exact ⟨(World.cell?_of_block (a := ⟨wr.heap.size, 0, none⟩) hblk).trans c1', (World.cell?_of_block (a := ⟨wr.heap.size, 1, none⟩) hblk).trans c2', hb2w.grown hg5 hb2w.size (fun q hq => (hol0 q hq).1)⟩
        have hclL := Lib.hid hclL
        have hclS := Lib.hid hclS
        have hsee := Lib.hid hsee
        have hlast := Lib.hid hlast
        clear hMr hMM hW hWr hL hSS hmapx hStr
        go_wp2
        go_region_held3 (fun u => u.cell? ⟨wr.heap.size, 0, none⟩ = some (.slice A3 s.L.length c3) ∧ u.cell? ⟨wr.heap.size, 1, none⟩ = some (.slice A4 s.S.length c4)) (go_keep)
          (first
            | (go_at_call 30; refine hclL.out.mono ?_; rintro e w3 ⟨B3, d3, rfl, hs3, hb3⟩; obtain ⟨x1, x2⟩ := (hsee.out w3 hb3).out)
            | (go_at_call 31; refine (hclS.out w3 hb3).mono ?_; rintro e w4 ⟨B4, d4, rfl, hs4, hb4⟩; have hb34 := hb3.trans (hb4.mono hb3.size); obtain ⟨x3, x4⟩ := (hsee.out w4 hb34).out; have hLA := hlast.out w4 B3 B4 d3 d4 hb34 (hs3.below hb4) hs4)
            | (refine step_app (α := Ser) (w := w4.alloc (.cells #[.slice B3 s.L.length d3, .slice B4 s.S.length d4] 42)) rfl (.tmp 24) (.tmp 32) 32 rfl elemSer (.slice A5 os.length c5) os (by simp [Act.eval]) hLA.out.1 [s] (some ⟨w4.heap.size, 0, none⟩) 1 1 (by simp [Act.eval]) hLA.out.2.1 hsz hLA.out.2.2.1 ?_; intro v5 w5 ho5 hg5 hk5; obtain ⟨x5, x6, hB5⟩ := hLA.out.2.2.2 w5 hg5))
        all_goals
          have hos2 : os ++ [s] = (ks.take (k + 1)).map (serAt kvs) := by rw [hos.out, List.take_add_one, hx.out, List.map_append, ← hsa.out]; rfl
          rw [hos2] at ho5
          clear x1 x2 x3 x4 x5 x6
          go_wp2
          go_roundw
          case rel => exact ⟨k + 1, by omega, by go_num, ho5, hB5⟩
          case measure => simp [intOf]; omega
    · obtain rfl : k = ks.length := by omega
      rw [List.take_length] at ho
      go_wp2
      go_ret
      exact ⟨_, rfl, ho.from_ hb2.size, hB⟩
end Go.Proofs.YtfciagcmggdldaaGreatDoor
