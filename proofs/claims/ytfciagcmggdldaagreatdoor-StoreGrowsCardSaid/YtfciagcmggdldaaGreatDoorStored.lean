/-
  gaugehousekeep.stored, stores.
-/
import Derived.Test.YtfciagcmggdldaaGreatDoorAll
import Derived.Test.YtfciagcmggdldaaGreatDoorStoreD
namespace Go.Proofs.YtfciagcmggdldaaGreatDoor
open Go.RowKit

def putOne (s : Kvs × List UInt8) (q : PutD) : Kvs × List UInt8 := ((putSt s.1 s.2 q).1, (putSt s.1 s.2 q).2.1)
/-- What puts come to. -/
def runPuts (l : List PutD) (s : Kvs × List UInt8) : Kvs × List UInt8 := l.foldl putOne s
theorem runPuts_snoc {l : List PutD} {k : Nat} {q : PutD} (h : l[k]? = some q) (s : Kvs × List UInt8) : runPuts (l.take (k + 1)) s = putOne (runPuts (l.take k) s) q := by
  unfold runPuts
  rw [List.take_add_one, h, Option.toList_some, List.foldl_append]; rfl
theorem putSt_len {kvs : Kvs} {bs : List UInt8} (q : PutD) (h : bs.length ≤ 30000) : (putSt kvs bs q).2.1.length ≤ 30000 := by
  unfold putSt
  split
  · exact h
  · split
    · exact h
    · split
      · exact h
      · rename_i h3; simp only [List.length_append]; omega
theorem runPuts_len (l : List PutD) : ∀ {s : Kvs × List UInt8}, s.2.length ≤ 30000 → (runPuts l s).2.length ≤ 30000 := by
  induction l with
  | nil => exact fun h => h
  | cons q r ih => exact fun h => ih (putSt_len q h)

theorem PutPost.below {w w' : World} {M : Nat → Prop} {B p r d safe : Nat} {v : Value} {R : Kvs × List UInt8 × Int} {e : Ending} {kvs : Kvs} {bs : List UInt8} (hSt : StoreIn w M B p r d v kvs bs safe) (hB : B ≤ w.heap.size) (h : PutPost w M B p r d safe v R e w') :
    ∃ v', e = .returned (.int .i64 R.2.2) ∧ StoreIn w' M B p r d v' R.1 R.2.1 safe ∧ Below B w w' := by
  obtain ⟨v', h1, h2, h3⟩ := h
  exact ⟨v', h1, h2, h3.below hSt.fset_ge hB⟩

theorem sl_store {α : Type} [Rep α] {w : World} {M : Nat → Prop} {p r d : Nat} {v : Value} {A : Option Addr} {n c : Nat} {xs : List α} (h : Sl w M A n c xs) (hF : ∀ k, Fset p r d v k → w.heap.size ≤ k) : Sl w (Mset M p r d v) A n c xs :=
  h.mono fun k hk hh => hh.elim id fun h2 => by have := hF k h2; omega

set_option maxRecDepth 100000 in
set_option maxHeartbeats 1000000 in
theorem stored_calls (A : Option Addr) (n c : Nat) (l : List PutD) (w : World) (M : Nat → Prop) (hM : ∀ k, M k → k < w.heap.size) (hl : Sl w M A n c l) (hS : SignsAt w) :
    Calls Tryz.prog 11 #[.slice A n c] w fun e w' => ∃ p r d v, e = .returned (.pointer (some ⟨p, 0, none⟩)) ∧ StoreIn w' M w.heap.size p r d v (runPuts l ([], [])).1 (runPuts l ([], [])).2 0 ∧ Below w.heap.size w w' := by
  have hle := hl.le
  have hlen := Lib.hid hl.len
  have hnew := Lib.hid (storeNew_calls M w)
  go_enter Tryz.func11, Tryz.ntmps11
  go_wp2_with (go_at_call 23; refine hnew.out.mono ?_; rintro e w1 ⟨rfl, hb1, hS1⟩)
  go_loopw [9] (fun i wr => ∃ (k : Nat) (v : Value), k ≤ n ∧ i = .int .i64 k ∧ Hid (StoreIn wr M w.heap.size (w.heap.size + 2) w.heap.size (w.heap.size + 1) v (runPuts (l.take k) ([], [])).1 (runPuts (l.take k) ([], [])).2 0) ∧ Below w.heap.size w wr) (fun i _ => n - (intOf i).toNat)
  case atStart => exact ⟨0, _, Nat.zero_le _, rfl, hS1, hb1⟩
  case round =>
    clear hS1 hb1 hnew
    obtain ⟨k, v, hk, rfl, hSt, hbl⟩ := hrel
    by_cases hlt : k < n
    · obtain ⟨b, off, q, A1, c1, rfl, hq0, g0, g1, g2, hsl, hT, hV⟩ := hl.put hlt
      have g0 := (bcell hbl b _ (World.block_lt_of_cell? w _ g0)).trans g0
      have g1 := (bcell hbl b _ (World.block_lt_of_cell? w _ g1)).trans g1
      have g2 := (bcell hbl b _ (World.block_lt_of_cell? w _ g2)).trans g2
      have hq := Lib.hid hq0
      clear hq0
      have hbs : (runPuts (l.take k) ([], [])).2.length ≤ 30000 := runPuts_len _ (by simp)
      have hput : Calls Tryz.prog 14 #[.pointer (some ⟨w.heap.size + 2, 0, none⟩), .slice A1 q.L.length c1, .agg #[.int .i64 q.X.T, .int .i64 q.X.V]] (wr.alloc (.cells #[.slice A1 q.L.length c1, .int .i64 q.X.T, .int .i64 q.X.V] 29)) fun e w' =>
          (∃ z, e = .returned (.int .i64 z)) ∧ Hid (Below w.heap.size w w' ∧ ∃ v', StoreIn w' M w.heap.size (w.heap.size + 2) w.heap.size (w.heap.size + 1) v' (runPuts (l.take (k + 1)) ([], [])).1 (runPuts (l.take (k + 1)) ([], [])).2 0) := by
        have hbn := hbl.new (.cells #[.slice A1 q.L.length c1, .int .i64 q.X.T, .int .i64 q.X.V] 29)
        have hSn := hSt.out.below ((Below.refl _ _).new (.cells #[.slice A1 q.L.length c1, .int .i64 q.X.T, .int .i64 q.X.V] 29))
        refine (put_st_calls A1 _ c1 w.heap.size _ _ _ 0 v _ _ q _ M (fun z hz => Nat.lt_of_lt_of_le (hM z hz) hbn.size) ((sl_store hsl hSt.out.fset_ge).below hbn) hT hV hSn hbs hbn.size (hS.below hbn)).mono ?_
        intro e w' h
        obtain ⟨v', h1, h2, h3⟩ := h.below hSn hbn.size
        exact ⟨⟨_, h1⟩, hbn.trans h3, v', by rw [runPuts_snoc hq.out]; exact h2⟩
      have hput := Lib.hid hput
      go_wp2_with (go_at_call 14; refine hput.out.mono ?_; rintro e w2 ⟨⟨z, rfl⟩, hF⟩)
      go_roundw
      case rel =>
        obtain ⟨hb2, v', hS2⟩ := hF.out
        exact ⟨k + 1, v', by omega, by go_num, hS2, hb2⟩
      case measure => simp [intOf]; omega
    · have hS' := hSt.out
      rw [List.take_of_length_le (by rw [hlen.out]; omega)] at hS'
      have hS' := Lib.hid hS'
      go_wp2
      go_ret
      exact ⟨_, _, _, v, rfl, hS'.out, hbl⟩

/-- An empty put at the time 0. -/
def zeroPut : PutD := ⟨[], ⟨0, 0⟩⟩
theorem inv_run {l : List PutD} (hl : l.length ≤ 24) (hX : ∀ q ∈ l, i64ok q.X.T ∧ i64ok q.X.V) : Inv (l.filter fun q => putE q == 0) (runPuts l ([], [])).1 ∧ (runPuts l ([], [])).2 = framesL sum8 ((l.filter fun q => putE q == 0).map encB) := by
  have key : ∀ k, k ≤ l.length → Inv ((l.take k).filter fun q => putE q == 0) (runPuts (l.take k) ([], [])).1 ∧ (runPuts (l.take k) ([], [])).2 = framesL sum8 (((l.take k).filter fun q => putE q == 0).map encB) ∧ (runPuts (l.take k) ([], [])).2.length ≤ k * 1218 := by
    intro k
    induction k with
    | zero => exact fun _ => ⟨Inv.start, rfl, by simp [runPuts]⟩
    | succ k ih =>
      intro hk
      obtain ⟨h1, h2, h3⟩ := ih (by omega)
      have hq : l[k]? = some l[k] := List.getElem?_eq_getElem (by omega)
      obtain ⟨q, hqe⟩ : ∃ q, l[k] = q := ⟨_, rfl⟩
      rw [hqe] at hq
      have hqm : q ∈ l := List.mem_of_getElem? hq
      rw [runPuts_snoc hq, List.take_add_one, hq, Option.toList_some, List.filter_append]
      obtain ⟨s, hs⟩ : ∃ s, runPuts (l.take k) ([], []) = s := ⟨_, rfl⟩
      rw [hs] at h1 h2 h3 ⊢
      obtain ⟨kvs, bs⟩ := s
      simp only at h1 h2 h3
      unfold putOne putSt
      simp only
      by_cases he : putE q = 0
      · have hfl : ([q].filter fun q => putE q == 0) = [q] := by simp [he]
        have hlen : ((l.take k).filter fun q => putE q == 0).length ≤ 100 := by
          have := List.length_filter_le (fun q => putE q == 0) (l.take k)
          rw [List.length_take] at this; omega
        obtain ⟨s, hm, hi⟩ := h1.put hlen q he
        have hel := encB_len he (hX q hqm).1 (hX q hqm).2
        have hfr := frameB_len (bs := encB q) (by omega)
        rw [if_neg (fun h => h he), hm, if_neg (fun h => h rfl), if_neg (by omega), hfl]
        refine ⟨hi, ?_, by simp only [List.length_append]; omega⟩
        rw [h2, List.map_append, framesL_append]
        simp [framesL]
      · have hfl : ([q].filter fun q => putE q == 0) = [] := by simp [he]
        rw [if_pos he, hfl, List.append_nil]
        exact ⟨h1, h2, Nat.le_trans h3 (Nat.mul_le_mul_right _ (Nat.le_succ k))⟩
  have := key l.length (Nat.le_refl _)
  rw [List.take_length] at this
  exact ⟨this.1, this.2.1⟩
theorem Inv.short {ps : List PutD} {kvs : Kvs} (h : Inv ps kvs) (hn : ps.length ≤ 100) : Short kvs := by
  refine ⟨by have := h.few; omega, fun kv hkv => ?_⟩
  obtain ⟨k, s⟩ := kv
  have hg := mget_of_mem h.nodup hkv
  obtain ⟨a1, _, _, a4, _⟩ := h.some_ k s hg
  have := labCheck_len a1
  exact ⟨by simp only; omega, by simp only; omega⟩
/-- Maps that answer alike have the same series. -/
theorem allL_same {kvs kvs' : Kvs} (hn : (kvs.map (·.1)).Nodup) (hn' : (kvs'.map (·.1)).Nodup) (h : ∀ k, mget kvs k = mget kvs' k) : allL kvs = allL kvs' := by
  have hmem : ∀ k, k ∈ kvs.map (·.1) ↔ k ∈ kvs'.map (·.1) := fun k => by
    have a := mget_none (l := kvs) (k := k)
    have b := mget_none (l := kvs') (k := k)
    rw [h k] at a
    exact ⟨fun hp => Classical.byContradiction fun hq => (a.symm.trans b).2 hq hp, fun hq => Classical.byContradiction fun hp => (a.symm.trans b).1 hp hq⟩
  have hp : (kvs.map (·.1)).Perm (kvs'.map (·.1)) := (List.perm_ext_iff_of_nodup hn hn').2 hmem
  have hk : keysL kvs = keysL kvs' := by
    unfold keysL
    have e : ∀ l : Kvs, (l.map fun kv => kv.1.data.toList) = (l.map (·.1)).map fun s => s.data.toList := fun l => by rw [List.map_map]; rfl
    rw [e, e, mergeSort_of_perm (hp.map _)]
  unfold allL
  rw [hk]
  refine List.map_congr_left fun k _ => ?_
  unfold serAt
  rw [h k]
end Go.Proofs.YtfciagcmggdldaaGreatDoor
