/-
  (*store.Store).Put.
-/
import Derived.Test.YtfciagcmggdldaaGreatDoorMore
import Derived.Deep.RegionHeld3
namespace Go.Proofs.YtfciagcmggdldaaGreatDoor
open Go.RowKit

def putSt (kvs : Kvs) (bs : List UInt8) (q : PutD) : Kvs × List UInt8 × Int :=
  if putE q ≠ 0 then (kvs, bs, putE q)
  else if (moreL kvs q).2 ≠ 0 then (kvs, bs, (moreL kvs q).2)
  else if 30000 < bs.length + (frameB (encB q)).length then (kvs, bs, 9)
  else (mset kvs (putKey q) (moreL kvs q).1, bs ++ frameB (encB q), 0)

/-- The blocks of a store that change. -/
def Fset (p r d : Nat) (v : Value) : Nat → Prop := fun k => k = p ∨ k = r ∨ Dset d v k

theorem labText_small {l : List Lab} (h : labCheck l = 0) : (labText l).size ≤ 1100 := by
  obtain ⟨h10, hall⟩ := matCheck_ok (labMat_ok h)
  rw [List.length_map] at h10
  unfold labText
  rw [strOf_size]
  unfold textL
  have := joinL_len (l := (l.map fun x => (labMat x).l).map matTextL) (N := 104) (fun y hy => by
    obtain ⟨z, hz, rfl⟩ := List.mem_map.1 hy
    obtain ⟨a, ha, rfl⟩ := List.mem_map.1 hz
    obtain ⟨_, _, h3, h4⟩ := hall (labMat a) (List.mem_map.2 ⟨a, ha, rfl⟩)
    exact matStr_size (nameOk_size h3) h4)
  simp only [List.length_map] at this
  simp only [List.length_cons, List.length_append, List.length_nil]
  omega
theorem encB_len {q : PutD} (h : putE q = 0) (hT : i64ok q.X.T) (hV : i64ok q.X.V) : (encB q).length ≤ 1200 := by
  have h1 := labText_small (putE_ok h).1
  have h2 := putU_len (zigN q.X.T) 10 (by have := zigN_lt hT; omega) (by omega)
  have h3 := putU_len (zigN q.X.V) 10 (by have := zigN_lt hV; omega) (by omega)
  have h4 : (labText q.L).data.toList.length = (labText q.L).size := Array.length_toList
  unfold encB
  simp only [List.length_append]
  omega

section
variable {w w' : World} {M : Nat → Prop} {B p r d safe safe' : Nat} {v v' : Value} {kvs kvs' : Kvs} {bs bs' : List UInt8}
theorem StoreIn.fset_lt (h : StoreIn w M B p r d v kvs bs safe) : ∀ k, Fset p r d v k → k < w.heap.size := by
  rintro k (hk | hk | hk)
  · rw [hk]; exact h.ltp
  · rw [hk]; exact h.ltr
  · exact h.disk.set_lt k hk
theorem StoreIn.fset_ge (h : StoreIn w M B p r d v kvs bs safe) : ∀ k, Fset p r d v k → B ≤ k := by
  rintro k (hk | hk | hk)
  · rw [hk]; exact h.hp
  · rw [hk]; exact h.hr
  · exact h.disk.set_ge k hk
/-- The disk has been written. -/
theorem StoreIn.disk_to (h : StoreIn w M B p r d v kvs bs safe) (hD : DiskIn w' B d v' bs' safe') (hw : Went (Dset d v) w w' (Dset d v')) : StoreIn w' M B p r d v' kvs bs' safe' where
  x := (hw.keep p h.ltp h.vp).1.trans h.x
  disk := hD
  hp := h.hp
  hr := h.hr
  map := (h.map.of_block (hw.keep r h.ltr h.vr).1).mono fun _ _ _ hs => hs.keep fun k hk hn => ⟨(hw.keep k hk (fun hd => hn (.inr (.inr (.inr hd))))).1, fun hh => by
    rcases hh with hh | hh | hh | hh
    · exact hn (.inl hh)
    · exact hn (.inr (.inl hh))
    · exact hn (.inr (.inr (.inl hh)))
    · exact (hw.keep k hk (fun hd => hn (.inr (.inr (.inr hd))))).2 hh⟩
  okk := h.okk
  vp := (hw.keep p h.ltp h.vp).2
  vr := (hw.keep r h.ltr h.vr).2
/-- The map has been written. -/
theorem StoreIn.map_to (h : StoreIn w M B p r d v kvs bs safe) (hm : MapAt w' Value.string (serR w (Mset M p r d v)) r kvs') (hg : w.grownBy w' (some r)) (hok : ∀ kv ∈ kvs', kv.1.size ≤ maxLen) : StoreIn w' M B p r d v kvs' bs safe := by
  have hw : Went (fun k => k = r) w w' (fun k => k = r) := Went.of_grown hg _ (fun k hk => by injection hk with hk; exact hk.symm)
  refine ⟨(hw.keep p h.ltp h.ne).1.trans h.x, h.disk.keep hw (fun k hk e => h.vr (e ▸ hk)), h.hp, h.hr, hm.mono fun _ _ _ hs => hs.keep fun k hk hn => ⟨(hw.keep k hk (fun e => hn (.inr (.inr (.inl e))))).1, hn⟩, hok, h.vp, h.vr⟩
end

theorem keepM {w w' : World} {d : Nat} {v v' : Value} (hw : Went (Dset d v) w w' (Dset d v')) (M : Nat → Prop) (p r : Nat) : Keep (Mset M p r d v) w w' (Mset M p r d v') := fun k hk hn => ⟨(hw.keep k hk (fun hd => hn (.inr (.inr (.inr hd))))).1, fun hh => by
    rcases hh with hh | hh | hh | hh
    · exact hn (.inl hh)
    · exact hn (.inr (.inl hh))
    · exact hn (.inr (.inr (.inl hh)))
    · exact (hw.keep k hk (fun hd => hn (.inr (.inr (.inr hd))))).2 hh⟩

theorem step_mapUpdate {K V : Type} [DecidableEq K] {enc : K → Value} {R : Value → V → Prop} {r : Nat} {kvs : List (K × V)} {w : World} {P : Program} {ops : Array Oper} {o : Oper} {a : Act} {K' : Act → World → Prop} {Q : Exit → Act → World → Prop} {E' : Prop}
    (hgd : o.guard = none) (m x v : Operand) (t : TypeId) (hop : o.op = Op.mapUpdate t m x v) {kt et : TypeId} (ht : P.underlying t = some (.map kt et)) {ok : K → Prop} (O : KeyOk P kt enc ok) (hok : ∀ kv ∈ kvs, ok kv.1) (h : MapAt w enc R r kvs)
    (hm : a.eval m = .map (some r)) (k : K) (hkk : ok k) (hx : a.eval x = enc k) (val : Value) (hv : a.eval v = val) (y : V) (hR : R val y)
    (hK : ∀ w', MapAt w' enc R r (mset kvs k y) → w.grownBy w' (some r) → K' (a.put o.dst undef) w') :
    if Region.wanted o (yielded ops a.tmps) = true then Oper.wp P o a w K' Q else E' := by
  have hw : Region.wanted o (yielded ops a.tmps) = true := by simp [Region.wanted, hgd]
  rw [if_pos hw]
  obtain ⟨w', hrun, r1, r2⟩ := run_mapUpdate_map ht O hok h k hkk val y hR
  unfold Oper.wp
  simp [execOp, hop, hm, hx, hv, hrun, Result.andThen]
  exact hK w' r1 r2

theorem mset_ok {kvs : Kvs} {k : ByteArray} {s : Ser} {N : Nat} (h : ∀ kv ∈ kvs, kv.1.size ≤ N) (hk : k.size ≤ N) : ∀ kv ∈ mset kvs k s, kv.1.size ≤ N := by
  intro kv hkv
  have h1 : kv.1 ∈ (mset kvs k s).map (·.1) := List.mem_map.2 ⟨kv, hkv, rfl⟩
  rw [mset_keys] at h1
  split at h1
  · obtain ⟨x, hx, e⟩ := List.mem_map.1 h1
    rw [← e]; exact h x hx
  · rcases List.mem_append.1 h1 with h1 | h1
    · obtain ⟨x, hx, e⟩ := List.mem_map.1 h1
      rw [← e]; exact h x hx
    · rw [List.mem_singleton.1 h1]; exact hk

/-- What a put answers, and what it leaves. -/
def PutPost (w : World) (M : Nat → Prop) (B p r d safe : Nat) (v : Value) (R : Kvs × List UInt8 × Int) (e : Ending) (w' : World) : Prop :=
  ∃ v', e = .returned (.int .i64 R.2.2) ∧ StoreIn w' M B p r d v' R.1 R.2.1 safe ∧ Went (Fset p r d v) w w' (Fset p r d v')

set_option maxRecDepth 100000 in
set_option maxHeartbeats 2000000 in
theorem put_st_calls (A : Option Addr) (n c B p r d safe : Nat) (v : Value) (kvs : Kvs) (bs : List UInt8) (q : PutD) (w : World) (M : Nat → Prop) (hM : ∀ k, M k → k < w.heap.size) (hl : Sl w (Mset M p r d v) A n c q.L) (hT : i64ok q.X.T) (hV : i64ok q.X.V)
    (hSt : StoreIn w M B p r d v kvs bs safe) (hbs : bs.length ≤ 30000) (hB : B ≤ w.heap.size) (hS : SignsAt w) :
    Calls Tryz.prog 14 #[.pointer (some ⟨p, 0, none⟩), .slice A n c, .agg #[.int .i64 q.X.T, .int .i64 q.X.V]] w (PutPost w M B p r d safe v (putSt kvs bs q)) := by
  have hB1 := (Below.refl w.heap.size w).new (.cells #[.int .i64 q.X.T, .int .i64 q.X.V] 27)
  have hMs := hSt.set_lt hM
  have hMs1 : ∀ k, Mset M p r d v k → k < (w.alloc (.cells #[.int .i64 q.X.T, .int .i64 q.X.V] 27)).heap.size := fun k hk => by have := hMs k hk; simp; omega
  have henc := encode_calls A n c q _ (Mset M p r d v) hMs1 (hl.below hB1) hT hV (hS.below hB1)
  obtain ⟨R, hR⟩ : ∃ R, Hid (putSt kvs bs q = R) := ⟨_, rfl⟩
  rw [hR.out]
  obtain ⟨pe, hpe⟩ : ∃ pe, Hid (putE q = pe) := ⟨_, rfl⟩
  rw [hpe.out] at henc
  by_cases he0 : pe = 0
  · have hpe0 := hpe.out.trans he0
    have hok := (putE_ok hpe0).1
    rw [if_pos he0] at henc
    obtain ⟨t, ht⟩ : ∃ t, Hid (t = putKey q) := ⟨_, rfl⟩
    have hts : t.size ≤ 1100 := by rw [ht.out]; exact labText_small hok
    have hnl : n ≤ 10 := by have := labCheck_len hok; rw [hl.len] at this; exact this
    obtain ⟨mr, hmr⟩ : ∃ mr, Hid (moreL kvs q = mr) := ⟨_, rfl⟩
    obtain ⟨eb, heb⟩ : ∃ eb, Hid (encB q = eb) := ⟨_, rfl⟩
    have hebl : eb.length ≤ 1200 := by rw [← heb.out]; exact encB_len hpe0 hT hV
    rw [heb.out] at henc
    have hR2 : Hid (R = if mr.2 ≠ 0 then (kvs, bs, mr.2) else if 30000 < bs.length + (frameB eb).length then (kvs, bs, 9) else (mset kvs t mr.1, bs ++ frameB eb, 0)) := by
      unfold Hid; rw [← hR.out, putSt, hpe0, if_neg (by simp), hmr.out, heb.out, ht.out]
    have hsee : ∀ W, Below (w.alloc (.cells #[.int .i64 q.X.T, .int .i64 q.X.V] 27)).heap.size (w.alloc (.cells #[.int .i64 q.X.T, .int .i64 q.X.V] 27)) W → Hid (W.cell? ⟨w.heap.size, 0, none⟩ = some (.int .i64 q.X.T) ∧ W.cell? ⟨w.heap.size, 1, none⟩ = some (.int .i64 q.X.V) ∧ w.heap.size < W.heap.size) := fun W hb =>
      ⟨(bcell hb w.heap.size 0 (by simp)).trans (by simp), (bcell hb w.heap.size 1 (by simp)).trans (by simp), by have := hb.size; simp at this; omega⟩
    have hsee := Lib.hid hsee
    have htx : ∀ W, Below w.heap.size w W → Calls Tryz.prog 33 #[.slice A n c] W fun e w' => e = .returned (.tuple #[.string t, .int .i64 0]) ∧ Below W.heap.size W w' := fun W hb => by
      have := Text_calls A n c q.L W (Mset M p r d v) (fun k hk => Nat.lt_of_lt_of_le (hMs k hk) hb.size) (hl.below hb) (hS.below hb)
      rw [hok] at this
      rw [ht.out]
      exact this
    have htx := Lib.hid htx
    have hmore : ∀ W, Below w.heap.size w W → Calls Tryz.prog 34 #[.pointer (some ⟨p, 0, none⟩), .string t, .slice A n c, .agg #[.int .i64 q.X.T, .int .i64 q.X.V]] W fun e w' =>
        ∃ a1 k1 a2 k2, e = .returned (.tuple #[.agg #[.slice a1 mr.1.L.length k1, .slice a2 mr.1.S.length k2], .int .i64 mr.2]) ∧ Sl w' (Mset M p r d v) a1 mr.1.L.length k1 mr.1.L ∧ Sl w' (Mset M p r d v) a2 mr.1.S.length k2 mr.1.S ∧ Below W.heap.size W w' := fun W hb => by
      refine (more_calls A n c B p r d safe v kvs bs q t ht.out (by unfold maxLen; omega) W M (fun k hk => Nat.lt_of_lt_of_le (hM k hk) hb.size) (hl.below hb) (by omega) hT hV (hSt.below hb)).mono ?_
      rw [hmr.out]
      rintro e w' ⟨⟨val, rfl, a1, k1, a2, k2, rfl, h1, h2⟩, hb'⟩
      exact ⟨a1, k1, a2, k2, rfl, h1, h2, hb'⟩
    have hmore := Lib.hid hmore
    have hpb : (pe != 0) = false := by simp [he0]
    have henc := Lib.hid henc
    clear he0
    have hmb := Lib.hid (rfl : mr = mr)
    obtain ⟨⟨mL, mS⟩, me⟩ := mr
    simp only at hmore hR2
    by_cases hme : me = 0
    · subst hme
      rw [if_neg (by simp)] at hR2
      by_cases hfull : 30000 < bs.length + (frameB eb).length
      · rw [if_pos hfull] at hR2
        have happ : ∀ (W : World) (A2 : Option Addr) (c2 : Nat), Below w.heap.size w W → Sl W (Mset M p r d v) A2 eb.length c2 eb → Calls Tryz.prog 35 #[.pointer (some ⟨d, 0, none⟩), .slice A2 eb.length c2] W fun e w' => e = .returned (.int .i64 9) ∧ Below W.heap.size W w' := fun W A2 c2 hb hs => by
          refine (append_calls A2 eb.length c2 B d safe v bs eb W (Mset M p r d v) (fun k hk => Nat.lt_of_lt_of_le (hMs k hk) hb.size) hs (by omega) (hSt.below hb).disk hbs (Nat.le_trans hB hb.size)).mono ?_
          rintro e w' (⟨_, rfl, hb'⟩ | ⟨hno, _⟩)
          · exact ⟨rfl, hb'⟩
          · exact absurd hfull hno
        have happ := Lib.hid happ
        have hfin : ∀ W, Below w.heap.size w W → Hid (PutPost w M B p r d safe v R (.returned (.int .i64 9)) W) := fun W hb => by
          unfold Hid PutPost
          rw [hR2]
          exact ⟨v, rfl, hSt.below hb, Went.of_below hb _⟩
        have hfin := Lib.hid hfin
        clear hR2 hfull
        go_enter Tryz.func14, Tryz.ntmps14
        go_wp2_with (first
          | (go_at_call 20; refine henc.out.mono ?_; rintro e w2 ⟨⟨v2, rfl, ho2⟩, hb2⟩; have B2 := hB1.call hb2; obtain ⟨A2, c2, rfl, hs2⟩ := ho2.sl hMs1)
          | (go_at_call 33; refine (htx.out _ B2).mono ?_; rintro e w3 ⟨rfl, hb3⟩; have B3 := B2.call hb3; obtain ⟨x1, x2, x3⟩ := (hsee.out w3 (hb2.trans (hb3.mono hb2.size))).out)
          | (go_at_call 34; refine (hmore.out _ B3).mono ?_; rintro e w4 ⟨a1, k1, a2, k2, rfl, g1, g2, hb4⟩; have B4 := B3.call hb4; have B5 := B4.new (.cells #[.slice a1 mL.length k1, .slice a2 mS.length k2] 42); have hs5 := Lib.hid (((hs2.below hb3).below hb4).below ((Below.refl _ _).new (.cells #[.slice a1 mL.length k1, .slice a2 mS.length k2] 42))); obtain ⟨p0, p1, _⟩ := (hSt.below B5).cells)
          | (go_at_call 35; refine (happ.out _ _ _ B5 hs5.out).mono ?_; rintro e w6 ⟨rfl, hb6⟩))
        go_ret
        exact (hfin.out _ (B5.call hb6)).out
      · rw [if_neg hfull] at hR2
        have happ : ∀ (W : World) (A2 : Option Addr) (c2 : Nat), Below w.heap.size w W → Sl W (Mset M p r d v) A2 eb.length c2 eb → Calls Tryz.prog 35 #[.pointer (some ⟨d, 0, none⟩), .slice A2 eb.length c2] W fun e w' => e = .returned (.int .i64 0) ∧ ∃ v', DiskIn w' B d v' (bs ++ frameB eb) safe ∧ Went (Dset d v) W w' (Dset d v') := fun W A2 c2 hb hs => by
          refine (append_calls A2 eb.length c2 B d safe v bs eb W (Mset M p r d v) (fun k hk => Nat.lt_of_lt_of_le (hMs k hk) hb.size) hs (by omega) (hSt.below hb).disk hbs (Nat.le_trans hB hb.size)).mono ?_
          rintro e w' (⟨hyes, _⟩ | ⟨_, rfl, h⟩)
          · exact absurd hyes hfull
          · exact ⟨rfl, h⟩
        have happ := Lib.hid happ
        have hR2 := Lib.hid hR2
        obtain ⟨bs2, hbs2⟩ : ∃ b, Hid (bs ++ frameB eb = b) := ⟨_, rfl⟩
        rw [hbs2.out] at happ hR2
        clear hfull
        go_enter Tryz.func14, Tryz.ntmps14
        go_wp2_with (first
          | (go_at_call 20; refine henc.out.mono ?_; rintro e w2 ⟨⟨v2, rfl, ho2⟩, hb2⟩; have B2 := hB1.call hb2; obtain ⟨A2, c2, rfl, hs2⟩ := ho2.sl hMs1)
          | (go_at_call 33; refine (htx.out _ B2).mono ?_; rintro e w3 ⟨rfl, hb3⟩; have B3 := B2.call hb3; obtain ⟨x1, x2, x3⟩ := (hsee.out w3 (hb2.trans (hb3.mono hb2.size))).out)
          | (go_at_call 34; refine (hmore.out _ B3).mono ?_; rintro e w4 ⟨a1, k1, a2, k2, rfl, g1, g2, hb4⟩; have B4 := B3.call hb4; have B5 := B4.new (.cells #[.slice a1 mL.length k1, .slice a2 mS.length k2] 42); have hs5 := Lib.hid (((hs2.below hb3).below hb4).below ((Below.refl _ _).new (.cells #[.slice a1 mL.length k1, .slice a2 mS.length k2] 42))); obtain ⟨p0, p1, _⟩ := (hSt.below B5).cells)
          | (go_at_call 35; refine (happ.out _ _ _ B5 hs5.out).mono ?_; rintro e w6 ⟨rfl, v6, hD6, hW6⟩))
        have hS5 := hSt.below B5
        have hM5 : ∀ k, M k → k < (w4.alloc (.cells #[.slice a1 mL.length k1, .slice a2 mS.length k2] 42)).heap.size := fun k hk => Nat.lt_of_lt_of_le (hM k hk) B5.size
        have hS6 := hS5.disk_to hD6 hW6
        have hsz4 : w.heap.size < w4.heap.size := by have := hb4.size; omega
        have hy6 : w6.heap[w4.heap.size]? = some (.cells #[.slice a1 mL.length k1, .slice a2 mS.length k2] 42 (0, 0)) := by
          rw [(hW6.keep w4.heap.size (by simp) (fun hd => by have := hSt.disk.set_lt _ hd; omega)).1]
          have := heap_alloc_new w4 (.cells #[.slice a1 mL.length k1, .slice a2 mS.length k2] 42 (0, 0))
          simpa using this
        obtain ⟨q0, q1, _⟩ := hS6.cells
        have q2 : w6.cell? ⟨w4.heap.size, 0, none⟩ = some (.slice a1 mL.length k1) := by simp [World.cell?, hy6]
        have q3 : w6.cell? ⟨w4.heap.size, 1, none⟩ = some (.slice a2 mS.length k2) := by simp [World.cell?, hy6]
        have j1 := ((g1.below ((Below.refl _ _).new (.cells #[.slice a1 mL.length k1, .slice a2 mS.length k2] 42))).keep (keepM hW6 M p r)).below (w' := w6.drew) ((Below.refl _ _).draws 1)
        have j2 := ((g2.below ((Below.refl _ _).new (.cells #[.slice a1 mL.length k1, .slice a2 mS.length k2] 42))).keep (keepM hW6 M p r)).below (w' := w6.drew) ((Below.refl _ _).draws 1)
        have hS6d : StoreIn w6.drew M B p r d v6 kvs bs2 safe := hS6.below ((Below.refl _ _).draws 1)
        have hrp : p ≠ r := hS6.ne
        have hry : w4.heap.size ≠ r := by have := hSt.ltr; omega
        have hpl := hS6.ltp
        have hyl : w4.heap.size < w6.heap.size := by have := hW6.size; simp at this; omega
        have hWt : Went (Fset p r d v) w w6.drew (Fset p r d v6) := by
          have e1 : Went (Fset p r d v) w (w4.alloc (.cells #[.slice a1 mL.length k1, .slice a2 mS.length k2] 42)) (Fset p r d v) := Went.of_below B5 _
          have e2 : Went (Fset p r d v) (w4.alloc (.cells #[.slice a1 mL.length k1, .slice a2 mS.length k2] 42)) w6 (Fset p r d v6) := by
            refine hW6.mono (fun k hk => .inr (.inr hk)) (fun k hk hn => ?_)
            rintro (hh | hh | hh)
            · exact hn (.inl hh)
            · exact hn (.inr (.inl hh))
            · exact (hW6.keep k hk (fun hd => hn (.inr (.inr hd)))).2 hh
          exact (e1.trans e2).trans (Went.of_below ((Below.refl _ _).draws 1) _)
        have hfin : ∀ w7, MapAt w7 Value.string (serR w6.drew (Mset M p r d v6)) r (mset kvs t ⟨mL, mS⟩) → w6.drew.grownBy w7 (some r) → Hid (PutPost w M B p r d safe v R (.returned (.int .i64 0)) w7 ∧ w7.cell? ⟨p, 0, none⟩ = some (.map (some r)) ∧ w7.cell? ⟨w4.heap.size, 0, none⟩ = some (.slice a1 mL.length k1) ∧ w7.cell? ⟨w4.heap.size, 1, none⟩ = some (.slice a2 mS.length k2)) := by
          intro w7 hm7 hg7
          have hS7 := hS6d.map_to hm7 hg7 (mset_ok hS6.okk (by unfold maxLen; omega))
          have hy7 : w7.heap[w4.heap.size]? = w6.heap[w4.heap.size]? := hg7.block w4.heap.size hyl (fun e => by injection e with e; exact hry e)
          refine ⟨⟨v6, by rw [hR2.out], by rw [hR2.out]; exact hS7, hWt.trans (Went.of_grown hg7 _ (fun k hk => by injection hk with hk; exact .inr (.inl hk.symm)))⟩, hS7.cells.1, ?_, ?_⟩
          · exact (World.cell?_of_block (a := ⟨w4.heap.size, 0, none⟩) hy7).trans q2
          · exact (World.cell?_of_block (a := ⟨w4.heap.size, 1, none⟩) hy7).trans q3
        obtain ⟨w7, hrun, hm7, hg7⟩ := run_mapUpdate_map (K := ByteArray) Tryz.underlying67 (strKey Tryz.underlying9) hS6d.okk hS6d.map t (by unfold maxLen; omega) (.agg #[.slice a1 mL.length k1, .slice a2 mS.length k2]) (⟨mL, mS⟩ : Ser) ⟨a1, k1, a2, k2, rfl, j1, j2⟩
        have hF7 := hfin w7 hm7 hg7
        obtain ⟨x4, x5, x6⟩ := hF7.out.2
        clear hWt hS6 hS5 hM5 hy6 hW6 hD6 hsz4 hrp hry hpl hyl p0 p1 hfin hS6d hm7 hg7
        go_region_held3 (fun u => u.cell? ⟨p, 0, none⟩ = some (.map (some r)) ∧ u.cell? ⟨w4.heap.size, 0, none⟩ = some (.slice a1 mL.length k1) ∧ u.cell? ⟨w4.heap.size, 1, none⟩ = some (.slice a2 mS.length k2)) (first | exact ⟨x4, x5, x6⟩ | go_keep) (first | fail)
        all_goals
          clear x4 x5 x6 hrun
          go_wp2
          go_ret
          exact hF7.out.1
    · have hR3 : Hid (R = (kvs, bs, me)) := by unfold Hid; rw [hR2.out, if_pos (by simpa using hme)]
      have hmb2 : (me == 0) = false := by simp [hme]
      have hfin : ∀ W, Below w.heap.size w W → Hid (PutPost w M B p r d safe v R (.returned (.int .i64 me)) W) := fun W hb => by
        unfold Hid PutPost
        rw [hR3.out]
        exact ⟨v, rfl, hSt.below hb, Went.of_below hb _⟩
      have hfin := Lib.hid hfin
      clear hme hR2 hMs hMs1
      go_enter Tryz.func14, Tryz.ntmps14
      go_wp2_with (first
        | (go_at_call 20; refine henc.out.mono ?_; rintro e w2 ⟨⟨v2, rfl, ho2⟩, hb2⟩; have B2 := hB1.call hb2)
        | (go_at_call 33; refine (htx.out _ B2).mono ?_; rintro e w3 ⟨rfl, hb3⟩; have B3 := B2.call hb3; obtain ⟨x1, x2, x3⟩ := (hsee.out w3 (hb2.trans (hb3.mono hb2.size))).out)
        | (go_at_call 34; refine (hmore.out _ B3).mono ?_; rintro e w4 ⟨a1, k1, a2, k2, rfl, g1, g2, hb4⟩; have B4 := B3.call hb4))
      go_ret
      exact (hfin.out _ (B4.new _)).out
  · have hR2 : Hid (R = (kvs, bs, pe)) := by unfold Hid; rw [← hR.out, putSt, hpe.out, if_pos he0]
    have hpb : (pe != 0) = true := by simp [he0]
    have henc := Lib.hid henc
    have hfin : ∀ w2, Below (w.alloc (.cells #[.int .i64 q.X.T, .int .i64 q.X.V] 27)).heap.size (w.alloc (.cells #[.int .i64 q.X.T, .int .i64 q.X.V] 27)) w2 → Hid (PutPost w M B p r d safe v R (.returned (.int .i64 pe)) w2) := fun w2 hb => by
      unfold Hid PutPost
      rw [hR2.out]
      exact ⟨v, rfl, hSt.below (hB1.call hb), Went.of_below (hB1.call hb) _⟩
    have hfin := Lib.hid hfin
    clear he0
    go_enter Tryz.func14, Tryz.ntmps14
    go_wp2_with (first | (go_at_call 20; refine henc.out.mono ?_; rintro e w2 ⟨⟨v2, rfl, ho2⟩, hb2⟩))
    go_ret
    exact (hfin.out _ hb2).out
end Go.Proofs.YtfciagcmggdldaaGreatDoor
