/-
  (*store.Store).more.
-/
import Derived.Test.YtfciagcmggdldaaGreatDoorEncode
namespace Go.Proofs.YtfciagcmggdldaaGreatDoor
open Go.RowKit

/-- What a store may change, and M. -/
def Mset (M : Nat → Prop) (p r d : Nat) (v : Value) : Nat → Prop := fun k => M k ∨ k = p ∨ k = r ∨ Dset d v k

section
variable {w w' : World} {M : Nat → Prop} {B p r d safe : Nat} {v : Value} {kvs : Kvs} {bs : List UInt8}
theorem StoreIn.set_lt (h : StoreIn w M B p r d v kvs bs safe) (hM : ∀ k, M k → k < w.heap.size) : ∀ k, Mset M p r d v k → k < w.heap.size := by
  rintro k (hk | hk | hk | hk)
  · exact hM k hk
  · rw [hk]; exact h.ltp
  · rw [hk]; exact h.ltr
  · exact h.disk.set_lt k hk
theorem zeroSer (w : World) : (zeroValue 42).run Tryz.prog w = .ok (.agg #[.slice none 0 0, .slice none 0 0]) w := by go_simp
theorem StoreIn.look (h : StoreIn w M B p r d v kvs bs safe) (key : ByteArray) (hk : key.size ≤ maxLen) (ok : Bool) :
    ∃ val, (Instr.lookup 67 (.map (some r)) (.string key) ok).run Tryz.prog w = .ok (if ok then .tuple #[val, .bool (mget kvs key).isSome] else val) w ∧
      (mget kvs key = none ∧ val = .agg #[.slice none 0 0, .slice none 0 0] ∨ ∃ s, mget kvs key = some s ∧ serR w (Mset M p r d v) val s) :=
  run_lookup_map Tryz.underlying67 (strKey Tryz.underlying9) h.okk h.map key hk (zeroSer w) ok
end

theorem MapAt.len {K V : Type} {enc : K → Value} {R : Value → V → Prop} {w : World} {r : Nat} {kvs : List (K × V)} (h : MapAt w enc R r kvs) {P : Program} {t k e : TypeId} (ht : P.underlying t = some (.map k e)) (ty : TypeId) : (Builtin.len_ #[t] ty #[.map (some r)]).run P w = .ok (.int .i64 (kvs.length : Int)) w := by
  obtain ⟨es, clock, hb, hs, _⟩ := h
  simp [Builtin.len_, run_underlying ht, MapKept.run_getObj_map hb, goInt, hs, Result.andThen]

theorem merge_one (A2 : Option Addr) (n2 c2 b : Nat) (ys : List Smp) (T V : Int) (hT : i64ok T) (hV : i64ok V) (W : World) (M : Nat → Prop) (hM : ∀ k, M k → k < W.heap.size) (hs : Sl W M A2 n2 c2 ys) (hb : b = W.heap.size) :
    Calls Tryz.prog 60 #[.slice A2 n2 c2, .slice (some ⟨b, 0, none⟩) 1 1] (W.alloc (.cells #[.int .i64 T, .int .i64 V] 27)) fun e w' =>
      ∃ A' c', e = .returned (.tuple #[.slice A' (mergeL ys [⟨T, V⟩]).1.length c', .int .i64 (mergeL ys [⟨T, V⟩]).2]) ∧ Sl w' M A' (mergeL ys [⟨T, V⟩]).1.length c' (mergeL ys [⟨T, V⟩]).1 ∧ Below W.heap.size W w' := by
  subst hb
  have hM1 : ∀ k, M k → k < (W.alloc (.cells #[.int .i64 T, .int .i64 V] 27)).heap.size := fun k hk => by have := hM k hk; simp; omega
  refine (merge_calls A2 (some ⟨W.heap.size, 0, none⟩) n2 c2 1 1 ys [⟨T, V⟩] _ M hM1 (hs.below ((Below.refl _ _).new _)) (Sl.new hM (show Rep.rep (α := Smp) W M [.int .i64 T, .int .i64 V] ⟨T, V⟩ from ⟨rfl, hT, hV⟩) _)).mono ?_
  rintro e w' ⟨⟨v', rfl, ho⟩, hb⟩
  obtain ⟨A', c', rfl, hs'⟩ := ho.sl hM1
  exact ⟨A', c', rfl, hs', ((Below.refl _ _).new _).call hb⟩

theorem moreL_none {kvs : Kvs} {q : PutD} (h : mget kvs (putKey q) = none) : moreL kvs q = if kvs.length = 200 then (⟨[], []⟩, 9) else if (mergeL [] [q.X]).2 ≠ 0 then (⟨[], []⟩, 9) else (⟨q.L, (mergeL [] [q.X]).1⟩, 0) := by
  unfold moreL; rw [h]
theorem moreL_some {kvs : Kvs} {q : PutD} {y : Ser} (h : mget kvs (putKey q) = some y) : moreL kvs q = if (mergeL y.S [q.X]).2 ≠ 0 then (⟨[], []⟩, 9) else (⟨y.L, (mergeL y.S [q.X]).1⟩, 0) := by
  unfold moreL; rw [h]

/-- The blocks that more lays first. -/
def Mx (M : Nat → Prop) (n : Nat) : Nat → Prop := fun k => M k ∨ (n ≤ k ∧ k ≤ n + 2)

set_option maxRecDepth 100000 in
set_option maxHeartbeats 2000000 in
theorem more_calls (A : Option Addr) (n c B p r d safe : Nat) (v : Value) (kvs : Kvs) (bs : List UInt8) (q : PutD) (key : ByteArray) (hkey : key = putKey q) (hks : key.size ≤ maxLen) (w : World) (M : Nat → Prop) (hM : ∀ k, M k → k < w.heap.size) (hl : Sl w (Mset M p r d v) A n c q.L) (hn : n ≤ 1000) (hT : i64ok q.X.T) (hV : i64ok q.X.V)
    (hS : StoreIn w M B p r d v kvs bs safe) :
    Calls Tryz.prog 34 #[.pointer (some ⟨p, 0, none⟩), .string key, .slice A n c, .agg #[.int .i64 q.X.T, .int .i64 q.X.V]] w fun e w' => (∃ val, e = .returned (.tuple #[val, .int .i64 (moreL kvs q).2]) ∧ serR w' (Mset M p r d v) val (moreL kvs q).1) ∧ Below w.heap.size w w' := by
  obtain ⟨l, ⟨T, V⟩⟩ := q
  simp only at hl hT hV ⊢
  have hkeyH := Lib.hid hkey
  clear hkey
  have hB1 := ((Below.refl w.heap.size w).new (.cells #[.int .i64 T, .int .i64 V] 27)).new (.cells #[.slice none 0 0, .slice none 0 0] 42)
  have hS1 := hS.below hB1
  obtain ⟨g0, g1, f0⟩ := hS1.cells
  obtain ⟨R, hR⟩ : ∃ R, Hid (moreL kvs ⟨l, ⟨T, V⟩⟩ = R) := ⟨_, rfl⟩
  rw [hR.out]
  have hMs := hS.set_lt hM
  have hMx : ∀ W : World, w.heap.size + 3 ≤ W.heap.size → ∀ k, Mx (Mset M p r d v) w.heap.size k → k < W.heap.size := fun W hW k hk => by
    rcases hk with hk | hk
    · have := hMs k hk; omega
    · omega
  have hin : ∀ {α : Type} [Rep α] {A : Option Addr} {n c : Nat} {xs : List α}, Sl w (Mset M p r d v) A n c xs → Sl w (Mx (Mset M p r d v) w.heap.size) A n c xs := fun h => h.mono (fun k hk hh => hh.elim id (fun h2 => by omega))
  have hout : ∀ {α : Type} [Rep α] {W : World} {A : Option Addr} {n c : Nat} {xs : List α}, Sl W (Mx (Mset M p r d v) w.heap.size) A n c xs → Sl W (Mset M p r d v) A n c xs := fun h => h.mono (fun k _ hh => .inl hh)
  have hmapx : MapAt ((w.alloc (.cells #[.int .i64 T, .int .i64 V] 27)).alloc (.cells #[.slice none 0 0, .slice none 0 0] 42)) Value.string (serR ((w.alloc (.cells #[.int .i64 T, .int .i64 V] 27)).alloc (.cells #[.slice none 0 0, .slice none 0 0] 42)) (Mx (Mset M p r d v) w.heap.size)) r kvs :=
    ((hS.map.of_block (hB1.block r hS.ltr)).mono fun u kv _ hs => by
      obtain ⟨A, c, A2, c2, e, h1, h2⟩ := hs
      exact ⟨A, c, A2, c2, e, (hin h1).below hB1, (hin h2).below hB1⟩)
  obtain ⟨val, hrun, hval⟩ := run_lookup_map Tryz.underlying67 (strKey Tryz.underlying9) hS.okk hmapx key hks (zeroSer _) true
  rw [if_pos rfl] at hrun
  rcases hval with ⟨hno, rfl⟩ | ⟨y, hsome, A1, c1, A2, c2, rfl, hs1, hs2⟩
  · rw [hno, Option.isSome_none] at hrun
    have hB3 := hB1.new (.cells #[.slice none 0 0, .slice none 0 0] 42)
    have hS3 := hS.below hB3
    obtain ⟨g3, _, _⟩ := hS3.cells
    have hlen := hS3.map.len Tryz.underlying67
    rw [hkeyH.out] at hno
    by_cases h200 : kvs.length = 200
    · have hR2 : Hid (R = (⟨[], []⟩, 9)) := by unfold Hid; rw [← hR.out, moreL_none hno, if_pos h200]
      have hb : ((kvs.length : Int) == 200) = true := by rw [beq_iff_eq]; omega
      clear hno h200 hS3 hS1 hS hin hout hMx hMs
      go_enter Tryz.func34, Tryz.ntmps34
      go_wp2
      refine bodyPost_ret (v := .tuple #[.agg #[.slice none 0 0, .slice none 0 0], .int .i64 9]) (by simp [results, Tryz.results34, go_sem]) rfl ?_
      exact ⟨⟨_, by rw [hR2.out], by rw [hR2.out]; exact ⟨none, 0, none, 0, rfl, Sl.nil _ _, Sl.nil _ _⟩⟩, hB3⟩
    · have hb : ((kvs.length : Int) == 200) = false := by rw [beq_eq_false_iff_ne]; omega
      obtain ⟨mr, hmr⟩ : ∃ mr, Hid (mergeL [] [(⟨T, V⟩ : Smp)] = mr) := ⟨_, rfl⟩
      have hR2 : Hid (R = if mr.2 ≠ 0 then (⟨[], []⟩, 9) else (⟨l, mr.1⟩, 0)) := by unfold Hid; rw [← hR.out, moreL_none hno, if_neg h200, hmr.out]
      have hmg : ∀ (b : Nat) (W : World), w.heap.size + 3 ≤ W.heap.size → b = W.heap.size → Calls Tryz.prog 60 #[.slice none 0 0, .slice (some ⟨b, 0, none⟩) 1 1] (W.alloc (.cells #[.int .i64 T, .int .i64 V] 27)) fun e w' =>
          ∃ A' c', e = .returned (.tuple #[.slice A' mr.1.length c', .int .i64 mr.2]) ∧ Sl w' (Mx (Mset M p r d v) w.heap.size) A' mr.1.length c' mr.1 ∧ Below W.heap.size W w' := fun b W hW hb => by
        rw [← hmr.out]
        exact merge_one none 0 0 b [] T V hT hV W _ (hMx W hW) (Sl.nil _ _) hb
      have hmg := Lib.hid hmg
      have hcl := Lib.hid (cloneLab_calls A n c l _ (Mx (Mset M p r d v) w.heap.size) ((hin hl).below hB3) (by omega))
      have hsz3 : ((w.alloc (.cells #[.int .i64 T, .int .i64 V] 27)).alloc (.cells #[.slice none 0 0, .slice none 0 0] 42)).heap.size + 1 = w.heap.size + 3 := by simp
      have hln := Lib.hid hl.len
      clear hno h200 hS3 hS1 hS hin hMs hsz3
      obtain ⟨m1, me⟩ := mr
      simp only at hmg hR2
      have hfac : ∀ w4 : World, Below (((w.alloc (.cells #[.int .i64 T, .int .i64 V] 27)).alloc (.cells #[.slice none 0 0, .slice none 0 0] 42)).alloc (.cells #[.slice none 0 0, .slice none 0 0] 42)).heap.size (((w.alloc (.cells #[.int .i64 T, .int .i64 V] 27)).alloc (.cells #[.slice none 0 0, .slice none 0 0] 42)).alloc (.cells #[.slice none 0 0, .slice none 0 0] 42)) w4 →
          Hid (w4.heap[w.heap.size]? = some (.cells #[.int .i64 T, .int .i64 V] 27 (0, 0)) ∧ w4.heap[w.heap.size + 1]? = some (.cells #[.slice none 0 0, .slice none 0 0] 42 (0, 0)) ∧ w4.heap[w.heap.size + 2]? = some (.cells #[.slice none 0 0, .slice none 0 0] 42 (0, 0)) ∧ w.heap.size + 3 ≤ w4.heap.size) := by
        intro w4 hb4
        refine ⟨?_, ?_, ?_, by have := hb4.size; simp at this; omega⟩
        · rw [hb4.block w.heap.size (by simp; omega), Below.heap_alloc _ _ _ (by simp; omega), Below.heap_alloc _ _ _ (by simp)]
          exact heap_alloc_new w (.cells #[.int .i64 T, .int .i64 V] 27 (0, 0))
        · rw [hb4.block (w.heap.size + 1) (by simp), Below.heap_alloc _ _ _ (by simp)]
          have := heap_alloc_new (w.alloc (.cells #[.int .i64 T, .int .i64 V] 27)) (.cells #[.slice none 0 0, .slice none 0 0] 42 (0, 0))
          simpa using this
        · rw [hb4.block (w.heap.size + 2) (by simp)]
          have := heap_alloc_new ((w.alloc (.cells #[.int .i64 T, .int .i64 V] 27)).alloc (.cells #[.slice none 0 0, .slice none 0 0] 42)) (.cells #[.slice none 0 0, .slice none 0 0] 42 (0, 0))
          simpa using this
      have hfac := Lib.hid hfac
      have hfin : ∀ (w4 w6 : World) (vL : Value), Hid (w4.heap[w.heap.size]? = some (.cells #[.int .i64 T, .int .i64 V] 27 (0, 0)) ∧ w4.heap[w.heap.size + 1]? = some (.cells #[.slice none 0 0, .slice none 0 0] 42 (0, 0)) ∧ w4.heap[w.heap.size + 2]? = some (.cells #[.slice none 0 0, .slice none 0 0] 42 (0, 0)) ∧ w.heap.size + 3 ≤ w4.heap.size) →
          Below (w4.setCell ⟨w.heap.size + 1 + 1, 0, none⟩ vL).heap.size (w4.setCell ⟨w.heap.size + 1 + 1, 0, none⟩ vL) w6 →
          Hid (w6.heap[w.heap.size + 1]? = some (.cells #[.slice none 0 0, .slice none 0 0] 42 (0, 0)) ∧ w6.heap[w.heap.size + 2]? = some (.cells #[vL, .slice none 0 0] 42 (0, 0)) ∧ w.heap.size + 3 ≤ w6.heap.size ∧ Below w.heap.size w4 w6 ∧ Went (Mx (Mset M p r d v) w.heap.size) w4 w6 (Mx (Mset M p r d v) w.heap.size)) := by
        intro w4 w6 vL hF hb6
        obtain ⟨h0, h1, h2, h3⟩ := hF.out
        have hg := setCell_grown w4 (w.heap.size + 2) 0 vL
        have hsz : (w4.setCell ⟨w.heap.size + 1 + 1, 0, none⟩ vL).heap.size = w4.heap.size := by simp
        refine ⟨?_, ?_, ?_, ?_, (Went.of_grown hg _ (fun k hk => by injection hk with hk; subst hk; exact .inr ⟨by omega, by omega⟩)).trans (Went.of_below hb6 _)⟩
        · rw [hb6.block _ (by rw [hsz]; omega)]
          exact (hg.block _ (by omega) (by simp)).trans h1
        · rw [hb6.block _ (by rw [hsz]; omega)]
          exact (heap_setCell_at h2 0 vL).trans rfl
        · have := hb6.size; rw [hsz] at this; omega
        · exact ((Below.refl _ _).grown hg (by omega) (fun k hk => by injection hk with hk; omega)).trans (hb6.mono (by rw [hsz]; omega))
      have hfin := Lib.hid hfin
      by_cases hme : me = 0
      · have hR3 : Hid (R = (⟨l, m1⟩, 0)) := by unfold Hid; rw [hR2.out, if_neg (by simp [hme])]
        have hmb : (me != 0) = false := by simp [hme]
        clear hme hR2
        go_enter Tryz.func34, Tryz.ntmps34
        go_wp2_with (first | (go_at_call 30; refine hcl.out.mono ?_; rintro e w4 ⟨vL, rfl, hoL, hbL⟩; obtain ⟨AL, cL, rfl⟩ := hoL.form; have hF := hfac.out w4 hbL; have f1 : w4.frozen? ⟨w.heap.size + 1 + 1, 0, none⟩ = false := (by simp [World.frozen?, hF.out.2.2.1]); have k1 : w4.cell? ⟨w.heap.size + 1 + 1, 0, none⟩ = some (.slice none 0 0) := (by simp [World.cell?, hF.out.2.2.1]); have k2 : w4.cell? ⟨w.heap.size + 1 + 1, 1, none⟩ = some (.slice none 0 0) := (by simp [World.cell?, hF.out.2.2.1]); have k3 : w4.cell? ⟨w.heap.size, 0, none⟩ = some (.int .i64 T) := (by simp [World.cell?, hF.out.1]); have k4 : w4.cell? ⟨w.heap.size, 1, none⟩ = some (.int .i64 V) := (by simp [World.cell?, hF.out.1])) | (go_at_call 60; refine (hmg.out _ _ (by have := hF.out.2.2.2; simp; omega) (by simp)).mono ?_; rintro e w6 ⟨A6, c6, rfl, hs6, hb6⟩; have hG := hfin.out w4 w6 _ hF hb6; obtain ⟨k5, k6, k7, f5, f6⟩ : w6.cell? ⟨w.heap.size + 1 + 1, 0, none⟩ = some (.slice AL l.length cL) ∧ w6.cell? ⟨w.heap.size + 1, 0, none⟩ = some (.slice none 0 0) ∧ w6.cell? ⟨w.heap.size + 1, 1, none⟩ = some (.slice none 0 0) ∧ w6.frozen? ⟨w.heap.size + 1, 0, none⟩ = false ∧ w6.frozen? ⟨w.heap.size + 1, 1, none⟩ = false := (by obtain ⟨e1, e2, _⟩ := hG.out; simp [World.cell?, World.frozen?, e1, e2])))
        have hLsl : Sl w4 (Mx (Mset M p r d v) w.heap.size) AL l.length cL l := by
          obtain ⟨A', c', e', h'⟩ := hoL.sl (fun k hk => by have := hMx (((w.alloc (.cells #[.int .i64 T, .int .i64 V] 27)).alloc (.cells #[.slice none 0 0, .slice none 0 0] 42)).alloc (.cells #[.slice none 0 0, .slice none 0 0] 42)) (by simp) k hk; exact this)
          injection e' with e1 e2 e3
          subst e1; subst e3
          exact h'
        have h7 : ((w6.setCell ⟨w.heap.size + 1, 0, none⟩ (.slice AL l.length cL)).setCell ⟨w.heap.size + 1, 1, none⟩ (.slice A6 m1.length c6)).heap[w.heap.size + 1]? = some (.cells #[(.slice AL l.length cL), (.slice A6 m1.length c6)] 42 (0, 0)) := (heap_setCell_at (heap_setCell_at hG.out.1 0 (.slice AL l.length cL)) 1 (.slice A6 m1.length c6)).trans rfl
        have hg7 : Went (Mx (Mset M p r d v) w.heap.size) w6 ((w6.setCell ⟨w.heap.size + 1, 0, none⟩ (.slice AL l.length cL)).setCell ⟨w.heap.size + 1, 1, none⟩ (.slice A6 m1.length c6)) (Mx (Mset M p r d v) w.heap.size) :=
          (Went.of_grown (setCell_grown w6 (w.heap.size + 1) 0 (.slice AL l.length cL)) _ (fun k hk => by injection hk with hk; subst hk; exact .inr ⟨by omega, by omega⟩)).trans (Went.of_grown (setCell_grown (w6.setCell ⟨w.heap.size + 1, 0, none⟩ (.slice AL l.length cL)) (w.heap.size + 1) 1 (.slice A6 m1.length c6)) _ (fun k hk => by injection hk with hk; subst hk; exact .inr ⟨by omega, by omega⟩))
        have hb7 : Below w.heap.size w6 ((w6.setCell ⟨w.heap.size + 1, 0, none⟩ (.slice AL l.length cL)).setCell ⟨w.heap.size + 1, 1, none⟩ (.slice A6 m1.length c6)) :=
          ((Below.refl _ _).grown (setCell_grown w6 (w.heap.size + 1) 0 (.slice AL l.length cL)) (by have := hG.out.2.2.1; omega) (fun k hk => by injection hk with hk; omega)).grown (setCell_grown (w6.setCell ⟨w.heap.size + 1, 0, none⟩ (.slice AL l.length cL)) (w.heap.size + 1) 1 (.slice A6 m1.length c6)) (by have := hG.out.2.2.1; simp; omega) (fun k hk => by injection hk with hk; omega)
        have z1 : ((w6.setCell ⟨w.heap.size + 1, 0, none⟩ (.slice AL l.length cL)).setCell ⟨w.heap.size + 1, 1, none⟩ (.slice A6 m1.length c6)).cell? ⟨w.heap.size + 1, 0, none⟩ = some (.slice AL l.length cL) := by simp only [World.cell?, h7]; rfl
        have z2 : ((w6.setCell ⟨w.heap.size + 1, 0, none⟩ (.slice AL l.length cL)).setCell ⟨w.heap.size + 1, 1, none⟩ (.slice A6 m1.length c6)).cell? ⟨w.heap.size + 1, 1, none⟩ = some (.slice A6 m1.length c6) := by simp only [World.cell?, h7]; rfl
        generalize (w6.setCell ⟨w.heap.size + 1, 0, none⟩ (.slice AL l.length cL)).setCell ⟨w.heap.size + 1, 1, none⟩ (.slice A6 m1.length c6) = w7 at hg7 hb7 z1 z2 ⊢
        refine bodyPost_ret (v := .tuple #[.agg #[(.slice AL l.length cL), (.slice A6 m1.length c6)], .int .i64 0]) (by simp [results, Tryz.results34, go_sem, z1, z2]) rfl ?_
        exact ⟨⟨_, by rw [hR3.out], by rw [hR3.out]; exact ⟨AL, cL, A6, c6, rfl, hout (hLsl.keep (hG.out.2.2.2.2.trans hg7).keep), hout (hs6.keep hg7.keep)⟩⟩, ((hB3.call hbL).trans hG.out.2.2.2.1).trans hb7⟩
      · have hR3 : Hid (R = (⟨[], []⟩, 9)) := by unfold Hid; rw [hR2.out, if_pos (by simpa using hme)]
        have hmb : (me != 0) = true := by simp [hme]
        clear hme hR2
        go_enter Tryz.func34, Tryz.ntmps34
        go_wp2_with (first | (go_at_call 30; refine hcl.out.mono ?_; rintro e w4 ⟨vL, rfl, hoL, hbL⟩; obtain ⟨AL, cL, rfl⟩ := hoL.form; have hF := hfac.out w4 hbL; have f1 : w4.frozen? ⟨w.heap.size + 1 + 1, 0, none⟩ = false := (by simp [World.frozen?, hF.out.2.2.1]); have k1 : w4.cell? ⟨w.heap.size + 1 + 1, 0, none⟩ = some (.slice none 0 0) := (by simp [World.cell?, hF.out.2.2.1]); have k2 : w4.cell? ⟨w.heap.size + 1 + 1, 1, none⟩ = some (.slice none 0 0) := (by simp [World.cell?, hF.out.2.2.1]); have k3 : w4.cell? ⟨w.heap.size, 0, none⟩ = some (.int .i64 T) := (by simp [World.cell?, hF.out.1]); have k4 : w4.cell? ⟨w.heap.size, 1, none⟩ = some (.int .i64 V) := (by simp [World.cell?, hF.out.1])) | (go_at_call 60; refine (hmg.out _ _ (by have := hF.out.2.2.2; simp; omega) (by simp)).mono ?_; rintro e w6 ⟨A6, c6, rfl, hs6, hb6⟩; have hG := hfin.out w4 w6 _ hF hb6; obtain ⟨k5, k6, k7, f5, f6⟩ : w6.cell? ⟨w.heap.size + 1 + 1, 0, none⟩ = some (.slice AL l.length cL) ∧ w6.cell? ⟨w.heap.size + 1, 0, none⟩ = some (.slice none 0 0) ∧ w6.cell? ⟨w.heap.size + 1, 1, none⟩ = some (.slice none 0 0) ∧ w6.frozen? ⟨w.heap.size + 1, 0, none⟩ = false ∧ w6.frozen? ⟨w.heap.size + 1, 1, none⟩ = false := (by obtain ⟨e1, e2, _⟩ := hG.out; simp [World.cell?, World.frozen?, e1, e2])))
        have h7 : ((w6.setCell ⟨w.heap.size + 1, 0, none⟩ (.slice none 0 0)).setCell ⟨w.heap.size + 1, 1, none⟩ (.slice none 0 0)).heap[w.heap.size + 1]? = some (.cells #[(.slice none 0 0), (.slice none 0 0)] 42 (0, 0)) := (heap_setCell_at (heap_setCell_at hG.out.1 0 (.slice none 0 0)) 1 (.slice none 0 0)).trans rfl
        have hg7 : Went (Mx (Mset M p r d v) w.heap.size) w6 ((w6.setCell ⟨w.heap.size + 1, 0, none⟩ (.slice none 0 0)).setCell ⟨w.heap.size + 1, 1, none⟩ (.slice none 0 0)) (Mx (Mset M p r d v) w.heap.size) :=
          (Went.of_grown (setCell_grown w6 (w.heap.size + 1) 0 (.slice none 0 0)) _ (fun k hk => by injection hk with hk; subst hk; exact .inr ⟨by omega, by omega⟩)).trans (Went.of_grown (setCell_grown (w6.setCell ⟨w.heap.size + 1, 0, none⟩ (.slice none 0 0)) (w.heap.size + 1) 1 (.slice none 0 0)) _ (fun k hk => by injection hk with hk; subst hk; exact .inr ⟨by omega, by omega⟩))
        have hb7 : Below w.heap.size w6 ((w6.setCell ⟨w.heap.size + 1, 0, none⟩ (.slice none 0 0)).setCell ⟨w.heap.size + 1, 1, none⟩ (.slice none 0 0)) :=
          ((Below.refl _ _).grown (setCell_grown w6 (w.heap.size + 1) 0 (.slice none 0 0)) (by have := hG.out.2.2.1; omega) (fun k hk => by injection hk with hk; omega)).grown (setCell_grown (w6.setCell ⟨w.heap.size + 1, 0, none⟩ (.slice none 0 0)) (w.heap.size + 1) 1 (.slice none 0 0)) (by have := hG.out.2.2.1; simp; omega) (fun k hk => by injection hk with hk; omega)
        have z1 : ((w6.setCell ⟨w.heap.size + 1, 0, none⟩ (.slice none 0 0)).setCell ⟨w.heap.size + 1, 1, none⟩ (.slice none 0 0)).cell? ⟨w.heap.size + 1, 0, none⟩ = some (.slice none 0 0) := by simp only [World.cell?, h7]; rfl
        have z2 : ((w6.setCell ⟨w.heap.size + 1, 0, none⟩ (.slice none 0 0)).setCell ⟨w.heap.size + 1, 1, none⟩ (.slice none 0 0)).cell? ⟨w.heap.size + 1, 1, none⟩ = some (.slice none 0 0) := by simp only [World.cell?, h7]; rfl
        generalize (w6.setCell ⟨w.heap.size + 1, 0, none⟩ (.slice none 0 0)).setCell ⟨w.heap.size + 1, 1, none⟩ (.slice none 0 0) = w7 at hg7 hb7 z1 z2 ⊢
        refine bodyPost_ret (v := .tuple #[.agg #[(.slice none 0 0), (.slice none 0 0)], .int .i64 9]) (by simp [results, Tryz.results34, go_sem, z1, z2]) rfl ?_
        exact ⟨⟨_, by rw [hR3.out], by rw [hR3.out]; exact ⟨none, 0, none, 0, rfl, Sl.nil _ _, Sl.nil _ _⟩⟩, ((hB3.call hbL).trans hG.out.2.2.2.1).trans hb7⟩
  · obtain ⟨yL, yS⟩ := y
    simp only at hs1 hs2 hrun
    rw [hsome, Option.isSome_some] at hrun
    rw [hkeyH.out] at hsome
    have hB3 := hB1.new (.cells #[.slice A1 yL.length c1, .slice A2 yS.length c2] 42)
    obtain ⟨mr, hmr⟩ : ∃ mr, Hid (mergeL yS [(⟨T, V⟩ : Smp)] = mr) := ⟨_, rfl⟩
    have hR2 : Hid (R = if mr.2 ≠ 0 then (⟨[], []⟩, 9) else (⟨yL, mr.1⟩, 0)) := by unfold Hid; rw [← hR.out, moreL_some hsome, hmr.out]
    have hmg : ∀ (b : Nat), b = (((w.alloc (.cells #[.int .i64 T, .int .i64 V] 27)).alloc (.cells #[.slice none 0 0, .slice none 0 0] 42)).alloc (.cells #[.slice A1 yL.length c1, .slice A2 yS.length c2] 42)).heap.size → Calls Tryz.prog 60 #[.slice A2 yS.length c2, .slice (some ⟨b, 0, none⟩) 1 1] ((((w.alloc (.cells #[.int .i64 T, .int .i64 V] 27)).alloc (.cells #[.slice none 0 0, .slice none 0 0] 42)).alloc (.cells #[.slice A1 yL.length c1, .slice A2 yS.length c2] 42)).alloc (.cells #[.int .i64 T, .int .i64 V] 27)) fun e w' =>
        ∃ A' c', e = .returned (.tuple #[.slice A' mr.1.length c', .int .i64 mr.2]) ∧ Sl w' (Mx (Mset M p r d v) w.heap.size) A' mr.1.length c' mr.1 ∧ Below (((w.alloc (.cells #[.int .i64 T, .int .i64 V] 27)).alloc (.cells #[.slice none 0 0, .slice none 0 0] 42)).alloc (.cells #[.slice A1 yL.length c1, .slice A2 yS.length c2] 42)).heap.size (((w.alloc (.cells #[.int .i64 T, .int .i64 V] 27)).alloc (.cells #[.slice none 0 0, .slice none 0 0] 42)).alloc (.cells #[.slice A1 yL.length c1, .slice A2 yS.length c2] 42)) w' := fun b hb => by
      rw [← hmr.out]
      exact merge_one A2 yS.length c2 b yS T V hT hV _ _ (hMx _ (by simp)) (hs2.below ((Below.refl _ _).new _)) hb
    have hmg := Lib.hid hmg
    have hfin : ∀ w6 : World, Below (((w.alloc (.cells #[.int .i64 T, .int .i64 V] 27)).alloc (.cells #[.slice none 0 0, .slice none 0 0] 42)).alloc (.cells #[.slice A1 yL.length c1, .slice A2 yS.length c2] 42)).heap.size (((w.alloc (.cells #[.int .i64 T, .int .i64 V] 27)).alloc (.cells #[.slice none 0 0, .slice none 0 0] 42)).alloc (.cells #[.slice A1 yL.length c1, .slice A2 yS.length c2] 42)) w6 → Hid (w6.heap[w.heap.size + 1]? = some (.cells #[.slice none 0 0, .slice none 0 0] 42 (0, 0)) ∧ w6.heap[w.heap.size + 2]? = some (.cells #[.slice A1 yL.length c1, .slice A2 yS.length c2] 42 (0, 0)) ∧ w.heap.size + 3 ≤ w6.heap.size) := by
      intro w6 hb6
      refine ⟨?_, ?_, by have := hb6.size; simp at this; omega⟩
      · rw [hb6.block (w.heap.size + 1) (by simp), Below.heap_alloc _ _ _ (by simp)]
        have := heap_alloc_new (w.alloc (.cells #[.int .i64 T, .int .i64 V] 27)) (.cells #[.slice none 0 0, .slice none 0 0] 42 (0, 0))
        simpa using this
      · rw [hb6.block (w.heap.size + 2) (by simp)]
        have := heap_alloc_new ((w.alloc (.cells #[.int .i64 T, .int .i64 V] 27)).alloc (.cells #[.slice none 0 0, .slice none 0 0] 42)) (.cells #[.slice A1 yL.length c1, .slice A2 yS.length c2] 42 (0, 0))
        simpa using this
    have hfin := Lib.hid hfin
    clear hsome hS1 hS hin hMs hmapx hMx hl
    obtain ⟨m1, me⟩ := mr
    simp only at hmg hR2
    by_cases hme : me = 0
    · have hR3 : Hid (R = (⟨yL, m1⟩, 0)) := by unfold Hid; rw [hR2.out, if_neg (by simp [hme])]
      have hmb : (me != 0) = false := by simp [hme]
      clear hme hR2
      go_enter Tryz.func34, Tryz.ntmps34
      go_wp2_with (first | (go_at_call 60; refine (hmg.out _ (by simp)).mono ?_; rintro e w6 ⟨A6, c6, rfl, hs6, hb6⟩; have hG := hfin.out w6 hb6; obtain ⟨k5, k6, k7, f5, f6⟩ : w6.cell? ⟨w.heap.size + 1 + 1, 0, none⟩ = some (.slice A1 yL.length c1) ∧ w6.cell? ⟨w.heap.size + 1, 0, none⟩ = some (.slice none 0 0) ∧ w6.cell? ⟨w.heap.size + 1, 1, none⟩ = some (.slice none 0 0) ∧ w6.frozen? ⟨w.heap.size + 1, 0, none⟩ = false ∧ w6.frozen? ⟨w.heap.size + 1, 1, none⟩ = false := (by obtain ⟨e1, e2, _⟩ := hG.out; simp [World.cell?, World.frozen?, e1, e2])))
      have h7 : ((w6.setCell ⟨w.heap.size + 1, 0, none⟩ (.slice A1 yL.length c1)).setCell ⟨w.heap.size + 1, 1, none⟩ (.slice A6 m1.length c6)).heap[w.heap.size + 1]? = some (.cells #[(.slice A1 yL.length c1), (.slice A6 m1.length c6)] 42 (0, 0)) := (heap_setCell_at (heap_setCell_at hG.out.1 0 (.slice A1 yL.length c1)) 1 (.slice A6 m1.length c6)).trans rfl
      have hg7 : Went (Mx (Mset M p r d v) w.heap.size) w6 ((w6.setCell ⟨w.heap.size + 1, 0, none⟩ (.slice A1 yL.length c1)).setCell ⟨w.heap.size + 1, 1, none⟩ (.slice A6 m1.length c6)) (Mx (Mset M p r d v) w.heap.size) :=
        (Went.of_grown (setCell_grown w6 (w.heap.size + 1) 0 (.slice A1 yL.length c1)) _ (fun k hk => by injection hk with hk; subst hk; exact .inr ⟨by omega, by omega⟩)).trans (Went.of_grown (setCell_grown (w6.setCell ⟨w.heap.size + 1, 0, none⟩ (.slice A1 yL.length c1)) (w.heap.size + 1) 1 (.slice A6 m1.length c6)) _ (fun k hk => by injection hk with hk; subst hk; exact .inr ⟨by omega, by omega⟩))
      have hb7 : Below w.heap.size w6 ((w6.setCell ⟨w.heap.size + 1, 0, none⟩ (.slice A1 yL.length c1)).setCell ⟨w.heap.size + 1, 1, none⟩ (.slice A6 m1.length c6)) :=
        ((Below.refl _ _).grown (setCell_grown w6 (w.heap.size + 1) 0 (.slice A1 yL.length c1)) (by have := hG.out.2.2; omega) (fun k hk => by injection hk with hk; omega)).grown (setCell_grown (w6.setCell ⟨w.heap.size + 1, 0, none⟩ (.slice A1 yL.length c1)) (w.heap.size + 1) 1 (.slice A6 m1.length c6)) (by have := hG.out.2.2; simp; omega) (fun k hk => by injection hk with hk; omega)
      have z1 : ((w6.setCell ⟨w.heap.size + 1, 0, none⟩ (.slice A1 yL.length c1)).setCell ⟨w.heap.size + 1, 1, none⟩ (.slice A6 m1.length c6)).cell? ⟨w.heap.size + 1, 0, none⟩ = some (.slice A1 yL.length c1) := by simp only [World.cell?, h7]; rfl
      have z2 : ((w6.setCell ⟨w.heap.size + 1, 0, none⟩ (.slice A1 yL.length c1)).setCell ⟨w.heap.size + 1, 1, none⟩ (.slice A6 m1.length c6)).cell? ⟨w.heap.size + 1, 1, none⟩ = some (.slice A6 m1.length c6) := by simp only [World.cell?, h7]; rfl
      generalize (w6.setCell ⟨w.heap.size + 1, 0, none⟩ (.slice A1 yL.length c1)).setCell ⟨w.heap.size + 1, 1, none⟩ (.slice A6 m1.length c6) = w7 at hg7 hb7 z1 z2 ⊢
      refine bodyPost_ret (v := .tuple #[.agg #[(.slice A1 yL.length c1), (.slice A6 m1.length c6)], .int .i64 0]) (by simp [results, Tryz.results34, go_sem, z1, z2]) rfl ?_
      exact ⟨⟨_, by rw [hR3.out], by rw [hR3.out]; exact ⟨A1, c1, A6, c6, rfl, hout ((hs1.below (((Below.refl _ _).new _).call hb6)).keep hg7.keep), hout (hs6.keep hg7.keep)⟩⟩, (hB3.call hb6).trans hb7⟩
    · have hR3 : Hid (R = (⟨[], []⟩, 9)) := by unfold Hid; rw [hR2.out, if_pos (by simpa using hme)]
      have hmb : (me != 0) = true := by simp [hme]
      clear hme hR2
      go_enter Tryz.func34, Tryz.ntmps34
      go_wp2_with (first | (go_at_call 60; refine (hmg.out _ (by simp)).mono ?_; rintro e w6 ⟨A6, c6, rfl, hs6, hb6⟩; have hG := hfin.out w6 hb6; obtain ⟨k5, k6, k7, f5, f6⟩ : w6.cell? ⟨w.heap.size + 1 + 1, 0, none⟩ = some (.slice A1 yL.length c1) ∧ w6.cell? ⟨w.heap.size + 1, 0, none⟩ = some (.slice none 0 0) ∧ w6.cell? ⟨w.heap.size + 1, 1, none⟩ = some (.slice none 0 0) ∧ w6.frozen? ⟨w.heap.size + 1, 0, none⟩ = false ∧ w6.frozen? ⟨w.heap.size + 1, 1, none⟩ = false := (by obtain ⟨e1, e2, _⟩ := hG.out; simp [World.cell?, World.frozen?, e1, e2])))
      have h7 : ((w6.setCell ⟨w.heap.size + 1, 0, none⟩ (.slice none 0 0)).setCell ⟨w.heap.size + 1, 1, none⟩ (.slice none 0 0)).heap[w.heap.size + 1]? = some (.cells #[(.slice none 0 0), (.slice none 0 0)] 42 (0, 0)) := (heap_setCell_at (heap_setCell_at hG.out.1 0 (.slice none 0 0)) 1 (.slice none 0 0)).trans rfl
      have hg7 : Went (Mx (Mset M p r d v) w.heap.size) w6 ((w6.setCell ⟨w.heap.size + 1, 0, none⟩ (.slice none 0 0)).setCell ⟨w.heap.size + 1, 1, none⟩ (.slice none 0 0)) (Mx (Mset M p r d v) w.heap.size) :=
        (Went.of_grown (setCell_grown w6 (w.heap.size + 1) 0 (.slice none 0 0)) _ (fun k hk => by injection hk with hk; subst hk; exact .inr ⟨by omega, by omega⟩)).trans (Went.of_grown (setCell_grown (w6.setCell ⟨w.heap.size + 1, 0, none⟩ (.slice none 0 0)) (w.heap.size + 1) 1 (.slice none 0 0)) _ (fun k hk => by injection hk with hk; subst hk; exact .inr ⟨by omega, by omega⟩))
      have hb7 : Below w.heap.size w6 ((w6.setCell ⟨w.heap.size + 1, 0, none⟩ (.slice none 0 0)).setCell ⟨w.heap.size + 1, 1, none⟩ (.slice none 0 0)) :=
        ((Below.refl _ _).grown (setCell_grown w6 (w.heap.size + 1) 0 (.slice none 0 0)) (by have := hG.out.2.2; omega) (fun k hk => by injection hk with hk; omega)).grown (setCell_grown (w6.setCell ⟨w.heap.size + 1, 0, none⟩ (.slice none 0 0)) (w.heap.size + 1) 1 (.slice none 0 0)) (by have := hG.out.2.2; simp; omega) (fun k hk => by injection hk with hk; omega)
      have z1 : ((w6.setCell ⟨w.heap.size + 1, 0, none⟩ (.slice none 0 0)).setCell ⟨w.heap.size + 1, 1, none⟩ (.slice none 0 0)).cell? ⟨w.heap.size + 1, 0, none⟩ = some (.slice none 0 0) := by simp only [World.cell?, h7]; rfl
      have z2 : ((w6.setCell ⟨w.heap.size + 1, 0, none⟩ (.slice none 0 0)).setCell ⟨w.heap.size + 1, 1, none⟩ (.slice none 0 0)).cell? ⟨w.heap.size + 1, 1, none⟩ = some (.slice none 0 0) := by simp only [World.cell?, h7]; rfl
      generalize (w6.setCell ⟨w.heap.size + 1, 0, none⟩ (.slice none 0 0)).setCell ⟨w.heap.size + 1, 1, none⟩ (.slice none 0 0) = w7 at hg7 hb7 z1 z2 ⊢
      refine bodyPost_ret (v := .tuple #[.agg #[(.slice none 0 0), (.slice none 0 0)], .int .i64 9]) (by simp [results, Tryz.results34, go_sem, z1, z2]) rfl ?_
      exact ⟨⟨_, by rw [hR3.out], by rw [hR3.out]; exact ⟨none, 0, none, 0, rfl, Sl.nil _ _, Sl.nil _ _⟩⟩, (hB3.call hb6).trans hb7⟩
end Go.Proofs.YtfciagcmggdldaaGreatDoor
