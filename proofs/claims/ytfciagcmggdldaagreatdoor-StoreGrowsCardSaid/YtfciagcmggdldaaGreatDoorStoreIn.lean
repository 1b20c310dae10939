/-
  A store in memory; store.New, Encode, more.
-/
import Derived.Test.YtfciagcmggdldaaGreatDoorDisk
import Derived.Test.YtfciagcmggdldaaGreatDoorMerge
import Derived.Test.YtfciagcmggdldaaGreatDoorCloneLab
import Derived.Test.YtfciagcmggdldaaGreatDoorConcatB
namespace Go.Proofs.YtfciagcmggdldaaGreatDoor
open Go.RowKit

/-- A series as a value. -/
def serR (w : World) (F : Nat → Prop) (val : Value) (s : Ser) : Prop :=
  ∃ A c A2 c2, val = .agg #[.slice A s.L.length c, .slice A2 s.S.length c2] ∧ Sl w F A s.L.length c s.L ∧ Sl w F A2 s.S.length c2 s.S
theorem serR.keep {w w' : World} {F F' : Nat → Prop} {val : Value} {s : Ser} (h : serR w F val s) (hk : Keep F w w' F') : serR w' F' val s := by
  obtain ⟨A, c, A2, c2, e, h1, h2⟩ := h
  exact ⟨A, c, A2, c2, e, h1.keep hk, h2.keep hk⟩
theorem serR.mono {w : World} {F F' : Nat → Prop} {val : Value} {s : Ser} (h : serR w F val s) (hF : ∀ k, F' k → F k) : serR w F' val s :=
  h.keep (fun k _ hn => ⟨rfl, fun hh => hn (hF k hh)⟩)

/-- A store: its struct at p, its map at r, its disk at d. -/
structure StoreIn (w : World) (M : Nat → Prop) (B p r d : Nat) (v : Value) (kvs : Kvs) (bs : List UInt8) (safe : Nat) : Prop where
  x : w.heap[p]? = some (.cells #[.map (some r), .pointer (some ⟨d, 0, none⟩)] 70 (0, 0))
  disk : DiskIn w B d v bs safe
  hp : B ≤ p
  hr : B ≤ r
  map : MapAt w Value.string (serR w fun k => M k ∨ k = p ∨ k = r ∨ Dset d v k) r kvs
  okk : ∀ kv ∈ kvs, kv.1.size ≤ maxLen
  vp : ¬ Dset d v p
  vr : ¬ Dset d v r

section
variable {w w' : World} {M : Nat → Prop} {B p r d safe : Nat} {v : Value} {kvs : Kvs} {bs : List UInt8}
theorem StoreIn.ltp (h : StoreIn w M B p r d v kvs bs safe) : p < w.heap.size := (Array.getElem?_eq_some_iff.1 h.x).1
theorem StoreIn.ltr (h : StoreIn w M B p r d v kvs bs safe) : r < w.heap.size := h.map.lt
theorem StoreIn.ne (h : StoreIn w M B p r d v kvs bs safe) : p ≠ r := by
  intro e
  obtain ⟨es, cl, hb, _⟩ := h.map
  rw [← e, h.x] at hb
  cases hb
theorem StoreIn.below (h : StoreIn w M B p r d v kvs bs safe) (hb : Below w.heap.size w w') : StoreIn w' M B p r d v kvs bs safe where
  x := (hb.block p h.ltp).trans h.x
  disk := h.disk.below hb
  hp := h.hp
  hr := h.hr
  map := (h.map.of_block (hb.block r h.ltr)).mono fun _ _ _ hs => hs.keep (.of_below hb _)
  okk := h.okk
  vp := h.vp
  vr := h.vr
theorem StoreIn.cells (h : StoreIn w M B p r d v kvs bs safe) : w.cell? ⟨p, 0, none⟩ = some (.map (some r)) ∧ w.cell? ⟨p, 1, none⟩ = some (.pointer (some ⟨d, 0, none⟩)) ∧ w.frozen? ⟨p, 0, none⟩ = false :=
  ⟨by simp [World.cell?, h.x], by simp [World.cell?, h.x], by simp [World.frozen?, h.x]⟩
end

theorem storeNew_calls (M : Nat → Prop) (w : World) : Calls Tryz.prog 23 #[] w fun e w' => e = .returned (.pointer (some ⟨w.heap.size + 2, 0, none⟩)) ∧ Below w.heap.size w w' ∧ StoreIn w' M w.heap.size (w.heap.size + 2) w.heap.size (w.heap.size + 1) (.slice none 0 0) [] [] 0 := by
  have hmk : ∀ W : World, (Instr.makeMap 67 none).run Tryz.prog W = .ok (.map (some W.heap.size)) (W.alloc (.map #[] 0)) := fun W => rfl
  go_enter Tryz.func23, Tryz.ntmps23
  go_wp2_with (go_at_call 50; refine (logNew_calls _).mono ?_; rintro e w' ⟨rfl, rfl⟩)
  go_ret
  refine ⟨by simp, (((Below.refl _ _).new _).new _).new _, ?_⟩
  refine ⟨?_, ⟨?_, Nat.le_succ _, Own.nil _ _ _ _, by simp [Value.ownBlock]⟩, by omega, Nat.le_refl _, ?_, by simp, ?_, ?_⟩
  · have := heap_alloc_new ((w.alloc (.map #[] 0)).alloc (.cells #[.slice none 0 0, .int .i64 0] 109)) (.cells #[.map (some w.heap.size), .pointer (some ⟨w.heap.size + 1, 0, none⟩)] 70 (0, 0))
    simpa using this
  · rw [Below.heap_alloc _ _ _ (by simp)]
    have := heap_alloc_new (w.alloc (.map #[] 0)) (.cells #[.slice none 0 0, .int .i64 0] 109 (0, 0))
    simpa using this
  · exact (MapAt.made w Value.string _).of_block (by rw [Below.heap_alloc _ _ _ (by simp; omega), Below.heap_alloc _ _ _ (by simp)])
  · simp [Dset, Value.ownBlock]
  · simp [Dset, Value.ownBlock]
end Go.Proofs.YtfciagcmggdldaaGreatDoor
