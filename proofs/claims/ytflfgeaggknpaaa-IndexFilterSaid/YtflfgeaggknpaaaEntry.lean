/-
  'm[k] = append(m[k], ..)': the entry's place taken first, the value stored into it later. Nothing of the program is named here.
-/
import Derived.Test.YtflfgeaggknpaaaMaps
import Derived.WideKeyEntry
namespace Go.Proofs.Ytflfgeaggknpaaa
open Go.RowKit
open Go.Maps (Keyed)

section
variable {K V : Type} [DecidableEq K] {enc : K → Value} {R R' : Value → V → Prop} {r : Nat} {kvs : List (K × V)}

theorem mset_absent {k : K} {x : V} (h : k ∉ kvs.map (·.1)) : mset kvs k x = kvs ++ [(k, x)] := by
  induction kvs with
  | nil => rfl
  | cons a r ih =>
    obtain ⟨a1, a2⟩ := a
    simp only [List.map_cons, List.mem_cons, not_or] at h
    rw [mset, if_neg (fun e => h.1 e.symm), ih h.2]; rfl
theorem mset_there {k : K} {x y : V} {j : Nat} (hn : (kvs.map (·.1)).Nodup) (h : kvs[j]? = some (k, y)) : mset kvs k x = kvs.set j (k, x) := by
  induction kvs generalizing j with
  | nil => simp at h
  | cons a r ih =>
    obtain ⟨a1, a2⟩ := a
    cases j with
    | zero => simp at h; rw [mset, if_pos h.1]; rfl
    | succ j =>
      simp only [List.getElem?_cons_succ] at h
      rw [List.map_cons, List.nodup_cons] at hn
      have hne : a1 ≠ k := fun e => hn.1 (by rw [e]; exact List.mem_map.2 ⟨_, List.mem_of_getElem? h, rfl⟩)
      rw [mset, if_neg hne, ih hn.2 h]; rfl
theorem mem_mset {k : K} {x : V} (hn : (kvs.map (·.1)).Nodup) {kv : K × V} (h : kv ∈ mset kvs k x) : kv = (k, x) ∨ (kv ∈ kvs ∧ kv.1 ≠ k) := by
  induction kvs with
  | nil => simp [mset] at h; exact .inl h
  | cons a r ih =>
    obtain ⟨a1, a2⟩ := a
    rw [List.map_cons, List.nodup_cons] at hn
    unfold mset at h
    by_cases e : a1 = k
    · rw [if_pos e] at h
      rcases List.mem_cons.1 h with h | h
      · exact .inl h
      · exact .inr ⟨List.mem_cons_of_mem _ h, fun e2 => hn.1 (by rw [e, ← e2]; exact List.mem_map.2 ⟨_, h, rfl⟩)⟩
    · rw [if_neg e] at h
      rcases List.mem_cons.1 h with h | h
      · subst h; exact .inr ⟨by simp, e⟩
      · rcases ih hn.2 h with h | ⟨h1, h2⟩
        · exact .inl h
        · exact .inr ⟨List.mem_cons_of_mem _ h1, h2⟩

/-- What the cells of a map's block say. -/
def EntriesAt (enc : K → Value) (R : Value → V → Prop) (es : Array MapEntry) (clock : Nat) (kvs : List (K × V)) : Prop :=
  es.size = kvs.length ∧ (∀ (i : Nat) (e : MapEntry) (kv : K × V), es[i]? = some e → kvs[i]? = some kv → e.key = enc kv.1 ∧ R e.val kv.2) ∧
    (kvs.map (·.1)).Nodup ∧ (∀ (i : Nat) (e : MapEntry), es[i]? = some e → e.born < clock) ∧ (∀ (i j : Nat) (e f : MapEntry), es[i]? = some e → es[j]? = some f → e.born = f.born → i = j)

theorem entries_push {es : Array MapEntry} {clock : Nat} (h : EntriesAt enc R es clock kvs) {k : K} (hk : k ∉ kvs.map (·.1)) (hR : ∀ v kv, kv ∈ kvs → kv.1 ≠ k → R v kv.2 → R' v kv.2) {val : Value} {y : V} (hv : R' val y) :
    EntriesAt enc R' (es.push { key := enc k, val := val, born := clock }) (clock + 1) (mset kvs k y) := by
  obtain ⟨hs, he, hn, hbo, hbu⟩ := h
  have hms := mset_absent (x := y) hk
  refine ⟨by simp [hs, hms], fun i f kv hf hkv => ?_, mset_nodup hn k y, fun i f hf => ?_, fun i i' f f' hf hf' hbb => ?_⟩
  · rw [hms] at hkv
    rw [Array.getElem?_push] at hf
    rw [List.getElem?_append] at hkv
    by_cases hi : i = es.size
    · rw [if_pos hi] at hf
      rw [if_neg (by omega), hi, hs, Nat.sub_self] at hkv
      injection hf with hf; subst hf
      simp at hkv; subst hkv
      exact ⟨rfl, hv⟩
    · rw [if_neg hi] at hf
      have hil : i < es.size := (Array.getElem?_eq_some_iff.1 hf).1
      rw [if_pos (by omega)] at hkv
      have hmem := List.mem_of_getElem? hkv
      exact ⟨(he i f kv hf hkv).1, hR _ _ hmem (fun e => hk (by rw [← e]; exact List.mem_map.2 ⟨_, hmem, rfl⟩)) (he i f kv hf hkv).2⟩
  · rw [Array.getElem?_push] at hf
    by_cases hi : i = es.size
    · rw [if_pos hi] at hf; injection hf with hf; subst hf; exact Nat.lt_succ_self _
    · rw [if_neg hi] at hf; exact Nat.lt_succ_of_lt (hbo i f hf)
  · rw [Array.getElem?_push] at hf hf'
    by_cases hi : i = es.size <;> by_cases hi' : i' = es.size
    · omega
    · rw [if_pos hi] at hf; rw [if_neg hi'] at hf'
      injection hf with hf; subst hf
      have := hbo i' f' hf'
      simp at hbb; omega
    · rw [if_neg hi] at hf; rw [if_pos hi'] at hf'
      injection hf' with hf'; subst hf'
      have := hbo i f hf
      simp at hbb; omega
    · rw [if_neg hi] at hf; rw [if_neg hi'] at hf'
      exact hbu i i' f f' hf hf' hbb

theorem entries_modify {es : Array MapEntry} {clock : Nat} (h : EntriesAt enc R es clock kvs) {k : K} {j : Nat} {e : MapEntry} {x : V} (h2 : es[j]? = some e) (h3 : kvs[j]? = some (k, x)) (h4 : e.key = enc k) (hR : ∀ v kv, kv ∈ kvs → kv.1 ≠ k → R v kv.2 → R' v kv.2) {val : Value} {y : V} (hv : R' val y) :
    EntriesAt enc R' (es.modify j fun e => { e with val := val }) clock (mset kvs k y) := by
  obtain ⟨hs, he, hn, hbo, hbu⟩ := h
  have hms := mset_there (x := y) hn h3
  have hjl : j < es.size := (Array.getElem?_eq_some_iff.1 h2).1
  refine ⟨by simp [hs, hms], fun i f kv hf hkv => ?_, mset_nodup hn k y, fun i f hf => ?_, fun i i' f f' hf hf' hbb => ?_⟩
  · rw [hms, List.getElem?_set] at hkv
    rw [Array.getElem?_modify] at hf
    by_cases hi : j = i
    · subst hi
      rw [if_pos rfl, h2] at hf
      rw [if_pos rfl, if_pos (by omega)] at hkv
      simp at hf hkv
      subst hf; subst hkv
      exact ⟨h4, hv⟩
    · rw [if_neg hi] at hf hkv
      have hne : kv.1 ≠ k := by
        intro e2
        have a1 : (kvs.map (·.1))[i]? = some k := by rw [List.getElem?_map, hkv, ← e2]; rfl
        have a2 : (kvs.map (·.1))[j]? = some k := by rw [List.getElem?_map, h3]; rfl
        have hil := (List.getElem?_eq_some_iff.1 a1).1
        exact hi (((List.getElem?_inj hil hn).1 (a1.trans a2.symm)).symm)
      exact ⟨(he i f kv hf hkv).1, hR _ _ (List.mem_of_getElem? hkv) hne (he i f kv hf hkv).2⟩
  · rw [Array.getElem?_modify] at hf
    by_cases hi : j = i
    · subst hi
      rw [if_pos rfl, h2] at hf
      simp at hf; subst hf
      exact hbo j e h2
    · rw [if_neg hi] at hf; exact hbo i f hf
  · have key : ∀ (i : Nat) (f : MapEntry), (es.modify j fun e => { e with val := val })[i]? = some f → ∃ g, es[i]? = some g ∧ g.born = f.born := by
      intro i f hf
      rw [Array.getElem?_modify] at hf
      by_cases hi : j = i
      · subst hi
        rw [if_pos rfl, h2] at hf
        simp at hf; subst hf
        exact ⟨e, h2, rfl⟩
      · rw [if_neg hi] at hf; exact ⟨f, hf, rfl⟩
    obtain ⟨g, hg, hgb⟩ := key i f hf
    obtain ⟨g', hg', hgb'⟩ := key i' f' hf'
    exact hbu i i' g g' hg hg' (by rw [hgb, hgb', hbb])

theorem find_born {es : Array MapEntry} {j : Nat} {e : MapEntry} (hu : ∀ (i j : Nat) (e f : MapEntry), es[i]? = some e → es[j]? = some f → e.born = f.born → i = j) (h : es[j]? = some e) :
    es.findIdx? (fun f => ((f.born : Nat) : Int) == ((e.born : Nat) : Int)) = some j := by
  rw [WideElems.findIdx_arr]
  refine WideElems.findIdx_born ?_ (by simpa using h)
  rw [List.nodup_iff_pairwise_ne, List.pairwise_iff_getElem]
  intro a b ha hb hlt hab
  simp at ha hb hab
  have := hu a b es[a] es[b] (Array.getElem?_eq_getElem ha) (Array.getElem?_eq_getElem hb) hab
  omega

theorem run_mapEntry {P : Program} {t kt et : TypeId} (ht : P.underlying t = some (.map kt et)) {ok : K → Prop} (O : KeyOk P kt enc ok) (hok : ∀ kv ∈ kvs, ok kv.1) {w : World} (h : MapAt w enc R r kvs) (k : K) (hkk : ok k) {z : Value} (hz : ∀ u : World, (zeroValue et).run P u = .ok z u) :
    ∃ (v0 : Value) (st : Nat) (es1 : Array MapEntry) (clock1 : Nat),
      (∀ u : World, u.heap[r]? = w.heap[r]? → (Instr.mapEntry t (.map (some r)) (enc k)).run P u = .ok (.tuple #[v0, goInt st]) (World.putObj u r (.map es1 clock1))) ∧
      (mget kvs k = none ∧ v0 = z ∨ ∃ x, mget kvs k = some x ∧ R v0 x) ∧
      ∀ (u : World) (R' : Value → V → Prop) (val : Value) (y : V), u.heap[r]? = some (.map es1 clock1) → (∀ v kv, kv ∈ kvs → kv.1 ≠ k → R v kv.2 → R' v kv.2) → R' val y →
        ∃ o, (Instr.entryStore t (.map (some r)) (goInt st) val).run P u = .ok () (World.putObj u r o) ∧ MapAt (World.putObj u r o) enc R' r (mset kvs k y) := by
  obtain ⟨es, clock, hb, hE⟩ := h
  obtain ⟨hs, he, hn, hbo, hbu⟩ := id hE
  obtain ⟨l, hl⟩ := O.lit k hkk
  have hu : ∀ {u : World}, u.heap[r]? = w.heap[r]? → u.heap[r]? = some (.map es clock) := fun h => h.trans hb
  rcases find_key O hok hs he w k hkk with ⟨h1, h2⟩ | ⟨j, e, x, h1, h2, h3, h4, h5⟩
  · refine ⟨z, clock, es.push ⟨enc k, z, clock⟩, clock + 1, fun u hw => ?_, .inl ⟨mget_none.2 h2, rfl⟩, fun u R' val y hw hR hv => ?_⟩
    · have h1' : (Instr.findKey kt (enc k) es.toList).run P u = .ok none u := by
        rcases find_key O hok hs he u k hkk with ⟨g1, _⟩ | ⟨j', e', x', _, _, g3, _, _⟩
        · exact g1
        · exact absurd (List.mem_map.2 ⟨_, List.mem_of_getElem? g3, rfl⟩) h2
      simp [Instr.mapEntry, run_underlying ht, MapKept.run_getObj_map (hu hw), O.keyed.check u false hl, h1', hz, MapKept.run_setObj_map _ (hu hw), Result.andThen]
      rfl
    · have hlt : r < u.heap.size := (Array.getElem?_eq_some_iff.1 hw).1
      have hidx : (es.push ⟨enc k, z, clock⟩).findIdx? (fun e => ((e.born : Nat) : Int) == ((clock : Nat) : Int)) = some es.size := by
        have hE1 := entries_push (R' := fun _ _ => True) hE h2 (fun _ _ _ _ _ => trivial) (val := z) (y := y) trivial
        exact find_born hE1.2.2.2.2 (e := ⟨enc k, z, clock⟩) (by simp)
      have hmod : (es.push ⟨enc k, z, clock⟩).modify es.size (fun e => { e with val := val }) = es.push ⟨enc k, val, clock⟩ := by
        apply Array.ext'
        rw [Array.toList_modify, Array.toList_push, Array.toList_push, ← Array.length_toList, WideElems.modify_last]
      refine ⟨.map (es.push ⟨enc k, val, clock⟩) (clock + 1), ?_, _, _, putObj_same hlt, entries_push hE h2 hR hv⟩
      simp [Instr.entryStore, MapKept.run_getObj_map hw, asInt, asIntOf, goInt, hidx, hmod, MapKept.run_setObj_map _ hw, Result.andThen]
      rfl
  · have hks : ((es[j]?).map (·.key)).getD (enc k) = enc k := by rw [h2]; exact h4
    have hbs : goInt ((Option.map (fun x => ((x.born : Nat) : Int)) es[j]?).getD 0) = goInt ((e.born : Nat) : Int) := by rw [h2]; rfl
    have hsame : es.modify j (fun e => { e with key := enc k }) = es := by
      apply Array.ext'
      have h2' : es.toList[j]? = some e := by simpa using h2
      rw [Array.toList_modify, ChangeMaps.modify_eq_set _ _ _ _ h2']
      have : ({ e with key := enc k } : MapEntry) = e := by rw [← h4]
      rw [this]
      exact WideElems.set_self _ _ _ h2'
    refine ⟨e.val, e.born, es, clock, fun u hw => ?_, .inr ⟨x, mget_at hn h3, h5⟩, fun u R' val y hw hR hv => ?_⟩
    · have h1' : (Instr.findKey kt (enc k) es.toList).run P u = .ok (some (j, e.val)) u := by
        rcases find_key O hok hs he u k hkk with ⟨_, g2⟩ | ⟨j', e', x', g1, g2, g3, _, _⟩
        · exact absurd (List.mem_map.2 ⟨_, List.mem_of_getElem? h3, rfl⟩) g2
        · have a1 : (kvs.map (·.1))[j']? = some k := by rw [List.getElem?_map, g3]; rfl
          have a2 : (kvs.map (·.1))[j]? = some k := by rw [List.getElem?_map, h3]; rfl
          have hil := (List.getElem?_eq_some_iff.1 a1).1
          have e0 := (List.getElem?_inj hil hn).1 (a1.trans a2.symm)
          subst e0
          rw [h2] at g2; injection g2 with g2; subst g2
          exact g1
      simp [Instr.mapEntry, run_underlying ht, MapKept.run_getObj_map (hu hw), O.keyed.check u false hl, h1', hks, hbs, O.keyed.stays u hl, hsame, MapKept.run_setObj_map _ (hu hw), Result.andThen]
      try rfl
    · have hlt : r < u.heap.size := (Array.getElem?_eq_some_iff.1 hw).1
      have hidx := find_born hbu h2
      refine ⟨.map (es.modify j fun e => { e with val := val }) clock, ?_, _, _, putObj_same hlt, entries_modify hE h2 h3 h4 hR hv⟩
      simp [Instr.entryStore, MapKept.run_getObj_map hw, asInt, asIntOf, goInt, hidx, MapKept.run_setObj_map _ hw, Result.andThen]
      rfl
end
end Go.Proofs.Ytflfgeaggknpaaa
