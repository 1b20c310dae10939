/-
  A map in memory, read as a list of keys and values; what a look-up, a store, a deletion and a length come to. Nothing of the program is named here.
-/
import Derived.Test.YtfciagcmggdldaaGreatDoorBase
import Derived.Maps.Keyed
import Derived.Maps.RangeRun
namespace Go.Proofs.YtfciagcmggdldaaGreatDoor
open Go.RowKit
open Go.Maps (Keyed)

section
variable {K V : Type} [DecidableEq K]

def mget : List (K × V) → K → Option V
  | [], _ => none
  | (k', v) :: r, k => if k' = k then some v else mget r k
def mset : List (K × V) → K → V → List (K × V)
  | [], k, v => [(k, v)]
  | (k', v') :: r, k, v => if k' = k then (k, v) :: r else (k', v') :: mset r k v
def mdel : List (K × V) → K → List (K × V)
  | [], _ => []
  | (k', v') :: r, k => if k' = k then r else (k', v') :: mdel r k

theorem mget_mset (l : List (K × V)) (k k' : K) (v : V) : mget (mset l k v) k' = if k = k' then some v else mget l k' := by
  induction l with
  | nil => simp only [mset, mget]
  | cons x r ih =>
    obtain ⟨a, b⟩ := x
    unfold mset
    by_cases h : a = k
    · rw [if_pos h]
      simp only [mget]
      by_cases h2 : k = k'
      · rw [if_pos h2, if_pos h2]
      · rw [if_neg h2, if_neg h2, if_neg (by rw [h]; exact h2)]
    · rw [if_neg h]
      simp only [mget]
      by_cases h2 : a = k'
      · rw [if_pos h2, if_pos h2, if_neg (fun e => h (h2.trans e.symm))]
      · rw [if_neg h2, if_neg h2, ih]
theorem mget_none {l : List (K × V)} {k : K} : mget l k = none ↔ k ∉ l.map (·.1) := by
  induction l with
  | nil => simp [mget]
  | cons x r ih =>
    obtain ⟨a, b⟩ := x
    unfold mget
    by_cases h : a = k
    · rw [if_pos h]; simp [h]
    · rw [if_neg h, ih]; simp [Ne.symm h]
theorem mget_mem {l : List (K × V)} {k : K} {v : V} (h : mget l k = some v) : (k, v) ∈ l := by
  induction l with
  | nil => cases h
  | cons x r ih =>
    obtain ⟨a, b⟩ := x
    unfold mget at h
    by_cases e : a = k
    · rw [if_pos e] at h; injection h with h; subst h; subst e; simp
    · rw [if_neg e] at h; exact List.mem_cons_of_mem _ (ih h)
theorem mget_of_mem {l : List (K × V)} {k : K} {v : V} (hn : (l.map (·.1)).Nodup) (h : (k, v) ∈ l) : mget l k = some v := by
  induction l with
  | nil => cases h
  | cons x r ih =>
    obtain ⟨a, b⟩ := x
    rw [List.map_cons, List.nodup_cons] at hn
    unfold mget
    rcases List.mem_cons.1 h with h | h
    · cases h; rw [if_pos rfl]
    · rw [if_neg (fun e => hn.1 (by rw [e]; exact List.mem_map.2 ⟨_, h, rfl⟩))]
      exact ih hn.2 h
theorem mset_keys (l : List (K × V)) (k : K) (v : V) : (mset l k v).map (·.1) = if k ∈ l.map (·.1) then l.map (·.1) else l.map (·.1) ++ [k] := by
  induction l with
  | nil => simp [mset]
  | cons x r ih =>
    obtain ⟨a, b⟩ := x
    unfold mset
    by_cases h : a = k
    · rw [if_pos h]; subst h; simp
    · rw [if_neg h, List.map_cons, ih]
      have : (k = a) = False := by simp [Ne.symm h]
      by_cases hk : k ∈ r.map (·.1)
      · rw [if_pos hk, if_pos (by simp [hk])]; rfl
      · rw [if_neg hk, if_neg (by simp only [List.map_cons, List.mem_cons, this, false_or]; exact hk)]; rfl
theorem mset_nodup {l : List (K × V)} (h : (l.map (·.1)).Nodup) (k : K) (v : V) : ((mset l k v).map (·.1)).Nodup := by
  rw [mset_keys]
  by_cases hk : k ∈ l.map (·.1)
  · rw [if_pos hk]; exact h
  · rw [if_neg hk]
    rw [List.nodup_append]
    exact ⟨h, by simp, fun a ha b hb e => hk (by simp at hb; subst hb; subst e; exact ha)⟩

end

section
variable {K V : Type}
/-- The block r is a map that holds just these keys and values. -/
def MapAt (w : World) (enc : K → Value) (R : Value → V → Prop) (r : Nat) (kvs : List (K × V)) : Prop :=
  ∃ es clock, w.heap[r]? = some (.map es clock) ∧ es.size = kvs.length ∧ (∀ (i : Nat) (e : MapEntry) (kv : K × V), es[i]? = some e → kvs[i]? = some kv → e.key = enc kv.1 ∧ R e.val kv.2) ∧
    (kvs.map (·.1)).Nodup ∧ (∀ (i : Nat) (e : MapEntry), es[i]? = some e → e.born < clock) ∧ (∀ (i j : Nat) (e f : MapEntry), es[i]? = some e → es[j]? = some f → e.born = f.born → i = j)

variable {w w' : World} {enc : K → Value} {R R' : Value → V → Prop} {r : Nat} {kvs : List (K × V)}

theorem MapAt.lt (h : MapAt w enc R r kvs) : r < w.heap.size := by
  obtain ⟨es, clock, hb, _⟩ := h
  exact (Array.getElem?_eq_some_iff.1 hb).1
theorem MapAt.of_block (h : MapAt w enc R r kvs) (hb : w'.heap[r]? = w.heap[r]?) : MapAt w' enc R r kvs := by
  obtain ⟨es, clock, h1, h2⟩ := h
  exact ⟨es, clock, hb.trans h1, h2⟩
theorem MapAt.mono (h : MapAt w enc R r kvs) (hR : ∀ v kv, kv ∈ kvs → R v kv.2 → R' v kv.2) : MapAt w enc R' r kvs := by
  obtain ⟨es, clock, h1, h2, h3, h4⟩ := h
  exact ⟨es, clock, h1, h2, fun i e kv he hk => ⟨(h3 i e kv he hk).1, hR _ _ (List.mem_of_getElem? hk) (h3 i e kv he hk).2⟩, h4⟩
theorem MapAt.nodup (h : MapAt w enc R r kvs) : (kvs.map (·.1)).Nodup := by
  obtain ⟨es, clock, h1, h2, h3, h4, h5⟩ := h
  exact h4
theorem MapAt.made (w : World) (enc : K → Value) (R : Value → V → Prop) : MapAt (w.alloc (.map #[] 0)) enc R w.heap.size ([] : List (K × V)) :=
  ⟨#[], 0, heap_alloc_new w _, rfl, by simp, by simp, by simp, by simp⟩

/-- What is asked of the keys' type. -/
structure KeyOk (P : Program) (kt : TypeId) (enc : K → Value) (ok : K → Prop) : Prop where
  keyed : Keyed P kt
  inj : ∀ a b, enc a = enc b → a = b
  lit : ∀ a, ok a → ∃ l, keyOf P kt (enc a) = some l

theorem mget_at [DecidableEq K] {kvs : List (K × V)} {j : Nat} {kv : K × V} (hn : (kvs.map (·.1)).Nodup) (h : kvs[j]? = some kv) : mget kvs kv.1 = some kv.2 := mget_of_mem hn (List.mem_of_getElem? h)

theorem find_key {P : Program} {kt : TypeId} {ok : K → Prop} (O : KeyOk P kt enc ok) (hok : ∀ kv ∈ kvs, ok kv.1) {es : Array MapEntry} (hs : es.size = kvs.length) (he : ∀ (i : Nat) (e : MapEntry) (kv : K × V), es[i]? = some e → kvs[i]? = some kv → e.key = enc kv.1 ∧ R e.val kv.2) (w : World) (k : K) (hkk : ok k) :
    ((Instr.findKey kt (enc k) es.toList).run P w = .ok none w ∧ k ∉ kvs.map (·.1)) ∨
    ∃ j e x, (Instr.findKey kt (enc k) es.toList).run P w = .ok (some (j, e.val)) w ∧ es[j]? = some e ∧ kvs[j]? = some (k, x) ∧ e.key = enc k ∧ R e.val x := by
  obtain ⟨l, hl⟩ := O.lit k hkk
  have hall : ∀ e ∈ es.toList, ∃ l, keyOf P kt e.key = some l := by
    intro e hem
    obtain ⟨i, hi⟩ := List.mem_iff_getElem?.1 hem
    rw [Array.getElem?_toList] at hi
    have hil : i < kvs.length := by rw [← hs]; exact (Array.getElem?_eq_some_iff.1 hi).1
    rw [(he i e _ hi (List.getElem?_eq_getElem hil)).1]
    exact O.lit _ (hok _ (List.getElem_mem hil))
  rcases O.keyed.find w hl es.toList hall with ⟨h1, h2⟩ | ⟨j, e, h1, h2, h3⟩
  · refine .inl ⟨h1, fun hk => ?_⟩
    obtain ⟨kv, hkv, rfl⟩ := List.mem_map.1 hk
    obtain ⟨i, hi⟩ := List.mem_iff_getElem?.1 hkv
    have hil : i < es.size := by rw [hs]; exact (List.getElem?_eq_some_iff.1 hi).1
    have hei : es[i]? = some es[i] := Array.getElem?_eq_getElem hil
    exact h2 _ (List.mem_of_getElem? (by rw [Array.getElem?_toList]; exact hei)) (he i _ kv hei hi).1
  · rw [Array.getElem?_toList] at h2
    have hjl : j < kvs.length := by rw [← hs]; exact (Array.getElem?_eq_some_iff.1 h2).1
    have hkj := List.getElem?_eq_getElem hjl
    obtain ⟨h4, h5⟩ := he j e _ h2 hkj
    have hk : (kvs[j]).1 = k := O.inj _ _ (h4.symm.trans h3)
    refine .inr ⟨j, e, (kvs[j]).2, h1, h2, ?_, h3, h5⟩
    rw [hkj, ← hk]

theorem run_lookup_map [DecidableEq K] {P : Program} {t kt et : TypeId} (ht : P.underlying t = some (.map kt et)) {ok : K → Prop} (O : KeyOk P kt enc ok) (hok : ∀ kv ∈ kvs, ok kv.1) (h : MapAt w enc R r kvs) (k : K) (hkk : ok k) {z : Value} (hz : (zeroValue et).run P w = .ok z w) (commaOk : Bool) :
    ∃ v, (Instr.lookup t (.map (some r)) (enc k) commaOk).run P w = .ok (if commaOk then .tuple #[v, .bool (mget kvs k).isSome] else v) w ∧ (mget kvs k = none ∧ v = z ∨ ∃ x, mget kvs k = some x ∧ R v x) := by
  obtain ⟨es, clock, hb, hs, he, hn, _⟩ := h
  obtain ⟨l, hl⟩ := O.lit k hkk
  have hc := O.keyed.check w es.isEmpty hl
  rcases find_key O hok hs he w k hkk with ⟨h1, h2⟩ | ⟨j, e, x, h1, h2, h3, h4, h5⟩
  · have hm : mget kvs k = none := mget_none.2 h2
    refine ⟨z, ?_, .inl ⟨hm, rfl⟩⟩
    simp [Instr.lookup, run_underlying ht, MapKept.run_getObj_map hb, hc, h1, hz, hm, Result.andThen]
  · have hm : mget kvs k = some x := mget_at hn h3
    refine ⟨e.val, ?_, .inr ⟨x, hm, h5⟩⟩
    simp [Instr.lookup, run_underlying ht, MapKept.run_getObj_map hb, hc, h1, hm, Result.andThen]

theorem run_lookup_nil {P : Program} {t kt et : TypeId} (ht : P.underlying t = some (.map kt et)) {ok : K → Prop} (O : KeyOk P kt enc ok) (w : World) (k : K) (hkk : ok k) {z : Value} (hz : (zeroValue et).run P w = .ok z w) (commaOk : Bool) :
    (Instr.lookup t (.map none) (enc k) commaOk).run P w = .ok (if commaOk then .tuple #[z, .bool false] else z) w := by
  obtain ⟨l, hl⟩ := O.lit k hkk
  have hc := O.keyed.check w true hl
  rcases O.keyed.find w hl [] (by simp) with ⟨h1, _⟩ | ⟨j, e, _, h2, _⟩
  · simp [Instr.lookup, run_underlying ht, hc, h1, hz, Result.andThen]
  · simp at h2

/-- The world with one block put in another's place. -/
def World.putObj (w : World) (r : Nat) (o : Obj) : World := { w with heap := w.heap.setIfInBounds r o }
theorem putObj_same {r : Nat} {o : Obj} (h : r < w.heap.size) : (World.putObj w r o).heap[r]? = some o := by
  show (w.heap.setIfInBounds r o)[r]? = some o
  rw [Array.getElem?_setIfInBounds_self_of_lt h]
theorem putObj_grown (w : World) (r : Nat) (o : Obj) : w.grownBy (World.putObj w r o) (some r) :=
  ⟨rfl, rfl, rfl, by simp [World.putObj], fun k hk hne => by
    show (w.heap.setIfInBounds r o)[k]? = _
    rw [Array.getElem?_setIfInBounds_ne (fun e => hne (by rw [e]))]⟩

theorem run_mapUpdate_map [DecidableEq K] {P : Program} {t kt et : TypeId} (ht : P.underlying t = some (.map kt et)) {ok : K → Prop} (O : KeyOk P kt enc ok) (hok : ∀ kv ∈ kvs, ok kv.1) (h : MapAt w enc R r kvs) (k : K) (hkk : ok k) (v : Value) (x : V) (hv : R v x) :
    ∃ w', (Instr.mapUpdate t (.map (some r)) (enc k) v).run P w = .ok () w' ∧ MapAt w' enc R r (mset kvs k x) ∧ w.grownBy w' (some r) := by
  have hlt := h.lt
  obtain ⟨es, clock, hb, hs, he, hn, hbo, hbu⟩ := h
  obtain ⟨l, hl⟩ := O.lit k hkk
  have hc := O.keyed.check w false hl
  have hst := O.keyed.stays w hl
  rcases find_key O hok hs he w k hkk with ⟨h1, h2⟩ | ⟨j, e, y, h1, h2, h3, h4, h5⟩
  · refine ⟨World.putObj w r (.map (es.push { key := enc k, val := v, born := clock }) (clock + 1)), ?_, ?_, putObj_grown w r _⟩
    · simp [Instr.mapUpdate, run_underlying ht, MapKept.run_getObj_map hb, hc, h1, Result.andThen, MapKept.run_setObj_map _ hb]
      rfl
    · have hms : mset kvs k x = kvs ++ [(k, x)] := by
        clear hn he hs h1 hok
        induction kvs with
        | nil => rfl
        | cons a r ih =>
          obtain ⟨a1, a2⟩ := a
          simp only [List.map_cons, List.mem_cons, not_or] at h2
          rw [mset, if_neg (fun e => h2.1 e.symm), ih h2.2]; rfl
      refine ⟨_, _, putObj_same hlt, by simp [hs, hms], fun i f kv hf hkv => ?_, mset_nodup hn k x, fun i f hf => ?_, fun i i' f f' hf hf' hbb => ?_⟩
      · rw [hms] at hkv
        rw [Array.getElem?_push] at hf
        rw [List.getElem?_append] at hkv
        by_cases hi : i = es.size
        · rw [if_pos hi] at hf
          rw [if_neg (by omega), hi, hs, Nat.sub_self] at hkv
          injection hf with hf; subst hf
          simp at hkv; subst hkv
          exact ⟨rfl, hv⟩
        · rw [if_neg hi] at hf
          have hil : i < es.size := (Array.getElem?_eq_some_iff.1 hf).1
          rw [if_pos (by omega)] at hkv
          exact he i f kv hf hkv
      · rw [Array.getElem?_push] at hf
        by_cases hi : i = es.size
        · rw [if_pos hi] at hf; injection hf with hf; subst hf; exact Nat.lt_succ_self _
        · rw [if_neg hi] at hf; exact Nat.lt_succ_of_lt (hbo i f hf)
      · rw [Array.getElem?_push] at hf hf'
        by_cases hi : i = es.size <;> by_cases hi' : i' = es.size
        · omega
        · rw [if_pos hi] at hf; rw [if_neg hi'] at hf'
          injection hf with hf; subst hf
          have := hbo i' f' hf'
          simp at hbb; omega
        · rw [if_neg hi] at hf; rw [if_pos hi'] at hf'
          injection hf' with hf'; subst hf'
          have := hbo i f hf
          simp at hbb; omega
        · rw [if_neg hi] at hf; rw [if_neg hi'] at hf'
          exact hbu i i' f f' hf hf' hbb
  · have hjl : j < es.size := (Array.getElem?_eq_some_iff.1 h2).1
    have hks : ((es[j]?).map (·.key)).getD (enc k) = enc k := by rw [h2]; exact h4
    refine ⟨World.putObj w r (.map (es.modify j fun e => { e with key := enc k, val := v }) clock), ?_, ?_, putObj_grown w r _⟩
    · simp [Instr.mapUpdate, run_underlying ht, MapKept.run_getObj_map hb, hc, h1, Result.andThen, MapKept.run_setObj_map _ hb, hks, hst]
      rfl
    · have hms : mset kvs k x = kvs.set j (k, x) := by
        clear he hs h1 h2 hjl hks hok
        induction kvs generalizing j with
        | nil => simp at h3
        | cons a r ih =>
          obtain ⟨a1, a2⟩ := a
          cases j with
          | zero => simp at h3; rw [mset, if_pos h3.1]; rfl
          | succ j =>
            simp only [List.getElem?_cons_succ] at h3
            rw [List.map_cons, List.nodup_cons] at hn
            have hne : a1 ≠ k := fun e => hn.1 (by rw [e]; exact List.mem_map.2 ⟨_, List.mem_of_getElem? h3, rfl⟩)
            rw [mset, if_neg hne, ih hn.2 j h3]; rfl
      refine ⟨_, _, putObj_same hlt, by simp [hs, hms], fun i f kv hf hkv => ?_, mset_nodup hn k x, fun i f hf => ?_, fun i i' f f' hf hf' hbb => ?_⟩
      · rw [hms, List.getElem?_set] at hkv
        rw [Array.getElem?_modify] at hf
        by_cases hi : j = i
        · subst hi
          rw [if_pos rfl, h2] at hf
          rw [if_pos rfl, if_pos (by omega)] at hkv
          simp at hf hkv
          subst hf; subst hkv
          exact ⟨rfl, hv⟩
        · rw [if_neg hi] at hf hkv
          exact he i f kv hf hkv
      · rw [Array.getElem?_modify] at hf
        by_cases hi : j = i
        · subst hi
          rw [if_pos rfl, h2] at hf
          simp at hf; subst hf
          exact hbo j e h2
        · rw [if_neg hi] at hf; exact hbo i f hf
      · have key : ∀ (i : Nat) (f : MapEntry), (es.modify j fun e => { e with key := enc k, val := v })[i]? = some f → ∃ g, es[i]? = some g ∧ g.born = f.born := by
          intro i f hf
          rw [Array.getElem?_modify] at hf
          by_cases hi : j = i
          · subst hi
            rw [if_pos rfl, h2] at hf
            simp at hf; subst hf
            exact ⟨e, h2, rfl⟩
          · rw [if_neg hi] at hf; exact ⟨f, hf, rfl⟩
        obtain ⟨g, hg, hgb⟩ := key i f hf
        obtain ⟨g', hg', hgb'⟩ := key i' f' hf'
        exact hbu i i' g g' hg hg' (by rw [hgb, hgb', hbb])

theorem wpList_mapUpdate_map [DecidableEq K] {P : Program} {ops : Array Oper} {rest : List Oper} {o : Oper} {a : Act} {Q : Exit → Act → World → Prop}
    (hg : o.guard = none) (m x v : Operand) (t : TypeId) (hop : o.op = Op.mapUpdate t m x v) {kt et : TypeId} (ht : P.underlying t = some (.map kt et)) {ok : K → Prop} (O : KeyOk P kt enc ok) (hok : ∀ kv ∈ kvs, ok kv.1) (h : MapAt w enc R r kvs)
    (hm : a.eval m = .map (some r)) (k : K) (hkk : ok k) (hx : a.eval x = enc k) (val : Value) (hv : a.eval v = val) (y : V) (hR : R val y)
    (hK : ∀ w', MapAt w' enc R r (mset kvs k y) → w.grownBy w' (some r) → wpList P ops Q rest (a.put o.dst undef) w') :
    wpList P ops Q (o :: rest) a w := by
  refine wpList_plain hg fun K' hK' => ?_
  obtain ⟨w', hrun, r1, r2⟩ := run_mapUpdate_map ht O hok h k hkk val y hR
  unfold Oper.wp
  simp [execOp, hop, hm, hx, hv, hrun, Result.andThen]
  exact hK' _ _ (hK w' r1 r2)
end

/-- Strings as keys. -/
theorem strKey {P : Program} {kt : TypeId} (hk : P.underlying kt = some .string) : KeyOk P kt Value.string (fun s => s.size ≤ maxLen) :=
  ⟨Maps.string_keyed hk, fun a b h => by injection h, fun a h => ⟨_, WideMaps.keyOf_string_mk hk h⟩⟩
end Go.Proofs.YtfciagcmggdldaaGreatDoor
