/-
  A store as plain data: samples merged, series by their texts; what puts come to, in whatever order. No program in sight.
-/
import Derived.Test.YtfciagcmggdldaaGreatDoorOne
import Derived.Test.YtfciagcmggdldaaGreatDoorMaps
namespace Go.Proofs.YtfciagcmggdldaaGreatDoor

/-! ### Samples -/

def Asc (l : List Smp) : Prop := l.Pairwise fun a b => a.T < b.T
def vAt : List Smp → Int → Option Int
  | [], _ => none
  | x :: r, t => if x.T = t then some x.V else vAt r t
def comb : Option Int → Option Int → Option Int
  | none, b => b
  | some a, none => some a
  | some a, some b => some (max a b)

def mergeGo : List Smp → List Smp → List Smp
  | [], b => b
  | x :: a, [] => x :: a
  | x :: a, y :: b => if x.T < y.T then x :: mergeGo a (y :: b) else if y.T < x.T then y :: mergeGo (x :: a) b else ⟨x.T, max x.V y.V⟩ :: mergeGo a b
termination_by a b => a.length + b.length

theorem mergeGo_nil_left (b : List Smp) : mergeGo [] b = b := by rw [mergeGo]
theorem mergeGo_nil_right (a : List Smp) : mergeGo a [] = a := by cases a <;> rw [mergeGo]
theorem mergeGo_lt {x y : Smp} {a b : List Smp} (h : x.T < y.T) : mergeGo (x :: a) (y :: b) = x :: mergeGo a (y :: b) := by rw [mergeGo, if_pos h]
theorem mergeGo_gt {x y : Smp} {a b : List Smp} (h : y.T < x.T) : mergeGo (x :: a) (y :: b) = y :: mergeGo (x :: a) b := by rw [mergeGo, if_neg (by omega), if_pos h]
theorem mergeGo_eq {x y : Smp} {a b : List Smp} (h : x.T = y.T) : mergeGo (x :: a) (y :: b) = ⟨x.T, max x.V y.V⟩ :: mergeGo a b := by rw [mergeGo, if_neg (by omega), if_neg (by omega)]

theorem vAt_lt {l : List Smp} {t : Int} (h : ∀ x ∈ l, t < x.T) : vAt l t = none := by
  induction l with
  | nil => rfl
  | cons x r ih =>
    have := h x (by simp)
    rw [vAt, if_neg (by omega)]
    exact ih fun y hy => h y (List.mem_cons_of_mem _ hy)
theorem vAt_mem {l : List Smp} {t v : Int} (h : vAt l t = some v) : ⟨t, v⟩ ∈ l := by
  induction l with
  | nil => cases h
  | cons x r ih =>
    rw [vAt] at h
    by_cases e : x.T = t
    · rw [if_pos e] at h; injection h with h; subst e; subst h; simp
    · rw [if_neg e] at h; exact List.mem_cons_of_mem _ (ih h)
theorem vAt_of_mem {l : List Smp} (ha : Asc l) {x : Smp} (h : x ∈ l) : vAt l x.T = some x.V := by
  induction l with
  | nil => cases h
  | cons y r ih =>
    rw [Asc, List.pairwise_cons] at ha
    rw [vAt]
    rcases List.mem_cons.1 h with rfl | h
    · rw [if_pos rfl]
    · have := ha.1 x h
      rw [if_neg (by omega)]
      exact ih ha.2 h
theorem asc_ext {a b : List Smp} (ha : Asc a) (hb : Asc b) (h : ∀ t, vAt a t = vAt b t) : a = b := by
  induction a generalizing b with
  | nil =>
    cases b with
    | nil => rfl
    | cons y b => have := h y.T; rw [vAt, vAt, if_pos rfl] at this; cases this
  | cons x a ih =>
    cases b with
    | nil => have := h x.T; rw [vAt, vAt, if_pos rfl] at this; cases this
    | cons y b =>
      rw [Asc, List.pairwise_cons] at ha hb
      have hx := h x.T
      have hy := h y.T
      rw [vAt, if_pos rfl, vAt] at hx
      have e : y.T = x.T := by
        by_cases e : y.T = x.T
        · exact e
        · rw [if_neg e] at hx
          have h1 := hb.1 _ (vAt_mem hx.symm)
          rw [vAt, vAt, if_pos rfl, if_neg (fun e2 => e e2.symm)] at hy
          have h2 := ha.1 _ (vAt_mem hy)
          simp only at h1 h2
          omega
      rw [if_pos e] at hx
      injection hx with hx
      have exy : x = y := by cases x; cases y; simp only at e hx; subst e; subst hx; rfl
      subst exy
      congr 1
      refine ih ha.2 hb.2 fun t => ?_
      have ht := h t
      by_cases e2 : x.T = t
      · rw [vAt_lt (fun z hz => by have := ha.1 z hz; omega), vAt_lt (fun z hz => by have := hb.1 z hz; omega)]
      · rw [vAt, vAt, if_neg e2, if_neg e2] at ht; exact ht
theorem comb_none (a : Option Int) : comb a none = a := by cases a <;> rfl
theorem merge_mem {x : Smp} {a b : List Smp} (h : x ∈ mergeGo a b) : ∃ y, (y ∈ a ∨ y ∈ b) ∧ y.T = x.T := by
  induction a, b using mergeGo.induct with
  | case1 b => rw [mergeGo_nil_left] at h; exact ⟨x, .inr h, rfl⟩
  | case2 y a => rw [mergeGo_nil_right] at h; exact ⟨x, .inl h, rfl⟩
  | case3 y a z b hlt ih =>
    rw [mergeGo_lt hlt] at h
    rcases List.mem_cons.1 h with rfl | h
    · exact ⟨x, .inl (by simp), rfl⟩
    · obtain ⟨u, hu, e⟩ := ih h
      exact ⟨u, hu.elim (fun h => .inl (List.mem_cons_of_mem _ h)) .inr, e⟩
  | case4 y a z b hn hlt ih =>
    rw [mergeGo_gt hlt] at h
    rcases List.mem_cons.1 h with rfl | h
    · exact ⟨x, .inr (by simp), rfl⟩
    · obtain ⟨u, hu, e⟩ := ih h
      exact ⟨u, hu.elim .inl (fun h => .inr (List.mem_cons_of_mem _ h)), e⟩
  | case5 y a z b hn hn2 ih =>
    rw [mergeGo_eq (by omega)] at h
    rcases List.mem_cons.1 h with rfl | h
    · exact ⟨y, .inl (by simp), rfl⟩
    · obtain ⟨u, hu, e⟩ := ih h
      exact ⟨u, hu.elim (fun h => .inl (List.mem_cons_of_mem _ h)) (fun h => .inr (List.mem_cons_of_mem _ h)), e⟩
theorem asc_merge {a b : List Smp} (ha : Asc a) (hb : Asc b) : Asc (mergeGo a b) := by
  induction a, b using mergeGo.induct with
  | case1 b => rw [mergeGo_nil_left]; exact hb
  | case2 y a => rw [mergeGo_nil_right]; exact ha
  | case3 y a z b hlt ih =>
    rw [mergeGo_lt hlt, Asc, List.pairwise_cons]
    have ha' := ha
    have hb' := hb
    rw [Asc, List.pairwise_cons] at ha hb
    refine ⟨fun x hx => ?_, ih ha.2 hb'⟩
    obtain ⟨u, hu, e⟩ := merge_mem hx
    rw [← e]
    rcases hu with hu | hu
    · exact ha.1 u hu
    · rcases List.mem_cons.1 hu with rfl | hu
      · exact hlt
      · have := hb.1 u hu; omega
  | case4 y a z b hn hlt ih =>
    rw [mergeGo_gt hlt, Asc, List.pairwise_cons]
    have ha' := ha
    rw [Asc, List.pairwise_cons] at ha hb
    refine ⟨fun x hx => ?_, ih ha' hb.2⟩
    obtain ⟨u, hu, e⟩ := merge_mem hx
    rw [← e]
    rcases hu with hu | hu
    · rcases List.mem_cons.1 hu with rfl | hu
      · exact hlt
      · have := ha.1 u hu; omega
    · exact hb.1 u hu
  | case5 y a z b hn hn2 ih =>
    rw [mergeGo_eq (by omega), Asc, List.pairwise_cons]
    rw [Asc, List.pairwise_cons] at ha hb
    refine ⟨fun x hx => ?_, ih ha.2 hb.2⟩
    obtain ⟨u, hu, e⟩ := merge_mem hx
    rw [← e]
    rcases hu with hu | hu
    · exact ha.1 u hu
    · have := hb.1 u hu; show y.T < u.T; omega
theorem vAt_merge {a b : List Smp} (ha : Asc a) (hb : Asc b) (t : Int) : vAt (mergeGo a b) t = comb (vAt a t) (vAt b t) := by
  induction a, b using mergeGo.induct with
  | case1 b => rw [mergeGo_nil_left]; rfl
  | case2 y a => rw [mergeGo_nil_right, show vAt [] t = none from rfl, comb_none]
  | case3 y a z b hlt ih =>
    have ha' := ha
    have hb' := hb
    rw [Asc, List.pairwise_cons] at ha hb
    rw [mergeGo_lt hlt, vAt, show vAt (y :: a) t = if y.T = t then some y.V else vAt a t from rfl]
    by_cases e : y.T = t
    · rw [if_pos e, if_pos e, vAt_lt (l := z :: b) (fun u hu => ?_), comb_none]
      rcases List.mem_cons.1 hu with rfl | hu
      · omega
      · have := hb.1 u hu; omega
    · rw [if_neg e, if_neg e]; exact ih ha.2 hb'
  | case4 y a z b hn hlt ih =>
    have ha' := ha
    rw [Asc, List.pairwise_cons] at ha hb
    rw [mergeGo_gt hlt, vAt, show vAt (z :: b) t = if z.T = t then some z.V else vAt b t from rfl]
    by_cases e : z.T = t
    · rw [if_pos e, if_pos e, vAt_lt (l := y :: a) (fun u hu => ?_)]
      · rfl
      rcases List.mem_cons.1 hu with rfl | hu
      · omega
      · have := ha.1 u hu; omega
    · rw [if_neg e, if_neg e]; exact ih ha' hb.2
  | case5 y a z b hn hn2 ih =>
    have hyz : y.T = z.T := by omega
    rw [Asc, List.pairwise_cons] at ha hb
    rw [mergeGo_eq hyz, vAt, show vAt (y :: a) t = if y.T = t then some y.V else vAt a t from rfl, show vAt (z :: b) t = if z.T = t then some z.V else vAt b t from rfl]
    by_cases e : y.T = t
    · rw [if_pos e, if_pos e, if_pos (by omega)]; rfl
    · rw [if_neg e, if_neg e, if_neg (by omega)]; exact ih ha.2 hb.2
theorem merge_length (a b : List Smp) : (mergeGo a b).length ≤ a.length + b.length := by
  induction a, b using mergeGo.induct with
  | case1 b => rw [mergeGo_nil_left]; simp
  | case2 y a => rw [mergeGo_nil_right]; simp
  | case3 y a z b hlt ih => rw [mergeGo_lt hlt]; simp only [List.length_cons] at *; omega
  | case4 y a z b hn hlt ih => rw [mergeGo_gt hlt]; simp only [List.length_cons] at *; omega
  | case5 y a z b hn hn2 ih => rw [mergeGo_eq (by omega)]; simp only [List.length_cons] at *; omega

instance (l : List Smp) : Decidable (Asc l) := by unfold Asc; infer_instance
/-- chunk.Check. -/
def smpCheck (l : List Smp) : Int := if 1000 < l.length then 2 else if Asc l then 0 else 5
theorem smpCheck_ok {l : List Smp} : smpCheck l = 0 ↔ l.length ≤ 1000 ∧ Asc l := by
  unfold smpCheck
  by_cases h : 1000 < l.length
  · rw [if_pos h]; simp; omega
  · rw [if_neg h]
    by_cases h2 : Asc l
    · rw [if_pos h2]; simp [h2]; omega
    · rw [if_neg h2]; simp [h2]
/-- chunk.Merge. -/
def mergeL (a b : List Smp) : List Smp × Int :=
  if smpCheck a ≠ 0 then ([], smpCheck a) else if smpCheck b ≠ 0 then ([], smpCheck b) else if 1000 < (mergeGo a b).length then ([], 2) else (mergeGo a b, 0)
/-- chunk.Range. -/
def rangeL (l : List Smp) (lo hi : Int) : List Smp := (l.takeWhile fun x => x.T < hi).dropWhile fun x => x.T < lo

/-! ### Puts -/

structure Ser where
  L : List Lab
  S : List Smp
  deriving DecidableEq
structure PutD where
  L : List Lab
  X : Smp
  deriving DecidableEq

/-- What Encode says of a put. -/
def putE (p : PutD) : Int := if labCheck p.L ≠ 0 then labCheck p.L else if p.X.T < -1152921504606846976 ∨ 1152921504606846976 < p.X.T then 6 else 0
theorem putE_ok {p : PutD} (h : putE p = 0) : labCheck p.L = 0 ∧ -1152921504606846976 ≤ p.X.T ∧ p.X.T ≤ 1152921504606846976 := by
  unfold putE at h
  by_cases h1 : labCheck p.L ≠ 0
  · rw [if_pos h1] at h; exact absurd h h1
  · rw [if_neg h1] at h
    by_cases h2 : p.X.T < -1152921504606846976 ∨ 1152921504606846976 < p.X.T
    · rw [if_pos h2] at h; cases h
    · exact ⟨by omega, by omega, by omega⟩
def putKey (p : PutD) : ByteArray := labText p.L

theorem labMat_good {l : List Lab} (h : labCheck l = 0) : ∀ m ∈ l.map fun x => (labMat x).l, m.good := by
  obtain ⟨_, hall⟩ := matCheck_ok (labMat_ok h)
  intro m hm
  obtain ⟨x, hx, rfl⟩ := List.mem_map.1 hm
  obtain ⟨_, _, h3, _⟩ := hall (labMat x) (List.mem_map.2 ⟨x, hx, rfl⟩)
  refine ⟨.inl rfl, fun y hy => ?_⟩
  obtain ⟨j, hj⟩ := List.mem_iff_getElem?.1 hy
  exact (name_plain h3 j y hj).2
theorem labText_inj {l l' : List Lab} (h : labCheck l = 0) (h' : labCheck l' = 0) (e : labText l = labText l') : l = l' := by
  have e1 : textL (l.map fun x => (labMat x).l) = textL (l'.map fun x => (labMat x).l) := by
    have := congrArg (fun s : ByteArray => s.data.toList) e
    exact this
  unfold textL at e1
  injection e1 with _ e2
  have a := parseL_text (labMat_good h) []
  have b := parseL_text (labMat_good h') []
  rw [e2, b] at a
  injection a with a
  simp only [List.nil_append] at a
  have hi : ∀ x y : Lab, (labMat x).l = (labMat y).l → x = y := by
    intro x y hxy
    cases x with
    | mk xn xv =>
      cases y with
      | mk yn yv =>
        unfold labMat Mat.l at hxy
        injection hxy with _ h2 h3
        have g2 : xn = yn := ByteArray.ext (Array.toList_inj.1 h2)
        have g3 : xv = yv := ByteArray.ext (Array.toList_inj.1 h3)
        rw [g2, g3]
  clear e e2 b h h'
  induction l generalizing l' with
  | nil => cases l' with
    | nil => rfl
    | cons y r => simp at a
  | cons x r ih => cases l' with
    | nil => simp at a
    | cons y r' =>
      simp only [List.map_cons, List.cons.injEq] at a
      rw [hi _ _ a.1.symm, ih a.2]

abbrev Kvs := List (ByteArray × Ser)
/-- (*Store).more. -/
def moreL (kvs : Kvs) (p : PutD) : Ser × Int :=
  match mget kvs (putKey p) with
  | some y => if (mergeL y.S [p.X]).2 ≠ 0 then (⟨[], []⟩, 9) else (⟨y.L, (mergeL y.S [p.X]).1⟩, 0)
  | none => if kvs.length = 200 then (⟨[], []⟩, 9) else if (mergeL [] [p.X]).2 ≠ 0 then (⟨[], []⟩, 9) else (⟨p.L, (mergeL [] [p.X]).1⟩, 0)

/-- What the puts ps have come to. -/
structure Inv (ps : List PutD) (kvs : Kvs) : Prop where
  nodup : (kvs.map (·.1)).Nodup
  ok : ∀ p ∈ ps, putE p = 0
  few : kvs.length ≤ ps.length
  some_ : ∀ k s, mget kvs k = some s → labCheck s.L = 0 ∧ labText s.L = k ∧ Asc s.S ∧ s.S.length ≤ ps.length ∧ (∃ p ∈ ps, putKey p = k) ∧
    (∀ t v, vAt s.S t = some v → ∃ p ∈ ps, putKey p = k ∧ p.X = ⟨t, v⟩) ∧ ∀ p ∈ ps, putKey p = k → ∃ v, vAt s.S p.X.T = some v ∧ p.X.V ≤ v
  none_ : ∀ p ∈ ps, ∃ s, mget kvs (putKey p) = some s

theorem Inv.start : Inv [] [] := ⟨by simp, by simp, by simp, (fun k s h => by simp [mget] at h), by simp⟩

theorem vAt_one (x : Smp) (t : Int) : vAt [x] t = if x.T = t then some x.V else none := rfl

theorem mset_len {K V : Type} [DecidableEq K] (l : List (K × V)) (k : K) (v : V) : (mset l k v).length ≤ l.length + 1 := by
  induction l with
  | nil => simp [mset]
  | cons x r ih =>
    obtain ⟨a, b⟩ := x
    unfold mset
    split
    · simp
    · simp only [List.length_cons]; omega

/-- A put that is taken, while there is room. -/
theorem Inv.put {ps : List PutD} {kvs : Kvs} (h : Inv ps kvs) (hn : ps.length ≤ 100) (p : PutD) (hp : putE p = 0) :
    ∃ s, moreL kvs p = (s, 0) ∧ Inv (ps ++ [p]) (mset kvs (putKey p) s) := by
  have h1 : smpCheck [p.X] = 0 := by rw [smpCheck_ok]; exact ⟨by simp, by simp [Asc]⟩
  have hok := (putE_ok hp).1
  have ho : ∀ q ∈ ps ++ [p], putE q = 0 := fun q hq => by
    rcases List.mem_append.1 hq with hq | hq
    · exact h.ok q hq
    · rw [List.mem_singleton.1 hq]; exact hp
  have hfew : ∀ s, (mset kvs (putKey p) s).length ≤ (ps ++ [p]).length := fun s => by
    have := mset_len kvs (putKey p) s
    have := h.few
    simp; omega
  have hmono : ∀ {k s}, mget kvs k = some s → k ≠ putKey p → labCheck s.L = 0 ∧ labText s.L = k ∧ Asc s.S ∧ s.S.length ≤ (ps ++ [p]).length ∧ (∃ q ∈ ps ++ [p], putKey q = k) ∧
      (∀ t v, vAt s.S t = some v → ∃ q ∈ ps ++ [p], putKey q = k ∧ q.X = ⟨t, v⟩) ∧ ∀ q ∈ ps ++ [p], putKey q = k → ∃ v, vAt s.S q.X.T = some v ∧ q.X.V ≤ v := by
    intro k s hk hne
    obtain ⟨a1, a2, a3, a4, ⟨q, a5, a5'⟩, a6, a7⟩ := h.some_ k s hk
    refine ⟨a1, a2, a3, by simp; omega, ⟨q, List.mem_append.2 (.inl a5), a5'⟩, fun t v hv => ?_, fun q hq hqk => ?_⟩
    · obtain ⟨q, b1, b2⟩ := a6 t v hv
      exact ⟨q, List.mem_append.2 (.inl b1), b2⟩
    · rcases List.mem_append.1 hq with hq | hq
      · exact a7 q hq hqk
      · rw [List.mem_singleton.1 hq] at hqk; exact absurd hqk.symm hne
  have hkey : ∀ (s : Ser), (labCheck s.L = 0 ∧ labText s.L = putKey p ∧ Asc s.S ∧ s.S.length ≤ (ps ++ [p]).length ∧ (∃ q ∈ ps ++ [p], putKey q = putKey p) ∧
      (∀ t v, vAt s.S t = some v → ∃ q ∈ ps ++ [p], putKey q = putKey p ∧ q.X = ⟨t, v⟩) ∧ ∀ q ∈ ps ++ [p], putKey q = putKey p → ∃ v, vAt s.S q.X.T = some v ∧ q.X.V ≤ v) → Inv (ps ++ [p]) (mset kvs (putKey p) s) := by
    intro s hs
    refine ⟨mset_nodup h.nodup _ _, ho, hfew s, fun k s' hk => ?_, fun q hq => ?_⟩
    · rw [mget_mset] at hk
      by_cases e : putKey p = k
      · rw [if_pos e] at hk; injection hk with hk; subst hk; subst e; exact hs
      · rw [if_neg e] at hk; exact hmono hk (fun e2 => e e2.symm)
    · rw [mget_mset]
      by_cases e : putKey p = putKey q
      · exact ⟨s, by rw [if_pos e]⟩
      · rw [if_neg e]
        rcases List.mem_append.1 hq with hq | hq
        · exact h.none_ q hq
        · rw [List.mem_singleton.1 hq] at e; exact absurd rfl e
  cases hg : mget kvs (putKey p) with
  | none =>
    have hm : mergeL [] [p.X] = ([p.X], 0) := by
      unfold mergeL
      rw [if_neg (by simp [smpCheck, Asc]), if_neg (by simp [h1]), mergeGo_nil_left, if_neg (by simp)]
    refine ⟨⟨p.L, [p.X]⟩, ?_, hkey _ ⟨hok, rfl, by simp [Asc], by simp, ⟨p, by simp, rfl⟩, fun t v hv => ?_, fun q hq hqk => ?_⟩⟩
    · unfold moreL
      rw [hg]
      simp only [hm]
      rw [if_neg (by have := h.few; omega)]
      rfl
    · rw [vAt_one] at hv
      by_cases e : p.X.T = t
      · rw [if_pos e] at hv; injection hv with hv
        exact ⟨p, by simp, rfl, by subst e; subst hv; rfl⟩
      · rw [if_neg e] at hv; cases hv
    · rcases List.mem_append.1 hq with hq | hq
      · obtain ⟨s, hs⟩ := h.none_ q hq
        rw [hqk, hg] at hs; cases hs
      · rw [List.mem_singleton.1 hq]
        exact ⟨p.X.V, by rw [vAt_one, if_pos rfl], Int.le_refl _⟩
  | some y =>
    obtain ⟨a1, a2, a3, a4, ⟨q0, a5, a5'⟩, a6, a7⟩ := h.some_ _ _ hg
    have hasc : Asc (mergeGo y.S [p.X]) := asc_merge a3 (by simp [Asc])
    have hlen := merge_length y.S [p.X]
    simp only [List.length_cons, List.length_nil] at hlen
    have hv : ∀ t, vAt (mergeGo y.S [p.X]) t = comb (vAt y.S t) (if p.X.T = t then some p.X.V else none) := fun t => by
      rw [vAt_merge a3 (by simp [Asc]), vAt_one]
    have hm : mergeL y.S [p.X] = (mergeGo y.S [p.X], 0) := by
      unfold mergeL
      rw [if_neg (by simp only [ne_eq, Decidable.not_not]; exact smpCheck_ok.2 ⟨by omega, a3⟩), if_neg (by simp [h1]), if_neg (by omega)]
    refine ⟨⟨y.L, mergeGo y.S [p.X]⟩, ?_, hkey _ ⟨a1, a2, hasc, by simp; omega, ⟨p, by simp, rfl⟩, fun t v hvt => ?_, fun q hq hqk => ?_⟩⟩
    · unfold moreL
      rw [hg]
      simp only [hm]
      rfl
    · rw [hv] at hvt
      have old : vAt y.S t = some v → ∃ q ∈ ps ++ [p], putKey q = putKey p ∧ q.X = ⟨t, v⟩ := fun hh => by
        obtain ⟨q, b1, b2⟩ := a6 t v hh
        exact ⟨q, List.mem_append.2 (.inl b1), b2⟩
      by_cases e : p.X.T = t
      · rw [if_pos e] at hvt
        have new : p.X.V = v → ∃ q ∈ ps ++ [p], putKey q = putKey p ∧ q.X = ⟨t, v⟩ := fun hh => ⟨p, by simp, rfl, by subst e; subst hh; rfl⟩
        cases hy : vAt y.S t with
        | none => rw [hy] at hvt; injection hvt with hvt; exact new hvt
        | some u =>
          rw [hy] at hvt
          injection hvt with hvt
          rcases Int.le_total u p.X.V with hle | hle
          · rw [Int.max_eq_right hle] at hvt; exact new hvt
          · rw [Int.max_eq_left hle] at hvt; exact old (by rw [hy, hvt])
      · rw [if_neg e, comb_none] at hvt; exact old hvt
    · rw [hv]
      rcases List.mem_append.1 hq with hq | hq
      · obtain ⟨v, b1, b2⟩ := a7 q hq hqk
        rw [b1]
        by_cases e : p.X.T = q.X.T
        · rw [if_pos e]; exact ⟨_, rfl, by have := Int.le_max_left v p.X.V; omega⟩
        · rw [if_neg e]; exact ⟨v, rfl, b2⟩
      · rw [List.mem_singleton.1 hq, if_pos rfl]
        cases hy : vAt y.S p.X.T with
        | none => exact ⟨_, rfl, Int.le_refl _⟩
        | some u => exact ⟨_, rfl, Int.le_max_right _ _⟩

/-- The same puts, in whatever order, however often, come to the same. -/
theorem Inv.same {ps qs : List PutD} {kvs kvs' : Kvs} (h : Inv ps kvs) (h' : Inv qs kvs') (hs : ∀ p, p ∈ ps ↔ p ∈ qs) (k : ByteArray) : mget kvs k = mget kvs' k := by
  cases hg : mget kvs k with
  | none =>
    cases hg' : mget kvs' k with
    | none => rfl
    | some s' =>
      obtain ⟨_, _, _, _, ⟨q, b1, b2⟩, _⟩ := h'.some_ k s' hg'
      obtain ⟨s, hs2⟩ := h.none_ q ((hs q).2 b1)
      rw [b2, hg] at hs2; cases hs2
  | some s =>
    obtain ⟨a1, a2, a3, _, ⟨q, a5, a5'⟩, a6, a7⟩ := h.some_ k s hg
    obtain ⟨s', hs'⟩ := h'.none_ q ((hs q).1 a5)
    rw [a5'] at hs'
    obtain ⟨b1, b2, b3, _, _, b6, b7⟩ := h'.some_ k s' hs'
    rw [hs']
    have hL : s.L = s'.L := labText_inj a1 b1 (a2.trans b2.symm)
    have hle : ∀ {S S' : List Smp} {ps qs : List PutD}, (∀ p, p ∈ ps → p ∈ qs) → (∀ t v, vAt S t = some v → ∃ p ∈ ps, putKey p = k ∧ p.X = ⟨t, v⟩) → (∀ p ∈ qs, putKey p = k → ∃ v, vAt S' p.X.T = some v ∧ p.X.V ≤ v) → ∀ t v, vAt S t = some v → ∃ v', vAt S' t = some v' ∧ v ≤ v' := by
      intro S S' ps qs hsub h1 h2 t v hv
      obtain ⟨p, c1, c2, c3⟩ := h1 t v hv
      obtain ⟨v', d1, d2⟩ := h2 p (hsub p c1) c2
      rw [c3] at d1 d2
      exact ⟨v', d1, d2⟩
    have hS : s.S = s'.S := asc_ext a3 b3 fun t => by
      have f := hle (fun p => (hs p).1) a6 b7 t
      have g := hle (fun p => (hs p).2) b6 a7 t
      cases e1 : vAt s.S t with
      | none =>
        cases e2 : vAt s'.S t with
        | none => rfl
        | some v' => obtain ⟨v, d1, _⟩ := g v' e2; rw [e1] at d1; cases d1
      | some v =>
        obtain ⟨v', d1, d2⟩ := f v e1
        obtain ⟨v2, d3, d4⟩ := g v' d1
        rw [e1] at d3; injection d3 with d3
        rw [d1]; congr 1; omega
    cases s; cases s'; simp only at hL hS; rw [hL, hS]
end Go.Proofs.YtfciagcmggdldaaGreatDoor
