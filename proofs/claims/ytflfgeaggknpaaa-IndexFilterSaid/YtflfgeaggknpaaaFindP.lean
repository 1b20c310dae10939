/-
  Plain laws on what an index finds. No program in sight.
-/
import Derived.Test.YtflfgeaggknpaaaNew
namespace Go.Proofs.Ytflfgeaggknpaaa
open Go.RowKit

theorem less_irrefl : ∀ a : List UInt8, Op.bytesLess a a = false
  | [] => rfl
  | a :: r => by simp [Op.bytesLess, less_irrefl r]
theorem less_trans : ∀ a b c : List UInt8, Op.bytesLess a b = true → Op.bytesLess b c = true → Op.bytesLess a c = true
  | [], [], _, h, _ => by simp [Op.bytesLess] at h
  | [], _ :: _, [], _, h => by simp [Op.bytesLess] at h
  | [], _ :: _, _ :: _, _, _ => rfl
  | _ :: _, [], _, h, _ => by simp [Op.bytesLess] at h
  | _ :: _, _ :: _, [], _, h => by simp [Op.bytesLess] at h
  | a :: x, b :: y, c :: z, h, g => by
    simp only [Op.bytesLess, Bool.or_eq_true, decide_eq_true_eq, Bool.and_eq_true, beq_iff_eq] at *
    rcases h with h | ⟨rfl, h⟩ <;> rcases g with g | ⟨rfl, g⟩
    · exact .inl (UInt8.lt_trans h g)
    · exact .inl h
    · exact .inl g
    · exact .inr ⟨rfl, less_trans _ _ _ h g⟩
theorem less_total : ∀ a b : List UInt8, Op.bytesLess a b = true ∨ a = b ∨ Op.bytesLess b a = true
  | [], [] => .inr (.inl rfl)
  | [], _ :: _ => .inl rfl
  | _ :: _, [] => .inr (.inr rfl)
  | a :: x, b :: y => by
    simp only [Op.bytesLess, Bool.or_eq_true, decide_eq_true_eq, Bool.and_eq_true, beq_iff_eq, List.cons.injEq]
    by_cases h1 : a < b
    · exact .inl (.inl h1)
    · by_cases h2 : b < a
      · exact .inr (.inr (.inl h2))
      · have e : a = b := UInt8.le_antisymm (UInt8.not_lt.1 h2) (UInt8.not_lt.1 h1)
        rcases less_total x y with h | h | h
        · exact .inl (.inr ⟨e, h⟩)
        · exact .inr (.inl ⟨e, h⟩)
        · exact .inr (.inr (.inr ⟨e.symm, h⟩))
def lessB (a b : ByteArray) : Prop := Op.bytesLess a.toList b.toList = true
theorem lessB_trans {a b c : ByteArray} (h : lessB a b) (g : lessB b c) : lessB a c := less_trans _ _ _ h g
theorem lessB_irrefl {a : ByteArray} : ¬ lessB a a := by unfold lessB; rw [less_irrefl]; decide
theorem lessB_of_bLeq {a b : ByteArray} (h : ¬ bLeq a b = true) : lessB b a := by
  unfold bLeq at h
  simp only [Bool.or_eq_true, beq_iff_eq, not_or] at h
  rcases less_total a.toList b.toList with g | g | g
  · exact absurd g h.1
  · exact absurd g h.2
  · exact g

/-- A list of labels that passes the check has its names in rising order. -/
theorem labGo_names {l : List Lab} : ∀ {last : ByteArray}, labGo last l = 0 → (∀ x ∈ l, lessB last x.name) ∧ l.Pairwise (fun x y => lessB x.name y.name) := by
  induction l with
  | nil => intro last _; exact ⟨by simp, .nil⟩
  | cons y r ih =>
    intro last h
    unfold labGo at h
    by_cases h1 : nameOk y.name = false
    · rw [if_pos h1] at h; cases h
    · rw [if_neg h1] at h
      by_cases h2 : bLeq y.name last = true
      · rw [if_pos h2] at h; cases h
      · rw [if_neg h2] at h
        by_cases h3 : 40 < y.value.size
        · rw [if_pos h3] at h; cases h
        · rw [if_neg h3] at h
          obtain ⟨g1, g2⟩ := ih h
          have hy := lessB_of_bLeq h2
          refine ⟨fun x hx => ?_, List.pairwise_cons.2 ⟨g1, g2⟩⟩
          rcases List.mem_cons.1 hx with rfl | hx
          · exact hy
          · exact lessB_trans hy (g1 x hx)
theorem labCheck_names {l : List Lab} (h : labCheck l = 0) : l.Pairwise (fun x y => lessB x.name y.name) := by
  unfold labCheck at h
  by_cases h1 : 10 < l.length
  · rw [if_pos h1] at h; cases h
  · rw [if_neg h1] at h
    exact (labGo_names h).2

theorem toList_inj {a b : ByteArray} (h : a.toList = b.toList) : a = b := bytes_ext h
/-- The value behind a name, told by the labels. -/
theorem valueOf_is {l : List Lab} (h : l.Pairwise (fun x y => lessB x.name y.name)) (n v : ByteArray) (hv : v ≠ ⟨#[]⟩) : valueOf l n = v ↔ ⟨n, v⟩ ∈ l := by
  induction l with
  | nil => simp [valueOf]; exact fun e => hv e.symm
  | cons x r ih =>
    obtain ⟨h1, h2⟩ := List.pairwise_cons.1 h
    unfold valueOf
    by_cases e : (x.name.toList == n.toList) = true
    · rw [if_pos e]
      have e2 : x.name = n := toList_inj (by simpa using e)
      constructor
      · intro h3; subst h3; subst e2; simp
      · intro h3
        rcases List.mem_cons.1 h3 with h3 | h3
        · rw [← h3]
        · have := h1 _ h3
          rw [e2] at this
          exact absurd this lessB_irrefl
    · rw [if_neg e, ih h2]
      have e2 : ¬ (⟨n, v⟩ : Lab) = x := fun e3 => e (by rw [← e3]; simp)
      simp [e2]
theorem fit_is {l : List Lab} (h : labCheck l = 0) {y : Mat} (hk : y.kind = 1) (hv : y.value ≠ ⟨#[]⟩) : fitOf l y = decide (⟨y.name, y.value⟩ ∈ l) := by
  unfold fitOf
  rw [if_pos hk, Bool.eq_iff_iff]
  rw [decide_eq_true_eq, ← valueOf_is (labCheck_names h) _ _ hv, beq_iff_eq]
  exact ⟨toList_inj, fun e => by rw [e]⟩

theorem newGo_ok {l : List (List Lab)} (h : newGo l = 0) : ∀ s ∈ l, labCheck s = 0 := by
  induction l with
  | nil => simp
  | cons x r ih =>
    unfold newGo at h
    by_cases h1 : labCheck x ≠ 0
    · rw [if_pos h1] at h; exact absurd h h1
    · rw [if_neg h1] at h
      intro s hs
      rcases List.mem_cons.1 hs with rfl | hs
      · simpa using h1
      · exact ih h s hs
theorem newE_ok {l : List (List Lab)} (h : newE l = 0) : l.length ≤ 200 ∧ ∀ s ∈ l, labCheck s = 0 := by
  unfold newE at h
  by_cases h1 : 200 < l.length
  · rw [if_pos h1] at h; cases h
  · rw [if_neg h1] at h
    exact ⟨by omega, newGo_ok h⟩

/-- Two rising lists with the same members are one. -/
theorem rise_ext : ∀ {p q : List Int}, p.Pairwise (· < ·) → q.Pairwise (· < ·) → (∀ z, z ∈ p ↔ z ∈ q) → p = q
  | [], [], _, _, _ => rfl
  | [], b :: q, _, _, h => by have := (h b).2 (by simp); cases this
  | a :: p, [], _, _, h => by have := (h a).1 (by simp); cases this
  | a :: p, b :: q, hp, hq, h => by
    obtain ⟨p1, p2⟩ := List.pairwise_cons.1 hp
    obtain ⟨q1, q2⟩ := List.pairwise_cons.1 hq
    have e : a = b := by
      have h1 := (h a).1 (by simp)
      have h2 := (h b).2 (by simp)
      rcases List.mem_cons.1 h1 with e | h1
      · exact e
      · rcases List.mem_cons.1 h2 with e | h2
        · exact e.symm
        · have := q1 a h1; have := p1 b h2; omega
    subst e
    rw [rise_ext p2 q2 fun z => ?_]
    constructor
    · intro hz
      have := p1 z hz
      rcases List.mem_cons.1 ((h z).1 (List.mem_cons_of_mem _ hz)) with e | h3
      · omega
      · exact h3
    · intro hz
      have := q1 z hz
      rcases List.mem_cons.1 ((h z).2 (List.mem_cons_of_mem _ hz)) with e | h3
      · omega
      · exact h3
theorem setOf_id {p : List Int} (h : p.Pairwise (· < ·)) : setOf p = p := rise_ext (setOf_rises p) h (mem_setOf p)
theorem andGo_filter : ∀ (p q : List Int), p.Pairwise (· < ·) → q.Pairwise (· < ·) → andGo p q = p.filter fun z => decide (z ∈ q)
  | [], q, _, _ => by rw [andGo]; rfl
  | a :: p, [], _, _ => by rw [andGo]; simp
  | a :: p, b :: q, hp, hq => by
    obtain ⟨p1, p2⟩ := List.pairwise_cons.1 hp
    obtain ⟨q1, q2⟩ := List.pairwise_cons.1 hq
    rw [andGo]
    by_cases h1 : a < b
    · rw [if_pos h1, andGo_filter p (b :: q) p2 hq, List.filter_cons_of_neg]
      simp only [List.mem_cons, decide_eq_true_eq, not_or]
      exact ⟨by omega, fun h => by have := q1 a h; omega⟩
    · rw [if_neg h1]
      by_cases h2 : b < a
      · rw [if_pos h2, andGo_filter (a :: p) q hp q2]
        refine List.filter_congr fun z hz => ?_
        have : z ≠ b := by
          rcases List.mem_cons.1 hz with e | h
          · omega
          · have := p1 z h; omega
        simp [this]
      · rw [if_neg h2, andGo_filter p q p2 q2]
        have e : a = b := by omega
        subst e
        rw [List.filter_cons_of_pos (by simp)]
        congr 1
        refine List.filter_congr fun z hz => ?_
        have : z ≠ a := by have := p1 z hz; omega
        simp [this]
termination_by p q => p.length + q.length

def nums (n : Nat) : List Int := (List.range n).map fun i : Nat => (i : Int)
theorem nums_rises (n : Nat) : (nums n).Pairwise (· < ·) := by
  unfold nums
  rw [List.pairwise_map]
  exact List.pairwise_lt_range.imp fun h => by omega
theorem mem_nums {n : Nat} {z : Int} : z ∈ nums n ↔ 0 ≤ z ∧ z < n := by
  unfold nums
  simp only [List.mem_map, List.mem_range]
  constructor
  · rintro ⟨i, h, rfl⟩; omega
  · rintro ⟨h1, h2⟩; exact ⟨z.toNat, by omega, by omega⟩
theorem nums_succ (n : Nat) : nums (n + 1) = nums n ++ [(n : Int)] := by simp [nums, List.range_succ]

def fitAt (l : List (List Lab)) (y : Mat) (z : Int) : Bool := fitOf (l.getD z.toNat []) y
/-- What is found. -/
def findOf (l : List (List Lab)) (m : List Mat) : List Int := (nums l.length).filter fun z => m.all fun y => fitAt l y z
theorem findOf_nil (l : List (List Lab)) : findOf l [] = nums l.length := by simp [findOf]
theorem findOf_snoc (l : List (List Lab)) (m : List Mat) (y : Mat) : findOf l (m ++ [y]) = (findOf l m).filter (fitAt l y) := by
  unfold findOf
  rw [List.filter_filter]
  refine List.filter_congr fun z _ => ?_
  simp [Bool.and_comm]
theorem findOf_rises (l : List (List Lab)) (m : List Mat) : (findOf l m).Pairwise (· < ·) := (nums_rises _).filter _
theorem findOf_len (l : List (List Lab)) (m : List Mat) : (findOf l m).length ≤ l.length := by
  refine Nat.le_trans (List.length_filter_le _ _) ?_
  simp [nums]
theorem mem_findOf {l : List (List Lab)} {m : List Mat} {z : Int} : z ∈ findOf l m ↔ (0 ≤ z ∧ z < l.length) ∧ m.all (fun y => fitAt l y z) = true := by
  unfold findOf; rw [List.mem_filter, mem_nums]

/-- To meet with the numbers behind a label is to ask each whether it fits. -/
theorem find_and {l : List (List Lab)} (h : newE l = 0) (m : List Mat) {y : Mat} (hk : y.kind = 1) (hv : y.value ≠ ⟨#[]⟩) {kvs : List (Lab × RowV)} (hH : HoldsTo l l.length [] kvs) :
    andGo (setOf (findOf l m)) (setOf ((mget kvs ⟨y.name, y.value⟩).getD (none, [])).2) = findOf l (m ++ [y]) := by
  rw [setOf_id (findOf_rises l m), andGo_filter _ _ (findOf_rises l m) (setOf_rises _), findOf_snoc]
  refine List.filter_congr fun z hz => ?_
  obtain ⟨⟨h0, h1⟩, _⟩ := mem_findOf.1 hz
  obtain ⟨k, rfl⟩ : ∃ k : Nat, z = k := ⟨z.toNat, by omega⟩
  have hkl : k < l.length := by omega
  unfold fitAt
  rw [Int.toNat_natCast, List.getD_eq_getElem?_getD, List.getElem?_eq_getElem hkl, Option.getD_some, fit_is ((newE_ok h).2 _ (List.getElem_mem hkl)) hk hv]
  refine decide_eq_decide.2 ?_
  rw [mem_setOf, hH]
  constructor
  · rintro (⟨j, e, _, s, h3, h4⟩ | ⟨_, h4⟩)
    · have : j = k := by omega
      subst this
      rw [List.getElem?_eq_getElem hkl] at h3; injection h3 with h3
      rw [h3]; exact h4
    · cases h4
  · intro h4
    exact .inl ⟨k, rfl, hkl, _, List.getElem?_eq_getElem hkl, h4⟩
end Go.Proofs.Ytflfgeaggknpaaa
