/-
  Texts of labels and matches, and how they are read: plain lists of bytes. No program in sight.
-/
import Derived.Lib.Strings
namespace Go.Proofs.YtfciagcmggdldaaGreatDoor

abbrev Str := List UInt8

def esc (c : UInt8) : Str := if c = 92 then [92, 92] else if c = 34 then [92, 34] else if c = 10 then [92, 110] else [c]
/-- A value within quotes. -/
def quotedL (v : Str) : Str := 34 :: (v.flatMap esc ++ [34])
def signL (k : Int) : Str := if k = 1 then [61] else if k = 2 then [33, 61] else if k = 3 then [61, 94] else if k = 4 then [61, 126] else []

/-- What stands behind the first quote, up to the next one that is not escaped; and what stands behind that. -/
def unqGo : Str → Str → Option (Str × Str)
  | [], _ => none
  | 34 :: r, out => some (out, r)
  | [92], _ => none
  | 92 :: c :: r, out => unqGo r (out ++ [if c = 110 then 10 else c])
  | c :: r, out => unqGo r (out ++ [c])

theorem unqGo_plain {c : UInt8} (r out : Str) (h1 : c ≠ 34) (h2 : c ≠ 92) : unqGo (c :: r) out = unqGo r (out ++ [c]) := by
  rw [unqGo.eq_def]
  split
  · rename_i h; cases h
  · rename_i h; injection h with h; exact absurd h h1
  · rename_i h; injection h with h; exact absurd h h2
  · rename_i h; injection h with h; exact absurd h h2
  · rename_i h; injection h with h h'; subst h; subst h'; rfl

theorem unqGo_esc (c : UInt8) (r out : Str) : unqGo (esc c ++ r) out = unqGo r (out ++ [c]) := by
  unfold esc
  by_cases h1 : c = 92
  · rw [if_pos h1]; subst h1; rfl
  · rw [if_neg h1]
    by_cases h2 : c = 34
    · rw [if_pos h2]; subst h2; rfl
    · rw [if_neg h2]
      by_cases h3 : c = 10
      · rw [if_pos h3]; subst h3; rfl
      · rw [if_neg h3]; exact unqGo_plain r out h2 h1

theorem unqGo_quoted (v r out : Str) : unqGo (v.flatMap esc ++ 34 :: r) out = some (out ++ v, r) := by
  induction v generalizing out with
  | nil => simp [unqGo]
  | cons c v ih =>
    rw [List.flatMap_cons, List.append_assoc, unqGo_esc, ih, List.append_assoc]; rfl

/-- Where the first sign stands. -/
def signAt : Str → Option Nat
  | [] => none
  | c :: r => if c = 33 ∨ c = 61 then some 0 else (signAt r).map (· + 1)
theorem signAt_name {n r : Str} {c : UInt8} (hn : ∀ x ∈ n, x ≠ 33 ∧ x ≠ 61) (hc : c = 33 ∨ c = 61) : signAt (n ++ c :: r) = some n.length := by
  induction n with
  | nil => simp [signAt, hc]
  | cons x n ih =>
    have hx := hn x (by simp)
    rw [List.cons_append, signAt, if_neg (by simp [hx]), ih fun y hy => hn y (List.mem_cons_of_mem _ hy)]
    rfl

/-- A match as data of bytes: its kind, name and value. -/
structure MatL where
  kind : Int
  name : Str
  value : Str
  deriving DecidableEq

def matTextL (m : MatL) : Str := m.name ++ (signL m.kind ++ quotedL m.value)

/-- One match at the front of a text; what stands behind it. -/
def tryKind (n s : Str) (k : Int) : Option (Option (MatL × Str)) :=
  if (signL k ++ [34]).isPrefixOf s = true then some ((unqGo (s.drop ((signL k).length + 1)) []).map fun p => (⟨k, n, p.1⟩, p.2)) else none
def oneL (s : Str) : Option (MatL × Str) :=
  match signAt s with
  | none => none
  | some i =>
    match tryKind (s.take i) (s.drop i) 4 with
    | some r => r
    | none =>
      match tryKind (s.take i) (s.drop i) 3 with
      | some r => r
      | none =>
        match tryKind (s.take i) (s.drop i) 2 with
        | some r => r
        | none =>
          match tryKind (s.take i) (s.drop i) 1 with
          | some r => r
          | none => none

theorem oneL_text {m : MatL} (hk : m.kind = 1 ∨ m.kind = 2 ∨ m.kind = 3 ∨ m.kind = 4) (hn : ∀ x ∈ m.name, x ≠ 33 ∧ x ≠ 61) (r : Str) : oneL (matTextL m ++ r) = some (m, r) := by
  obtain ⟨k, n, v⟩ := m
  simp only at hk hn
  have hq : ∀ k : Int, unqGo ((quotedL v ++ r).drop 1) [] = some (v, r) := by
    intro _
    show unqGo ((v.flatMap esc ++ [34]) ++ r) [] = _
    rw [List.append_assoc]
    exact unqGo_quoted v r []
  have hs : ∃ c t, (signL k ++ (quotedL v ++ r)) = c :: t ∧ (c = 33 ∨ c = 61) := by
    rcases hk with rfl | rfl | rfl | rfl
    · exact ⟨61, _, rfl, .inr rfl⟩
    · exact ⟨33, _, rfl, .inl rfl⟩
    · exact ⟨61, _, rfl, .inr rfl⟩
    · exact ⟨61, _, rfl, .inr rfl⟩
  obtain ⟨c, t, hct, hc⟩ := hs
  have e : matTextL ⟨k, n, v⟩ ++ r = n ++ (signL k ++ (quotedL v ++ r)) := by unfold matTextL; simp [List.append_assoc]
  have hat : signAt (n ++ (signL k ++ (quotedL v ++ r))) = some n.length := by rw [hct]; exact signAt_name hn hc
  unfold oneL
  rw [e, hat]
  simp only [List.take_left, List.drop_left]
  rcases hk with rfl | rfl | rfl | rfl
  · have h4 : tryKind n (signL 1 ++ (quotedL v ++ r)) 4 = none := rfl
    have h3 : tryKind n (signL 1 ++ (quotedL v ++ r)) 3 = none := rfl
    have h2 : tryKind n (signL 1 ++ (quotedL v ++ r)) 2 = none := rfl
    have h1 : tryKind n (signL 1 ++ (quotedL v ++ r)) 1 = some ((unqGo ((quotedL v ++ r).drop 1) []).map fun p => (⟨1, n, p.1⟩, p.2)) := rfl
    rw [h4, h3, h2, h1, hq 1]; rfl
  · have h4 : tryKind n (signL 2 ++ (quotedL v ++ r)) 4 = none := rfl
    have h3 : tryKind n (signL 2 ++ (quotedL v ++ r)) 3 = none := rfl
    have h2 : tryKind n (signL 2 ++ (quotedL v ++ r)) 2 = some ((unqGo ((quotedL v ++ r).drop 1) []).map fun p => (⟨2, n, p.1⟩, p.2)) := rfl
    rw [h4, h3, h2, hq 2]; rfl
  · have h4 : tryKind n (signL 3 ++ (quotedL v ++ r)) 4 = none := rfl
    have h3 : tryKind n (signL 3 ++ (quotedL v ++ r)) 3 = some ((unqGo ((quotedL v ++ r).drop 1) []).map fun p => (⟨3, n, p.1⟩, p.2)) := rfl
    rw [h4, h3, hq 3]; rfl
  · have h4 : tryKind n (signL 4 ++ (quotedL v ++ r)) 4 = some ((unqGo ((quotedL v ++ r).drop 1) []).map fun p => (⟨4, n, p.1⟩, p.2)) := rfl
    rw [h4, hq 4]; rfl

/-- Texts with commas between. -/
def joinL : List Str → Str
  | [] => []
  | [x] => x
  | x :: y :: r => x ++ 44 :: joinL (y :: r)
def textL (m : List MatL) : Str := 123 :: (joinL (m.map matTextL) ++ [125])

def trimComma (s : Str) : Str := match s with | 44 :: r => r | s => s

theorem signAt_lt {s : Str} {i : Nat} (h : signAt s = some i) : i < s.length := by
  induction s generalizing i with
  | nil => cases h
  | cons c r ih =>
    unfold signAt at h
    split at h
    · injection h with h; subst h; simp
    · cases hr : signAt r with
      | none => rw [hr] at h; cases h
      | some j =>
        rw [hr] at h
        simp at h
        have := ih hr
        simp; omega
theorem unqGo_lt {s out v r : Str} (h : unqGo s out = some (v, r)) : r.length < s.length := by
  induction s, out using unqGo.induct with
  | case1 out => simp [unqGo] at h
  | case2 r' out => simp [unqGo] at h; obtain ⟨_, rfl⟩ := h; simp
  | case3 out => simp [unqGo] at h
  | case4 out c r' ih => rw [unqGo] at h; have := ih h; simp; omega
  | case5 c r' out h1 h2 h3 ih =>
    rw [unqGo_plain r' out h1 (fun e => by
      cases r' with
      | nil => exact h2 e rfl
      | cons x y => exact h3 x y e rfl)] at h
    have := ih h; simp; omega
theorem tryKind_lt {n s : Str} {k : Int} {m : MatL} {r : Str} (h : tryKind n s k = some (some (m, r))) : r.length < s.length := by
  unfold tryKind at h
  split at h
  · rename_i hp
    injection h with h
    cases hu : unqGo (s.drop ((signL k).length + 1)) [] with
    | none => rw [hu] at h; cases h
    | some p =>
      rw [hu] at h
      injection h with h
      obtain ⟨v, r'⟩ := p
      injection h with h1 h2
      have h3 : r' = r := h2
      subst h3
      have := unqGo_lt hu
      rw [List.length_drop] at this
      omega
  · cases h
theorem oneL_lt {s : Str} {m : MatL} {r : Str} (h : oneL s = some (m, r)) : r.length < s.length := by
  unfold oneL at h
  cases hs : signAt s with
  | none => rw [hs] at h; cases h
  | some i =>
    rw [hs] at h
    simp only at h
    have key : ∀ k, tryKind (s.take i) (s.drop i) k = some (some (m, r)) → r.length < s.length := fun k hk => by
      have := tryKind_lt hk
      rw [List.length_drop] at this
      omega
    split at h
    · rename_i x hx; subst h; exact key 4 hx
    · split at h
      · rename_i x hx; subst h; exact key 3 hx
      · split at h
        · rename_i x hx; subst h; exact key 2 hx
        · split at h
          · rename_i x hx; subst h; exact key 1 hx
          · cases h

theorem trimComma_le (s : Str) : (trimComma s).length ≤ s.length := by
  unfold trimComma
  split
  · simp
  · exact Nat.le_refl _

set_option linter.unusedVariables false in
/-- Matches, one behind the other, up to the last brace. -/
def parseL (s : Str) (out : List MatL) : Option (List MatL) :=
  if s = [] ∨ s = [125] then some out else
  match h : oneL s with
  | none => none
  | some (m, r) => parseL (trimComma r) (out ++ [m])
termination_by s.length
decreasing_by
  have h1 := oneL_lt h
  have h2 := trimComma_le r
  omega

theorem parseL_end (s : Str) (out : List MatL) (h : s = [] ∨ s = [125]) : parseL s out = some out := by rw [parseL, if_pos h]
theorem parseL_none {s : Str} (out : List MatL) (h : ¬ (s = [] ∨ s = [125])) (h1 : oneL s = none) : parseL s out = none := by
  rw [parseL, if_neg h]
  split
  · rfl
  · rename_i h2; rw [h1] at h2; cases h2
theorem parseL_one {s r : Str} {m : MatL} (out : List MatL) (h : ¬ (s = [] ∨ s = [125])) (h1 : oneL s = some (m, r)) : parseL s out = parseL (trimComma r) (out ++ [m]) := by
  rw [parseL, if_neg h]
  split
  · rename_i h2; rw [h1] at h2; cases h2
  · rename_i m' r' h2
    rw [h1] at h2
    injection h2 with h2
    injection h2 with h3 h4
    rw [h3, h4]

def MatL.good (m : MatL) : Prop := (m.kind = 1 ∨ m.kind = 2 ∨ m.kind = 3 ∨ m.kind = 4) ∧ ∀ x ∈ m.name, x ≠ 33 ∧ x ≠ 61

theorem matTextL_long (m : MatL) : 2 ≤ (matTextL m).length := by unfold matTextL quotedL; simp; omega

theorem parseL_text {ms : List MatL} (hg : ∀ m ∈ ms, m.good) (out : List MatL) : parseL (joinL (ms.map matTextL) ++ [125]) out = some (out ++ ms) := by
  induction ms generalizing out with
  | nil => rw [List.append_nil]; exact parseL_end _ _ (.inr rfl)
  | cons m r ih =>
    obtain ⟨hk, hn⟩ := hg m (by simp)
    have ih' := ih fun x hx => hg x (List.mem_cons_of_mem _ hx)
    have hlong := matTextL_long m
    cases r with
    | nil =>
      have h1 : ¬ (matTextL m ++ [125] = [] ∨ matTextL m ++ [125] = [125]) := by
        rintro (h | h)
        · have := congrArg List.length h; simp at this
        · have := congrArg List.length h; simp at this; rw [this] at hlong; simp at hlong
      show parseL (matTextL m ++ [125]) out = _
      rw [parseL_one out h1 (oneL_text hk hn [125])]
      exact parseL_end _ _ (.inr rfl)
    | cons y r =>
      have e : joinL ((m :: y :: r).map matTextL) ++ [125] = matTextL m ++ 44 :: (joinL ((y :: r).map matTextL) ++ [125]) := by
        simp [joinL, List.append_assoc]
      have h1 : ¬ (matTextL m ++ 44 :: (joinL ((y :: r).map matTextL) ++ [125]) = [] ∨ matTextL m ++ 44 :: (joinL ((y :: r).map matTextL) ++ [125]) = [125]) := by
        rintro (h | h)
        · have := congrArg List.length h; simp at this
        · have := congrArg List.length h; simp at this; omega
      rw [e, parseL_one out h1 (oneL_text hk hn _)]
      show parseL (joinL ((y :: r).map matTextL) ++ [125]) (out ++ [m]) = _
      rw [ih' (out ++ [m])]
      simp
end Go.Proofs.YtfciagcmggdldaaGreatDoor
