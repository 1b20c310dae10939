/-
  What label.CheckMatch, Value, Fit, Fits compute.
-/
import Derived.Test.YtflfgeaggknpaaaLabel
import Derived.Test.YtflfgeaggknpaaaShelf
namespace Go.Proofs.Ytflfgeaggknpaaa
open Go.RowKit

/-! ### label.CheckMatch -/
def matBad (x : Mat) : Int := if x.kind < 1 ∨ 4 < x.kind then 1 else if nameOk x.name = false then 4 else if 40 < x.value.size then 2 else 0
def matGo : List Mat → Int
  | [] => 0
  | x :: r => if matBad x = 0 then matGo r else matBad x
/-- What label.CheckMatch answers. -/
def matCheck (m : List Mat) : Int := if 10 < m.length then 2 else matGo m

theorem mat_bad {l : List Mat} {k : Nat} {x : Mat} {r : Int} (h : Hid (r = matGo (l.drop k))) (hx : Hid (l[k]? = some x)) (hb : matBad x ≠ 0) : r = matBad x := by
  rw [h.out, drop_cons hx.out, matGo, if_neg hb]
theorem mat_on {l : List Mat} {k : Nat} {x : Mat} {r : Int} (h : Hid (r = matGo (l.drop k))) (hx : Hid (l[k]? = some x)) (hb : matBad x = 0) : r = matGo (l.drop (k + 1)) := by
  rw [h.out, drop_cons hx.out, matGo, if_pos hb]

set_option maxRecDepth 100000 in
set_option maxHeartbeats 1000000 in
theorem checkMatch_calls (A : Option Addr) (n c : Nat) (l : List Mat) (w : World) (M : Nat → Prop) (hl : Sl w M A n c l) :
    Calls Try.prog 13 #[.slice A n c] w fun e w' => e = .returned (.int .i64 (matCheck l)) ∧ Below w.heap.size w w' := by
  have hn := hl.le
  have hlen := Lib.hid hl.len
  go_enter Try.func13, Try.ntmps13
  by_cases h10 : (10 : Int) < (n : Int)
  · go_wp2
    go_ret
    exact ⟨eq_int (by rw [matCheck, if_pos (by rw [hlen.out]; omega)]), Below.refl _ _⟩
  · have hr : Hid (matCheck l = matGo l) := by unfold Hid; rw [matCheck, if_neg (by rw [hlen.out]; omega)]
    go_wp2
    go_loopw [10] (fun i wr => ∃ k : Nat, k ≤ n ∧ i = .int .i64 k ∧ Below w.heap.size w wr ∧ Hid (matCheck l = matGo (l.drop k))) (fun i _ => n - (intOf i).toNat)
    case atStart => exact ⟨0, Nat.zero_le _, rfl, Below.refl _ _, hr⟩
    case round =>
      obtain ⟨k, hk, rfl, hbl, hv⟩ := hrel
      clear hr
      by_cases hlt : k < n
      · obtain ⟨b, off, x, rfl, hx0, g0, g1, g2, hs0, hs1, hs2⟩ := (hl.below hbl).mat hlt
        obtain ⟨hk1, hk2⟩ := hs0
        have hx := Lib.hid hx0
        clear hx0 hl
        by_cases hkd : x.kind < 1 ∨ 4 < x.kind
        · have hb : Hid (matBad x = 1) := by unfold Hid matBad; rw [if_pos hkd]
          have hfin : labCheck [] = 0 → matCheck l = 1 := fun _ => by rw [mat_bad hv hx (by rw [hb.out]; decide), hb.out]
          rcases hkd with hkd | hkd
          · go_wp2
            go_ret
            exact ⟨eq_int (hfin rfl), hbl.new _⟩
          · go_wp2
            go_ret
            exact ⟨eq_int (hfin rfl), hbl.new _⟩
        · have hkl : 1 ≤ x.kind := by omega
          have hku : x.kind ≤ 4 := by omega
          go_wp2_with (go_at_call 23; refine (name_calls _ _ hs1).mono ?_; rintro e w2 ⟨rfl, hb2⟩; have hc2 := bcell hb2)
          · go_ret
            have hnm : nameOk x.name = false := by simpa using (by assumption : (!nameOk x.name) = true)
            have hb : matBad x = 4 := by unfold matBad; rw [if_neg hkd, if_pos hnm]
            exact ⟨eq_int (by rw [mat_bad hv hx (by rw [hb]; decide), hb]), (hbl.new _).call hb2⟩
          · go_ret
            have hnm : nameOk x.name = true := by simpa using (by assumption : (!nameOk x.name) = false)
            have hb : matBad x = 2 := by unfold matBad; rw [if_neg hkd, if_neg (by rw [hnm]; decide), if_pos (by omega)]
            exact ⟨eq_int (by rw [mat_bad hv hx (by rw [hb]; decide), hb]), (hbl.new _).call hb2⟩
          · go_roundw
            case rel =>
              have hnm : nameOk x.name = true := by simpa using (by assumption : (!nameOk x.name) = false)
              have hb : matBad x = 0 := by unfold matBad; rw [if_neg hkd, if_neg (by rw [hnm]; decide), if_neg (by omega)]
              exact ⟨k + 1, by omega, by go_num, (hbl.new _).call hb2, mat_on hv hx hb⟩
            case measure => simp [intOf]; omega
      · go_wp2
        go_ret
        exact ⟨eq_int (by rw [hv.out, List.drop_eq_nil_of_le (by rw [hlen.out]; omega)]; rfl), hbl⟩

/-! ### label.Value -/
def valueOf : List Lab → ByteArray → ByteArray
  | [], _ => ⟨#[]⟩
  | l :: r, s => if (l.name.toList == s.toList) = true then l.value else valueOf r s
theorem valueOf_size {l : List Lab} {s : ByteArray} {N : Nat} (h : ∀ x ∈ l, x.value.size ≤ N) : (valueOf l s).size ≤ N := by
  induction l with
  | nil => exact Nat.zero_le _
  | cons x r ih =>
    unfold valueOf
    split
    · exact h x (by simp)
    · exact ih fun y hy => h y (List.mem_cons_of_mem _ hy)

set_option maxRecDepth 100000 in
set_option maxHeartbeats 1000000 in
theorem value_calls (A : Option Addr) (n c : Nat) (l : List Lab) (s : ByteArray) (w : World) (M : Nat → Prop) (hl : Sl w M A n c l) :
    Calls Try.prog 26 #[.slice A n c, .string s] w fun e w' => e = .returned (.string (valueOf l s)) ∧ Below w.heap.size w w' := by
  have hn := hl.le
  have hlen := Lib.hid hl.len
  go_enter Try.func26, Try.ntmps26
  go_wp2
  go_loopw [9] (fun i wr => ∃ k : Nat, k ≤ n ∧ i = .int .i64 k ∧ Below w.heap.size w wr ∧ Hid (valueOf l s = valueOf (l.drop k) s)) (fun i _ => n - (intOf i).toNat)
  case atStart => exact ⟨0, Nat.zero_le _, rfl, Below.refl _ _, rfl⟩
  case round =>
    obtain ⟨k, hk, rfl, hbl, hv⟩ := hrel
    by_cases hlt : k < n
    · obtain ⟨b, off, x, rfl, hx0, g0, g1, hs0, hs1⟩ := (hl.below hbl).lab hlt
      have hx := Lib.hid hx0
      clear hx0 hl
      go_wp2
      · go_ret
        exact ⟨eq_str (by rw [hv.out, drop_cons hx.out, valueOf, if_pos (by assumption)]), hbl.new _⟩
      · go_roundw
        case rel => exact ⟨k + 1, by omega, by go_num, hbl.new _, hv.out.trans (by rw [drop_cons hx.out, valueOf, if_neg (by rw [Bool.not_eq_true]; assumption)])⟩
        case measure => simp [intOf]; omega
    · go_wp2
      go_ret
      exact ⟨eq_str (by rw [hv.out, List.drop_eq_nil_of_le (by rw [hlen.out]; omega)]; rfl), hbl⟩

/-! ### label.Fit, Fits -/
/-- The library's variable that a search reads holds some number. -/
def Glob (w : World) : Prop := ∃ m, w.cell? ⟨0, 0, none⟩ = some (.int .i64 m)
theorem Glob.below {w w' : World} (h : Glob w) (hb : Below w.heap.size w w') : Glob w' := by
  obtain ⟨m, hm⟩ := h
  exact ⟨m, (hb.cell (World.block_lt_of_cell? w _ hm)).trans hm⟩

def fitOf (l : List Lab) (m : Mat) : Bool :=
  if m.kind = 1 then (valueOf l m.name).toList == m.value.toList
  else if m.kind = 2 then !((valueOf l m.name).toList == m.value.toList)
  else if m.kind = 3 then Lib.hasPrefix (valueOf l m.name).data.toList m.value.data.toList
  else Lib.contains (valueOf l m.name).data.toList m.value.data.toList

set_option maxRecDepth 100000 in
set_option maxHeartbeats 1000000 in
theorem fit_calls (A : Option Addr) (n c : Nat) (l : List Lab) (m : Mat) (w : World) (M : Nat → Prop) (hl : Sl w M A n c l) (hG : Glob w) (hz : (valueOf l m.name).size < 4294967281) :
    Calls Try.prog 18 #[.slice A n c, .agg #[.int .i64 m.kind, .string m.name, .string m.value]] w fun e w' => e = .returned (.bool (fitOf l m)) ∧ Below w.heap.size w w' := by
  have hl2 := Sl.below hl ((Below.refl w.heap.size w).new (.cells #[.int .i64 m.kind, .string m.name, .string m.value] 49))
  by_cases h1 : m.kind = 1
  · have hf : Hid (fitOf l m = ((valueOf l m.name).toList == m.value.toList)) := by unfold Hid fitOf; rw [if_pos h1]
    have hk : (m.kind == 1) = true := by simp [h1]
    clear h1
    go_enter Try.func18, Try.ntmps18
    go_wp2_with (go_at_call 26; refine (value_calls _ _ _ _ _ _ _ hl2).mono ?_; rintro e w2 ⟨rfl, hb2⟩; have hc2 := bcell hb2)
    go_ret
    exact ⟨eq_bool hf.out, ((Below.refl _ _).new _).call hb2⟩
  · by_cases h2 : m.kind = 2
    · have hf : Hid (fitOf l m = !((valueOf l m.name).toList == m.value.toList)) := by unfold Hid fitOf; rw [if_neg h1, if_pos h2]
      have hk : (m.kind == 1) = false := by simp [h2]
      have hk2 : (m.kind == 2) = true := by simp [h2]
      clear h1 h2
      go_enter Try.func18, Try.ntmps18
      go_wp2_with (go_at_call 26; refine (value_calls _ _ _ _ _ _ _ hl2).mono ?_; rintro e w2 ⟨rfl, hb2⟩; have hc2 := bcell hb2)
      go_ret
      exact ⟨eq_bool hf.out, ((Below.refl _ _).new _).call hb2⟩
    · by_cases h3 : m.kind = 3
      · have hf : Hid (fitOf l m = Lib.hasPrefix (valueOf l m.name).data.toList m.value.data.toList) := by unfold Hid fitOf; rw [if_neg h1, if_neg h2, if_pos h3]
        have hk : (m.kind == 1) = false := by simp [h3]
        have hk2 : (m.kind == 2) = false := by simp [h3]
        have hk3 : (m.kind == 3) = true := by simp [h3]
        clear h1 h2 h3
        go_enter Try.func18, Try.ntmps18
        go_wp2_with (first | (go_at_call 26; refine (value_calls _ _ _ _ _ _ _ hl2).mono ?_; rintro e w2 ⟨rfl, hb2⟩; have hc2 := bcell hb2) | (go_at_call 27; refine (Try.strings_HasPrefix _ _ _).mono ?_; rintro e w3 ⟨rfl, rfl⟩))
        go_ret
        exact ⟨eq_bool hf.out, ((Below.refl _ _).new _).call hb2⟩
      · have hf : Hid (fitOf l m = Lib.contains (valueOf l m.name).data.toList m.value.data.toList) := by unfold Hid fitOf; rw [if_neg h1, if_neg h2, if_neg h3]
        have hk : (m.kind == 1) = false := by simp [h1]
        have hk2 : (m.kind == 2) = false := by simp [h2]
        have hk3 : (m.kind == 3) = false := by simp [h3]
        clear h1 h2 h3
        go_enter Try.func18, Try.ntmps18
        go_wp2_with (first | (go_at_call 26; refine (value_calls _ _ _ _ _ _ _ hl2).mono ?_; rintro e w2 ⟨rfl, hb2⟩; have hc2 := bcell hb2; obtain ⟨mm, hmm⟩ := (hG.below ((Below.refl _ _).new _)).below hb2) | (go_at_call 28; refine (Try.strings_Contains _ _ mm _ hz hmm).mono ?_; rintro e w3 ⟨rfl, rfl⟩))
        go_ret
        exact ⟨eq_bool hf.out, ((Below.refl _ _).new _).call hb2⟩

/-- What label.Fits answers: whether they fit, and the error. -/
def fitsOf (l : List Lab) (m : List Mat) : Bool × Int := if labCheck l ≠ 0 then (false, labCheck l) else if matCheck m ≠ 0 then (false, matCheck m) else (m.all (fitOf l), 0)

theorem labGo_ok {l : List Lab} : ∀ {last : ByteArray}, labGo last l = 0 → ∀ x ∈ l, nameOk x.name = true ∧ x.value.size ≤ 40 := by
  induction l with
  | nil => intro last _ x hx; cases hx
  | cons y r ih =>
    intro last h x hx
    unfold labGo at h
    by_cases h1 : nameOk y.name = false
    · rw [if_pos h1] at h; cases h
    · rw [if_neg h1] at h
      by_cases h2 : bLeq y.name last = true
      · rw [if_pos h2] at h; cases h
      · rw [if_neg h2] at h
        by_cases h3 : 40 < y.value.size
        · rw [if_pos h3] at h; cases h
        · rw [if_neg h3] at h
          rcases List.mem_cons.1 hx with rfl | hx
          · exact ⟨by simpa using h1, by omega⟩
          · exact ih h x hx
theorem labCheck_ok {l : List Lab} (h : labCheck l = 0) : l.length ≤ 10 ∧ ∀ x ∈ l, nameOk x.name = true ∧ x.value.size ≤ 40 := by
  unfold labCheck at h
  by_cases h1 : 10 < l.length
  · rw [if_pos h1] at h; cases h
  · rw [if_neg h1] at h
    exact ⟨by omega, labGo_ok h⟩
theorem value_small {l : List Lab} (h : labCheck l = 0) (s : ByteArray) : (valueOf l s).size < 4294967281 :=
  Nat.lt_of_le_of_lt (valueOf_size fun x hx => ((labCheck_ok h).2 x hx).2) (by decide)

theorem fits_no {l : List Lab} {m : List Mat} {k : Nat} {x : Mat} {r : Bool} (h : Hid (r = (m.drop k).all (fitOf l))) (hx : Hid (m[k]? = some x)) (hf : fitOf l x = false) : r = false := by
  rw [h.out, drop_cons hx.out, List.all_cons, hf]; rfl
theorem fits_on {l : List Lab} {m : List Mat} {k : Nat} {x : Mat} {r : Bool} (h : Hid (r = (m.drop k).all (fitOf l))) (hx : Hid (m[k]? = some x)) (hf : fitOf l x = true) : r = (m.drop (k + 1)).all (fitOf l) := by
  rw [h.out, drop_cons hx.out, List.all_cons, hf]; rfl
theorem eq_pair {a b : Bool} {k : IntKind} {m n : Int} (h : (b, n) = (a, m)) : Ending.returned (.tuple #[.bool a, .int k m]) = .returned (.tuple #[.bool b, .int k n]) := by cases h; rfl

set_option maxRecDepth 100000 in
set_option maxHeartbeats 1000000 in
theorem fits_calls (A B : Option Addr) (n c n' c' : Nat) (l : List Lab) (m : List Mat) (w : World) (M : Nat → Prop) (hl : Sl w M A n c l) (hm : Sl w M B n' c' m) (hG : Glob w) :
    Calls Try.prog 7 #[.slice A n c, .slice B n' c'] w fun e w' => e = .returned (.tuple #[.bool (fitsOf l m).1, .int .i64 (fitsOf l m).2]) ∧ Below w.heap.size w w' := by
  have hn := hm.le
  have hlen := Lib.hid hm.len
  by_cases h1 : labCheck l = 0
  · have H1 := Lib.hid h1
    clear h1
    by_cases h2 : matCheck m = 0
    · have hv0 : Hid ((m.all (fitOf l), (0 : Int)) = fitsOf l m) := by unfold Hid fitsOf; rw [if_neg (by rw [H1.out]; decide), if_neg (by rw [h2]; decide)]
      have H2 := Lib.hid h2
      clear h2
      go_enter Try.func7, Try.ntmps7
      go_wp2_with (first | (go_at_call 11; refine (check_calls _ _ _ _ _ _ hl).mono ?_; rintro e w2 ⟨rfl, hb2⟩; rw [H1.out]) | (go_at_call 13; refine (checkMatch_calls _ _ _ _ _ _ (hm.below hb2)).mono ?_; rintro e w3 ⟨rfl, hb3⟩; rw [H2.out]))
      have hb := hb2.call hb3
      clear hb2 hb3
      go_loopw [22] (fun i wr => ∃ k : Nat, k ≤ n' ∧ i = .int .i64 k ∧ Below w.heap.size w wr ∧ Hid (m.all (fitOf l) = (m.drop k).all (fitOf l))) (fun i _ => n' - (intOf i).toNat)
      case atStart => exact ⟨0, Nat.zero_le _, rfl, hb, rfl⟩
      case round =>
        clear hb
        obtain ⟨k, hk, rfl, hbl, hv⟩ := hrel
        by_cases hlt : k < n'
        · obtain ⟨b, off, x, rfl, hx0, g0, g1, g2, hs0, hs1, hs2⟩ := (hm.below hbl).mat hlt
          have hx := Lib.hid hx0
          clear hx0 hm
          have hl2 := hl.below (hbl.new (.cells #[.int .i64 x.kind, .string x.name, .string x.value] 49))
          have hG2 := hG.below (hbl.new (.cells #[.int .i64 x.kind, .string x.name, .string x.value] 49))
          have hz := value_small H1.out x.name
          go_wp2_with (go_at_call 18; refine (fit_calls _ _ _ _ x _ _ hl2 hG2 hz).mono ?_; rintro e w4 ⟨rfl, hb4⟩)
          · go_ret2
            refine ⟨eq_pair ?_, (hbl.new _).call hb4⟩
            rw [← hv0.out, fits_no hv hx (by simpa using (by assumption : (!fitOf l x) = true))]
          · go_roundw
            case rel => exact ⟨k + 1, by omega, by go_num, (hbl.new _).call hb4, fits_on hv hx (by simpa using (by assumption : (!fitOf l x) = false))⟩
            case measure => simp [intOf]; omega
        · go_wp2
          go_ret2
          refine ⟨eq_pair ?_, hbl⟩
          rw [← hv0.out, hv.out, List.drop_eq_nil_of_le (by rw [hlen.out]; omega)]; rfl
    · have hv0 : Hid ((false, matCheck m) = fitsOf l m) := by unfold Hid fitsOf; rw [if_neg (by rw [H1.out]; decide), if_pos h2]
      have H2 : (matCheck m != 0) = true := by simpa using h2
      clear h2
      go_enter Try.func7, Try.ntmps7
      go_wp2_with (first | (go_at_call 11; refine (check_calls _ _ _ _ _ _ hl).mono ?_; rintro e w2 ⟨rfl, hb2⟩; rw [H1.out]) | (go_at_call 13; refine (checkMatch_calls _ _ _ _ _ _ (hm.below hb2)).mono ?_; rintro e w3 ⟨rfl, hb3⟩))
      go_ret2
      exact ⟨eq_pair hv0.out.symm, hb2.call hb3⟩
  · have hv0 : Hid ((false, labCheck l) = fitsOf l m) := by unfold Hid fitsOf; rw [if_pos h1]
    have H1 : (labCheck l != 0) = true := by simpa using h1
    clear h1
    go_enter Try.func7, Try.ntmps7
    go_wp2_with (go_at_call 11; refine (check_calls _ _ _ _ _ _ hl).mono ?_; rintro e w2 ⟨rfl, hb2⟩)
    go_ret2
    exact ⟨eq_pair hv0.out.symm, hb2⟩
end Go.Proofs.Ytflfgeaggknpaaa
