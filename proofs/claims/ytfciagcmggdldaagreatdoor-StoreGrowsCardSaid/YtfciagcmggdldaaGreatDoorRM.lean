/-
  label.ReadMatch and Read, at texts that Text and MatchText have made: they give back what was told.
-/
import Derived.Test.YtfciagcmggdldaaGreatDoorOne
namespace Go.Proofs.YtfciagcmggdldaaGreatDoor
open Go.RowKit

/-- What is left to be read before the matches r. -/
def leftL (r : List MatL) : Str := joinL (r.map matTextL) ++ [125]
/-- What stands behind a match. -/
def nextL (r : List MatL) : Str := if r = [] then [125] else 44 :: leftL r
theorem leftL_cons (x : MatL) (r : List MatL) : leftL (x :: r) = matTextL x ++ nextL r := by
  unfold leftL nextL
  cases r with
  | nil => simp [joinL]
  | cons y r => simp [joinL, leftL]
theorem nextL_trim (r : List MatL) : Lib.trimPrefix (nextL r) [44] = leftL r := by
  unfold nextL Lib.trimPrefix Lib.hasPrefix
  by_cases e : r = []
  · rw [if_pos e, e]; rfl
  · rw [if_neg e]; simp
theorem leftL_le (x : MatL) (r : List MatL) : (leftL r).length ≤ (leftL (x :: r)).length := by
  rw [leftL_cons, List.length_append]
  unfold nextL
  split
  · rename_i e; subst e; simp [leftL, joinL]
  · simp; omega
theorem leftL_open (x : MatL) (r : List MatL) : leftL (x :: r) ≠ [] ∧ leftL (x :: r) ≠ [125] := by
  have h := matTextL_long x
  rw [leftL_cons]
  constructor
  · intro e
    have h3 := List.append_eq_nil_iff.1 e
    rw [h3.1] at h
    simp at h
  · intro e
    have := congrArg List.length e
    rw [List.length_append] at this
    have h2 : 1 ≤ (nextL r).length := by unfold nextL; split <;> simp
    simp only [List.length_cons, List.length_nil] at this
    omega

def outLen : Value → Nat
  | .slice _ n _ => n
  | _ => 0

set_option maxRecDepth 100000 in
set_option maxHeartbeats 2000000 in
theorem ReadMatch_calls (m : List Mat) (s : ByteArray) (w : World) (hsx : s = strOf (textL (m.map Mat.l))) (hok : matCheck m = 0) (hs : s.size ≤ 10000) (hS : SignsAt w) :
    Calls Tryz.prog 63 #[.string s] w fun e w' => (∃ v', e = .returned (.tuple #[v', .int .i64 0]) ∧ Own w' (fun _ => False) w.heap.size 115 v' m) ∧ Below w.heap.size w w' := by
  obtain ⟨h10, hall⟩ := matCheck_ok hok
  have hM : ∀ k : Nat, (fun _ => False) k → k < w.heap.size := fun _ h => h.elim
  have hcut := Tryz.strings_CutPrefix s ⟨#[123]⟩ w
  have hd : s.data.toList = 123 :: leftL (m.map Mat.l) := by rw [hsx]; rfl
  obtain ⟨t, ht⟩ : ∃ t, Hid (t = strOf (leftL (m.map Mat.l))) := ⟨_, rfl⟩
  have hcut2 : Calls Tryz.prog 72 #[.string s, .string ⟨#[123]⟩] w fun e w' => e = .returned (.tuple #[.string t, .bool true]) ∧ w = w' := hcut.mono fun e w' ⟨h1, h2⟩ => ⟨by
    rw [h1, hd, ht.out]
    show Ending.returned (.tuple #[.string ⟨(Lib.trimPrefix (123 :: leftL (m.map Mat.l)) [123]).toArray⟩, .bool (Lib.hasPrefix (123 :: leftL (m.map Mat.l)) [123])]) = _
    simp [Lib.trimPrefix, Lib.hasPrefix, strOf], h2.symm⟩
  have hcut2 := Lib.hid hcut2
  have hall := Lib.hid hall
  have hts : t.size ≤ 10000 := by
    have h1 : s.data.toList.length = s.size := Array.length_toList
    rw [ht.out, strOf_size]
    have := congrArg List.length hd
    simp at this; omega
  have hsxH := Lib.hid hsx
  clear hcut hd hsx
  go_enter Tryz.func63, Tryz.ntmps63
  go_wp2_with fail
  refine hcut2.out.mono ?_
  rintro e w' ⟨rfl, rfl⟩
  go_wp2
  go_loopw [4, 6] (fun r o wr => ∃ (k : Nat) (rs : ByteArray), k ≤ m.length ∧ r = .string rs ∧ Hid (rs = strOf (leftL ((m.drop k).map Mat.l))) ∧ rs.size ≤ 10000 ∧ Own wr (fun _ => False) w.heap.size 115 o (m.take k) ∧ Below w.heap.size w wr) (fun _ o _ => m.length - outLen o)
  case atStart => exact ⟨0, t, Nat.zero_le _, rfl, ht, hts, Own.nil _ _ _ _, Below.refl _ _⟩
  case round =>
    obtain ⟨k, rs, hk, rfl, hrs, hrz, ho, hbl⟩ := hrel
    obtain ⟨A3, c3, rfl⟩ := ho.form
    have hol : (m.take k).length = k := by rw [List.length_take]; omega
    by_cases hlt : k < m.length
    · obtain ⟨x, hx⟩ : ∃ x, m[k]? = some x := ⟨_, List.getElem?_eq_getElem hlt⟩
      have hdr : m.drop k = x :: m.drop (k + 1) := drop_cons hx
      obtain ⟨hk1, hk4, hnm, hvl⟩ := hall.out x (List.mem_of_getElem? hx)
      obtain ⟨n1, n2⟩ := leftL_open x.l ((m.drop (k + 1)).map Mat.l)
      have hrl : rs.toList = leftL (x.l :: (m.drop (k + 1)).map Mat.l) := by rw [Lib.toList_data, hrs.out, hdr]; rfl
      have q1 : rs.toList.isEmpty = false := by rw [hrl]; cases h : leftL (x.l :: (m.drop (k + 1)).map Mat.l) with | nil => exact absurd h n1 | cons _ _ => rfl
      have q2 : (!rs.toList == [125]) = true := by rw [hrl]; simpa using n2
      obtain ⟨nx, hnx⟩ : ∃ nx, Hid (nx = strOf (nextL ((m.drop (k + 1)).map Mat.l))) := ⟨_, rfl⟩
      have hone : ∀ W, SignsAt W → Calls Tryz.prog 73 #[.string rs] W fun e w' => e = .returned (.tuple #[.agg #[.int .i64 x.kind, .string x.name, .string x.value], .string nx, .bool true]) ∧ Below W.heap.size W w' := fun W hW => by
        rw [hnx.out]
        exact one_calls x (nextL ((m.drop (k + 1)).map Mat.l)) rs W (by rw [hrs.out, hdr, List.map_cons, leftL_cons]) (by omega) hnm hk1 hk4 hW
      have hone := Lib.hid (hone wr (hS.below hbl))
      obtain ⟨r2, hr2⟩ : ∃ r2, Hid (r2 = strOf (leftL ((m.drop (k + 1)).map Mat.l))) := ⟨_, rfl⟩
      have htrim : ∀ W, Calls Tryz.prog 74 #[.string nx, .string ⟨#[44]⟩] W fun e w' => e = .returned (.string r2) ∧ W = w' := fun W => (Tryz.strings_TrimPrefix nx ⟨#[44]⟩ W).mono fun e w' ⟨g1, g2⟩ => ⟨by
        rw [g1, hr2.out, hnx.out]
        show Ending.returned (.string ⟨(Lib.trimPrefix (nextL ((m.drop (k + 1)).map Mat.l)) [44]).toArray⟩) = _
        rw [nextL_trim]; rfl, g2.symm⟩
      have htrim := Lib.hid htrim
      have hr2s : r2.size ≤ 10000 := by
        have h1 := leftL_le x.l ((m.drop (k + 1)).map Mat.l)
        have h2 : rs.size = (leftL (x.l :: (m.drop (k + 1)).map Mat.l)).length := by rw [hrs.out, hdr]; rfl
        rw [hr2.out, strOf_size]; omega
      obtain ⟨xs, hxs⟩ : ∃ xs, Hid (xs = m.take k) := ⟨_, rfl⟩
      rw [← hxs.out] at ho hol
      have hsz : (xs.length + 1) * 40 ≤ 140737488355328 := by omega
      have hk1i : i64ok x.kind := ⟨by omega, by omega⟩
      have hnsz := nameOk_size hnm
      have hx := Lib.hid hx
      rw [hol] at ho
      clear hrl n1 n2 hdr hnm
      go_wp2_with (first
        | (go_at_call 73; refine hone.out.mono ?_; rintro e w4 ⟨rfl, hb4⟩
           have hon := (ho.below hb4).alloc (.cells #[.int .i64 x.kind, .string x.name, .string x.value] 115)
           have hBn := (hbl.call hb4).new (.cells #[.int .i64 x.kind, .string x.name, .string x.value] 115))
        | (at_builtin; refine wpList_app1 (α := Mat) (w := w4.alloc (.cells #[.int .i64 x.kind, .string x.name, .string x.value] 115)) rfl (.tmp 33) (.tmp 35) 103 rfl elemMat rfl hon (by simp [Act.eval]) x ⟨rfl, hk1i, by omega, by omega⟩ hM hsz hBn.size ?_; intro v' w' ho' hb' hk'; obtain ⟨A5, c5, rfl⟩ := ho'.form)
        | (go_at_call 74; refine (htrim.out _).mono ?_; rintro e w' ⟨rfl, rfl⟩))
      have e5 : xs ++ [x] = m.take (k + 1) := by rw [hxs.out, List.take_add_one, hx.out]; rfl
      have e6 : (xs ++ [x]).length = k + 1 := by rw [List.length_append, hol]; rfl
      rw [e6, e5] at ho'
      refine ⟨⟨k + 1, r2, by omega, rfl, hr2, hr2s, ho', hBn.trans hb'⟩, ?_⟩
      rw [← hxs.out, hol]
      show m.length - (k + 1) < m.length - k
      omega
    · obtain rfl : k = m.length := by omega
      rw [List.take_length] at ho
      have hrl : rs.toList = [125] := by rw [Lib.toList_data, hrs.out, List.drop_length]; rfl
      have q1 : rs.toList.isEmpty = false := by rw [hrl]; rfl
      have q2 : (!rs.toList == [125]) = false := by rw [hrl]; rfl
      have hmt := MatchText_calls A3 (m.take m.length).length c3 m wr (fun _ => False) (fun _ h => h.elim)
      obtain ⟨A6, c6, e6, hs6⟩ := ho.sl (fun _ h => h.elim)
      have hmt2 : Calls Tryz.prog 75 #[.slice A3 m.length c3] wr fun e w' => e = .returned (.tuple #[.string s, .int .i64 0]) ∧ Below wr.heap.size wr w' := by
        injection e6 with e7 e8 e9
        subst e7; subst e9
        have h := MatchText_calls A3 m.length c3 m wr (fun _ => False) (fun _ h => h.elim) hs6 (hS.below hbl)
        rw [hok] at h
        rw [← hsxH.out] at h
        exact h
      have hmt2 := Lib.hid hmt2
      rw [List.take_length]
      clear hrl hmt
      go_wp2_with (go_at_call 75; refine hmt2.out.mono ?_; rintro e w4 ⟨rfl, hb4⟩)
      go_wp2
      go_ret2
      exact ⟨⟨_, rfl, ho.below hb4⟩, hbl.call hb4⟩

theorem elemLab : Elem Tryz.prog 25 73 (Rep.size Lab) 32 := by
  have h : (Tryz.prog.info? 73).map (fun i => (i.zero, i.size, i.bytes)) = some (some (.agg #[.string ⟨#[]⟩, .string ⟨#[]⟩]), Rep.size Lab, 32) := by kernel_rfl
  obtain ⟨i, hi, hz0, hz1, hz2⟩ := info_parts h
  exact ⟨Tryz.underlying25, i, _, hi, hz0, hz1, hz2, rfl, by decide, by decide⟩
theorem labText_size {l : List Lab} (h : labCheck l = 0) : (labText l).size ≤ 10000 := by
  obtain ⟨h10, hall⟩ := matCheck_ok (labMat_ok h)
  rw [List.length_map] at h10
  unfold labText
  rw [strOf_size]
  unfold textL
  have := joinL_len (l := (l.map fun x => (labMat x).l).map matTextL) (N := 104) (fun y hy => by
    obtain ⟨z, hz, rfl⟩ := List.mem_map.1 hy
    obtain ⟨a, ha, rfl⟩ := List.mem_map.1 hz
    obtain ⟨_, _, h3, h4⟩ := hall (labMat a) (List.mem_map.2 ⟨a, ha, rfl⟩)
    exact matStr_size (nameOk_size h3) h4)
  simp only [List.length_map] at this
  simp only [List.length_cons, List.length_append, List.length_nil]
  omega

set_option maxRecDepth 100000 in
set_option maxHeartbeats 2000000 in
theorem Read_calls (l : List Lab) (s : ByteArray) (w : World) (M : Nat → Prop) (hM : ∀ k, M k → k < w.heap.size) (hsx : s = labText l) (hok : labCheck l = 0) (hS : SignsAt w) :
    Calls Tryz.prog 48 #[.string s] w fun e w' => (∃ v', e = .returned (.tuple #[v', .int .i64 0]) ∧ Own w' M w.heap.size 73 v' l) ∧ Below w.heap.size w w' := by
  have hlen := labCheck_len hok
  have hrm := ReadMatch_calls (l.map labMat) s w (by rw [hsx, labText, List.map_map]; rfl) (labMat_ok hok) (by rw [hsx]; exact labText_size hok) hS
  have hrm := Lib.hid hrm
  have htx : ∀ (A : Option Addr) (c : Nat) (W : World), (∀ k, M k → k < W.heap.size) → Sl W M A l.length c l → SignsAt W → Calls Tryz.prog 33 #[.slice A l.length c] W fun e w' => e = .returned (.tuple #[.string s, .int .i64 0]) ∧ Below W.heap.size W w' := fun A c W h1 h2 h3 => by
    have h := Text_calls A l.length c l W M h1 h2 h3
    rw [hok] at h
    rw [hsx]
    exact h
  have htx := Lib.hid htx
  clear hsx hok
  go_enter Tryz.func48, Tryz.ntmps48
  go_wp2_with fail
  refine hrm.out.mono ?_
  rintro e w2 ⟨⟨v2, rfl, ho2⟩, hb2⟩
  obtain ⟨A2, c2, rfl, hs2⟩ := ho2.sl (fun _ h => h.elim)
  rw [List.length_map] at hs2 ⊢
  clear ho2
  have hM2 : ∀ k, M k → k < w2.heap.size := fun k hk => Nat.lt_of_lt_of_le (hM k hk) hb2.size
  go_wp2
  go_loopw [6, 21] (fun o i wr => ∃ k : Nat, k ≤ l.length ∧ i = .int .i64 k ∧ Own wr M w2.heap.size 73 o (l.take k) ∧ Below w2.heap.size w2 wr) (fun _ i _ => l.length - (intOf i).toNat)
  case atStart => exact ⟨0, Nat.zero_le _, rfl, Own.nil _ _ _ _, Below.refl _ _⟩
  case round =>
    obtain ⟨k, hk, rfl, ho, hbl⟩ := hrel
    have hB := hb2.call hbl
    by_cases hlt : k < l.length
    · obtain ⟨b, off, y, rfl, hy0, g0, g1, g2, _, hy1, hy2⟩ := (hs2.below hbl).mat hlt
      obtain ⟨x, hx⟩ : ∃ x, l[k]? = some x := ⟨_, List.getElem?_eq_getElem hlt⟩
      rw [List.getElem?_map, hx] at hy0
      injection hy0 with hy0
      subst hy0
      rw [show (labMat x).kind = 1 from rfl] at g0
      rw [show (labMat x).name = x.name from rfl] at g1 hy1
      rw [show (labMat x).value = x.value from rfl] at g2 hy2
      obtain ⟨xs, hxs⟩ : ∃ xs, Hid (xs = l.take k) := ⟨_, rfl⟩
      rw [← hxs.out] at ho
      have hsz : (xs.length + 1) * 32 ≤ 140737488355328 := by rw [hxs.out, List.length_take]; omega
      have hx := Lib.hid hx
      have hBn := hB.new (.cells #[.int .i64 1, .string x.name, .string x.value] 115)
      have hon := ho.alloc (.cells #[.int .i64 1, .string x.name, .string x.value] 115)
      have hbn := hbl.new (.cells #[.int .i64 1, .string x.name, .string x.value] 115)
      go_wp2_with (at_builtin; refine wpList_app1 (α := Lab) (w := wr.alloc (.cells #[.int .i64 1, .string x.name, .string x.value] 115)) rfl (.tmp 25) (.tmp 31) 25 rfl elemLab rfl hon (by simp [Act.eval]) x ⟨rfl, hy1, hy2⟩ hM2 hsz hbn.size ?_; intro v' w' ho' hb' hk')
      go_roundw
      case rel => exact ⟨k + 1, by omega, by go_num, by rw [List.take_add_one, hx.out, ← hxs.out]; exact ho', hbn.trans hb'⟩
      case measure => simp [intOf]; omega
    · obtain rfl : k = l.length := by omega
      rw [List.take_length] at ho
      obtain ⟨A3, c3, rfl, hs3⟩ := ho.sl hM2
      have htx2 := Lib.hid (htx.out A3 c3 wr (fun q hq => Nat.lt_of_lt_of_le (hM q hq) hB.size) hs3 (hS.below hB))
      go_wp2_with (go_at_call 33; refine htx2.out.mono ?_; rintro e w4 ⟨rfl, hb4⟩)
      go_wp2
      go_ret2
      exact ⟨⟨_, rfl, (ho.below hb4).from_ hb2.size⟩, hB.call hb4⟩
end Go.Proofs.YtfciagcmggdldaaGreatDoor
