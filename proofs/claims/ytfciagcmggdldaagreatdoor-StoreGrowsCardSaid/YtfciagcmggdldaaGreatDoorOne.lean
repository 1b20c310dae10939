/-
  label.one, at a text that begins with a match.
-/
import Derived.Test.YtfciagcmggdldaaGreatDoorUnq
namespace Go.Proofs.YtfciagcmggdldaaGreatDoor
open Go.RowKit

theorem name_plain {n : ByteArray} (h : nameOk n = true) : ∀ (j : Nat) b, n.data.toList[j]? = some b → b.toNat < 128 ∧ b ≠ 33 ∧ b ≠ 61 := by
  intro j b hb
  unfold nameOk at h
  simp only [Bool.and_eq_true] at h
  have h1 := List.all_eq_true.1 h.2 b (List.mem_of_getElem? hb)
  unfold chrOk at h1
  simp only [Bool.or_eq_true, Bool.and_eq_true, decide_eq_true_eq, beq_iff_eq] at h1
  refine ⟨by omega, fun e => ?_, fun e => ?_⟩ <;> (subst e; simp at h1)

/-- What stands behind the name. -/
def behind (x : Mat) (rest : Str) : Str := signL x.kind ++ (quotedL x.value.data.toList ++ rest)
theorem matText_split (x : Mat) (rest : Str) : matTextL x.l ++ rest = x.name.data.toList ++ behind x rest := by
  unfold matTextL behind Mat.l
  simp

theorem one_front {x : Mat} (hn : nameOk x.name = true) (h1 : 1 ≤ x.kind) (h4 : x.kind ≤ 4) (rest : Str) : ∃ c, Front (strOf (matTextL x.l ++ rest)) x.name.size c := by
  have hlen : x.name.data.toList.length = x.name.size := Array.length_toList
  have hk : ∃ c t, signL x.kind = c :: t ∧ (c = 33 ∨ c = 61) := by
    obtain h | h | h | h : x.kind = 1 ∨ x.kind = 2 ∨ x.kind = 3 ∨ x.kind = 4 := by omega
    all_goals (rw [h]; exact ⟨_, _, rfl, by decide⟩)
  obtain ⟨c, t, hs, hc⟩ := hk
  refine ⟨c, ?_, hc, fun j b hj hb => ?_⟩
  · rw [strOf_data, matText_split, List.getElem?_append_right (by omega), hlen, Nat.sub_self, behind, hs]; rfl
  · rw [strOf_data, matText_split, List.getElem?_append_left (by omega)] at hb
    exact name_plain hn j b hb

theorem pre_kind {x : Mat} (h1 : 1 ≤ x.kind) (h4 : x.kind ≤ 4) (rest : Str) (k : Int) (hk : x.kind ≤ k) (hk4 : k ≤ 4) :
    Lib.hasPrefix (behind x rest) (signL k ++ [34]) = decide (k = x.kind) := by
  unfold behind quotedL
  generalize x.value.data.toList.flatMap esc ++ [34] = u
  have e : x.kind = 1 ∨ x.kind = 2 ∨ x.kind = 3 ∨ x.kind = 4 := by omega
  have e2 : k = 1 ∨ k = 2 ∨ k = 3 ∨ k = 4 := by omega
  rcases e with e | e | e | e <;> rcases e2 with e2 | e2 | e2 | e2 <;> rw [e, e2] <;> simp [signL, Lib.hasPrefix] <;> rfl
theorem behind_drop {x : Mat} (rest : Str) : (behind x rest).drop ((signL x.kind).length + 1) = x.value.data.toList.flatMap esc ++ 34 :: rest := by
  unfold behind quotedL
  rw [← List.drop_drop, List.drop_left]
  simp

set_option maxRecDepth 100000 in
set_option maxHeartbeats 300000 in
theorem one_calls (x : Mat) (rest : Str) (s : ByteArray) (w : World) (hsx : s = strOf (matTextL x.l ++ rest)) (hs : s.size ≤ 100000000) (hn : nameOk x.name = true) (h1 : 1 ≤ x.kind) (h4 : x.kind ≤ 4) (hS : SignsAt w) :
    Calls Tryz.prog 73 #[.string s] w fun e w' => e = .returned (.tuple #[.agg #[.int .i64 x.kind, .string x.name, .string x.value], .string (strOf rest), .bool true]) ∧ Below w.heap.size w w' := by
  obtain ⟨c, hF⟩ := one_front hn h1 h4 rest
  rw [← hsx] at hF
  have hidx := fun W => indexAny_calls s x.name.size c W hF (by omega)
  have hidx := Lib.hid hidx
  have hlen : x.name.data.toList.length = x.name.size := Array.length_toList
  have hssz : x.name.size ≤ s.size := by rw [hsx, strOf_size, matText_split, List.length_append]; omega
  have e1 : Hid (s.extract 0 x.name.size = x.name) := by
    apply ByteArray.ext
    apply Array.toList_inj.1
    rw [Lib.extract_data, hsx, strOf_data, matText_split, List.drop_zero, Nat.sub_zero, ← hlen, List.take_left]
  have e2 : Hid (s.extract x.name.size s.size = strOf (behind x rest)) := by
    unfold Hid
    rw [extract_drop, hsx, strOf_data, matText_split, ← hlen, List.drop_left]
  clear hF hlen hsx
  go_enter Tryz.func73, Tryz.ntmps73
  go_wp2_with fail
  refine (hidx.out _).mono ?_
  rintro e w2 ⟨rfl, hb2⟩
  have hsi : (x.name.size : Int) ≤ (s.size : Int) := by omega
  have hbn := hb2.size
  have c0 : w2.cell? ⟨w.heap.size, 0, none⟩ = some (.int .i64 0) := (hb2.cell (p := ⟨w.heap.size, 0, none⟩) (by simp)).trans (by simp)
  have c1 : w2.cell? ⟨w.heap.size, 1, none⟩ = some (.string ⟨#[]⟩) := (hb2.cell (p := ⟨w.heap.size, 1, none⟩) (by simp)).trans (by simp)
  have c2 : w2.cell? ⟨w.heap.size, 2, none⟩ = some (.string ⟨#[]⟩) := (hb2.cell (p := ⟨w.heap.size, 2, none⟩) (by simp)).trans (by simp)
  have f0 : ∀ o, w2.frozen? ⟨w.heap.size, o, none⟩ = false := fun o => (hb2.frozen (p := ⟨w.heap.size, o, none⟩) (by simp)).trans (by simp)
  go_wp2
  go_region
  rw [e1.out, e2.out]
  obtain ⟨t, ht⟩ : ∃ t, Hid (t = strOf (behind x rest)) := ⟨_, rfl⟩
  rw [← ht.out]
  have htsz : t.size ≤ 100000000 := by rw [ht.out, ← e2.out, ByteArray.size_extract]; omega
  obtain ⟨W3, hW3⟩ : ∃ W3, Hid (W3 = (w2.setCell ⟨w.heap.size, 1, none⟩ (.string x.name)).drew) := ⟨_, rfl⟩
  have hB3 : Below w.heap.size w W3 := by
    rw [hW3.out]
    exact ((((Below.refl _ _).new _).call hb2).setCell (p := ⟨w.heap.size, 1, none⟩) (Nat.le_refl _) _).draws 1
  have d0 : W3.cell? ⟨w.heap.size, 0, none⟩ = some (.int .i64 0) := by rw [hW3.out, World.cell?_drew]; exact (World.cell?_setCell_other _ _ _ _ (by simp)).trans c0
  have d1 : W3.cell? ⟨w.heap.size, 1, none⟩ = some (.string x.name) := by rw [hW3.out, World.cell?_drew]; exact World.cell?_setCell_same w2 _ _ c1
  have d2 : W3.cell? ⟨w.heap.size, 2, none⟩ = some (.string ⟨#[]⟩) := by rw [hW3.out, World.cell?_drew]; exact (World.cell?_setCell_other _ _ _ _ (by simp)).trans c2
  have g0 : ∀ o, W3.frozen? ⟨w.heap.size, o, none⟩ = false := fun o => by rw [hW3.out]; simp [f0]
  rw [← hW3.out]
  have hS3 := Lib.hid (hS.below hB3)
  clear c0 c1 c2 f0 hb2 hbn
  go_wp2
  go_loopw [6] (fun i wr => ∃ k : Nat, x.kind ≤ k ∧ k ≤ 4 ∧ i = .int .i64 (k : Int) ∧ W3 = wr) (fun i _ => (intOf i).toNat)
  case atStart => exact ⟨4, by omega, by omega, rfl, rfl⟩
  case round =>
    obtain ⟨k, hk1, hk4, rfl, rfl⟩ := hrel
    have hsg := hS3.out k (by omega) hk4
    have hpre := Tryz.strings_HasPrefix t (strOf (signL (k : Int) ++ [34])) W3
    have hpk := pre_kind h1 h4 rest (k : Int) hk1 (by omega)
    rw [show t.data.toList = behind x rest from by rw [ht.out]; rfl, strOf_data, hpk] at hpre
    obtain ⟨sg, hsgl⟩ : ∃ sg, Hid (sg = strOf (signL (k : Int))) := ⟨_, rfl⟩
    rw [← hsgl.out] at hsg
    have hsgs : sg.size ≤ 2 := by rw [hsgl.out, strOf_size]; exact signL_len _
    have hcat : sg ++ (⟨#[34]⟩ : ByteArray) = strOf (signL (k : Int) ++ [34]) := by rw [hsgl.out]; exact strOf_app _ [34]
    rw [← hcat] at hpre
    have hpre : Calls Tryz.prog 96 #[.string t, .string (sg ++ ⟨#[34]⟩)] W3 fun e w' => e = .returned (.bool (decide ((k : Int) = x.kind))) ∧ W3 = w' := hpre.mono fun e w' ⟨a, b⟩ => ⟨a, b.symm⟩
    have hk5 : (k : Int) < 5 := by omega
    have hk0 : (0 : Int) ≤ (k : Int) := by omega
    have hkk : ((k : Int)).toNat = k := by omega
    have hz1 : ¬ 9223372036854775807 < sg.size + 1 := by omega
    clear hpk hcat
    by_cases hkx : (k : Int) = x.kind
    · rw [decide_eq_true hkx] at hpre
      have hpre := Lib.hid hpre
      have hdt : t.data.toList.drop (sg.size + 1) = x.value.data.toList.flatMap esc ++ 34 :: rest := by
        rw [ht.out, strOf_data, hsgl.out, strOf_size, hkx]; exact behind_drop rest
      have htl : sg.size + 1 ≤ t.size := by
        have h1 : t.data.toList.length = t.size := Array.length_toList
        have h2 := congrArg List.length hdt
        rw [List.length_drop] at h2
        simp at h2
        omega
      obtain ⟨rs, hrs⟩ : ∃ rs, Hid (rs = strOf rest) := ⟨_, rfl⟩
      have hunq : ∀ W, Calls Tryz.prog 97 #[.string (t.extract (sg.size + 1) t.size)] W fun e w' => e = .returned (.tuple #[.string x.value, .string rs, .bool true]) ∧ Below W.heap.size W w' := fun W => by
        have h := unquoted_calls (t.extract (sg.size + 1) t.size) W (by rw [ByteArray.size_extract]; omega)
        rw [extract_drop, strOf_data, hdt, unqGo_quoted] at h
        rw [extract_drop, hdt, hrs.out]
        exact h
      have hunq := Lib.hid hunq
      have hw1 : IntKind.i64.wrap ((sg.size : Int) + 1) = (sg.size : Int) + 1 := IntWalk.i64_in _ (by omega)
      have hw3 : ((sg.size : Int) + 1).toNat = sg.size + 1 := by omega
      have hw4 : (sg.size : Int) + 1 ≤ (t.size : Int) := by omega
      have hk1i : (1 : Int) ≤ (k : Int) := by omega
      have hkxH := Lib.hid hkx
      have f3 : ∀ o v, (W3.setCell ⟨w.heap.size, 0, none⟩ v).frozen? ⟨w.heap.size, o, none⟩ = false := fun o v => by simp [g0]
      have j0 : (W3.setCell ⟨w.heap.size, 0, none⟩ (.int .i64 (k : Int))).cell? ⟨w.heap.size, 0, none⟩ = some (.int .i64 (k : Int)) := World.cell?_setCell_same W3 _ _ d0
      have j1 : (W3.setCell ⟨w.heap.size, 0, none⟩ (.int .i64 (k : Int))).cell? ⟨w.heap.size, 1, none⟩ = some (.string x.name) := (World.cell?_setCell_other _ _ _ _ (by simp)).trans d1
      have j2 : (W3.setCell ⟨w.heap.size, 0, none⟩ (.int .i64 (k : Int))).cell? ⟨w.heap.size, 2, none⟩ = some (.string ⟨#[]⟩) := (World.cell?_setCell_other _ _ _ _ (by simp)).trans d2
      have hB4 := hB3.setCell (p := ⟨w.heap.size, 0, none⟩) (Nat.le_refl _) (.int .i64 (k : Int))
      have hlt4 : w.heap.size < (W3.setCell ⟨w.heap.size, 0, none⟩ (.int .i64 (k : Int))).heap.size := World.block_lt_of_cell? _ _ j0
      clear hdt htl hkx
      go_wp2_with (first
        | (go_at_call 96; refine hpre.out.mono ?_; rintro e w' ⟨rfl, rfl⟩)
        | (go_at_call 97; refine (hunq.out _).mono ?_; rintro e w5 ⟨rfl, hb5⟩
           have k0 := (hb5.cell (p := ⟨w.heap.size, 0, none⟩) hlt4).trans j0
           have k1 := (hb5.cell (p := ⟨w.heap.size, 1, none⟩) hlt4).trans j1
           have k2 := (hb5.cell (p := ⟨w.heap.size, 2, none⟩) hlt4).trans j2
           have k3 : ∀ o, w5.frozen? ⟨w.heap.size, o, none⟩ = false := fun o => (hb5.frozen (p := ⟨w.heap.size, o, none⟩) hlt4).trans (f3 o _)))
      refine bodyPost_ret (v := .tuple #[.agg #[.int .i64 (k : Int), .string x.name, .string x.value], .string rs, .bool true]) ?_ rfl ⟨?_, ?_⟩
      · simp [results, Tryz.results73, go_sem, k0, k1, k2]
      · rw [hkxH.out, hrs.out]
      · exact ((((hB4.call hb5).setCell (p := ⟨w.heap.size, 2, none⟩) (Nat.le_refl _) _).setCell (p := ⟨w.heap.size, 0, none⟩) (Nat.le_refl _) _).setCell (p := ⟨w.heap.size, 1, none⟩) (Nat.le_refl _) _).setCell (p := ⟨w.heap.size, 2, none⟩) (Nat.le_refl _) _
    · rw [decide_eq_false hkx] at hpre
      have hpre := Lib.hid hpre
      have hkx := Lib.hid hkx
      have hk1i : (1 : Int) ≤ (k : Int) := by omega
      go_wp2_with (go_at_call 96; refine hpre.out.mono ?_; rintro e w' ⟨rfl, rfl⟩)
      go_roundw
      case rel => exact ⟨k - 1, by have := hkx.out; omega, by omega, by go_num, by trivial⟩
      case measure => simp [intOf]; omega
end Go.Proofs.YtfciagcmggdldaaGreatDoor
