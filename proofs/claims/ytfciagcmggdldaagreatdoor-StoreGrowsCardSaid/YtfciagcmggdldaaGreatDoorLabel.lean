/-
  What label.name, Check, CheckMatch, Value compute.
-/
import Derived.Test.YtfciagcmggdldaaGreatDoorData
import Derived.Test.YtfciagcmggdldaaGreatDoorProg
namespace Go.Proofs.YtfciagcmggdldaaGreatDoor
open Go.RowKit

def chrOk (c : UInt8) : Bool := (decide (97 ≤ c.toNat) && decide (c.toNat ≤ 122)) || (decide (48 ≤ c.toNat) && decide (c.toNat ≤ 57)) || c.toNat == 95
def digitOk (c : UInt8) : Bool := decide (48 ≤ c.toNat) && decide (c.toNat ≤ 57)
/-- Is this a name? -/
def nameOk (s : ByteArray) : Bool := !s.data.toList.isEmpty && decide (s.size ≤ 20) && !digitOk (s.data.toList.headD 0) && s.data.toList.all chrOk

theorem drop_all {l : List UInt8} {k : Nat} {x : UInt8} (hx : l[k]? = some x) : (l.drop k).all chrOk = (chrOk x && (l.drop (k + 1)).all chrOk) := by
  have hk : k < l.length := (List.getElem?_eq_some_iff.1 hx).1
  rw [List.drop_eq_getElem_cons hk]
  have : l[k] = x := by rw [List.getElem?_eq_getElem hk] at hx; injection hx
  rw [this]; rfl

set_option maxRecDepth 100000 in
set_option maxHeartbeats 1000000 in
theorem name_calls (s : ByteArray) (w : World) (hs : s.size ≤ 9223372036854775807) :
    Calls Tryz.prog 68 #[.string s] w fun e w' => e = .returned (.bool (nameOk s)) ∧ Below w.heap.size w w' := by
  by_cases hE : s.toList.isEmpty = true
  · have hv : Hid (nameOk s = false) := by
      unfold Hid nameOk; rw [← Lib.toList_data, hE]; rfl
    go_enter Tryz.func68, Tryz.ntmps68
    go_wp2
    go_ret
    exact ⟨eq_bool hv.out, Below.refl _ _⟩
  · have hE' : s.toList.isEmpty = false := by simpa using hE
    have hne : 0 < s.size := by
      rcases Nat.eq_zero_or_pos s.size with h0 | h0
      · rw [Lib.toList_data, List.isEmpty_eq_false_iff_exists_mem] at hE'
        obtain ⟨x, hx⟩ := hE'
        have : s.data.toList.length = 0 := by rw [Array.length_toList]; exact h0
        rw [List.eq_nil_of_length_eq_zero this] at hx
        cases hx
      · exact h0
    clear hE
    by_cases hL : (20 : Int) < (s.size : Int)
    · have hv : Hid (nameOk s = false) := by
        unfold Hid nameOk
        have : decide (s.size ≤ 20) = false := decide_eq_false (by omega)
        rw [this]; simp
      go_enter Tryz.func68, Tryz.ntmps68
      go_wp2
      go_ret
      exact ⟨eq_bool hv.out, Below.refl _ _⟩
    · have hL' : ¬ (20 : Int) < (s.size : Int) := hL
      clear hL
      have hhd : Hid (digitOk (s.data.toList.headD 0) = (decide (48 ≤ (s[0].toNat : Int)) && decide ((s[0].toNat : Int) ≤ 57))) := by
        have e : s.data.toList.headD 0 = s[0] := by
          rw [List.headD_eq_head?_getD, List.head?_eq_getElem?, List.getElem?_eq_getElem (by rw [Array.length_toList]; exact hne)]
          rfl
        unfold Hid digitOk
        rw [e]
        congr 1 <;> (congr 1; apply propext; omega)
      by_cases hD : digitOk (s.data.toList.headD 0) = true
      · have hv : Hid (nameOk s = false) := by unfold Hid nameOk; rw [hD]; simp
        have hd : (48 : Int) ≤ (s[0].toNat : Int) ∧ (s[0].toNat : Int) ≤ 57 := by
          rw [hhd.out] at hD; simpa using hD
        obtain ⟨hd1, hd2⟩ := hd
        clear hD hhd
        go_enter Tryz.func68, Tryz.ntmps68
        go_wp2
        go_ret
        exact ⟨eq_bool hv.out, Below.refl _ _⟩
      · have hd : (48 : Int) ≤ (s[0].toNat : Int) → (57 : Int) < (s[0].toNat : Int) := by
          intro h
          rw [hhd.out] at hD
          simp at hD
          exact hD h
        have hv : Hid (nameOk s = s.data.toList.all chrOk) := by
          unfold Hid nameOk
          have h1 : decide (s.size ≤ 20) = true := decide_eq_true (by omega)
          have h2 : digitOk (s.data.toList.headD 0) = false := by simpa using hD
          rw [← Lib.toList_data] at *
          rw [hE', h1, h2]; rfl
        clear hD hhd
        obtain ⟨A, c, w1, hrun, hb, hsl⟩ := conv_bytes (P := Tryz.prog) (src := 9) (dst := 50) Tryz.underlying9 Tryz.underlying50 Tryz.underlying5 w (fun _ => False) (fun _ h => h.elim) s hs
        have hlen : s.data.toList.length ≤ s.size := by rw [Array.length_toList]; exact Nat.le_refl _
        by_cases hd1 : (48 : Int) ≤ (s[0].toNat : Int)
        · have hd2 := hd hd1
          clear hd
          go_enter Tryz.func68, Tryz.ntmps68
          go_wp2
          go_loop [25] (fun i => ∃ k : Nat, k ≤ s.size ∧ i = .int .i64 k ∧ Hid (s.data.toList.all chrOk = (s.data.toList.drop k).all chrOk)) (fun i => s.size - (intOf i).toNat)
          case atStart => exact ⟨0, Nat.zero_le _, rfl, rfl⟩
          case round =>
            obtain ⟨k, hk, rfl, hall⟩ := hrel
            clear hrun
            by_cases hlt : k < s.size
            · obtain ⟨b, off, x, rfl, hx0, g0⟩ := hsl.u8 hlt
              have hx := Lib.hid hx0
              clear hx0
              go_wp2
              all_goals first
                | (go_round
                   case rel => exact ⟨k + 1, by omega, by go_num, hall.trans (by rw [drop_all hx.out]; rw [show chrOk x = true by unfold chrOk; simp at *; omega]; rfl)⟩
                   case measure => simp [intOf]; omega)
                | (go_ret
                   exact ⟨eq_bool (by rw [hv.out, hall.out, drop_all hx.out, show chrOk x = false by unfold chrOk; simp at *; omega]; rfl), hb⟩)
            · go_wp2
              go_ret
              exact ⟨eq_bool (by rw [hv.out, hall.out, List.drop_eq_nil_of_le (by omega)]; rfl), hb⟩
        · clear hd
          go_enter Tryz.func68, Tryz.ntmps68
          go_wp2
          go_loop [25] (fun i => ∃ k : Nat, k ≤ s.size ∧ i = .int .i64 k ∧ Hid (s.data.toList.all chrOk = (s.data.toList.drop k).all chrOk)) (fun i => s.size - (intOf i).toNat)
          case atStart => exact ⟨0, Nat.zero_le _, rfl, rfl⟩
          case round =>
            obtain ⟨k, hk, rfl, hall⟩ := hrel
            clear hrun
            by_cases hlt : k < s.size
            · obtain ⟨b, off, x, rfl, hx0, g0⟩ := hsl.u8 hlt
              have hx := Lib.hid hx0
              clear hx0
              go_wp2
              all_goals first
                | (go_round
                   case rel => exact ⟨k + 1, by omega, by go_num, hall.trans (by rw [drop_all hx.out]; rw [show chrOk x = true by unfold chrOk; simp at *; omega]; rfl)⟩
                   case measure => simp [intOf]; omega)
                | (go_ret
                   exact ⟨eq_bool (by rw [hv.out, hall.out, drop_all hx.out, show chrOk x = false by unfold chrOk; simp at *; omega]; rfl), hb⟩)
            · go_wp2
              go_ret
              exact ⟨eq_bool (by rw [hv.out, hall.out, List.drop_eq_nil_of_le (by omega)]; rfl), hb⟩

/-! ### label.Check -/
def bLeq (a b : ByteArray) : Bool := Op.bytesLess a.toList b.toList || a.toList == b.toList

def labGo (last : ByteArray) : List Lab → Int
  | [] => 0
  | x :: r => if nameOk x.name = false then 4 else if bLeq x.name last = true then 5 else if 40 < x.value.size then 2 else labGo x.name r
/-- What label.Check answers. -/
def labCheck (l : List Lab) : Int := if 10 < l.length then 2 else labGo ⟨#[]⟩ l

theorem drop_cons {α : Type} {l : List α} {k : Nat} {x : α} (hx : l[k]? = some x) : l.drop k = x :: l.drop (k + 1) := by
  have hk : k < l.length := (List.getElem?_eq_some_iff.1 hx).1
  rw [List.drop_eq_getElem_cons hk]
  congr 1
  rw [List.getElem?_eq_getElem hk] at hx; injection hx

theorem lab_name {last : ByteArray} {l : List Lab} {k : Nat} {x : Lab} {r : Int} (h : Hid (r = labGo last (l.drop k))) (hx : Hid (l[k]? = some x)) (hn : nameOk x.name = false) : r = 4 := by
  rw [h.out, drop_cons hx.out, labGo, if_pos hn]
theorem lab_order {last : ByteArray} {l : List Lab} {k : Nat} {x : Lab} {r : Int} (h : Hid (r = labGo last (l.drop k))) (hx : Hid (l[k]? = some x)) (hn : nameOk x.name = true) (ho : bLeq x.name last = true) : r = 5 := by
  rw [h.out, drop_cons hx.out, labGo, if_neg (by rw [hn]; decide), if_pos ho]
theorem lab_large {last : ByteArray} {l : List Lab} {k : Nat} {x : Lab} {r : Int} (h : Hid (r = labGo last (l.drop k))) (hx : Hid (l[k]? = some x)) (hn : nameOk x.name = true) (ho : bLeq x.name last = false) (hv : 40 < x.value.size) : r = 2 := by
  rw [h.out, drop_cons hx.out, labGo, if_neg (by rw [hn]; decide), if_neg (by rw [ho]; decide), if_pos hv]
theorem lab_on {last : ByteArray} {l : List Lab} {k : Nat} {x : Lab} {r : Int} (h : Hid (r = labGo last (l.drop k))) (hx : Hid (l[k]? = some x)) (hn : nameOk x.name = true) (ho : bLeq x.name last = false) (hv : ¬ 40 < x.value.size) : r = labGo x.name (l.drop (k + 1)) := by
  rw [h.out, drop_cons hx.out, labGo, if_neg (by rw [hn]; decide), if_neg (by rw [ho]; decide), if_neg hv]

set_option maxRecDepth 100000 in
set_option maxHeartbeats 1000000 in
theorem check_calls (A : Option Addr) (n c : Nat) (l : List Lab) (w : World) (M : Nat → Prop) (hl : Sl w M A n c l) :
    Calls Tryz.prog 57 #[.slice A n c] w fun e w' => e = .returned (.int .i64 (labCheck l)) ∧ Below w.heap.size w w' := by
  have hn := hl.le
  have hlen := Lib.hid hl.len
  go_enter Tryz.func57, Tryz.ntmps57
  by_cases h10 : (10 : Int) < (n : Int)
  · go_wp2
    go_ret
    exact ⟨eq_int (by rw [labCheck, if_pos (by rw [hlen.out]; omega)]), Below.refl _ _⟩
  · have hr : Hid (labCheck l = labGo ⟨#[]⟩ l) := by unfold Hid; rw [labCheck, if_neg (by rw [hlen.out]; omega)]
    go_wp2
    go_loopw [3, 11] (fun last i wr => ∃ (k : Nat) (la : ByteArray), k ≤ n ∧ i = .int .i64 k ∧ last = .string la ∧ Below w.heap.size w wr ∧ Hid (labCheck l = labGo la (l.drop k))) (fun _ i _ => n - (intOf i).toNat)
    case atStart => exact ⟨0, _, Nat.zero_le _, rfl, rfl, Below.refl _ _, hr⟩
    case round =>
      obtain ⟨k, la, hk, rfl, rfl, hbl, hv⟩ := hrel
      clear hr
      by_cases hlt : k < n
      · obtain ⟨b, off, x, rfl, hx0, g0, g1, hs0, hs1⟩ := (hl.below hbl).lab hlt
        have hx := Lib.hid hx0
        clear hx0 hl
        go_wp2_with (go_at_call 68; refine (name_calls _ _ hs0).mono ?_; rintro e w2 ⟨rfl, hb2⟩; have hc2 := bcell hb2)
        · go_ret
          refine ⟨eq_int (lab_name hv hx ?_), (hbl.new _).call hb2⟩
          simpa using (by assumption : (!nameOk x.name) = true)
        · go_ret
          refine ⟨eq_int (lab_order hv hx ?_ ?_), (hbl.new _).call hb2⟩
          · simpa using (by assumption : (!nameOk x.name) = false)
          · unfold bLeq; simpa using (by assumption : Op.bytesLess x.name.toList la.toList = true ∨ (x.name.toList == la.toList) = true)
        · go_ret
          refine ⟨eq_int (lab_large hv hx ?_ ?_ (by omega)), (hbl.new _).call hb2⟩
          · simpa using (by assumption : (!nameOk x.name) = false)
          · unfold bLeq; simpa using (by assumption : Op.bytesLess x.name.toList la.toList = false ∧ (x.name.toList == la.toList) = false)
        · go_roundw
          case rel =>
            refine ⟨k + 1, x.name, by omega, by go_num, rfl, (hbl.new _).call hb2, lab_on hv hx ?_ ?_ (by omega)⟩
            · simpa using (by assumption : (!nameOk x.name) = false)
            · unfold bLeq; simpa using (by assumption : Op.bytesLess x.name.toList la.toList = false ∧ (x.name.toList == la.toList) = false)
          case measure => simp [intOf]; omega
      · go_wp2
        go_ret
        exact ⟨eq_int (by rw [hv.out, List.drop_eq_nil_of_le (by rw [hlen.out]; omega)]; rfl), hbl⟩
end Go.Proofs.YtfciagcmggdldaaGreatDoor
