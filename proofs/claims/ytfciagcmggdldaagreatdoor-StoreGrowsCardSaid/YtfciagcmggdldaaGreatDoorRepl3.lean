/-
  (*strings.byteStringReplacer).Replace at the three signs: each sign escaped.
-/
import Derived.Test.YtfciagcmggdldaaGreatDoorRepl2
import Derived.Test.YtfciagcmggdldaaGreatDoorPText
import Derived.Test.YtfciagcmggdldaaGreatDoorShelf
import Derived.Laws.CopyOwn
import Derived.Lib.LazyBuf
import Derived.IntWalk
import Derived.Deep.RegionLaw
namespace Go.Proofs.YtfciagcmggdldaaGreatDoor
open Go.RowKit

/-- A sign that is escaped. -/
def sp (c : UInt8) : Bool := c == 92 || c == 34 || c == 10
theorem bsF_sp {c : UInt8} (h : sp c = true) : bsF 3 c.toNat = esc c ∧ (esc c).length = 2 := by
  unfold sp at h
  simp only [Bool.or_eq_true, beq_iff_eq] at h
  rcases h with (rfl | rfl) | rfl <;> exact ⟨rfl, rfl⟩
theorem bsF_plain {c : UInt8} (h : sp c = false) : bsF 3 c.toNat = [] ∧ esc c = [c] := by
  unfold sp at h
  simp only [Bool.or_eq_false_iff, beq_eq_false_iff_ne] at h
  obtain ⟨⟨h1, h2⟩, h3⟩ := h
  have e : ∀ d : UInt8, c ≠ d → c.toNat ≠ d.toNat := fun d hd he => hd (UInt8.toNat_inj.1 he)
  have e1 : c.toNat ≠ 92 := e 92 h1
  have e2 : c.toNat ≠ 34 := e 34 h2
  have e3 : c.toNat ≠ 10 := e 10 h3
  refine ⟨?_, by unfold esc; rw [if_neg h1, if_neg h2, if_neg h3]⟩
  show (if c.toNat = 92 then [92, 92] else if c.toNat = 34 then [92, 34] else if c.toNat = 10 then [92, 110] else []) = []
  rw [if_neg e1, if_neg e2, if_neg e3]
theorem esc_len (c : UInt8) : (esc c).length = if sp c = true then 2 else 1 := by
  by_cases h : sp c = true
  · rw [if_pos h]; exact (bsF_sp h).2
  · rw [if_neg h, (bsF_plain (by simpa using h)).2]; rfl
theorem escs_len (l : List UInt8) : (l.flatMap esc).length = l.length + l.countP sp := by
  induction l with
  | nil => rfl
  | cons c r ih =>
    rw [List.flatMap_cons, List.length_append, ih, esc_len, List.countP_cons, List.length_cons]
    split <;> omega
theorem escs_plain {l : List UInt8} (h : l.any sp = false) : l.flatMap esc = l := by
  induction l with
  | nil => rfl
  | cons c r ih =>
    simp only [List.any_cons, Bool.or_eq_false_iff] at h
    rw [List.flatMap_cons, ih h.2, (bsF_plain h.1).2]; rfl
theorem countP_sp (l : List UInt8) : l.count 10 + l.count 34 + l.count 92 = l.countP sp := by
  induction l with
  | nil => rfl
  | cons c r ih =>
    rw [List.count_cons, List.count_cons, List.count_cons, List.countP_cons, ← ih]
    by_cases h1 : c = 10
    · subst h1; simp [sp]; omega
    · by_cases h2 : c = 34
      · subst h2; simp [sp]; omega
      · by_cases h3 : c = 92
        · subst h3; simp [sp]; omega
        · simp [sp, h1, h2, h3]
theorem escs_step {l : List UInt8} {i : Nat} {c : UInt8} (h : l[i]? = some c) : (l.take (i + 1)).flatMap esc = (l.take i).flatMap esc ++ esc c ∧ (l.take (i + 1)).countP sp = (l.take i).countP sp + (if sp c = true then 1 else 0) ∧ (l.take (i + 1)).any sp = ((l.take i).any sp || sp c) := by
  have e : l.take (i + 1) = l.take i ++ [c] := by rw [List.take_add_one, h]; rfl
  rw [e]
  simp
theorem escs_le (l : List UInt8) (i : Nat) : ((l.take i).flatMap esc).length + (l.drop i).length ≤ (l.flatMap esc).length := by
  rw [escs_len, escs_len]
  have h : l.countP sp = (l.take i).countP sp + (l.drop i).countP sp := by rw [← List.countP_append, List.take_append_drop]
  have h2 : l.length = (l.take i).length + (l.drop i).length := by rw [← List.length_append, List.take_append_drop]
  omega
def byteV (b : UInt8) : Value := .int .u8 (b.toNat : Int)
theorem take_splice {L cs : List Value} {off : Nat} (h : off + cs.length ≤ L.length) : (splice L off cs).take (off + cs.length) = L.take off ++ cs := by
  unfold splice
  rw [← List.append_assoc, List.take_append_of_le_length (by simp; omega)]
  refine List.take_of_length_le (by simp; omega)
theorem take_set {L : List Value} {j : Nat} {v : Value} (h : j < L.length) : (L.set j v).take (j + 1) = L.take j ++ [v] := by
  rw [List.take_add_one, List.take_set_of_le (Nat.le_refl j)]
  simp [h]

theorem _root_.List.getElem?_map_some {α β : Type} {f : α → β} {l : List α} {j : Nat} {v : β} (h : (l.map f)[j]? = some v) : ∃ y, l[j]? = some y ∧ f y = v := by
  rw [List.getElem?_map] at h
  exact Option.map_eq_some_iff.1 h
/-- The buffer: block B of N cells, of which the first hold what has been laid. -/
def BufIs (w : World) (B N j : Nat) (done : List UInt8) : Prop := ∃ cur : List Value, w.heap[B]? = some (.cells cur.toArray 5 (0, 0)) ∧ cur.length = N ∧ done.length = j ∧ cur.take j = done.map byteV
theorem BufIs.at_ {w : World} {B N j : Nat} {done : List UInt8} (h : BufIs w B N j done) {i : Nat} (hi : i < N) : ∃ u, w.cell? ⟨B, i, none⟩ = some u ∧ w.frozen? ⟨B, i, none⟩ = false := by
  obtain ⟨cur, h1, h2, _⟩ := h
  exact ⟨cur[i]'(by omega), by simp [World.cell?, h1, h2, hi], by simp [World.frozen?, h1]⟩
theorem BufIs.put {w : World} {B N j : Nat} {done : List UInt8} (h : BufIs w B N j done) (hj : j < N) (x : UInt8) : BufIs (w.setCell ⟨B, j, none⟩ (.int .u8 (x.toNat : Int))) B N (j + 1) (done ++ [x]) := by
  obtain ⟨cur, h1, h2, h3, h4⟩ := h
  refine ⟨cur.set j (byteV x), ?_, by simpa using h2, by simp [h3], ?_⟩
  · rw [heap_setCell_of h1 j (.int .u8 (x.toNat : Int))]
    simp [byteV]
  · rw [take_set (by omega), h4, List.map_append]; rfl
theorem BufIs.laid {w' : World} {B N j : Nat} {done xs : List UInt8} {cur cs : List Value} (h2 : cur.length = N) (h3 : done.length = j) (h4 : cur.take j = done.map byteV) (hc : cs = xs.map byteV) (hN : j + xs.length ≤ N) (hw : w'.heap[B]? = some (.cells (splice cur j cs).toArray 5 (0, 0))) :
    BufIs w' B N (j + xs.length) (done ++ xs) := by
  have hl : cs.length = xs.length := by rw [hc]; simp
  refine ⟨_, hw, ?_, by simp [h3], ?_⟩
  · rw [length_splice _ _ _ (by omega)]; exact h2
  · rw [← hl, take_splice (by omega), h4, hc, List.map_append]
theorem BufIs.sl {w : World} {B N : Nat} {done : List UInt8} (h : BufIs w B N N done) (hN : N ≤ maxLen) : Sl w (fun _ => False) (some ⟨B, 0, none⟩) N N done := by
  obtain ⟨cur, h1, h2, h3, h4⟩ := h
  rw [List.take_of_length_le (by omega)] at h4
  subst h4
  refine ⟨h3, Nat.le_refl _, hN, by simp, fun _ => ⟨B, 0, rfl, (Array.getElem?_eq_some_iff.1 h1).1, id, fun i x hi => ⟨[.int .u8 (x.toNat : Int)], rfl, fun k u hu => ?_⟩⟩⟩
  have hk : k = 0 := by
    have := (List.getElem?_eq_some_iff.1 hu).1
    simp at this; omega
  subst hk
  simp at hu
  subst hu
  have : ((done.map byteV).toArray)[i]? = some (byteV x) := by simp [hi]
  simp [World.cell?, h1, Rep.size, this, byteV]

set_option maxRecDepth 100000 in
set_option maxHeartbeats 4000000 in
theorem replShort_calls (s : ByteArray) (G base : Nat) (v : Value) (w : World) (hI : BsIs w base G v (bsF 3) (bsT 3)) (hs : s.size < 24) :
    Calls Tryz.prog 181 #[.pointer (some ⟨G, 0, none⟩), .string s] w fun e w' => e = .returned (.string ⟨(s.data.toList.flatMap esc).toArray⟩) ∧ Below w.heap.size w w' := by
  have hlen : s.data.toList.length = s.size := Array.length_toList
  obtain ⟨A0, c0, rfl⟩ := hI.own.form
  obtain ⟨cx1, _⟩ := hI.cell_tl
  have hl3 : (bsT 3).length = 3 := rfl
  rw [hl3] at cx1
  have hI := Lib.hid hI
  have hlenH := Lib.hid hlen
  have hcmp : ¬ (24 : Int) ≤ (s.size : Int) := by omega
  clear hlen hl3
  go_enter Tryz.func181, Tryz.ntmps181
  go_wp2
  go_loopw [5, 6, 10] (fun n any i wr => ∃ (k m : Nat) (f : Bool), k ≤ s.size ∧ m ≤ s.size + k ∧ i = .int .i64 k ∧ w = wr ∧ n = .int .i64 (m : Int) ∧ any = .bool f ∧ Hid (m = s.size + (s.data.toList.take k).countP sp) ∧ Hid (f = (s.data.toList.take k).any sp)) (fun _ _ i _ => s.size - (intOf i).toNat)
  case atStart => exact ⟨0, s.size, false, Nat.zero_le _, Nat.le_refl _, rfl, rfl, rfl, rfl, by unfold Hid; simp, by unfold Hid; simp⟩
  case round =>
    obtain ⟨k, m, f, hk, hmk, rfl, rfl, rfl, rfl, hm, hf⟩ := hrel
    by_cases hlt : k < s.size
    · obtain ⟨x, hx⟩ : ∃ x, s.data.toList[k]? = some x := ⟨_, List.getElem?_eq_getElem (by rw [hlenH.out]; exact hlt)⟩
      have hsk : s[k]'hlt = x := by
        have h2 := hx
        rw [List.getElem?_eq_getElem (by rw [hlenH.out]; exact hlt)] at h2
        injection h2
      have hx256 : (x.toNat : Int) < 256 := by have := x.toNat_lt; omega
      have hxn : x.toNat < 256 := x.toNat_lt
      obtain ⟨_, hs2, hs3⟩ := escs_step hx
      have hs2 := Lib.hid hs2
      have hs3 := Lib.hid hs3
      clear hx
      by_cases hsp : sp x = true
      · obtain ⟨e1, e2⟩ := bsF_sp hsp
        obtain ⟨b1, o1, cc, cz, hsl⟩ := hI.out.cell_some hxn (by rw [e1]; intro e; rw [e] at e2; cases e2)
        rw [e1, e2] at cz
        have hneq := fun W => run_neq_slice_nil (P := Tryz.prog) W 50 5 (some ⟨b1, o1, none⟩) 2 cc Tryz.underlying50
        have hm2 : Hid (m + 1 = s.size + (s.data.toList.take (k + 1)).countP sp) := by have := hm.out; unfold Hid; rw [hs2.out, if_pos hsp]; omega
        have hf2 : Hid (true = (s.data.toList.take (k + 1)).any sp) := by unfold Hid; rw [hs3.out, hsp, Bool.or_true]
        clear hsl hsp e1 e2
        go_wp2
        go_roundw
        case rel => exact ⟨k + 1, m + 1, true, by omega, by omega, by go_num, by trivial, by go_num, by trivial, hm2, hf2⟩
        case measure => simp [intOf]; omega
      · have hsp : sp x = false := by simpa using hsp
        obtain ⟨e1, e2⟩ := bsF_plain hsp
        obtain ⟨cz, _⟩ := hI.out.cell_none hxn e1
        have hneq := fun W => run_neq_slice_nil (P := Tryz.prog) W 50 5 none 0 0 Tryz.underlying50
        have hm2 : Hid (m = s.size + (s.data.toList.take (k + 1)).countP sp) := by have := hm.out; unfold Hid; rw [hs2.out, if_neg (by rw [hsp]; decide)]; omega
        have hf2 : Hid (f = (s.data.toList.take (k + 1)).any sp) := by unfold Hid; rw [hs3.out, hsp, Bool.or_false]; exact hf.out
        clear hsp e1 e2
        go_wp2
        go_roundw
        case rel => exact ⟨k + 1, m, f, by omega, by omega, by go_num, by trivial, by go_num, by trivial, hm2, hf2⟩
        case measure => simp [intOf]; omega
    · obtain rfl : k = s.size := by omega
      rw [List.take_of_length_le (by rw [hlenH.out]; omega)] at hm hf
      cases f with
      | false =>
        go_wp2
        go_ret
        refine ⟨eq_str ?_, Below.refl _ _⟩
        rw [escs_plain hf.out.symm]
      | true =>
        have hN : Hid (m = (s.data.toList.flatMap esc).length) := by unfold Hid; rw [hm.out, escs_len, hlenH.out]
        have hmk : (Instr.makeSlice 50 (.int .i64 (m : Int)) (.int .i64 (m : Int))).run Tryz.prog w = .ok (.slice (some ⟨w.heap.size, 0, none⟩) m m) (w.alloc (.cells (madeCells #[.int .u8 0] m) 5)) :=
          run_make_row' (P := Tryz.prog) 50 5 (.int .u8 0) 1 Tryz.underlying50 (by kernel_rfl) rfl .i64 .i64 m (by omega) (by omega) w
        have hbuf : BufIs (w.alloc (.cells (madeCells #[.int .u8 0] m) 5)) w.heap.size m 0 [] := ⟨(madeCells #[.int .u8 0] m).toList, by simpa using heap_alloc_new w (.cells (madeCells #[.int .u8 0] m) 5 (0, 0)), by simp [size_madeCells], rfl, rfl⟩
        have hbuf := Lib.hid hbuf
        go_wp2
        go_loopw [13, 14] (fun j i wr => ∃ (k n : Nat), k ≤ s.size ∧ i = .int .i64 k ∧ j = .int .i64 n ∧ Below w.heap.size w wr ∧ Hid (BufIs wr w.heap.size m n ((s.data.toList.take k).flatMap esc))) (fun _ i _ => s.size - (intOf i).toNat)
        case atStart => exact ⟨0, 0, Nat.zero_le _, rfl, rfl, (Below.refl _ _).new _, hbuf⟩
        case round =>
          clear hbuf hmk
          obtain ⟨k, n, hk, rfl, rfl, hbl, hB⟩ := hrel
          by_cases hlt : k < s.size
          · obtain ⟨x, hx⟩ : ∃ x, s.data.toList[k]? = some x := ⟨_, List.getElem?_eq_getElem (by rw [hlenH.out]; exact hlt)⟩
            have hsk : s[k]'hlt = x := by
              have h2 := hx
              rw [List.getElem?_eq_getElem (by rw [hlenH.out]; exact hlt)] at h2
              injection h2
            have hx256 : (x.toNat : Int) < 256 := by have := x.toNat_lt; omega
            have hxn : x.toNat < 256 := x.toNat_lt
            obtain ⟨hs1, _, _⟩ := escs_step hx
            have hs1 := Lib.hid hs1
            have hle := escs_le s.data.toList (k + 1)
            rw [hs1.out, List.length_append, ← hN.out, show ((s.data.toList.take k).flatMap esc).length = n from by obtain ⟨_, _, _, h, _⟩ := hB.out; exact h] at hle
            clear hx
            have hIw := hI.out.below hbl
            by_cases hsp : sp x = true
            · obtain ⟨e1, e2⟩ := bsF_sp hsp
              obtain ⟨b1, o1, cc, cz, hsl⟩ := hIw.cell_some hxn (by rw [e1]; intro e; rw [e] at e2; cases e2)
              rw [e2] at hle
              rw [e1, e2] at cz hsl
              have hneq := fun W => run_neq_slice_nil (P := Tryz.prog) W 50 5 (some ⟨b1, o1, none⟩) 2 cc Tryz.underlying50
              obtain ⟨cs, hcs⟩ : ∃ cs, cs = (esc x).map byteV := ⟨_, rfl⟩
              have hcl : cs.length = 2 := by rw [hcs, List.length_map, e2]
              obtain ⟨cur, hc1, hc2, hc3, hc4⟩ := hB.out
              have hpos : Hid (∀ j v, cs[j]? = some v → wr.drew.cell? ((⟨b1, o1, none⟩ : Addr).add j) = some v) := by
                intro j v hv
                rw [hcs] at hv
                obtain ⟨y, hy, rfl⟩ := List.getElem?_map_some hv
                have hj : j < 2 := by rw [← e2]; exact (List.getElem?_eq_some_iff.1 hy).1
                obtain ⟨b9, o9, l9, e9, hl9, hc9⟩ := hsl.u8 hj
                rw [hy] at hl9
                injection hl9 with hl9
                subst hl9
                injection e9 with e9
                injection e9 with e9 e10
                subst e9; subst e10
                rw [show (⟨b1, o1, none⟩ : Addr).add j = ⟨b1, o1 + j, none⟩ from by unfold Addr.add; split <;> simp_all]
                exact hc9
              have h1c : Hid (∀ v ∈ cs, v.oneCell' = true) := by rw [hcs]; intro v hv; obtain ⟨y, _, rfl⟩ := List.mem_map.1 hv; rfl
              have hfit : n + cs.length ≤ cur.length := by omega
              have hmin : cs.length = Nat.min 2 (m - n) := by rw [hcl]; show 2 = min 2 (m - n); omega
              have hmn : ¬ m = n := by omega
              have hnm : n ≤ m := by omega
              have hc2 := Lib.hid hc2
              have hc3 := Lib.hid hc3
              have hc4 := Lib.hid hc4
              have hcsH := Lib.hid hcs
              have he2 := Lib.hid e2
              have hmin := Lib.hid hmin
              have hfit := Lib.hid hfit
              have hc1 := Lib.hid hc1
              clear hsp e1 e2 hIw hcs hsl
              have hbd := hbl.draws 1
              have hw1 : IntKind.i64.wrap ((n : Int) + 2) = (n : Int) + 2 := IntWalk.i64_in _ (by omega)
              go_wp2
              go_region_law (refine step_copy_splice rfl (.tmp 105) (.tmp 111) 50 50 rfl 5 Tryz.underlying50 (by kernel_rfl) (some ⟨w.heap.size, n, none⟩) (some ⟨b1, o1, none⟩) (m - n) (m - n) 2 cc (by simp [Act.eval, Act.put]) (by simp [Act.eval]) w.heap.size n cur 5 hc1.out cs hmin.out (fun _ => ⟨rfl, _, rfl, hpos.out⟩) hfit.out h1c.out w.heap.size w hbd (Nat.le_refl _) ?_; intro w4 hg4 hb4)
              all_goals
                clear hw1
                have hB4 := Lib.hid (BufIs.laid hc2.out hc3.out hc4.out hcsH.out (by have := he2.out; omega) hg4.out)
                rw [he2.out] at hB4
                go_wp2
                go_roundw
                case rel => exact ⟨k + 1, n + 2, by omega, by go_num, by go_num, hb4, by rw [hs1.out]; exact hB4⟩
                case measure => simp [intOf]; omega
            · have hsp : sp x = false := by simpa using hsp
              obtain ⟨e1, e2⟩ := bsF_plain hsp
              rw [e2] at hle hs1
              simp only [List.length_singleton] at hle
              obtain ⟨cz, _⟩ := hIw.cell_none hxn e1
              have hneq := fun W => run_neq_slice_nil (P := Tryz.prog) W 50 5 none 0 0 Tryz.underlying50
              obtain ⟨u0, cb1, cb2⟩ := hB.out.at_ (i := n) (by omega)
              have hB2 := Lib.hid (hB.out.put (by omega) x)
              have hn1 : (n : Int) < (m : Int) := by omega
              clear hsp e1 e2 hIw
              go_wp2
              go_roundw
              case rel => exact ⟨k + 1, n + 1, by omega, by go_num, by go_num, hbl.setCell (Nat.le_refl _) _, by rw [hs1.out]; exact hB2⟩
              case measure => simp [intOf]; omega
          · obtain rfl : k = s.size := by omega
            rw [List.take_of_length_le (by rw [hlenH.out]; omega)] at hB
            have hn : n = m := by have := hN.out; obtain ⟨_, _, _, h, _⟩ := hB.out; omega
            rw [hn] at hB
            have hback := Sl.back (P := Tryz.prog) (src := 50) (dst := 9) Tryz.underlying50 Tryz.underlying5 Tryz.underlying9 (hB.out.sl (by unfold maxLen; omega))
            go_wp2
            go_ret
            exact ⟨rfl, hbl⟩
end Go.Proofs.YtfciagcmggdldaaGreatDoor
