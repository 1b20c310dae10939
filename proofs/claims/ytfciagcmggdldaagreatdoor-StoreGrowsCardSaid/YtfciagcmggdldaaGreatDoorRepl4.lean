/-
  (*strings.byteStringReplacer).Replace at longer strings; both.
-/
import Derived.Test.YtfciagcmggdldaaGreatDoorRepl3
namespace Go.Proofs.YtfciagcmggdldaaGreatDoor
open Go.RowKit

/-- How many of the first k signs there are. -/
def cntTo : Nat → List UInt8 → Nat
  | 0, _ => 0
  | 1, l => l.count 10
  | 2, l => l.count 10 + l.count 34
  | _, l => l.count 10 + l.count 34 + l.count 92

set_option maxRecDepth 100000 in
set_option maxHeartbeats 8000000 in
theorem replLong_calls (s : ByteArray) (G base : Nat) (v : Value) (w : World) (hI : BsIs w base G v (bsF 3) (bsT 3)) (hs : 24 ≤ s.size) (hs2 : s.size ≤ 1000) :
    Calls Tryz.prog 181 #[.pointer (some ⟨G, 0, none⟩), .string s] w fun e w' => e = .returned (.string ⟨(s.data.toList.flatMap esc).toArray⟩) ∧ Below w.heap.size w w' := by
  have hlen : s.data.toList.length = s.size := Array.length_toList
  have hown : Own w (fun _ => False) base 9 v (bsT 3) := by obtain ⟨css, h1, h2, h3⟩ := hI.own; exact ⟨css, h1, fun i x cs hx hc => h2 i x cs hx hc, h3⟩
  obtain ⟨A0, c0, rfl, hsl⟩ := hown.sl (fun _ h => h.elim)
  obtain ⟨cx1, _⟩ := hI.cell_tl
  have hl3 : (bsT 3).length = 3 := rfl
  rw [hl3] at cx1 hsl
  obtain ⟨bt, ot, l0, rfl, e0, gt0, _⟩ := hsl.str (k := 0) (by omega)
  obtain ⟨b1, o1, l1, e1, e1', gt1, _⟩ := hsl.str (k := 1) (by omega)
  obtain ⟨b2, o2, l2, e2, e2', gt2, _⟩ := hsl.str (k := 2) (by omega)
  cases e0; cases e1; cases e2; cases e1'; cases e2'
  have hI := Lib.hid hI
  have hlenH := Lib.hid hlen
  have hcmp : (24 : Int) ≤ (s.size : Int) := by omega
  clear hlen hl3 hown hsl
  go_enter Tryz.func181, Tryz.ntmps181
  go_wp2
  go_loopw [5, 6, 32] (fun n any i wr => ∃ (k m : Nat) (f : Bool), k ≤ 3 ∧ m ≤ s.size + 1000 * k ∧ i = .int .i64 k ∧ Below w.heap.size w wr ∧ n = .int .i64 (m : Int) ∧ any = .bool f ∧ Hid (m = s.size + cntTo k s.data.toList) ∧ Hid (f = decide (0 < cntTo k s.data.toList))) (fun _ _ i _ => 3 - (intOf i).toNat)
  case atStart => exact ⟨0, s.size, false, by omega, by omega, rfl, Below.refl _ _, rfl, rfl, rfl, rfl⟩
  case round =>
    obtain ⟨k, m, f, hk, hmk, rfl, hbl, rfl, rfl, hm, hf⟩ := hrel
    obtain rfl | rfl | rfl | rfl : k = 0 ∨ k = 1 ∨ k = 2 ∨ k = 3 := by omega
    · rw [show ((0 : Nat) : Int) = 0 from rfl]
      have hcz : (⟨#[10]⟩ : ByteArray)[0]'(by decide) = 10 := rfl
      have hk0 : (List.count (10 : UInt8) s.data.toList : Int) ≤ 1000 := by have := List.count_le_length (a := (10 : UInt8)) (l := s.data.toList); rw [hlenH.out] at this; omega
      obtain ⟨b1, o1, cc, cz, hsl⟩ := (hI.out.below hbl).cell_some (i := 10) (by omega) (by decide)
      rw [show (bsF 3 10).length = 2 from rfl] at cz
      have gt := (bcell hbl bt (ot + 0) (World.block_lt_of_cell? w _ gt0)).trans gt0
      try rw [Nat.add_zero] at gt
      obtain ⟨q, hq⟩ : ∃ q, Hid (q = List.count (10 : UInt8) s.data.toList) := ⟨_, rfl⟩
      have hcnt : Calls Tryz.prog 183 #[.string s, .string ⟨#[10]⟩] wr fun e w' => e = .returned (.int .i64 (q : Int)) ∧ wr = w' := (Tryz.strings_Count_one s 10 wr).mono fun e w' ⟨h1, h2⟩ => ⟨by rw [h1, hq.out]; rfl, h2.symm⟩
      have hcnt := Lib.hid hcnt
      rw [← hq.out] at hk0
      clear hsl
      by_cases hq0 : q = 0
      · subst hq0
        have hm2 : Hid (m = s.size + cntTo 1 s.data.toList) := by have h1 := hm.out; have h2 := hq.out; unfold Hid; rw [show cntTo 0 s.data.toList = 0 from rfl] at h1; rw [show cntTo 1 s.data.toList = s.data.toList.count 10 from rfl]; omega
        have hf2 : Hid (f = decide (0 < cntTo 1 s.data.toList)) := by have h1 := hf.out; have h2 := hq.out; unfold Hid; rw [h1]; refine decide_eq_decide.2 ?_; rw [show cntTo 0 s.data.toList = 0 from rfl]; rw [show cntTo 1 s.data.toList = s.data.toList.count 10 from rfl]; omega
        go_wp2_with (go_at_call 183; refine hcnt.out.mono ?_; rintro e w' ⟨rfl, rfl⟩)
        go_roundw
        case rel => exact ⟨0 + 1, m, f, by omega, by omega, by go_num, hbl, by trivial, by trivial, hm2, hf2⟩
        case measure => simp [intOf]
      · have hqb : ((q : Int) != 0) = true := by simpa using hq0
        have hm2 : Hid (m + q = s.size + cntTo 1 s.data.toList) := by have h1 := hm.out; have h2 := hq.out; unfold Hid; rw [show cntTo 0 s.data.toList = 0 from rfl] at h1; rw [show cntTo 1 s.data.toList = s.data.toList.count 10 from rfl]; omega
        have hf2 : Hid (true = decide (0 < cntTo 1 s.data.toList)) := by have h2 := hq.out; unfold Hid; rw [eq_comm, decide_eq_true_eq]; rw [show cntTo 1 s.data.toList = s.data.toList.count 10 from rfl]; omega
        have hq0 := Lib.hid hq0
        have hmm : (q : Int) * 1 = (q : Int) := by omega
        go_wp2_with (go_at_call 183; refine hcnt.out.mono ?_; rintro e w' ⟨rfl, rfl⟩)
        go_quiet (fail)
        go_wp2
        go_roundw
        case rel => exact ⟨0 + 1, m + q, true, by omega, by omega, by go_num, hbl.draws _, by go_num, by trivial, hm2, hf2⟩
        case measure => simp [intOf]
    · rw [show ((1 : Nat) : Int) = 1 from rfl]
      have hcz : (⟨#[34]⟩ : ByteArray)[0]'(by decide) = 34 := rfl
      have hk1 : (List.count (34 : UInt8) s.data.toList : Int) ≤ 1000 := by have := List.count_le_length (a := (34 : UInt8)) (l := s.data.toList); rw [hlenH.out] at this; omega
      obtain ⟨b1, o1, cc, cz, hsl⟩ := (hI.out.below hbl).cell_some (i := 34) (by omega) (by decide)
      rw [show (bsF 3 34).length = 2 from rfl] at cz
      have gt := (bcell hbl bt (ot + 1) (World.block_lt_of_cell? w _ gt1)).trans gt1
      try rw [Nat.add_zero] at gt
      obtain ⟨q, hq⟩ : ∃ q, Hid (q = List.count (34 : UInt8) s.data.toList) := ⟨_, rfl⟩
      have hcnt : Calls Tryz.prog 183 #[.string s, .string ⟨#[34]⟩] wr fun e w' => e = .returned (.int .i64 (q : Int)) ∧ wr = w' := (Tryz.strings_Count_one s 34 wr).mono fun e w' ⟨h1, h2⟩ => ⟨by rw [h1, hq.out]; rfl, h2.symm⟩
      have hcnt := Lib.hid hcnt
      rw [← hq.out] at hk1
      clear hsl
      by_cases hq0 : q = 0
      · subst hq0
        have hm2 : Hid (m = s.size + cntTo 2 s.data.toList) := by have h1 := hm.out; have h2 := hq.out; unfold Hid; rw [show cntTo 1 s.data.toList = s.data.toList.count 10 from rfl] at h1; rw [show cntTo 2 s.data.toList = s.data.toList.count 10 + s.data.toList.count 34 from rfl]; omega
        have hf2 : Hid (f = decide (0 < cntTo 2 s.data.toList)) := by have h1 := hf.out; have h2 := hq.out; unfold Hid; rw [h1]; refine decide_eq_decide.2 ?_; rw [show cntTo 1 s.data.toList = s.data.toList.count 10 from rfl]; rw [show cntTo 2 s.data.toList = s.data.toList.count 10 + s.data.toList.count 34 from rfl]; omega
        go_wp2_with (go_at_call 183; refine hcnt.out.mono ?_; rintro e w' ⟨rfl, rfl⟩)
        go_roundw
        case rel => exact ⟨1 + 1, m, f, by omega, by omega, by go_num, hbl, by trivial, by trivial, hm2, hf2⟩
        case measure => simp [intOf]
      · have hqb : ((q : Int) != 0) = true := by simpa using hq0
        have hm2 : Hid (m + q = s.size + cntTo 2 s.data.toList) := by have h1 := hm.out; have h2 := hq.out; unfold Hid; rw [show cntTo 1 s.data.toList = s.data.toList.count 10 from rfl] at h1; rw [show cntTo 2 s.data.toList = s.data.toList.count 10 + s.data.toList.count 34 from rfl]; omega
        have hf2 : Hid (true = decide (0 < cntTo 2 s.data.toList)) := by have h2 := hq.out; unfold Hid; rw [eq_comm, decide_eq_true_eq]; rw [show cntTo 2 s.data.toList = s.data.toList.count 10 + s.data.toList.count 34 from rfl]; omega
        have hq0 := Lib.hid hq0
        have hmm : (q : Int) * 1 = (q : Int) := by omega
        go_wp2_with (go_at_call 183; refine hcnt.out.mono ?_; rintro e w' ⟨rfl, rfl⟩)
        go_quiet (fail)
        go_wp2
        go_roundw
        case rel => exact ⟨1 + 1, m + q, true, by omega, by omega, by go_num, hbl.draws _, by go_num, by trivial, hm2, hf2⟩
        case measure => simp [intOf]
    · rw [show ((2 : Nat) : Int) = 2 from rfl]
      have hcz : (⟨#[92]⟩ : ByteArray)[0]'(by decide) = 92 := rfl
      have hk2 : (List.count (92 : UInt8) s.data.toList : Int) ≤ 1000 := by have := List.count_le_length (a := (92 : UInt8)) (l := s.data.toList); rw [hlenH.out] at this; omega
      obtain ⟨b1, o1, cc, cz, hsl⟩ := (hI.out.below hbl).cell_some (i := 92) (by omega) (by decide)
      rw [show (bsF 3 92).length = 2 from rfl] at cz
      have gt := (bcell hbl bt (ot + 2) (World.block_lt_of_cell? w _ gt2)).trans gt2
      try rw [Nat.add_zero] at gt
      obtain ⟨q, hq⟩ : ∃ q, Hid (q = List.count (92 : UInt8) s.data.toList) := ⟨_, rfl⟩
      have hcnt : Calls Tryz.prog 183 #[.string s, .string ⟨#[92]⟩] wr fun e w' => e = .returned (.int .i64 (q : Int)) ∧ wr = w' := (Tryz.strings_Count_one s 92 wr).mono fun e w' ⟨h1, h2⟩ => ⟨by rw [h1, hq.out]; rfl, h2.symm⟩
      have hcnt := Lib.hid hcnt
      rw [← hq.out] at hk2
      clear hsl
      by_cases hq0 : q = 0
      · subst hq0
        have hm2 : Hid (m = s.size + cntTo 3 s.data.toList) := by have h1 := hm.out; have h2 := hq.out; unfold Hid; rw [show cntTo 2 s.data.toList = s.data.toList.count 10 + s.data.toList.count 34 from rfl] at h1; rw [show cntTo 3 s.data.toList = s.data.toList.count 10 + s.data.toList.count 34 + s.data.toList.count 92 from rfl]; omega
        have hf2 : Hid (f = decide (0 < cntTo 3 s.data.toList)) := by have h1 := hf.out; have h2 := hq.out; unfold Hid; rw [h1]; refine decide_eq_decide.2 ?_; rw [show cntTo 2 s.data.toList = s.data.toList.count 10 + s.data.toList.count 34 from rfl]; rw [show cntTo 3 s.data.toList = s.data.toList.count 10 + s.data.toList.count 34 + s.data.toList.count 92 from rfl]; omega
        go_wp2_with (go_at_call 183; refine hcnt.out.mono ?_; rintro e w' ⟨rfl, rfl⟩)
        go_roundw
        case rel => exact ⟨2 + 1, m, f, by omega, by omega, by go_num, hbl, by trivial, by trivial, hm2, hf2⟩
        case measure => simp [intOf]
      · have hqb : ((q : Int) != 0) = true := by simpa using hq0
        have hm2 : Hid (m + q = s.size + cntTo 3 s.data.toList) := by have h1 := hm.out; have h2 := hq.out; unfold Hid; rw [show cntTo 2 s.data.toList = s.data.toList.count 10 + s.data.toList.count 34 from rfl] at h1; rw [show cntTo 3 s.data.toList = s.data.toList.count 10 + s.data.toList.count 34 + s.data.toList.count 92 from rfl]; omega
        have hf2 : Hid (true = decide (0 < cntTo 3 s.data.toList)) := by have h2 := hq.out; unfold Hid; rw [eq_comm, decide_eq_true_eq]; rw [show cntTo 3 s.data.toList = s.data.toList.count 10 + s.data.toList.count 34 + s.data.toList.count 92 from rfl]; omega
        have hq0 := Lib.hid hq0
        have hmm : (q : Int) * 1 = (q : Int) := by omega
        go_wp2_with (go_at_call 183; refine hcnt.out.mono ?_; rintro e w' ⟨rfl, rfl⟩)
        go_quiet (fail)
        go_wp2
        go_roundw
        case rel => exact ⟨2 + 1, m + q, true, by omega, by omega, by go_num, hbl.draws _, by go_num, by trivial, hm2, hf2⟩
        case measure => simp [intOf]
    · rw [show ((3 : Nat) : Int) = 3 from rfl]
      obtain ⟨wz, hwz⟩ : ∃ wz, wz = wr := ⟨_, rfl⟩
      subst hwz
      have hBz := hbl
      have hI := Lib.hid (hI.out.below hbl)
      have hm : Hid (m = s.size + s.data.toList.countP sp) := by unfold Hid; rw [← countP_sp]; exact hm.out
      have hf : Hid (f = s.data.toList.any sp) := by
        unfold Hid
        rw [hf.out, Bool.eq_iff_iff, decide_eq_true_eq, List.any_eq_true]
        show 0 < s.data.toList.count 10 + s.data.toList.count 34 + s.data.toList.count 92 ↔ _
        rw [countP_sp, List.countP_pos_iff]
      clear hbl cx1 gt0 gt1 gt2
      cases f with
      | false =>
        go_wp2
        go_ret
        refine ⟨eq_str ?_, hBz⟩
        rw [escs_plain hf.out.symm]
      | true =>
        have hN : Hid (m = (s.data.toList.flatMap esc).length) := by unfold Hid; rw [hm.out, escs_len, hlenH.out]
        have hmk : (Instr.makeSlice 50 (.int .i64 (m : Int)) (.int .i64 (m : Int))).run Tryz.prog wz = .ok (.slice (some ⟨wz.heap.size, 0, none⟩) m m) (wz.alloc (.cells (madeCells #[.int .u8 0] m) 5)) :=
          run_make_row' (P := Tryz.prog) 50 5 (.int .u8 0) 1 Tryz.underlying50 (by kernel_rfl) rfl .i64 .i64 m (by omega) (by omega) wz
        have hbuf : BufIs (wz.alloc (.cells (madeCells #[.int .u8 0] m) 5)) wz.heap.size m 0 [] := ⟨(madeCells #[.int .u8 0] m).toList, by simpa using heap_alloc_new wz (.cells (madeCells #[.int .u8 0] m) 5 (0, 0)), by simp [size_madeCells], rfl, rfl⟩
        have hbuf := Lib.hid hbuf
        go_wp2
        go_loopw [13, 14] (fun j i wr => ∃ (k n : Nat), k ≤ s.size ∧ i = .int .i64 k ∧ j = .int .i64 n ∧ Below wz.heap.size wz wr ∧ Hid (BufIs wr wz.heap.size m n ((s.data.toList.take k).flatMap esc))) (fun _ i _ => s.size - (intOf i).toNat)
        case atStart => exact ⟨0, 0, Nat.zero_le _, rfl, rfl, (Below.refl _ _).new _, hbuf⟩
        case round =>
          clear hbuf hmk
          obtain ⟨k, n, hk, rfl, rfl, hbl, hB⟩ := hrel
          by_cases hlt : k < s.size
          · obtain ⟨x, hx⟩ : ∃ x, s.data.toList[k]? = some x := ⟨_, List.getElem?_eq_getElem (by rw [hlenH.out]; exact hlt)⟩
            have hsk : s[k]'hlt = x := by
              have h2 := hx
              rw [List.getElem?_eq_getElem (by rw [hlenH.out]; exact hlt)] at h2
              injection h2
            have hx256 : (x.toNat : Int) < 256 := by have := x.toNat_lt; omega
            have hxn : x.toNat < 256 := x.toNat_lt
            obtain ⟨hs1, _, _⟩ := escs_step hx
            have hs1 := Lib.hid hs1
            have hle := escs_le s.data.toList (k + 1)
            rw [hs1.out, List.length_append, ← hN.out, show ((s.data.toList.take k).flatMap esc).length = n from by obtain ⟨_, _, _, h, _⟩ := hB.out; exact h] at hle
            clear hx
            have hIw := hI.out.below hbl
            by_cases hsp : sp x = true
            · obtain ⟨e1, e2⟩ := bsF_sp hsp
              obtain ⟨b1, o1, cc, cz, hsl⟩ := hIw.cell_some hxn (by rw [e1]; intro e; rw [e] at e2; cases e2)
              rw [e2] at hle
              rw [e1, e2] at cz hsl
              have hneq := fun W => run_neq_slice_nil (P := Tryz.prog) W 50 5 (some ⟨b1, o1, none⟩) 2 cc Tryz.underlying50
              obtain ⟨cs, hcs⟩ : ∃ cs, cs = (esc x).map byteV := ⟨_, rfl⟩
              have hcl : cs.length = 2 := by rw [hcs, List.length_map, e2]
              obtain ⟨cur, hc1, hc2, hc3, hc4⟩ := hB.out
              have hpos : Hid (∀ j v, cs[j]? = some v → wr.drew.cell? ((⟨b1, o1, none⟩ : Addr).add j) = some v) := by
                intro j v hv
                rw [hcs] at hv
                obtain ⟨y, hy, rfl⟩ := List.getElem?_map_some hv
                have hj : j < 2 := by rw [← e2]; exact (List.getElem?_eq_some_iff.1 hy).1
                obtain ⟨b9, o9, l9, e9, hl9, hc9⟩ := hsl.u8 hj
                rw [hy] at hl9
                injection hl9 with hl9
                subst hl9
                injection e9 with e9
                injection e9 with e9 e10
                subst e9; subst e10
                rw [show (⟨b1, o1, none⟩ : Addr).add j = ⟨b1, o1 + j, none⟩ from by unfold Addr.add; split <;> simp_all]
                exact hc9
              have h1c : Hid (∀ v ∈ cs, v.oneCell' = true) := by rw [hcs]; intro v hv; obtain ⟨y, _, rfl⟩ := List.mem_map.1 hv; rfl
              have hfit : n + cs.length ≤ cur.length := by omega
              have hmin : cs.length = Nat.min 2 (m - n) := by rw [hcl]; show 2 = min 2 (m - n); omega
              have hmn : ¬ m = n := by omega
              have hnm : n ≤ m := by omega
              have hc2 := Lib.hid hc2
              have hc3 := Lib.hid hc3
              have hc4 := Lib.hid hc4
              have hcsH := Lib.hid hcs
              have he2 := Lib.hid e2
              have hmin := Lib.hid hmin
              have hfit := Lib.hid hfit
              have hc1 := Lib.hid hc1
              clear hsp e1 e2 hIw hcs hsl
              have hbd := hbl.draws 1
              have hw1 : IntKind.i64.wrap ((n : Int) + 2) = (n : Int) + 2 := IntWalk.i64_in _ (by omega)
              go_wp2
              go_region_law (refine step_copy_splice rfl (.tmp 105) (.tmp 111) 50 50 rfl 5 Tryz.underlying50 (by kernel_rfl) (some ⟨wz.heap.size, n, none⟩) (some ⟨b1, o1, none⟩) (m - n) (m - n) 2 cc (by simp [Act.eval, Act.put]) (by simp [Act.eval]) wz.heap.size n cur 5 hc1.out cs hmin.out (fun _ => ⟨rfl, _, rfl, hpos.out⟩) hfit.out h1c.out wz.heap.size wz hbd (Nat.le_refl _) ?_; intro w4 hg4 hb4)
              all_goals
                clear hw1
                have hB4 := Lib.hid (BufIs.laid hc2.out hc3.out hc4.out hcsH.out (by have := he2.out; omega) hg4.out)
                rw [he2.out] at hB4
                go_wp2
                go_roundw
                case rel => exact ⟨k + 1, n + 2, by omega, by go_num, by go_num, hb4, by rw [hs1.out]; exact hB4⟩
                case measure => simp [intOf]; omega
            · have hsp : sp x = false := by simpa using hsp
              obtain ⟨e1, e2⟩ := bsF_plain hsp
              rw [e2] at hle hs1
              simp only [List.length_singleton] at hle
              obtain ⟨cz, _⟩ := hIw.cell_none hxn e1
              have hneq := fun W => run_neq_slice_nil (P := Tryz.prog) W 50 5 none 0 0 Tryz.underlying50
              obtain ⟨u0, cb1, cb2⟩ := hB.out.at_ (i := n) (by omega)
              have hB2 := Lib.hid (hB.out.put (by omega) x)
              have hn1 : (n : Int) < (m : Int) := by omega
              clear hsp e1 e2 hIw
              go_wp2
              go_roundw
              case rel => exact ⟨k + 1, n + 1, by omega, by go_num, by go_num, hbl.setCell (Nat.le_refl _) _, by rw [hs1.out]; exact hB2⟩
              case measure => simp [intOf]; omega
          · obtain rfl : k = s.size := by omega
            rw [List.take_of_length_le (by rw [hlenH.out]; omega)] at hB
            have hn : n = m := by have := hN.out; obtain ⟨_, _, _, h, _⟩ := hB.out; omega
            rw [hn] at hB
            have hback := Sl.back (P := Tryz.prog) (src := 50) (dst := 9) Tryz.underlying50 Tryz.underlying5 Tryz.underlying9 (hB.out.sl (by unfold maxLen; omega))
            go_wp2
            go_ret
            exact ⟨rfl, hBz.call hbl⟩

theorem repl_calls (s : ByteArray) (G base : Nat) (v : Value) (w : World) (hI : BsIs w base G v (bsF 3) (bsT 3)) (hs2 : s.size ≤ 1000) :
    Calls Tryz.prog 181 #[.pointer (some ⟨G, 0, none⟩), .string s] w fun e w' => e = .returned (.string ⟨(s.data.toList.flatMap esc).toArray⟩) ∧ Below w.heap.size w w' := by
  by_cases h : s.size < 24
  · exact replShort_calls s G base v w hI h
  · exact replLong_calls s G base v w hI (by omega) hs2
end Go.Proofs.YtfciagcmggdldaaGreatDoor
