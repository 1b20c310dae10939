/-
  store.Encode.
-/
import Derived.Test.YtfciagcmggdldaaGreatDoorStoreIn
import Derived.Test.YtfciagcmggdldaaGreatDoorRM
namespace Go.Proofs.YtfciagcmggdldaaGreatDoor
open Go.RowKit

/-- A put as bytes. -/
def encB (p : PutD) : List UInt8 := putU (zigN p.X.T) ++ putU (zigN p.X.V) ++ (labText p.L).data.toList

section
variable (w : World) (e : TypeId) (s : ByteArray)
theorem bytes_below : Below w.heap.size w (Lib.bytesWorld w e s) := ⟨rfl, rfl, rfl, by rw [Lib.bytesWorld_size]; omega, fun k hk => Lib.bytesWorld_at_old w e s k hk⟩
theorem bytes_sl (hn : s.size ≤ 9223372036854775807) (M : Nat → Prop) (hM : ∀ k, M k → k < w.heap.size) : Sl (Lib.bytesWorld w e s) M (some ⟨w.heap.size, 0, none⟩) s.size (grownCap w s.size 0 e) s.data.toList := by
  refine ⟨Array.length_toList, grownCap_ge .., grownCap_le_maxLen _ _ _ _ (by unfold maxLen; omega), by simp, fun _ => ⟨_, 0, rfl, by rw [Lib.bytesWorld_size]; omega, fun h => by have := hM _ h; omega, fun i x hx => ?_⟩⟩
  have hi : i < s.size := by
    have := (List.getElem?_eq_some_iff.1 hx).1
    rw [Array.length_toList] at this
    exact this
  refine ⟨[.int .u8 (x.toNat : Int)], rfl, fun j u hu => ?_⟩
  have hj : j = 0 := by
    have := (List.getElem?_eq_some_iff.1 hu).1
    simp at this; omega
  subst hj
  simp at hu
  subst hu
  have := Lib.bytesWorld_cell w e s i hi
  rw [show 0 + i * Rep.size UInt8 + 0 = i by simp [Rep.size], this]
  have hg : s.data.toList.getD i 0 = x := by rw [List.getD_eq_getElem?_getD, hx]; rfl
  rw [hg]
end

def No : Nat → Prop := fun _ => False
theorem no_lt (w : World) : ∀ k, No k → k < w.heap.size := fun _ h => h.elim

/-- Three slices of bytes that lie somewhere. -/
def Three (w0 w : World) (A1 : Option Addr) (c1 : Nat) (xs : List UInt8) (A2 : Option Addr) (c2 : Nat) (ys : List UInt8) (A3 : Option Addr) (c3 : Nat) (zs : List UInt8) : Prop :=
  Sl w No A1 xs.length c1 xs ∧ Sl w No A2 ys.length c2 ys ∧ Sl w No A3 zs.length c3 zs ∧ Below w0.heap.size w0 w
theorem Three.built {w0 w : World} {A1 A2 A3 : Option Addr} {c1 c2 c3 : Nat} {xs ys zs : List UInt8} (h : Three w0 w A1 c1 xs A2 c2 ys A3 c3 zs) (T : TypeId) :
    Sl (w.alloc (.cells #[.slice A1 xs.length c1, .slice A2 ys.length c2, .slice A3 zs.length c3] T)) No (some ⟨w.heap.size, 0, none⟩) 3 3 [xs, ys, zs] := by
  obtain ⟨h1, h2, h3, _⟩ := h
  refine Sl.newN (α := List UInt8) (ys := [xs, ys, zs]) (css := [[.slice A1 xs.length c1], [.slice A2 ys.length c2], [.slice A3 zs.length c3]]) (no_lt w) rfl (fun i y cs hy hc => ?_) rfl (by unfold maxLen; simp) T
  match i, hy, hc with
  | 0, hy, hc => cases hy; cases hc; exact ⟨_, rfl, h1.v⟩
  | 1, hy, hc => cases hy; cases hc; exact ⟨_, rfl, h2.v⟩
  | 2, hy, hc => cases hy; cases hc; exact ⟨_, rfl, h3.v⟩

set_option maxRecDepth 100000 in
set_option maxHeartbeats 2000000 in
theorem encode_calls (A : Option Addr) (n c : Nat) (p : PutD) (w : World) (M : Nat → Prop) (hM : ∀ k, M k → k < w.heap.size) (hl : Sl w M A n c p.L) (hT : i64ok p.X.T) (hV : i64ok p.X.V) (hS : SignsAt w) :
    Calls Tryz.prog 20 #[.slice A n c, .agg #[.int .i64 p.X.T, .int .i64 p.X.V]] w fun e w' => (∃ v', e = .returned (.tuple #[v', .int .i64 (putE p)]) ∧ Own w' M w.heap.size 5 v' (if putE p = 0 then encB p else [])) ∧ Below w.heap.size w w' := by
  obtain ⟨l, ⟨T, V⟩⟩ := p
  simp only at hl hT hV ⊢
  have hB1 := (Below.refl w.heap.size w).new (.cells #[.int .i64 T, .int .i64 V] 27)
  have htx := Text_calls A n c l (w.alloc (.cells #[.int .i64 T, .int .i64 V] 27)) M (fun k hk => by have := hM k hk; simp; omega) (hl.below hB1) (hS.below hB1)
  obtain ⟨r, hr⟩ : ∃ r, Hid (labCheck l = r) := ⟨_, rfl⟩
  obtain ⟨e, he⟩ : ∃ e, Hid (putE ⟨l, ⟨T, V⟩⟩ = e) := ⟨_, rfl⟩
  rw [hr.out] at htx
  rw [he.out]
  by_cases hc : r = 0
  · subst hc
    rw [show textOr ((0 : Int) == 0) (labText l) = labText l from rfl] at htx
    obtain ⟨t, ht⟩ : ∃ t, Hid (t = labText l) := ⟨_, rfl⟩
    rw [← ht.out] at htx
    have htx := Lib.hid htx
    have hts : t.size ≤ 10000 := by rw [ht.out]; exact labText_size hr.out
    by_cases hlo : T < -1152921504606846976
    · have he2 : Hid (e = 6) := by unfold Hid; rw [← he.out, putE, if_neg (by simp only [hr.out]; decide), if_pos (.inl hlo)]
      have hne : Hid (e ≠ 0) := by unfold Hid; rw [he2.out]; decide
      go_enter Tryz.func20, Tryz.ntmps20
      go_wp2_with (go_at_call 33; refine htx.out.mono ?_; rintro e w2 ⟨rfl, hb2⟩; have h0 : w2.cell? ⟨w.heap.size, 0, none⟩ = some (.int .i64 T) := (bcell hb2 w.heap.size 0 (by simp)).trans (by simp))
      go_ret2
      exact ⟨⟨.slice none 0 0, by rw [he2.out]; rfl, by first | exact Own.nil _ _ _ _ | (rw [if_neg hne.out]; exact Own.nil _ _ _ _)⟩, hB1.call hb2⟩
    · by_cases hhi : 1152921504606846976 < T
      · have he2 : Hid (e = 6) := by unfold Hid; rw [← he.out, putE, if_neg (by simp only [hr.out]; decide), if_pos (.inr hhi)]
        have hne : Hid (e ≠ 0) := by unfold Hid; rw [he2.out]; decide
        go_enter Tryz.func20, Tryz.ntmps20
        go_wp2_with (go_at_call 33; refine htx.out.mono ?_; rintro e w2 ⟨rfl, hb2⟩; have h0 : w2.cell? ⟨w.heap.size, 0, none⟩ = some (.int .i64 T) := (bcell hb2 w.heap.size 0 (by simp)).trans (by simp))
        go_ret2
        exact ⟨⟨.slice none 0 0, by rw [he2.out]; rfl, by first | exact Own.nil _ _ _ _ | (rw [if_neg hne.out]; exact Own.nil _ _ _ _)⟩, hB1.call hb2⟩
      · have he2 : Hid (e = 0) := by unfold Hid; rw [← he.out, putE, if_neg (by simp only [hr.out]; decide), if_neg (by simp only; omega)]
        go_enter Tryz.func20, Tryz.ntmps20
        go_wp2_with (go_at_call 33; refine htx.out.mono ?_; rintro e w2 ⟨rfl, hb2⟩; have h0 : w2.cell? ⟨w.heap.size, 0, none⟩ = some (.int .i64 T) := (bcell hb2 w.heap.size 0 (by simp)).trans (by simp); have h1 : w2.cell? ⟨w.heap.size, 1, none⟩ = some (.int .i64 V) := (bcell hb2 w.heap.size 1 (by simp)).trans (by simp))
        have hB2 := hB1.call hb2
        have hb0 : w.heap.size < w2.heap.size := by have := hb2.size; simp at this; omega
        obtain ⟨zt, hzt⟩ : ∃ z, Hid (zigN T = z) := ⟨_, rfl⟩
        obtain ⟨zv, hzv⟩ : ∃ z, Hid (zigN V = z) := ⟨_, rfl⟩
        have hztl : zt < 18446744073709551616 := by rw [← hzt.out]; exact zigN_lt hT
        have hzvl : zv < 18446744073709551616 := by rw [← hzv.out]; exact zigN_lt hV
        have zT := fun W => zig_calls T hT W
        have zV := fun W => zig_calls V hV W
        rw [hzt.out] at zT
        rw [hzv.out] at zV
        obtain ⟨pt, hpt⟩ : ∃ z, Hid (putU zt = z) := ⟨_, rfl⟩
        obtain ⟨pv, hpv⟩ : ∃ z, Hid (putU zv = z) := ⟨_, rfl⟩
        have hput : ∀ (z : Nat) (pz : List UInt8), z < 18446744073709551616 → putU z = pz → ∀ W, Calls Tryz.prog 44 #[.int .u64 (z : Int)] W fun e w' => ∃ A' c', e = .returned (.slice A' pz.length c') ∧ Sl w' No A' pz.length c' pz ∧ Below W.heap.size W w' := fun z pz hz he W => by
          refine (put_calls No z hz W (no_lt W)).mono ?_
          rintro e' w' ⟨v', rfl, ho, hb⟩
          rw [he] at ho
          obtain ⟨A', c', rfl, hs⟩ := ho.sl (no_lt W)
          exact ⟨A', c', rfl, hs, hb⟩
        have pT := Lib.hid (hput zt pt hztl hpt.out)
        have pV := Lib.hid (hput zv pv hzvl hpv.out)
        have zT := Lib.hid zT
        have zV := Lib.hid zV
        obtain ⟨tb, htb⟩ : ∃ tb, Hid (t.data.toList = tb) := ⟨_, rfl⟩
        have htbl : t.size = tb.length := by rw [← htb.out]; exact Array.length_toList.symm
        have hptl : pt.length ≤ 10 := by rw [← hpt.out]; exact putU_len zt 10 (by omega) (by omega)
        have hpvl : pv.length ≤ 10 := by rw [← hpv.out]; exact putU_len zv 10 (by omega) (by omega)
        have hb3 : ∀ W, Sl (Lib.bytesWorld W 5 t) No (some ⟨W.heap.size, 0, none⟩) tb.length (grownCap W tb.length 0 5) tb := fun W => by
          have := bytes_sl W 5 t (by omega) No (no_lt W)
          rw [htb.out, htbl] at this
          exact this
        have hb3 := Lib.hid hb3
        have kc := fun W => Lib.run_convert_string_bytes (P := Tryz.prog) W 9 50 5 t Tryz.underlying9 Tryz.underlying50 Tryz.underlying5
        rw [htbl] at kc
        have hcat : ∀ (W : World) (A1 A2 A3 : Option Addr) (c1 c2 c3 : Nat), Three w2 W A1 c1 pt A2 c2 pv A3 c3 tb → Calls Tryz.prog 43 #[.slice (some ⟨W.heap.size, 0, none⟩) 3 3] (W.alloc (.cells #[.slice A1 pt.length c1, .slice A2 pv.length c2, .slice A3 tb.length c3] 50)) fun e w' => ∃ v', e = .returned v' ∧ Own w' M w.heap.size 5 v' (pt ++ pv ++ tb) ∧ Below w2.heap.size w2 w' := fun W A1 A2 A3 c1 c2 c3 h => by
          refine (concatB_calls _ 3 3 [pt, pv, tb] _ No (h.built 50) (by simp; omega)).mono ?_
          rintro e' w' ⟨v', rfl, ho, hb⟩
          have hW : Below w.heap.size w W := hB2.call h.2.2.2
          refine ⟨v', rfl, ?_, (h.2.2.2.new _).call hb⟩
          have : [pt, pv, tb].flatten = pt ++ pv ++ tb := by simp
          rw [this] at ho
          exact ho.anyU8.from_ (by have := hW.size; simp; omega)
        have hcat := Lib.hid hcat
        have henc : Hid (pt ++ pv ++ tb = encB ⟨l, ⟨T, V⟩⟩) := by unfold Hid encB; rw [hzt.out, hzv.out, hpt.out, hpv.out, ← ht.out, htb.out]
        have hS2 : ∀ W, Below w2.heap.size w2 W → W.cell? ⟨w.heap.size, 0, none⟩ = some (.int .i64 T) ∧ W.cell? ⟨w.heap.size, 1, none⟩ = some (.int .i64 V) := fun W hb => ⟨(bcell hb w.heap.size 0 hb0).trans h0, (bcell hb w.heap.size 1 hb0).trans h1⟩
        have hS2 := Lib.hid hS2
        have L2 : Below w2.heap.size w2 w2.drew := (Below.refl _ _).draws 1
        clear htbl hput
        have hid9 : ∀ x : Oper, id x = x := fun _ => rfl
        conv in (Oper.mk _ (Op.convert _ _ _) _ _ _ _) => change id _
        go_region_held3 (fun u => u.cell? ⟨w.heap.size, 0, none⟩ = some (.int .i64 T) ∧ u.cell? ⟨w.heap.size, 1, none⟩ = some (.int .i64 V)) (first | go_keep | (exact hS2.out _ (L2.call (bytes_below _ _ _))) | (exact hS2.out _ (L3.call (bytes_below _ _ _))) | (exact hS2.out _ (L4.call (bytes_below _ _ _))))
          (first
            | (go_at_call 45; with_reducible refine (zT.out _).mono ?_; rintro e w' ⟨rfl, rfl⟩)
            | (go_at_call 45; with_reducible refine (zV.out _).mono ?_; rintro e w' ⟨rfl, rfl⟩)
            | (go_at_call 44; with_reducible refine (pT.out _).mono ?_; rintro e w3 ⟨A1, c1, rfl, hs1, hb3'⟩; have L3 : Below w2.heap.size w2 w3 := (by first | exact L2.call hb3' | exact (L2.call (bytes_below _ _ _)).call hb3'); obtain ⟨x1, x2⟩ := hS2.out w3 L3)
            | (go_at_call 44; with_reducible refine (pV.out _).mono ?_; rintro e w4 ⟨A2, c2, rfl, hs2, hb4⟩; have L4 : Below w2.heap.size w2 w4 := (by first | exact L3.call hb4 | exact (L3.call (bytes_below _ _ _)).call hb4); obtain ⟨x3, x4⟩ := hS2.out w4 L4)
            | (go_at_call 43; refine (hcat.out _ _ _ _ _ _ _ (by first | exact ⟨hs1.below hb4, hs2, ((hb3.out w2.drew).below hb3').below hb4, L4⟩ | exact ⟨(hs1.below (bytes_below _ _ _)).below hb4, hs2, (hb3.out w3).below hb4, L4⟩ | exact ⟨(hs1.below hb4).below (bytes_below _ _ _), hs2.below (bytes_below _ _ _), hb3.out w4, L4.call (bytes_below _ _ _)⟩)).mono ?_; rintro e w5 ⟨v5, rfl, ho5, hb5⟩; obtain ⟨x5, x6⟩ := hS2.out w5 hb5))
        all_goals
          have hfin := hB2.call hb5
          clear hb5 x1 x2 x3 x4 x5 x6 hS2 kc
          go_wp2
          go_ret2
          exact ⟨⟨v5, by first | rfl | (rw [he2.out]; rfl), by first | (rw [← henc.out]; exact ho5) | (rw [if_pos he2.out, ← henc.out]; exact ho5)⟩, hfin⟩
  · have he2 : Hid (e = r) := by unfold Hid; rw [← he.out, putE, if_pos (by simp only [hr.out]; exact hc)]; exact hr.out
    have hne : Hid (e ≠ 0) := by unfold Hid; rw [he2.out]; exact hc
    have hcb : (r != 0) = true := by simp [hc]
    have hz : (r == 0) = false := by simp [hc]
    rw [hz, show textOr false (labText l) = ⟨#[]⟩ from rfl] at htx
    have htx := Lib.hid htx
    clear hz
    have hc := Lib.hid hc
    go_enter Tryz.func20, Tryz.ntmps20
    go_wp2_with (go_at_call 33; refine htx.out.mono ?_; rintro e w2 ⟨rfl, hb2⟩)
    go_ret2
    exact ⟨⟨.slice none 0 0, by rw [he2.out]; rfl, by first | exact Own.nil _ _ _ _ | (rw [if_neg hne.out]; exact Own.nil _ _ _ _)⟩, hB1.call hb2⟩
end Go.Proofs.YtfciagcmggdldaaGreatDoor
