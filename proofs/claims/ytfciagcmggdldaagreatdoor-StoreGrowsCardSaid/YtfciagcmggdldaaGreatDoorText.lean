/-
  label.text, matches, Text, MatchText.
-/
import Derived.Test.YtfciagcmggdldaaGreatDoorQuoted
import Derived.Test.YtfciagcmggdldaaGreatDoorLabel2
import Derived.Deep.RegionHeld3
namespace Go.Proofs.YtfciagcmggdldaaGreatDoor
open Go.RowKit

def strOf (l : List UInt8) : ByteArray := ⟨l.toArray⟩
theorem strOf_data (l : List UInt8) : (strOf l).data.toList = l := rfl
theorem strOf_size (l : List UInt8) : (strOf l).size = l.length := rfl
theorem strOf_self (s : ByteArray) : strOf s.data.toList = s := rfl
theorem strOf_app (a b : List UInt8) : strOf a ++ strOf b = strOf (a ++ b) := ByteArray.ext (by simp [strOf])
def Mat.l (x : Mat) : MatL := ⟨x.kind, x.name.data.toList, x.value.data.toList⟩
def matStr (x : Mat) : ByteArray := strOf (matTextL x.l)

/-- The variable of the signs. -/
def SignsAt (w : World) : Prop := ∀ k : Nat, 1 ≤ k → k ≤ 4 → w.cell? ⟨0, k, none⟩ = some (.string (strOf (signL (k : Int))))
theorem SignsAt.below {w w' : World} (h : SignsAt w) (hb : Below w.heap.size w w') : SignsAt w' := fun k h1 h2 => (hb.cell (World.block_lt_of_cell? w _ (h k h1 h2))).trans (h k h1 h2)

section
variable {α : Type} [Rep α] {w w' : World} {M M' : Nat → Prop} {base : Nat} {e : TypeId} {v : Value} {xs : List α}
theorem step_app {P : Program} {ops : Array Oper} {o : Oper} {a : Act} {K : Act → World → Prop} {Q : Exit → Act → World → Prop} {E' : Prop} (hgd : o.guard = none) (s x : Operand) (t : TypeId)
    (ho : o.op = .call { callee := .builtin .append, args := #[s, x], argTypes := #[t, t] }) {bytes : Nat} (E : Elem P t e (Rep.size α) bytes) (v : Value) (xs : List α) (hs : a.eval s = v) (hown : Own w M base e v xs)
    (ys : List α) (A : Option Addr) (m cap : Nat) (hx : a.eval x = .slice A m cap) (hsl : Sl w (mOr M v) A m cap ys) (hb : (xs.length + m) * bytes ≤ 140737488355328) (hbase : base ≤ w.heap.size)
    (h : ∀ v' w', Own w' M base e v' (xs ++ ys) → w.grownBy w' v.ownBlock → (v'.ownBlock = v.ownBlock ∨ v'.ownBlock = some w.heap.size) → K (a.put o.dst v') w') :
    if Region.wanted o (yielded ops a.tmps) = true then Oper.wp P o a w K Q else E' := by
  have hw : Region.wanted o (yielded ops a.tmps) = true := by simp [Region.wanted, hgd]
  rw [if_pos hw]
  obtain ⟨v', w', hr, h2, h3, h4⟩ := run_app (P := P) (ty := o.type) E hown hsl hb hbase
  unfold Oper.wp execOp
  simp only [ho, resolve, invoke, builtin, Sem.run_bind, Sem.run_pure, Result.andThen_ok, List.map_toArray, List.map_cons, List.map_nil, hs, hx, hr]
  exact h v' w' h2 h3 h4
end

theorem matGo_ok {m : List Mat} (h : matGo m = 0) : ∀ x ∈ m, 1 ≤ x.kind ∧ x.kind ≤ 4 ∧ nameOk x.name = true ∧ x.value.size ≤ 40 := by
  induction m with
  | nil => simp
  | cons y r ih =>
    unfold matGo at h
    by_cases h0 : matBad y = 0
    case neg => rw [if_neg h0] at h; exact absurd h h0
    case pos =>
      rw [if_pos h0] at h
      unfold matBad at h0
      intro x hx
      rcases List.mem_cons.1 hx with rfl | hx
      · by_cases g1 : x.kind < 1 ∨ 4 < x.kind
        · rw [if_pos g1] at h0; cases h0
        · rw [if_neg g1] at h0
          by_cases g2 : nameOk x.name = false
          · rw [if_pos g2] at h0; cases h0
          · rw [if_neg g2] at h0
            by_cases g3 : 40 < x.value.size
            · rw [if_pos g3] at h0; cases h0
            · exact ⟨by omega, by omega, by simpa using g2, by omega⟩
      · exact ih h x hx
theorem matCheck_ok {m : List Mat} (h : matCheck m = 0) : m.length ≤ 10 ∧ ∀ x ∈ m, 1 ≤ x.kind ∧ x.kind ≤ 4 ∧ nameOk x.name = true ∧ x.value.size ≤ 40 := by
  unfold matCheck at h
  by_cases h1 : 10 < m.length
  · rw [if_pos h1] at h; cases h
  · rw [if_neg h1] at h; exact ⟨by omega, matGo_ok h⟩
theorem nameOk_size {s : ByteArray} (h : nameOk s = true) : s.size ≤ 20 := by
  unfold nameOk at h
  simp only [Bool.and_eq_true, decide_eq_true_eq] at h
  exact h.1.1.2
theorem quotedL_len (v : List UInt8) : (quotedL v).length ≤ 2 * v.length + 2 := by
  have := List.countP_le_length (p := sp) (l := v)
  unfold quotedL
  simp only [List.length_cons, List.length_append, List.length_nil]
  rw [escs_len]; omega
theorem signL_len (k : Int) : (signL k).length ≤ 2 := by
  unfold signL
  split
  · decide
  · split
    · decide
    · split
      · decide
      · split <;> decide
theorem matStr_size {x : Mat} (h1 : x.name.size ≤ 20) (h2 : x.value.size ≤ 40) : (matStr x).size ≤ 104 := by
  have a := quotedL_len x.value.data.toList
  have b := signL_len x.kind
  have c : x.name.data.toList.length = x.name.size := Array.length_toList
  have d : x.value.data.toList.length = x.value.size := Array.length_toList
  unfold matStr matTextL Mat.l
  rw [strOf_size]
  simp only [List.length_append]
  omega

theorem joinL_lib (l : List Str) : Lib.join l [44] = joinL l := by
  unfold Lib.join
  induction l with
  | nil => rfl
  | cons x r ih =>
    cases r with
    | nil => simp [List.intercalate, joinL]
    | cons y r =>
      rw [joinL, ← ih]
      simp [List.intercalate]
theorem joinL_len {l : List Str} {N : Nat} (h : ∀ x ∈ l, x.length ≤ N) : (joinL l).length ≤ l.length * (N + 1) := by
  induction l with
  | nil => simp [joinL]
  | cons x r ih =>
    have h1 := h x (by simp)
    have h2 := ih fun y hy => h y (List.mem_cons_of_mem _ hy)
    cases r with
    | nil => rw [joinL]; simp; omega
    | cons y r =>
      rw [joinL]
      simp only [List.length_append, List.length_cons, Nat.add_mul] at *
      omega
theorem joins_calls (A : Option Addr) (n c : Nat) (xs : List ByteArray) (w : World) (M : Nat → Prop) (h : Sl w M A n c xs) (hn : n ≤ 1000) (hx : ∀ x ∈ xs, x.size ≤ 1000) :
    Calls Tryz.prog 70 #[.slice A n c, .string ⟨#[44]⟩] w fun e w' => e = .returned (.string (strOf (joinL (xs.map (·.data.toList))))) ∧ Below w.heap.size w w' := by
  have hl := h.len
  rcases Nat.eq_zero_or_pos n with h0 | hp
  · subst h0
    obtain rfl : xs = [] := List.eq_nil_of_length_eq_zero hl
    exact (Tryz.strings_Join_none A c ⟨#[44]⟩ w).mono fun e w' ⟨h1, h2⟩ => ⟨h1, by rw [h2]; exact Below.refl _ _⟩
  · subst hl
    obtain ⟨b, off, rfl, hb, hm, hx2⟩ := h.addr hp
    have hcells : ∀ (j : Nat) x, xs[j]? = some x → w.cell? ⟨b, off + j, none⟩ = some (.string x) := fun j x hj => by
      obtain ⟨cs, ⟨rfl, _⟩, hc⟩ := hx2 j x hj
      simpa [Rep.size] using hc 0 _ rfl
    have hlen : (Lib.join (xs.map (·.data.toList)) (⟨#[44]⟩ : ByteArray).data.toList).length ≤ 140737488355328 := by
      show (Lib.join (xs.map (·.data.toList)) [44]).length ≤ _
      rw [joinL_lib]
      have := joinL_len (l := xs.map (·.data.toList)) (N := 1000) (fun y hy => by
        obtain ⟨z, hz, rfl⟩ := List.mem_map.1 hy
        have h1 := hx z hz
        have h2 : z.data.toList.length = z.size := Array.length_toList
        omega)
      rw [List.length_map] at this
      have h3 : xs.length * (1000 + 1) ≤ 1000 * 1001 := Nat.mul_le_mul hn (Nat.le_refl _)
      omega
    refine (Tryz.strings_Join b off c xs ⟨#[44]⟩ w hcells hb (by omega) h.2.1 hlen).mono fun e w' ⟨h1, h2⟩ => ⟨?_, h2⟩
    rw [h1]
    show Ending.returned (.string ⟨(Lib.join (xs.map (·.data.toList)) [44]).toArray⟩) = _
    rw [joinL_lib]; rfl

set_option maxRecDepth 100000 in
set_option maxHeartbeats 4000000 in
theorem text_calls (A : Option Addr) (n c : Nat) (m : List Mat) (w : World) (M : Nat → Prop) (hM : ∀ k, M k → k < w.heap.size) (hm : Sl w M A n c m) (hS : SignsAt w) (hok : matCheck m = 0) :
    Calls Tryz.prog 58 #[.slice A n c] w fun e w' => e = .returned (.string (strOf (textL (m.map Mat.l)))) ∧ Below w.heap.size w w' := by
  have hle := hm.le
  have hlen := Lib.hid hm.len
  obtain ⟨h10, hall⟩ := matCheck_ok hok
  have hall := Lib.hid hall
  have h10 := Lib.hid h10
  go_enter Tryz.func58, Tryz.ntmps58
  go_wp2
  go_loopw [3, 8] (fun o i wr => ∃ k : Nat, k ≤ n ∧ i = .int .i64 k ∧ Own wr M w.heap.size 9 o ((m.take k).map matStr) ∧ Below w.heap.size w wr) (fun _ i _ => n - (intOf i).toNat)
  case atStart => exact ⟨0, Nat.zero_le _, rfl, Own.nil _ _ _ _, Below.refl _ _⟩
  case round =>
    obtain ⟨k, hk, rfl, ho, hbl⟩ := hrel
    by_cases hlt : k < n
    · obtain ⟨b, off, x, rfl, hx0, g0, g1, g2, _, _, _⟩ := (hm.below hbl).mat hlt
      obtain ⟨hk1, hk4, hnm, hvl⟩ := hall.out x (List.mem_of_getElem? hx0)
      have hns := nameOk_size hnm
      obtain ⟨kn, hkn⟩ : ∃ kn : Nat, Hid (x.kind = (kn : Int)) := ⟨x.kind.toNat, by unfold Hid; omega⟩
      rw [hkn.out] at g0 hk1 hk4
      have hsg := hS.below hbl kn (by omega) (by omega)
      obtain ⟨sg, hsgl⟩ : ∃ sg, Hid (sg = strOf (signL (kn : Int))) := ⟨_, rfl⟩
      rw [← hsgl.out] at hsg
      have hsgs : sg.size ≤ 2 := by rw [hsgl.out, strOf_size]; exact signL_len _
      have hx := Lib.hid hx0
      clear hx0 hnm
      have hkl : (kn : Int) < 5 := by omega
      have hk0 : (0 : Int) ≤ (kn : Int) := by omega
      have hkn0 : ((kn : Int)).toNat = kn := by omega
      obtain ⟨q, hq⟩ : ∃ q, Hid (q = strOf (quotedL x.value.data.toList)) := ⟨_, rfl⟩
      have hqs : q.size ≤ 82 := by
        have h1 := quotedL_len x.value.data.toList
        have h2 : x.value.data.toList.length = x.value.size := Array.length_toList
        rw [hq.out, strOf_size]; omega
      have hmat : Hid (matStr x = x.name ++ sg ++ q) := by
        unfold Hid matStr matTextL Mat.l
        dsimp only
        rw [hkn.out, hsgl.out, hq.out, ← strOf_app, ← strOf_app, strOf_self]
        exact ByteArray.ext (by simp)
      have hz1 : ¬ 9223372036854775807 < x.name.size + sg.size := by omega
      have hz2 : ¬ 9223372036854775807 < x.name.size + sg.size + q.size := by omega
      have hquo : ∀ W, Calls Tryz.prog 69 #[.string x.value] W fun e w' => e = .returned (.string q) ∧ Below W.heap.size W w' := fun W => by rw [hq.out]; exact quoted_calls x.value W (by omega)
      have hquo := Lib.hid hquo
      obtain ⟨xs, hxs⟩ : ∃ xs, Hid (xs = (m.take k).map matStr) := ⟨_, rfl⟩
      rw [← hxs.out] at ho
      have hxl : xs.length ≤ 10 := by have := h10.out; rw [hxs.out, List.length_map, List.length_take]; omega
      have hsz : (xs.length + 1) * 16 ≤ 140737488355328 := by omega
      obtain ⟨A3, c3, rfl⟩ := ho.form
      have hBn := hbl.new (.cells #[.int .i64 (kn : Int), .string x.name, .string x.value] 115)
      have hon := ho.alloc (.cells #[.int .i64 (kn : Int), .string x.name, .string x.value] 115)
      have hsgn : (wr.alloc (.cells #[.int .i64 (kn : Int), .string x.name, .string x.value] 115)).cell? ⟨0, kn, none⟩ = some (.string sg) :=
        (World.cell?_of_block (Below.heap_alloc wr _ _ (World.block_lt_of_cell? wr _ hsg))).trans hsg
      have hy0 : (wr.alloc (.cells #[.int .i64 (kn : Int), .string x.name, .string x.value] 115)).cell? ⟨wr.heap.size, 0, none⟩ = some (.int .i64 (kn : Int)) := by simp
      have hy1 : (wr.alloc (.cells #[.int .i64 (kn : Int), .string x.name, .string x.value] 115)).cell? ⟨wr.heap.size, 1, none⟩ = some (.string x.name) := by simp
      have hy2 : (wr.alloc (.cells #[.int .i64 (kn : Int), .string x.name, .string x.value] 115)).cell? ⟨wr.heap.size, 2, none⟩ = some (.string x.value) := by simp
      have hob : Hid (∀ q, (Value.slice A3 xs.length c3).ownBlock = some q → w.heap.size ≤ q ∧ q < wr.heap.size) := ho.lt
      have hkeep : ∀ (u : World), (∀ z, z < wr.heap.size + 1 → (Value.slice A3 xs.length c3).ownBlock ≠ some z → u.heap[z]? = (wr.alloc (.cells #[.int .i64 (kn : Int), .string x.name, .string x.value] 115)).heap[z]?) →
          Hid (u.cell? ⟨wr.heap.size, 0, none⟩ = some (.int .i64 (kn : Int)) ∧ u.cell? ⟨wr.heap.size, 1, none⟩ = some (.string x.name) ∧ u.cell? ⟨wr.heap.size, 2, none⟩ = some (.string x.value) ∧ u.cell? ⟨0, kn, none⟩ = some (.string sg)) := by
        intro u hu
        have e1 := hu wr.heap.size (Nat.lt_succ_self _) (fun e => by have := (hob.out _ e).2; omega)
        have h0 : 0 < w.heap.size := World.block_lt_of_cell? w _ (hS kn (by omega) (by omega))
        have e2 := hu 0 (by have := hbl.size; omega) (fun e => by have h1 := (hob.out _ e).1; omega)
        exact ⟨(World.cell?_of_block (a := ⟨wr.heap.size, 0, none⟩) e1).trans hy0, (World.cell?_of_block (a := ⟨wr.heap.size, 1, none⟩) e1).trans hy1, (World.cell?_of_block (a := ⟨wr.heap.size, 2, none⟩) e1).trans hy2, (World.cell?_of_block (a := ⟨0, kn, none⟩) e2).trans hsgn⟩
      have hst : ∀ w4, Below (wr.alloc (.cells #[.int .i64 (kn : Int), .string x.name, .string x.value] 115)).drew.heap.size (wr.alloc (.cells #[.int .i64 (kn : Int), .string x.name, .string x.value] 115)).drew w4 → Hid (Own (w4.alloc (.cells #[.string (x.name ++ sg ++ q)] 9)) M w.heap.size 9 (.slice A3 xs.length c3) xs ∧ Sl (w4.alloc (.cells #[.string (x.name ++ sg ++ q)] 9)) (mOr M (.slice A3 xs.length c3)) (some ⟨w4.heap.size, 0, none⟩) 1 1 [x.name ++ sg ++ q] ∧ w.heap.size ≤ (w4.alloc (.cells #[.string (x.name ++ sg ++ q)] 9)).heap.size ∧
          Below w.heap.size w (w4.alloc (.cells #[.string (x.name ++ sg ++ q)] 9)) ∧ (Hid (w4.cell? ⟨wr.heap.size, 0, none⟩ = some (.int .i64 (kn : Int)) ∧ w4.cell? ⟨wr.heap.size, 1, none⟩ = some (.string x.name) ∧ w4.cell? ⟨wr.heap.size, 2, none⟩ = some (.string x.value) ∧ w4.cell? ⟨0, kn, none⟩ = some (.string sg))) ∧ ∀ w5, (w4.alloc (.cells #[.string (x.name ++ sg ++ q)] 9)).grownBy w5 (Value.slice A3 xs.length c3).ownBlock → (Hid (w5.cell? ⟨wr.heap.size, 0, none⟩ = some (.int .i64 (kn : Int)) ∧ w5.cell? ⟨wr.heap.size, 1, none⟩ = some (.string x.name) ∧ w5.cell? ⟨wr.heap.size, 2, none⟩ = some (.string x.value) ∧ w5.cell? ⟨0, kn, none⟩ = some (.string sg)))) := by
        intro w4 hb4
        have hs4 : wr.heap.size + 1 ≤ w4.heap.size := by have := hb4.size; simpa using this
        have hB4 := ((hBn.draws 1).call hb4).new (.cells #[.string (x.name ++ sg ++ q)] 9)
        have ho4 := (hon.below (Below.draws (Below.refl _ _) 1)).below hb4
        have hblk4 : ∀ z, z < wr.heap.size + 1 → w4.heap[z]? = (wr.alloc (.cells #[.int .i64 (kn : Int), .string x.name, .string x.value] 115)).heap[z]? := fun z hz => hb4.block z (by simpa using hz)
        refine ⟨ho4.alloc _, Sl.new (fun z hz => ?_) (show Rep.rep (α := ByteArray) w4 _ [.string (x.name ++ sg ++ q)] _ from ⟨rfl, by simp; omega⟩) _, hB4.size, hB4, hkeep w4 fun z hz _ => hblk4 z hz, fun w5 hg5 => hkeep w5 fun z hz hne => ?_⟩
        · rcases hz with hz | hz
          · have := hM z hz; have := hbl.size; omega
          · have := (hob.out z hz).2; omega
        · rw [hg5.block z (by simp; omega) (fun e => hne e.symm), Below.heap_alloc w4 _ z (by omega), hblk4 z hz]
      go_wp2
      go_region_held3 (fun u => u.cell? ⟨wr.heap.size, 0, none⟩ = some (.int .i64 (kn : Int)) ∧ u.cell? ⟨wr.heap.size, 1, none⟩ = some (.string x.name) ∧ u.cell? ⟨wr.heap.size, 2, none⟩ = some (.string x.value) ∧ u.cell? ⟨0, kn, none⟩ = some (.string sg)) (go_keep)
        (first
          | (go_at_call 69; refine (hquo.out _).mono ?_; rintro e w4 ⟨rfl, hb4⟩; obtain ⟨z1, z2, z3, z4⟩ := (hst w4 hb4).out.2.2.2.2.1.out)
          | (refine step_app (α := ByteArray) (w := w4.alloc (.cells #[.string (x.name ++ sg ++ q)] 9)) rfl (.tmp 12) (.tmp 24) 62 rfl elemStr (.slice A3 xs.length c3) xs (by simp [Act.eval]) (hst w4 hb4).out.1 [x.name ++ sg ++ q] (some ⟨w4.heap.size, 0, none⟩) 1 1 (by simp [Act.eval]) (hst w4 hb4).out.2.1 hsz (hst w4 hb4).out.2.2.1 ?_; intro v5 w5 ho5 hg5 hk5; obtain ⟨y1, y2, y3, y4⟩ := ((hst w4 hb4).out.2.2.2.2.2 w5 hg5).out))
      all_goals
        have hB5 := ((hst w4 hb4).out.2.2.2.1).grown hg5 (hst w4 hb4).out.2.2.1 (fun z hz => (hob.out z hz).1)
        have hxs2 : xs ++ [x.name ++ sg ++ q] = (m.take (k + 1)).map matStr := by rw [hxs.out, ← hmat.out, List.take_add_one, hx.out, List.map_append]; rfl
        rw [hxs2] at ho5
        go_wp2
        go_roundw
        case rel => exact ⟨k + 1, by omega, by go_num, ho5, hB5⟩
        case measure => simp [intOf]; omega
    · obtain rfl : k = n := by omega
      rw [List.take_of_length_le (by rw [hlen.out]; omega)] at ho
      obtain ⟨A3, c3, rfl, hs3⟩ := ho.sl hM
      have hml : (m.map matStr).length = k := by rw [List.length_map, hlen.out]
      have hmx : ∀ x ∈ m.map matStr, x.size ≤ 104 := fun y hy => by
        obtain ⟨z, hz, rfl⟩ := List.mem_map.1 hy
        obtain ⟨_, _, h3, h4⟩ := hall.out z hz
        exact matStr_size (nameOk_size h3) h4
      obtain ⟨j, hj⟩ : ∃ j, Hid (j = strOf (joinL ((m.map matStr).map (·.data.toList)))) := ⟨_, rfl⟩
      have hjs : j.size ≤ 2000 := by
        have h1 := joinL_len (l := (m.map matStr).map (·.data.toList)) (N := 104) (fun y hy => by
          obtain ⟨z, hz, rfl⟩ := List.mem_map.1 hy
          have h1 := hmx z hz
          have h2 : z.data.toList.length = z.size := Array.length_toList
          omega)
        have h2 := h10.out
        rw [hj.out, strOf_size]
        simp only [List.length_map] at h1
        omega
      have hjo : Calls Tryz.prog 70 #[.slice A3 (m.map matStr).length c3, .string ⟨#[44]⟩] wr fun e w' => e = .returned (.string j) ∧ Below wr.heap.size wr w' := by
        rw [hj.out]
        exact joins_calls A3 _ c3 (m.map matStr) wr M hs3 (by rw [hml]; have := h10.out; rw [hlen.out] at this; omega) (fun x hx => by have := hmx x hx; omega)
      rw [hml] at hjo ⊢
      have hjo := Lib.hid hjo
      have hz1 : ¬ 9223372036854775807 < 1 + j.size := by omega
      have hz2 : ¬ 9223372036854775807 < 1 + j.size + 1 := by omega
      go_wp2_with (go_at_call 70; refine hjo.out.mono ?_; rintro e w4 ⟨rfl, hb4⟩)
      go_ret
      refine ⟨eq_str ?_, hbl.call hb4⟩
      rw [hj.out]
      have he : (m.map matStr).map (·.data.toList) = (m.map Mat.l).map matTextL := by rw [List.map_map, List.map_map]; rfl
      rw [he]
      exact ByteArray.ext (by simp [textL, strOf])
end Go.Proofs.YtfciagcmggdldaaGreatDoor
