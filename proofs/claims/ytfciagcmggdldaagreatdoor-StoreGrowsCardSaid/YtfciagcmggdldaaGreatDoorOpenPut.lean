/-
  An argument that reads as data is held by cells as this session's words say.
-/
import Derived.Test.YtfciagcmggdldaaGreatDoorData
import Derived.Test.YtfciagcmggdldaaGreatDoorStoreD
import Derived.Test.YtfciagcmggdldaaGreatDoorProg
import Derived.Deep.Slices
import Derived.ChangeSame
namespace Go.Proofs.YtfciagcmggdldaaGreatDoor
open Go.RowKit Go.ChangeShapes Go.WideShapes Go.Deep

/-- Whatever reads as data of type t is held as an element of α. -/
def Opens (P : Program) (t : TypeId) (α : Type) [Rep α] : Prop :=
  ∀ (H : Type) (enc : TypeId × Value → H) (w : World) (base : Nat) (spare : Nat → Bool) (held : Bool) (fuel : Nat) (cs : List Value) (x : DataW H × List MemPlace),
    DataW.trod enc P w base spare held fuel t cs = some x → ∃ a : α, Rep.rep w (fun _ => False) cs a

theorem Opens.list {α : Type} [Rep α] {P : Program} {t e : TypeId} (h : Opens P e α) (ht : P.underlying t = some (.slice e)) (hC : P.cellsOf e = Rep.size α) : Opens P t (List α) := by
  intro H enc w base spare held fuel cs x hx
  rcases open_slice ht hx with ⟨rfl, _⟩ | ⟨a, len, cap, m, n, D, Pl, rfl, hb, hl, hm, hmm, _, hi⟩
  · exact ⟨[], _, rfl, none, 0, rfl, Sl.nil _ _⟩
  · rw [hC] at hi
    have hlm : len ≤ m := by rw [hmm]; split <;> omega
    have hel : ∀ i, i < len → ∃ (y : α) (cs' : List Value), Rep.rep w (fun _ => False) cs' y ∧ cs'.length = Rep.size α ∧ ∀ j, j < Rep.size α → w.cell? ((a.add (i * Rep.size α)).add j) = cs'[j]? := fun i hil => by
      obtain ⟨cs', h1, h2⟩ := hi i (by omega)
      obtain ⟨y, hy⟩ := h H enc w base spare held n cs' _ h2
      obtain ⟨_, h3, h4⟩ := World.cells?_some h1
      exact ⟨y, cs', hy, h3, h4⟩
    have hspot : 0 < len → a.spot = none := fun hp => by
      obtain ⟨y, cs', _, h3, h4⟩ := hel 0 hp
      have h5 := h4 0 (Rep.pos (α := α))
      rw [List.getElem?_eq_getElem (by rw [h3]; exact Rep.pos (α := α))] at h5
      have := World.cell?_spot h5
      simpa [Addr.add] using this
    have hlist : ∃ xs : List α, xs.length = len ∧ ∀ (i : Nat) (y : α), xs[i]? = some y → ∃ cs', Rep.rep w (fun _ => False) cs' y ∧ ∀ j, j < Rep.size α → w.cell? ((a.add (i * Rep.size α)).add j) = cs'[j]? := by
      have key : ∀ k, k ≤ len → ∃ xs : List α, xs.length = k ∧ ∀ (i : Nat) (y : α), xs[i]? = some y → ∃ cs', Rep.rep w (fun _ => False) cs' y ∧ ∀ j, j < Rep.size α → w.cell? ((a.add (i * Rep.size α)).add j) = cs'[j]? := by
        intro k
        induction k with
        | zero => exact fun _ => ⟨[], rfl, by simp⟩
        | succ k ih =>
          intro hk
          obtain ⟨xs, h1, h2⟩ := ih (by omega)
          obtain ⟨y, cs', h3, _, h4⟩ := hel k (by omega)
          refine ⟨xs ++ [y], by simp [h1], fun i z hz => ?_⟩
          rw [List.getElem?_append] at hz
          split at hz
          · exact h2 i z hz
          · have hik : i = k := by
              have := (List.getElem?_eq_some_iff.1 hz).1
              simp at this; omega
            subst hik
            rw [h1, Nat.sub_self] at hz
            simp at hz; subst hz
            exact ⟨cs', h3, h4⟩
      exact key len (Nat.le_refl _)
    obtain ⟨xs, hxl, hxs⟩ := hlist
    refine ⟨xs, _, rfl, some a, cap, by rw [hxl], by rfl, by omega, hm, by simp, fun hp => ?_⟩
    have hs := hspot (by omega)
    obtain ⟨ab, ao, asp⟩ := a
    simp only at hs
    subst hs
    refine ⟨ab, ao, rfl, ?_, id, fun i y hy => ?_⟩
    · obtain ⟨y, cs', _, h3, h4⟩ := hel 0 (by omega)
      have h5 := h4 0 (Rep.pos (α := α))
      rw [List.getElem?_eq_getElem (by rw [h3]; exact Rep.pos (α := α))] at h5
      have := World.block_lt_of_cell? w _ h5
      simpa [Addr.add] using this
    · obtain ⟨cs', h3, h4⟩ := hxs i y hy
      refine ⟨cs', h3, fun j u hu => ?_⟩
      have hj : j < Rep.size α := by rw [← Rep.len h3]; exact (List.getElem?_eq_some_iff.1 hu).1
      have h5 := h4 j hj
      rw [hu] at h5
      have e : ((⟨ab, ao, none⟩ : Addr).add (i * Rep.size α)).add j = ⟨ab, ao + i * Rep.size α + j, none⟩ := by
        unfold Addr.add
        split <;> split <;> simp_all <;> omega
      rw [e] at h5
      exact h5

theorem opens_str {P : Program} {t : TypeId} (h : P.underlying t = some .string) : Opens P t ByteArray := by
  intro H enc w base spare held fuel cs x hx
  obtain ⟨s, rfl, _, hs⟩ := DataW.trod_string h hx
  exact ⟨s, rfl, by unfold maxLen at hs; omega⟩
theorem opens_i64 {P : Program} {t : TypeId} (h : P.underlying t = some (.int .i64)) : Opens P t Int := by
  intro H enc w base spare held fuel cs x hx
  obtain ⟨s, rfl, _, hs⟩ := DataW.trod_int h hx
  have h1 := hs
  unfold Lit.wf at h1
  rw [Bool.and_eq_true, decide_eq_true_eq, decide_eq_true_eq, show IntKind.i64.min = -9223372036854775808 from rfl, show IntKind.i64.max = 9223372036854775807 from rfl] at h1
  exact ⟨s, rfl, h1.1, h1.2⟩
set_option maxRecDepth 100000 in
theorem opens_lab : Opens Tryz.prog 73 Lab := by
  intro H enc w base spare held fuel cs x hx
  obtain ⟨xs, n, _, _, hlen, hxl, hf⟩ := DataW.trod_struct Tryz.underlying73 hx
  have hC : Tryz.prog.cellsOf 73 = 2 := by kernel_rfl
  have hC1 : Tryz.prog.cellsOf 9 = 1 := by kernel_rfl
  rw [hC] at hlen
  match cs, hlen with
  | [c0, c1], _ =>
    have h0 : DataW.trod enc Tryz.prog w base spare held n 9 (([c0, c1].drop 0).take (Tryz.prog.cellsOf 9)) = xs[0]? := hf 0 _ rfl
    have h1 : DataW.trod enc Tryz.prog w base spare held n 9 (([c0, c1].drop 1).take (Tryz.prog.cellsOf 9)) = xs[1]? := hf 1 _ rfl
    have e0 : 0 < xs.length := by rw [hxl]; decide
    have e1 : 1 < xs.length := by rw [hxl]; decide
    rw [List.getElem?_eq_getElem e0] at h0
    rw [List.getElem?_eq_getElem e1] at h1
    simp only [hC1, List.drop_zero, List.take_succ_cons, List.take_zero, List.drop_succ_cons] at h0 h1
    obtain ⟨s, hs, _, g0⟩ := DataW.trod_string Tryz.underlying9 h0
    obtain ⟨r, hr, _, g1⟩ := DataW.trod_string Tryz.underlying9 h1
    simp at hs hr
    subst hs; subst hr
    exact ⟨⟨s, r⟩, rfl, by unfold maxLen at g0; exact g0, by unfold maxLen at g1; exact g1⟩
set_option maxRecDepth 100000 in
theorem opens_put : Opens Tryz.prog 29 PutD := by
  intro H enc w base spare held fuel cs x hx
  obtain ⟨xs, n, _, _, hlen, hxl, hf⟩ := DataW.trod_struct Tryz.underlying29 hx
  have hC : Tryz.prog.cellsOf 29 = 3 := by kernel_rfl
  have hC1 : Tryz.prog.cellsOf 25 = 1 := by kernel_rfl
  have hC2 : Tryz.prog.cellsOf 27 = 2 := by kernel_rfl
  have hC3 : Tryz.prog.cellsOf 2 = 1 := by kernel_rfl
  rw [hC] at hlen
  match cs, hlen with
  | [c0, c1, c2], _ =>
    have h0 : DataW.trod enc Tryz.prog w base spare held n 25 (([c0, c1, c2].drop 0).take (Tryz.prog.cellsOf 25)) = xs[0]? := hf 0 _ rfl
    have h1 : DataW.trod enc Tryz.prog w base spare held n 27 (([c0, c1, c2].drop 1).take (Tryz.prog.cellsOf 27)) = xs[1]? := hf 1 _ rfl
    have e0 : 0 < xs.length := by rw [hxl]; decide
    have e1 : 1 < xs.length := by rw [hxl]; decide
    rw [List.getElem?_eq_getElem e0] at h0
    rw [List.getElem?_eq_getElem e1] at h1
    simp only [hC1, hC2, List.drop_zero, List.take_succ_cons, List.take_zero, List.drop_succ_cons] at h0 h1
    obtain ⟨l, u, hu, hl⟩ := Opens.list opens_lab Tryz.underlying25 (by kernel_rfl) H enc w base spare held _ _ _ h0
    obtain ⟨ys, m, _, _, hlen2, hyl, hg⟩ := DataW.trod_struct Tryz.underlying27 h1
    have g0 : DataW.trod enc Tryz.prog w base spare held m 2 (([c1, c2].drop 0).take (Tryz.prog.cellsOf 2)) = ys[0]? := hg 0 _ rfl
    have g1 : DataW.trod enc Tryz.prog w base spare held m 2 (([c1, c2].drop 1).take (Tryz.prog.cellsOf 2)) = ys[1]? := hg 1 _ rfl
    have f0 : 0 < ys.length := by rw [hyl]; decide
    have f1 : 1 < ys.length := by rw [hyl]; decide
    rw [List.getElem?_eq_getElem f0] at g0
    rw [List.getElem?_eq_getElem f1] at g1
    simp only [hC3, List.drop_zero, List.take_succ_cons, List.take_zero, List.drop_succ_cons] at g0 g1
    obtain ⟨a, ha, ha2⟩ := opens_i64 Tryz.underlying2 H enc w base spare held _ _ _ g0
    obtain ⟨b, hb, hb2⟩ := opens_i64 Tryz.underlying2 H enc w base spare held _ _ _ g1
    simp at hu ha hb
    subst hu; subst ha; subst hb
    exact ⟨⟨l, ⟨a, b⟩⟩, c0, rfl, hl, ha2, hb2⟩

/-- A slice that came in. -/
theorem Opens.arg {α : Type} [Rep α] {P : Program} {t : TypeId} (h : Opens P t (List α)) {H : Type} {enc : TypeId × Value → H} {w : World} {base : Nat} {spare : Nat → Bool} {held : Bool} {v : Value} {d : DataW H} {p : List MemPlace}
    (hd : DataW.Trod enc P w base spare held t v d p) (hv : v.cells.toList = [v]) : ∃ (A : Option Addr) (n c : Nat) (xs : List α), v = .slice A n c ∧ Sl w (fun _ => False) A n c xs := by
  obtain ⟨fuel, hf⟩ := hd
  rw [hv] at hf
  obtain ⟨xs, u, hu, A, c, rfl, hs⟩ := h H enc w base spare held fuel _ _ hf
  simp at hu
  exact ⟨A, _, c, xs, hu, hs⟩
end Go.Proofs.YtfciagcmggdldaaGreatDoor
