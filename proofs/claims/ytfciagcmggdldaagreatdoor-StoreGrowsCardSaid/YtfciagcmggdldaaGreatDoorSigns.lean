/-
  What the laid variable label.signs gives a walk; the start of a claim over it.
-/
import Derived.Test.YtfciagcmggdldaaGreatDoorRows
import Derived.Test.YtfciagcmggdldaaGreatDoorText
import Derived.ProofKit
import Derived.HandedShaped
import Derived.LaidMore
import Derived.OpenShut
import Derived.Stop.Joined
import Derived.ChangeSame
namespace Go.Proofs.YtfciagcmggdldaaGreatDoor
open Go.RowKit Go.ChangeShapes Go.WideShapes

def laids : List (String × DataW Unit) := [("gaugehouse/label.signs", Rows.laid_gaugehouse_label_signs)]
theorem own : ownKnob Tryz.prog.godebug = none := by kernel_rfl
theorem laidOut : laidOutB Tryz.prog = true := by kernel_rfl
theorem gSigns : Tryz.prog.globalNamed "gaugehouse/label.signs" = some 0 := by kernel_rfl
theorem tSigns : (Tryz.prog.globals[0]?).map (·.type) = some 121 := by kernel_rfl

theorem str_of {s : ByteArray} {l : List UInt8} (h : s.data.toList = l) : s = strOf l := by subst h; rfl

set_option maxRecDepth 100000 in
theorem signs_of_laid {W : World} (h : laidMetH Tryz.prog laids W) : SignsAt W := by
  rw [MakeChecks.laidMetH_plain _ _ _ (by kernel_rfl)] at h
  obtain ⟨ps, ⟨g0, t0, cs0, f0, p0, q0, hg0, ht0, hv0, hd0, _, _⟩, _, _⟩ := h
  obtain rfl := Option.some.inj (gSigns.symm.trans hg0)
  obtain rfl := Option.some.inj (tSigns.symm.trans ht0)
  obtain ⟨xs, m1, rfl, hx1, hlen, hn5, hel⟩ := DataW.trod_array Tryz.underlying121 hd0
  have c1 : Tryz.prog.cellsOf 9 = 1 := by kernel_rfl
  have c5 : Tryz.prog.cellsOf 121 = 5 := by kernel_rfl
  rw [c5] at hlen
  simp only [Prod.mk.injEq] at hx1
  obtain ⟨hx1, _⟩ := hx1
  unfold Rows.laid_gaugehouse_label_signs at hx1
  simp only [DataW.agg.injEq] at hx1
  have hcell : ∀ k : Nat, k < 5 → ∃ s : ByteArray, W.cell? ⟨0, k, none⟩ = some (.string s) ∧ ∃ y, xs[k]? = some y ∧ y.1 = .lit (.string s.data.toList) := fun k hk => by
    have h1 := hel k hk
    have hxk : k < xs.length := by omega
    rw [List.getElem?_eq_getElem hxk, c1, Nat.mul_one] at h1
    obtain ⟨s, e1, e2, _⟩ := DataW.trod_string Tryz.underlying9 h1
    refine ⟨s, ?_, _, List.getElem?_eq_getElem hxk, by rw [e2]⟩
    have hv := World.var?_cell hg0 hv0 k
    rw [hv]
    have hkl : k < cs0.toList.length := by omega
    have h2 : (cs0.toList.drop k).take 1 = [cs0.toList[k]] := by rw [List.drop_eq_getElem_cons hkl]; rfl
    rw [h2] at e1
    injection e1 with e1
    rw [← Array.getElem?_toList, List.getElem?_eq_getElem hkl, e1]
  match xs, hn5, hx1, hcell with
  | [x0, x1, x2, x3, x4], _, hx1, hcell =>
    simp only [List.map_cons, List.map_nil, List.cons.injEq] at hx1
    obtain ⟨_, e1, e2, e3, e4, _⟩ := hx1
    intro k hk1 hk4
    obtain ⟨s, hs, y, hy, hy1⟩ := hcell k (by omega)
    rw [hs]
    match k, hk1, hk4, hy with
    | 1, _, _, hy =>
      injection hy with hy; subst hy
      rw [hy1] at e1
      rw [str_of (s := s) (l := [61]) (by injection e1 with e1; injection e1 with e1; exact e1.symm)]; rfl
    | 2, _, _, hy =>
      injection hy with hy; subst hy
      rw [hy1] at e2
      rw [str_of (s := s) (l := [33, 61]) (by injection e2 with e1; injection e1 with e1; exact e1.symm)]; rfl
    | 3, _, _, hy =>
      injection hy with hy; subst hy
      rw [hy1] at e3
      rw [str_of (s := s) (l := [61, 94]) (by injection e3 with e1; injection e1 with e1; exact e1.symm)]; rfl
    | 4, _, _, hy =>
      injection hy with hy; subst hy
      rw [hy1] at e4
      rw [str_of (s := s) (l := [61, 126]) (by injection e4 with e1; injection e1 with e1; exact e1.symm)]; rfl

/-- The door's own heap meets the condition. -/
theorem door_met (os : Os) (args : Array Value) : laidMetH Tryz.prog laids ((World.doorLaid Tryz.prog 400 os).forCall (fun _ _ => 0) ⟨#[], args, []⟩).memory :=
  laidMetH_of_parts3 (fuel := 8) (laidMet_of_run' 8 (by kernel_rfl) (by kernel_rfl)) (by kernel_rfl) (by kernel_rfl)

section
variable {H : Type} {enc : TypeId × Value → H} {P : Program}
theorem post_of_below {f : Func} {s : ChangeSpec} {apart fresh handsOn again : Bool} {W W' : World} {args : Array Value} {v : Value} {ds gs : List (DataW H)} {before pa pv : List MemPlace}
    (hW : DataW.Whole enc P f.params.toList s.vars apart W args.toList ds gs before)
    (hres : ∀ (b : Nat) (sp : Nat → Bool) (hd : Bool), DataW.TrodAll enc P W' b sp hd f.resultTypes.toList (v.resultList f.resultTypes.size) (s.fn H (ds ++ gs)).results [])
    (hargs : ∀ sp : Nat → Bool, (∀ p ∈ before, sp p.block = true) → DataW.TrodAll enc P W' 0 sp true f.params.toList args.toList (s.fn H (ds ++ gs)).args pa)
    (hvars : ∀ sp : Nat → Bool, (∀ p ∈ before, sp p.block = true) → DataW.TrodVars enc P W' sp s.vars (s.fn H (ds ++ gs)).vars pv)
    (hps : before = pa ++ pv) (hb : Below W.heap.size W W')
    (hok : ∀ (j : Nat) (t : TypeId) (r : Value), f.resultTypes[j]? = some t → (v.resultList f.resultTypes.size)[j]? = some r → Value.okWide P W' .any 0 t r) :
    s.post enc P f apart fresh handsOn again W args v W' := by
  have hlt : ∀ p ∈ before, p.block < W.heap.size := fun p hp => hW.lt p hp
  have hold : ∀ p ∈ before, (fun b => decide (b < W.heap.size)) p.block = true := fun p hp => by simpa using hlt p hp
  refine ⟨ds, gs, before, [], pa, pv, hW, hres _ _ _, hargs _ hold, hvars _ hold, World.keptBut_mono (fun p hp => ⟨hp, ?_⟩) (hb.frame (· ∈ before)), fun _ => ?_⟩
  · rw [hps, List.mem_append] at hp
    exact Or.inr hp
  · obtain ⟨_, _, _, _, _, hz, hn⟩ := hW
    refine ⟨hok, _, _, ([] ++ pa) ++ pv, ⟨[] ++ pa, pv, trodAll_append (hargs _ (fun _ _ => rfl)) (hres _ _ _), hvars _ (fun _ _ => rfl), rfl, ?_, ?_⟩, ?_⟩
    · intro b off hp
      have hin : MemPlace.cell b off ∈ before := by rw [hps]; simpa using hp
      rw [hb.frozen (hlt _ hin)]
      exact hz b off hin
    · intro ha
      have := hn ha
      rw [hps] at this
      simpa using this
    · intro p hp _
      rw [hps]
      simpa using hp
end
end Go.Proofs.YtfciagcmggdldaaGreatDoor
