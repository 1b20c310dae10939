/-
  gaugehousekeep.StoreSet returns true whatever it is handed, and leaves what it is handed as it was; the variable label.signs reads as the program's text lays it (the card ties it).
-/
import Derived.Test.YtfciagcmggdldaaGreatDoorCards
import Derived.Test.YtfciagcmggdldaaGreatDoorTie
import Derived.Test.YtfciagcmggdldaaGreatDoorSigns
import Derived.Test.YtfciagcmggdldaaGreatDoorSet
import Derived.Test.YtfciagcmggdldaaGreatDoorOpenPut
import Derived.SevenTiedAt
namespace Go.Proofs.YtfciagcmggdldaaGreatDoor
open Go.RowKit Go.ChangeShapes Go.WideShapes

set_option maxRecDepth 100000 in
theorem set_lifted (os : Os) (started : os.Started) (H : Type) (enc : TypeId × Value → H) :
    ReturnsInHanded {} Tryz.checked os 3 .any (fun w args => (Rows.storeSetSpec.pre enc Tryz.prog Tryz.f3 [] false w args ∧ laidMetH Tryz.prog laids w) ∧ sizedMet enc Tryz.prog Tryz.f3 (OpenSpec.ofChange Rows.storeSetSpec) false w args)
      (Rows.storeSetSpec.post enc Tryz.prog Tryz.f3 false true false false) := by
  refine returnsInHanded_of_change_and (C := Tryz.checked) (X := fun w _ => laidMetH Tryz.prog laids w) (fun _ _ _ hh h => h.of_heap hh) own started (by kernel_rfl) Tryz.func3
    (ChangeSpec.witness_shaped (enc := enc) (C := Tryz.checked) (os := os) (X := fun w _ => laidMetH Tryz.prog laids w) false (World.doorLaid Tryz.prog 400 os) #[.slice none 0 0] 8 rfl (World.shaped_of_RefB (by kernel_rfl) (by kernel_rfl)) (by kernel_rfl) (by kernel_rfl) (by kernel_rfl) (door_met os _)) ?_
  intro W base args ds gs before hval0 hW _ _ hL _
  have hval : ∀ (j : Nat) t v, Tryz.f3.params[j]? = some t → args[j]? = some v → Value.okWide Tryz.prog W .any base t v := hval0
  have hW' := hW
  obtain ⟨p, q, hA0, hV, rfl, _, _⟩ := hW
  have hA : DataW.TrodAll enc Tryz.prog W 0 (fun _ => true) true Tryz.f3.params.toList args.toList ds p := hA0
  rw [Tryz.params3] at hA hval
  obtain ⟨v0, d0, rfl, rfl, h0⟩ := trodAll_one hA
  obtain ⟨rfl, rfl⟩ := trodVars_none hV
  obtain ⟨a0, n0, c0, rfl⟩ := okWide_slice Tryz.underlying22 (hval 0 _ _ rfl rfl)
  have o0 : Opens Tryz.prog 22 (List PutD) := Opens.list opens_put Tryz.underlying22 (by kernel_rfl)
  obtain ⟨_, _, _, l, e0, hl⟩ := o0.arg h0 rfl
  cases e0
  clear hA0 hval0
  simp only [List.append_nil] at hW'
  have hlt : ∀ x ∈ p, x.block < W.heap.size := fun x hx => by simpa using hW'.lt x hx
  have hX : ∀ q ∈ l, i64ok q.X.T ∧ i64ok q.X.V := fun q hq => by
    obtain ⟨k, hk⟩ := List.mem_iff_getElem?.1 hq
    have hkl := (List.getElem?_eq_some_iff.1 hk).1
    obtain ⟨_, _, q', _, _, _, hq', _, _, _, _, g1, g2⟩ := hl.put (k := k) (by rw [← hl.len]; exact hkl)
    rw [hk] at hq'
    injection hq' with hq'
    subst hq'
    exact ⟨g1, g2⟩
  refine (set_calls a0 n0 c0 l W hl (signs_of_laid hL) hX).mono fun e W' ⟨he, hb⟩ => ?_
  subst he
  refine ⟨_, rfl, post_of_below (ds := [d0]) (gs := []) (pa := p) (pv := []) (before := p) hW' (fun _ _ _ => trodAll_mk1 (shut_bool Tryz.underlying4 true)) (fun sp hsp => trodAll_mk1 ?_) (fun _ _ => rfl) (by simp) hb (ok_one (by kernel_rfl) rfl (okWide_bool_mk Tryz.underlying4 true))⟩
  exact WideElems.Trod_stays laidOut (by kernel_rfl) (of_decide_eq_true (by kernel_rfl)) h0 (fun x hx => hb.same (hlt x hx)) (fun x hx => hsp x hx)

theorem store_set_row : Rows.StoreSetSaid :=
  OpenClaim.holds_of_wide 3 Tryz.f3 rfl rfl rfl rfl rfl rfl rfl ⟨rfl, rfl, rfl, rfl, rfl⟩ rfl rfl rfl rfl rfl (by kernel_rfl) Tryz.func3 (by kernel_rfl)
    (of_decide_eq_true (by kernel_rfl)) (by unfold Func.isWrapper; first | (rw [if_pos (by decide +kernel)]; kernel_rfl) | (rw [if_neg (by decide +kernel)]; exact ⟨rfl, rfl⟩))
    (fun os started H enc _ => set_lifted os started H enc)

theorem store_set : Rows.StoreSetCardSaid :=
  Claim7.holds_tied_plain_at .later [] [.data] true (true, "e7b58b26437e178037489abb91ce99b787a46fa0349e4f95b2de9a5035c6cc51") true
    store_set_row (fun _ h => by cases h) (by kernel_rfl) (fun _ h => by cases h) storeSet_row_tie rfl ⟨rfl, rfl⟩ (by kernel_rfl) rfl
    (fun f fn hf hfn => by
      obtain rfl : f = 3 := Option.some.inj ((show Tryz.prog.funcNamed "gaugehouse/gaugehousekeep.StoreSet" = some 3 by kernel_rfl).symm.trans hf) |>.symm
      obtain rfl : fn = Tryz.f3 := (Option.some.inj (Tryz.func3.symm.trans hfn)).symm
      exact ⟨by kernel_rfl, fun j t ht => by
        rw [Tryz.params3] at ht
        have hm : t ∈ [22] := by simpa using Array.mem_of_getElem? ht
        have hall : ([22].all fun u => !Tryz.prog.wantsStandIn u) = true := by kernel_rfl
        exact (show Tryz.prog.wantsStandIn t = false by simpa using List.all_eq_true.1 hall t hm)⟩)
    (by kernel_rfl)
#print axioms store_set
end Go.Proofs.YtfciagcmggdldaaGreatDoor
