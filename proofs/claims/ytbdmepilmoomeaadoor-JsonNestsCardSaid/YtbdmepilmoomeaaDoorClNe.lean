/- JsonNests is proved: for all values and every name the law returns true, and the values read as they did. Conditions: the package-level variables that the row lists hold what the program's text lays (the card ties them); as the form has it, no string, slice or map that came in takes more than 2^47 - 4096 bytes. -/
import Derived.Test.YtbdmepilmoomeaaDoorNe
import Derived.Test.YtbdmepilmoomeaaDoorCl
import Derived.Test.YtbdmepilmoomeaaDoorTie
import Derived.Test.YtbdmepilmoomeaaDoorCards
namespace Go.Proofs.YtbdmepilmoomeaaDoor
open Go.RowKit Go.ChangeShapes Go.WideShapes Go.ChangeAt Go.Lib Go.Shelf
open Go.ChangeMaps (open_string shut_string)

set_option maxRecDepth 100000 in
theorem jsonNests_lifted (os : Os) (started : os.Started) (H : Type) (enc : TypeId × Value → H) :
    ReturnsInHanded {} Tryd.checked os 7 .any (fun w args => (Rows.jsonNestsSpec.pre enc Tryd.prog Tryd.f7 [] false w args ∧ laidMetH Tryd.prog lst w) ∧ sizedMet enc Tryd.prog Tryd.f7 (OpenSpec.ofChange Rows.jsonNestsSpec) false w args)
      (Rows.jsonNestsSpec.post enc Tryd.prog Tryd.f7 false true false false) := by
  refine returnsInHanded_of_change_and (C := Tryd.checked) (X := fun w _ => laidMetH Tryd.prog lst w) (fun _ _ _ hh h => h.of_heap hh) own started (by kernel_rfl) Tryd.func7
    (ChangeSpec.witness_shaped (enc := enc) (C := Tryd.checked) (os := os) (X := fun w _ => laidMetH Tryd.prog lst w) false (World.laidAll Tryd.prog os lst) #[.agg #[.int .i64 0, .bool false, .string ⟨#[]⟩, .slice none 0 0, .slice none 0 0], .agg #[.int .i64 0, .bool false, .string ⟨#[]⟩, .slice none 0 0, .slice none 0 0], .string ⟨#[]⟩] 8 (World.laidAll_os _ _ _)
      (World.shaped_of_ZipB (by kernel_rfl) (by kernel_rfl)) (by kernel_rfl) (by kernel_rfl) (by kernel_rfl)
      (by rw [MakeChecks.laidMetH_plain _ _ _ (by kernel_rfl)]; exact laidMet_laidAll _ (by kernel_rfl) (by kernel_rfl))) ?_
  intro W base args ds gs before hval0 hW _ _ hL _
  have hval : ∀ (j : Nat) t v, Tryd.f7.params[j]? = some t → args[j]? = some v → Value.okWide Tryd.prog W .any base t v := hval0
  have hW' := hW
  obtain ⟨p, q, hA0, hV, rfl, _, _⟩ := hW
  have hA : DataW.TrodAll enc Tryd.prog W 0 (fun _ => true) true Tryd.f7.params.toList args.toList ds p := hA0
  rw [Tryd.params7] at hA hval
  obtain ⟨v0, v1, v2, d0, d1, d2, p0, p1, p2, rfl, rfl, rfl, h0, h1, h2⟩ := trodAll_three hA
  obtain ⟨rfl, rfl⟩ := trodVars_none hV
  obtain ⟨c0, rfl, _⟩ := okWide_struct Tryd.underlying25 (hval 0 25 v0 rfl rfl)
  have hk0 := h0
  obtain ⟨fuel0, hf0⟩ := h0
  have hlt0 := DataW.trod_lt _ _ _ _ hf0
  obtain ⟨u0, hj0, hft0⟩ := jat_of_trod enc W _ fuel0 _ _ hf0
  have hcs0 : (Value.agg c0).cells.toList.toArray = c0 := rfl
  obtain ⟨c1, rfl, _⟩ := okWide_struct Tryd.underlying25 (hval 1 25 v1 rfl rfl)
  have hk1 := h1
  obtain ⟨fuel1, hf1⟩ := h1
  have hlt1 := DataW.trod_lt _ _ _ _ hf1
  obtain ⟨u1, hj1, hft1⟩ := jat_of_trod enc W _ fuel1 _ _ hf1
  have hcs1 : (Value.agg c1).cells.toList.toArray = c1 := rfl
  obtain ⟨s2, rfl, rfl, rfl, hs2⟩ := open_string under_string (hval 2 9 v2 rfl rfl) h2
  have hsl2 : s2 = ⟨s2.data.toList.toArray⟩ := rfl
  simp only [List.append_nil] at hW'
  obtain ⟨hg, h8⟩ := glb_of_laid hL
  have hc := nests_calls u0 u1 _ _ s2.data.toList W _ hj0 hj1 hft0 hft1 hs2 hg h8
  rw [hcs0, hcs1, ← hsl2] at hc
  refine hc.mono fun e W' ⟨he, hb⟩ => ?_
  subst he
  exact ⟨_, rfl, _, _, _, [], _, [], hW', trodAll_mk1 (shut_bool Tryd.underlying4 _), trodAll_mk3 (Below.trod laidOut (by kernel_rfl) (of_decide_eq_true (by kernel_rfl)) hk0 hb hlt0) (Below.trod laidOut (by kernel_rfl) (of_decide_eq_true (by kernel_rfl)) hk1 hb hlt1) (shut_string under_string hs2), rfl, hb.frame _, fun h => by cases h⟩

theorem jsonNests_holds : Rows.JsonNestsSaid :=
  OpenClaim.holds_of_wide 7 Tryd.f7 rfl rfl rfl rfl rfl rfl rfl ⟨rfl, rfl, rfl, rfl, rfl⟩ rfl rfl rfl rfl rfl (by kernel_rfl) Tryd.func7 (by kernel_rfl)
    (of_decide_eq_true (by kernel_rfl)) (by unfold Func.isWrapper; rw [if_neg (of_decide_eq_false (by kernel_rfl))]; exact ⟨rfl, rfl⟩)
    (fun os started H enc _ => jsonNests_lifted os started H enc)

theorem jsonNests_card : Rows.JsonNestsCardSaid :=
  Claim7.holds_tied_plain_at .later [] [.data, .data, .data, .data, .sentinel, .sentinel, .pinned] true Rows.jsonNestsCard.stood.harness true jsonNests_holds (fun _ h => by cases h) (by kernel_rfl) (fun _ h => by cases h) jsonNests_row_tie rfl ⟨rfl, rfl⟩ (by kernel_rfl) rfl
    (fun f fn hf hfn => by
      obtain rfl : f = 7 := Option.some.inj ((show Tryd.prog.funcNamed Rows.jsonNestsRow.func = some 7 by kernel_rfl).symm.trans hf) |>.symm
      obtain rfl : fn = Tryd.f7 := (Option.some.inj (Tryd.func7.symm.trans hfn)).symm
      exact ⟨by kernel_rfl, fun j t ht => by
        rw [Tryd.params7] at ht
        have hm : t ∈ [25, 25, 9] := by simpa using Array.mem_of_getElem? ht
        have hall : ([25, 25, 9].all fun u => !Tryd.prog.wantsStandIn u) = true := by kernel_rfl
        exact (show Tryd.prog.wantsStandIn t = false by simpa using List.all_eq_true.1 hall t hm)⟩)
    (by kernel_rfl)
#print axioms jsonNests_card
end Go.Proofs.YtbdmepilmoomeaaDoor
