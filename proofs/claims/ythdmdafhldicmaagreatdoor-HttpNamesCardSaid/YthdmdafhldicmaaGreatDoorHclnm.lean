/- HttpNames is proved: for every letters, order, name and value the law returns true. Conditions: the package-level variables that the row lists hold what the program's text lays (the card ties them); as the form has it, no string, slice or map that came in takes more than 2^47 - 4096 bytes. -/
import Derived.Test.YthdmdafhldicmaaGreatDoorHnm
import Derived.Carry
import Derived.Test.YthdmdafhldicmaaGreatDoorHcl
import Derived.Test.YthdmdafhldicmaaGreatDoorTie
import Derived.Test.YthdmdafhldicmaaGreatDoorCards
namespace Go.Proofs.YthdmdafhldicmaaGreatDoor
open Go.RowKit Go.ChangeShapes Go.WideShapes Go.ChangeAt Go.Lib Go.Shelf
open Go.ChangeMaps (open_string shut_string)

theorem under_int : Tryz.prog.underlying 3 = some (.int .i64) := Tryz.underlying3
theorem under_string : Tryz.prog.underlying 9 = some .string := Tryz.underlying9
theorem under_bool : Tryz.prog.underlying 4 = some .bool := Tryz.underlying4

set_option maxRecDepth 100000 in
theorem httpNames_lifted (os : Os) (started : os.Started) (H : Type) (enc : TypeId × Value → H) :
    ReturnsInHanded {} Tryz.checked os 6 .any (fun w args => (Rows.httpNamesSpec.pre enc Tryz.prog Tryz.f6 [] false w args ∧ laidMetH Tryz.prog lst w) ∧ sizedMet enc Tryz.prog Tryz.f6 (OpenSpec.ofChange Rows.httpNamesSpec) false w args)
      (Rows.httpNamesSpec.post enc Tryz.prog Tryz.f6 false true false false) := by
  refine handed_shaped (C := Tryz.checked) (X := fun w _ => laidMetH Tryz.prog lst w) (fun _ _ _ hh h => h.of_heap hh) own started (by kernel_rfl) Tryz.func6
    (ChangeSpec.witness_shaped (enc := enc) (C := Tryz.checked) (os := os) (X := fun w _ => laidMetH Tryz.prog lst w) false (World.laidAll Tryz.prog os lst) #[.int .i64 0, .int .i64 0, .string ⟨#[]⟩, .string ⟨#[]⟩] 8 (World.laidAll_os _ _ _)
      (World.shaped_of_ZipB (by kernel_rfl) (by kernel_rfl)) (by kernel_rfl) (by kernel_rfl) (by kernel_rfl)
      (by rw [MakeChecks.laidMetH_plain _ _ _ (by kernel_rfl)]; exact laidMet_laidAll _ (by kernel_rfl) (by kernel_rfl))) ?_
  intro W base args ds gs before hval0 hW hL hSh
  have hval : ∀ (j : Nat) t v, Tryz.f6.params[j]? = some t → args[j]? = some v → Value.okWide Tryz.prog W .any base t v := hval0
  have hW' := hW
  obtain ⟨p, q, hA0, hV, rfl, _, _⟩ := hW
  have hA : DataW.TrodAll enc Tryz.prog W 0 (fun _ => true) true Tryz.f6.params.toList args.toList ds p := hA0
  rw [Tryz.params6] at hA hval
  obtain ⟨v0, v1, v2, v3, d0, d1, d2, d3, p0, p1, p2, p3, rfl, rfl, rfl, h0, h1, h2, h3⟩ := trodAll_four hA
  obtain ⟨rfl, rfl⟩ := trodVars_none hV
  obtain ⟨x0, rfl, rfl, rfl, wx0⟩ := open_int under_int (hval 0 3 v0 rfl rfl) h0
  have bd0 : -9223372036854775808 ≤ x0 ∧ x0 ≤ 9223372036854775807 := by simpa [Lit.wf, IntKind.min, IntKind.max, IntKind.signed, IntKind.bits] using wx0
  obtain ⟨x1, rfl, rfl, rfl, wx1⟩ := open_int under_int (hval 1 3 v1 rfl rfl) h1
  have bd1 : -9223372036854775808 ≤ x1 ∧ x1 ≤ 9223372036854775807 := by simpa [Lit.wf, IntKind.min, IntKind.max, IntKind.signed, IntKind.bits] using wx1
  obtain ⟨s2, rfl, rfl, rfl, hs2⟩ := open_string under_string (hval 2 9 v2 rfl rfl) h2
  have hsl2 : s2 = ⟨s2.data.toList.toArray⟩ := rfl
  obtain ⟨s3, rfl, rfl, rfl, hs3⟩ := open_string under_string (hval 3 9 v3 rfl rfl) h3
  have hsl3 : s3 = ⟨s3.data.toList.toArray⟩ := rfl
  simp only [List.append_nil] at hW'
  obtain ⟨hg, ht, hu, h8⟩ := glb_of hL hSh
  have hc := names_calls x0 x1 s2.data.toList s3.data.toList W hg ht h8 bd1.1 bd1.2
  rw [← hsl2, ← hsl3] at hc
  refine hc.mono fun e W' ⟨he, hb⟩ => ?_
  subst he
  exact ⟨_, rfl, _, _, _, [], [], [], hW', trodAll_mk1 (shut_bool Tryz.underlying4 _), trodAll_mk4 (shut_int under_int wx0) (shut_int under_int wx1) (shut_string under_string hs2) (shut_string under_string hs3), rfl, hb.frame _, fun h => by cases h⟩

theorem httpNames_holds : Rows.HttpNamesSaid :=
  OpenClaim.holds_of_wide 6 Tryz.f6 rfl rfl rfl rfl rfl rfl rfl ⟨rfl, rfl, rfl, rfl, rfl⟩ rfl rfl rfl rfl rfl (by kernel_rfl) Tryz.func6 (by kernel_rfl)
    (of_decide_eq_true (by kernel_rfl)) (by unfold Func.isWrapper; rw [if_neg (of_decide_eq_false (by kernel_rfl))]; exact ⟨rfl, rfl⟩)
    (fun os started H enc _ => httpNames_lifted os started H enc)

theorem httpNames_card : Rows.HttpNamesCardSaid :=
  Claim7.holds_tied_plain_at .later [] [.data, .data, .data, .data, .sentinel, .sentinel, .pinned] true Rows.httpNamesCard.stood.harness true httpNames_holds (fun _ h => by cases h) (by kernel_rfl) (fun _ h => by cases h) httpNames_row_tie rfl ⟨rfl, rfl⟩ (by kernel_rfl) rfl
    (fun f fn hf hfn => by
      obtain rfl : f = 6 := Option.some.inj ((show Tryz.prog.funcNamed Rows.httpNamesRow.func = some 6 by kernel_rfl).symm.trans hf) |>.symm
      obtain rfl : fn = Tryz.f6 := (Option.some.inj (Tryz.func6.symm.trans hfn)).symm
      exact ⟨by kernel_rfl, fun j t ht => by
        rw [Tryz.params6] at ht
        have hm : t ∈ [3, 3, 9, 9] := by simpa using Array.mem_of_getElem? ht
        have hall : ([3, 3, 9, 9].all fun u => !Tryz.prog.wantsStandIn u) = true := by kernel_rfl
        exact (show Tryz.prog.wantsStandIn t = false by simpa using List.all_eq_true.1 hall t hm)⟩)
    (by kernel_rfl)
#print axioms httpNames_card
end Go.Proofs.YthdmdafhldicmaaGreatDoor
