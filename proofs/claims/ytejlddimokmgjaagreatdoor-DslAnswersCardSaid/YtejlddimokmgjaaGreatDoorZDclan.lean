/- DslAnswers is proved: for every total, hits and document the law returns true, and they read as they did. Conditions: the package-level variables that the row lists hold what the program's text lays (the card ties them); as the form has it, no string, slice or map that came in takes more than 2^47 - 4096 bytes. -/
import Derived.Test.YtejlddimokmgjaaGreatDoorZDan
import Derived.Test.YtejlddimokmgjaaGreatDoorZDro
import Derived.Test.YtejlddimokmgjaaGreatDoorZDcl
import Derived.Test.YtejlddimokmgjaaGreatDoorTie
import Derived.Test.YtejlddimokmgjaaGreatDoorCards
namespace Go.Proofs.YtejlddimokmgjaaGreatDoor
open Go.RowKit Go.ChangeShapes Go.WideShapes Go.ChangeAt Go.Lib Go.Shelf
open Go.ChangeMaps (open_string shut_string)


set_option maxRecDepth 100000 in
theorem dslAnswers_lifted (os : Os) (started : os.Started) (H : Type) (enc : TypeId × Value → H) :
    ReturnsInHanded {} Tryz.checked os 6 .any (fun w args => (Rows.dslAnswersSpec.pre enc Tryz.prog Tryz.f6 [] false w args ∧ laidMetH Tryz.prog lst w) ∧ sizedMet enc Tryz.prog Tryz.f6 (OpenSpec.ofChange Rows.dslAnswersSpec) false w args)
      (Rows.dslAnswersSpec.post enc Tryz.prog Tryz.f6 false true false false) := by
  refine handed_shaped (C := Tryz.checked) (X := fun w _ => laidMetH Tryz.prog lst w) (fun _ _ _ hh h => h.of_heap hh) own started (by kernel_rfl) Tryz.func6
    (ChangeSpec.witness_shaped (enc := enc) (C := Tryz.checked) (os := os) (X := fun w _ => laidMetH Tryz.prog lst w) false (World.laidAll Tryz.prog os lst) #[.int .i64 0, .slice none 0 0, .agg #[.string ⟨#[]⟩, .string ⟨#[]⟩]] 8 (World.laidAll_os _ _ _)
      (World.shaped_of_ZipB (by kernel_rfl) (by kernel_rfl)) (by kernel_rfl) (by kernel_rfl) (by kernel_rfl)
      (by rw [MakeChecks.laidMetH_plain _ _ _ (by kernel_rfl)]; exact laidMet_laidAll _ (by kernel_rfl) (by kernel_rfl))) ?_
  intro W base args ds gs before hval0 hW hL hSh
  have hval : ∀ (j : Nat) t v, Tryz.f6.params[j]? = some t → args[j]? = some v → Value.okWide Tryz.prog W .any base t v := hval0
  have hW' := hW
  obtain ⟨p, q, hA0, hV, rfl, _, _⟩ := hW
  have hA : DataW.TrodAll enc Tryz.prog W 0 (fun _ => true) true Tryz.f6.params.toList args.toList ds p := hA0
  rw [Tryz.params6] at hA hval
  obtain ⟨v0, v1, v2, d0, d1, d2, p0, p1, p2, rfl, rfl, rfl, h0, h1, h2⟩ := trodAll_three hA
  obtain ⟨rfl, rfl⟩ := trodVars_none hV
  obtain ⟨x0, rfl, rfl, rfl, wx0⟩ := open_int under_int (hval 0 3 v0 rfl rfl) h0
  have bd0 : -9223372036854775808 ≤ x0 ∧ x0 ≤ 9223372036854775807 := by simpa [Lit.wf, IntKind.min, IntKind.max, IntKind.signed, IntKind.bits] using wx0
  have hk1 := h1
  have hlt1 : ∀ q ∈ p1, q.block < W.heap.size := by
    obtain ⟨fuel1, hf1⟩ := hk1
    exact DataW.trod_lt _ _ _ _ hf1
  obtain ⟨a1, z1, c1, rfl⟩ := okWide_slice Tryz.underlying40 (hval 1 40 v1 rfl rfl)
  obtain ⟨fuel1, hf1⟩ := h1
  obtain ⟨l1, b1, k1, hv1, hr1⟩ := hrow_of_trod (v := .slice a1 z1 c1) hf1
  injection hv1 with e10 e11 e12
  subst e10 e11 e12
  have hk2 := h2
  have hlt2 : ∀ q ∈ p2, q.block < W.heap.size := by
    obtain ⟨fuel2, hf2⟩ := hk2
    exact DataW.trod_lt _ _ _ _ hf2
  obtain ⟨c20, c21, y20, y21, n2, rfl, rfl, rfl, z20, z21⟩ := Joins.open_agg2 Tryz.underlying42 (by kernel_rfl) (by kernel_rfl) (hval 2 42 v2 rfl rfl) h2
  obtain ⟨s2a, e20, rfl, hs2a⟩ := DataW.trod_string Tryz.underlying9 z20
  obtain ⟨s2b, e21, rfl, hs2b⟩ := DataW.trod_string Tryz.underlying9 z21
  simp only [List.cons.injEq, and_true] at e20 e21
  subst e20 e21
  have hsl2a : s2a = ⟨s2a.data.toList.toArray⟩ := rfl
  have hsl2b : s2b = ⟨s2b.data.toList.toArray⟩ := rfl
  simp only [List.append_nil] at hW'
  obtain ⟨hg, ht, h8⟩ := glb_of hL hSh
  have hc := answers_calls x0 l1 a1 c1 s2a.data.toList s2b.data.toList W _ hg ht h8 hr1
  rw [← hsl2a, ← hsl2b] at hc
  refine hc.mono fun e W' ⟨he, hb⟩ => ?_
  subst he
  exact ⟨_, rfl, _, _, _, [], _, [], hW', trodAll_mk1 (shut_bool Tryz.underlying4 _), trodAll_mk3 (shut_int under_int wx0) (Below.trod laidOut (by kernel_rfl) (of_decide_eq_true (by kernel_rfl)) hk1 hb hlt1) (Below.trod laidOut (by kernel_rfl) (of_decide_eq_true (by kernel_rfl)) hk2 hb hlt2), rfl, hb.frame _, fun h => by cases h⟩

theorem dslAnswers_holds : Rows.DslAnswersSaid :=
  OpenClaim.holds_of_wide 6 Tryz.f6 rfl rfl rfl rfl rfl rfl rfl ⟨rfl, rfl, rfl, rfl, rfl⟩ rfl rfl rfl rfl rfl (by kernel_rfl) Tryz.func6 (by kernel_rfl)
    (of_decide_eq_true (by kernel_rfl)) (by unfold Func.isWrapper; rw [if_neg (of_decide_eq_false (by kernel_rfl))]; exact ⟨rfl, rfl⟩)
    (fun os started H enc _ => dslAnswers_lifted os started H enc)

theorem dslAnswers_card : Rows.DslAnswersCardSaid :=
  Claim7.holds_tied_plain_at .later [] [.data, .data, .data, .data, .sentinel, .sentinel, .pinned] true Rows.dslAnswersCard.stood.harness true dslAnswers_holds (fun _ h => by cases h) (by kernel_rfl) (fun _ h => by cases h) dslAnswers_row_tie rfl ⟨rfl, rfl⟩ (by kernel_rfl) rfl
    (fun f fn hf hfn => by
      obtain rfl : f = 6 := Option.some.inj ((show Tryz.prog.funcNamed Rows.dslAnswersRow.func = some 6 by kernel_rfl).symm.trans hf) |>.symm
      obtain rfl : fn = Tryz.f6 := (Option.some.inj (Tryz.func6.symm.trans hfn)).symm
      exact ⟨by kernel_rfl, fun j t ht => by
        rw [Tryz.params6] at ht
        have hm : t ∈ [3, 40, 42] := by simpa using Array.mem_of_getElem? ht
        have hall : ([3, 40, 42].all fun u => !Tryz.prog.wantsStandIn u) = true := by kernel_rfl
        exact (show Tryz.prog.wantsStandIn t = false by simpa using List.all_eq_true.1 hall t hm)⟩)
    (by kernel_rfl)
#print axioms dslAnswers_card
end Go.Proofs.YtejlddimokmgjaaGreatDoor
