/- DslBack is proved: for every query and every ops the law returns true, and they read as they did. Conditions: the package-level variables that the row lists hold what the program's text lays (the card ties them); as the form has it, no string, slice or map that came in takes more than 2^47 - 4096 bytes. -/
import Derived.Test.YtejlddimokmgjaaGreatDoorZDbk
import Derived.Test.YtejlddimokmgjaaGreatDoorZDrq
import Derived.Test.YtejlddimokmgjaaGreatDoorZDcl
import Derived.Test.YtejlddimokmgjaaGreatDoorTie
import Derived.Test.YtejlddimokmgjaaGreatDoorCards
namespace Go.Proofs.YtejlddimokmgjaaGreatDoor
open Go.RowKit Go.ChangeShapes Go.WideShapes Go.ChangeAt Go.Lib Go.Shelf
open Go.ChangeMaps (open_string shut_string)


set_option maxRecDepth 100000 in
theorem dslBack_lifted (os : Os) (started : os.Started) (H : Type) (enc : TypeId × Value → H) :
    ReturnsInHanded {} Tryz.checked os 8 .any (fun w args => (Rows.dslBackSpec.pre enc Tryz.prog Tryz.f8 [] false w args ∧ laidMetH Tryz.prog lst w) ∧ sizedMet enc Tryz.prog Tryz.f8 (OpenSpec.ofChange Rows.dslBackSpec) false w args)
      (Rows.dslBackSpec.post enc Tryz.prog Tryz.f8 false true false false) := by
  refine handed_shaped (C := Tryz.checked) (X := fun w _ => laidMetH Tryz.prog lst w) (fun _ _ _ hh h => h.of_heap hh) own started (by kernel_rfl) Tryz.func8
    (ChangeSpec.witness_shaped (enc := enc) (C := Tryz.checked) (os := os) (X := fun w _ => laidMetH Tryz.prog lst w) false (World.laidAll Tryz.prog os lst) #[.agg #[.int .i64 0, .string ⟨#[]⟩, .slice none 0 0, .slice none 0 0, .slice none 0 0], .slice none 0 0] 8 (World.laidAll_os _ _ _)
      (World.shaped_of_ZipB (by kernel_rfl) (by kernel_rfl)) (by kernel_rfl) (by kernel_rfl) (by kernel_rfl)
      (by rw [MakeChecks.laidMetH_plain _ _ _ (by kernel_rfl)]; exact laidMet_laidAll _ (by kernel_rfl) (by kernel_rfl))) ?_
  intro W base args ds gs before hval0 hW hL hSh
  have hval : ∀ (j : Nat) t v, Tryz.f8.params[j]? = some t → args[j]? = some v → Value.okWide Tryz.prog W .any base t v := hval0
  have hW' := hW
  obtain ⟨p, q, hA0, hV, rfl, _, _⟩ := hW
  have hA : DataW.TrodAll enc Tryz.prog W 0 (fun _ => true) true Tryz.f8.params.toList args.toList ds p := hA0
  rw [Tryz.params8] at hA hval
  obtain ⟨v0, v1, d0, d1, p0, p1, rfl, rfl, rfl, h0, h1⟩ := trodAll_two hA
  obtain ⟨rfl, rfl⟩ := trodVars_none hV
  obtain ⟨c0, rfl, _⟩ := okWide_struct Tryz.underlying26 (hval 0 26 v0 rfl rfl)
  have hk0 := h0
  have hlt0 : ∀ q ∈ p0, q.block < W.heap.size := by
    obtain ⟨fuel0, hf0⟩ := hk0
    exact DataW.trod_lt _ _ _ _ hf0
  obtain ⟨fuel0, hf0⟩ := h0
  obtain ⟨u0, hj0, hft0⟩ := q_of_trod enc W _ fuel0 _ _ hf0
  have hcs0 : (Value.agg c0).cells.toList.toArray = c0 := rfl
  have hk1 := h1
  have hlt1 : ∀ q ∈ p1, q.block < W.heap.size := by
    obtain ⟨fuel1, hf1⟩ := hk1
    exact DataW.trod_lt _ _ _ _ hf1
  obtain ⟨a1, z1, c1, rfl⟩ := okWide_slice Tryz.underlying31 (hval 1 31 v1 rfl rfl)
  obtain ⟨fuel1, hf1⟩ := h1
  obtain ⟨l1, b1, k1, hv1, hr1⟩ := orow_of_trod (v := .slice a1 z1 c1) hf1
  injection hv1 with e10 e11 e12
  subst e10 e11 e12
  simp only [List.append_nil] at hW'
  obtain ⟨hg, ht, h8⟩ := glb_of hL hSh
  have hc := dslBack_calls u0 _ l1 a1 c1 W _ _ hg h8 hft0 hj0 hr1.2 hr1.1
  rw [hcs0] at hc
  refine hc.mono fun e W' ⟨he, hb⟩ => ?_
  subst he
  exact ⟨_, rfl, _, _, _, [], _, [], hW', trodAll_mk1 (shut_bool Tryz.underlying4 _), trodAll_mk2 (Below.trod laidOut (by kernel_rfl) (of_decide_eq_true (by kernel_rfl)) hk0 hb hlt0) (Below.trod laidOut (by kernel_rfl) (of_decide_eq_true (by kernel_rfl)) hk1 hb hlt1), rfl, hb.frame _, fun h => by cases h⟩

theorem dslBack_holds : Rows.DslBackSaid :=
  OpenClaim.holds_of_wide 8 Tryz.f8 rfl rfl rfl rfl rfl rfl rfl ⟨rfl, rfl, rfl, rfl, rfl⟩ rfl rfl rfl rfl rfl (by kernel_rfl) Tryz.func8 (by kernel_rfl)
    (of_decide_eq_true (by kernel_rfl)) (by unfold Func.isWrapper; rw [if_neg (of_decide_eq_false (by kernel_rfl))]; exact ⟨rfl, rfl⟩)
    (fun os started H enc _ => dslBack_lifted os started H enc)

theorem dslBack_card : Rows.DslBackCardSaid :=
  Claim7.holds_tied_plain_at .later [] [.data, .data, .data, .data, .sentinel, .sentinel, .pinned] true Rows.dslBackCard.stood.harness true dslBack_holds (fun _ h => by cases h) (by kernel_rfl) (fun _ h => by cases h) dslBack_row_tie rfl ⟨rfl, rfl⟩ (by kernel_rfl) rfl
    (fun f fn hf hfn => by
      obtain rfl : f = 8 := Option.some.inj ((show Tryz.prog.funcNamed Rows.dslBackRow.func = some 8 by kernel_rfl).symm.trans hf) |>.symm
      obtain rfl : fn = Tryz.f8 := (Option.some.inj (Tryz.func8.symm.trans hfn)).symm
      exact ⟨by kernel_rfl, fun j t ht => by
        rw [Tryz.params8] at ht
        have hm : t ∈ [26, 31] := by simpa using Array.mem_of_getElem? ht
        have hall : ([26, 31].all fun u => !Tryz.prog.wantsStandIn u) = true := by kernel_rfl
        exact (show Tryz.prog.wantsStandIn t = false by simpa using List.all_eq_true.1 hall t hm)⟩)
    (by kernel_rfl)
#print axioms dslBack_card
end Go.Proofs.YtejlddimokmgjaaGreatDoor
