/- WALKS: codexref21's text, number. -/
import Derived.Test.YtejlddimokmgjaaGreatDoorYDea
import Derived.Test.YtejlddimokmgjaaGreatDoorKi
import Derived.Test.YtejlddimokmgjaaGreatDoorYRy
import Derived.Test.YtejlddimokmgjaaGreatDoorKc
namespace Go.Proofs.YtejlddimokmgjaaGreatDoor
open Go.RowKit

set_option maxRecDepth 100000 in
set_option maxHeartbeats 2000000 in
theorem rtext_calls (v : Cx.J) (cs : List Value) (n : List UInt8) (w : World) (ok : Nat → Prop) (hj : JAt w ok v cs) (hf : fit maxLen v) :
    Calls Tryz.prog 83 #[.agg cs.toArray, .string ⟨n.toArray⟩] w (TextPost v n w) := by
  cases v with
  | mk k is t ns ks =>
  have hj := hj.all
  obtain ⟨a, nc, a', kc, rfl⟩ := hj.shape
  obtain ⟨V, hV⟩ : ∃ V, V = Cx.J.mk k is t ns ks := ⟨_, rfl⟩
  rw [← hV] at hj hf ⊢
  have J := Lib.hid hj; have F := Lib.hid hf
  have HB1 := Lib.hid ((Below.refl w.heap.size w).alloc (Nat.le_refl _) (.cells #[.int .i64 k, .bool is, .string ⟨t.toArray⟩, .slice a ns.length nc, .slice a' ks.length kc] 48))
  clear hj hf hV
  go_enter Tryz.func83, Tryz.ntmps83
  go_wp2_with fail
  refine (get2_calls V [.int .i64 k, .bool is, .string ⟨t.toArray⟩, .slice a ns.length nc, .slice a' ks.length kc] n _ _ (J.out.below HB1.out) F.out).mono ?_
  rintro e w5 ⟨cs, rfl, hj, hb⟩
  have HB := Lib.hid (HB1.out.trans (hb.mono HB1.out.size))
  cases hg : Cx.get V n with
  | none =>
    rw [hg] at hj
    obtain ⟨b, nc2, b', kc2, rfl⟩ := hj.shape
    have HG := Lib.hid hg
    clear hj hb hg
    go_wp2_with fail
    go_region
    go_wp2_with fail
    exact bodyPost_ret (v := .tuple #[.string ⟨#[]⟩, .bool false]) (by simp [results, Tryz.results83, go_sem]) rfl ⟨by unfold textV Dx.textOf; rw [HG.out]; rfl, (by first | exact HB.out | exact HB.out.alloc HB.out.size _ | exact (HB.out.alloc HB.out.size _).drew)⟩
  | some x =>
    rw [hg] at hj
    have HG := Lib.hid hg
    simp only [Option.getD_some, Option.isSome_some] at hj ⊢
    cases x with
    | mk k2 is2 t2 ns2 ks2 =>
    obtain ⟨b, nc2, b', kc2, rfl⟩ := hj.shape
    clear hj hb hg
    by_cases h4 : k2 = 4
    · subst h4
      go_wp2_with fail
      go_region
      go_wp2_with fail
      exact bodyPost_ret (v := .tuple #[.string ⟨t2.toArray⟩, .bool true]) (by simp [results, Tryz.results83, go_sem]) rfl ⟨by unfold textV Dx.textOf; rw [HG.out]; rfl, (by first | exact HB.out | exact HB.out.alloc HB.out.size _ | exact (HB.out.alloc HB.out.size _).drew)⟩
    · have hk4 : (k2 == 4) = false := by simpa using h4
      have HK := Lib.hid h4
      clear h4
      go_wp2_with fail
      go_region
      go_wp2_with fail
      exact bodyPost_ret (v := .tuple #[.string ⟨t2.toArray⟩, .bool false]) (by simp [results, Tryz.results83, go_sem]) rfl ⟨by unfold textV Dx.textOf; rw [HG.out]; simp [Cx.J.kind, Cx.J.text, HK.out], (by first | exact HB.out | exact HB.out.alloc HB.out.size _ | exact (HB.out.alloc HB.out.size _).drew)⟩

/-- What 'number' hands back. -/
def NumberPost (v : Cx.J) (n : List UInt8) (none most : Int) (w : World) (e : Ending) (w' : World) : Prop :=
  ∃ x : Int, e = .returned (.tuple #[.int .i64 x, .bool (Dx.number v n none most).isSome]) ∧ (∀ y, Dx.number v n none most = some y → x = y) ∧ Below w.heap.size w w'

set_option maxRecDepth 100000 in
set_option maxHeartbeats 2000000 in
theorem rnumber_calls (v : Cx.J) (cs : List Value) (n : List UInt8) (no mo : Int) (w : World) (ok : Nat → Prop) (hj : JAt w ok v cs) (hf : fit maxLen v) :
    Calls Tryz.prog 42 #[.agg cs.toArray, .string ⟨n.toArray⟩, .int .i64 no, .int .i64 mo] w (NumberPost v n no mo w) := by
  cases v with
  | mk k is t ns ks =>
  have hj := hj.all
  obtain ⟨a, nc, a', kc, rfl⟩ := hj.shape
  obtain ⟨V, hV⟩ : ∃ V, V = Cx.J.mk k is t ns ks := ⟨_, rfl⟩
  rw [← hV] at hj hf ⊢
  have J := Lib.hid hj; have F := Lib.hid hf
  have HB1 := Lib.hid ((Below.refl w.heap.size w).alloc (Nat.le_refl _) (.cells #[.int .i64 k, .bool is, .string ⟨t.toArray⟩, .slice a ns.length nc, .slice a' ks.length kc] 48))
  clear hj hf hV
  go_enter Tryz.func42, Tryz.ntmps42
  go_wp2_with fail
  refine (get2_calls V [.int .i64 k, .bool is, .string ⟨t.toArray⟩, .slice a ns.length nc, .slice a' ks.length kc] n _ _ (J.out.below HB1.out) F.out).mono ?_
  rintro e w5 ⟨cs, rfl, hj, hb⟩
  have HB := Lib.hid (HB1.out.trans (hb.mono HB1.out.size))
  cases hg : Cx.get V n with
  | none =>
    rw [hg] at hj
    obtain ⟨b, nc2, b', kc2, rfl⟩ := hj.shape
    have HN := Lib.hid (show Dx.number V n no mo = some no by unfold Dx.number; rw [hg])
    clear hj hb hg
    simp only [Option.isSome_none]
    go_wp2_with fail
    go_ret2
    exact ⟨no, by rw [HN.out]; rfl, fun y h => by rw [HN.out] at h; injection h, HB.out.alloc HB.out.size _⟩
  | some x =>
    rw [hg] at hj
    have FX := Lib.hid (Dx.get_fit F.out hg)
    have HN := Lib.hid (show Dx.number V n no mo = (match Cx.toInt x with | some z => if 0 ≤ z ∧ z ≤ mo then some z else none | none => none) by unfold Dx.number; rw [hg]; rfl)
    simp only [Option.getD_some, Option.isSome_some] at hj ⊢
    obtain ⟨X, hX⟩ : ∃ X, X = x := ⟨_, rfl⟩
    cases x with
    | mk k2 is2 t2 ns2 ks2 =>
    obtain ⟨b, nc2, b', kc2, rfl⟩ := hj.shape
    rw [← hX] at hj HN FX
    obtain ⟨g6, hg6⟩ : ∃ g, g = w5.heap.size := ⟨_, rfl⟩
    obtain ⟨W6, hW6⟩ : ∃ x, x = w5.alloc (.cells #[.int .i64 k2, .bool is2, .string ⟨t2.toArray⟩, .slice b ns2.length nc2, .slice b' ks2.length kc2] 48) := ⟨_, rfl⟩
    have c6 : Below w5.heap.size w5 W6 := by rw [hW6]; exact (Below.refl _ _).alloc (Nat.le_refl _) _
    have J6 := Lib.hid (hj.all.below c6).all
    have B6 := Lib.hid (HB.out.trans (c6.mono HB.out.size))
    have BX6 := Lib.hid (show W6.heap[g6]? = some (.cells #[.int .i64 k2, .bool is2, .string ⟨t2.toArray⟩, .slice b ns2.length nc2, .slice b' ks2.length kc2] 48 (0, 0)) by rw [hW6, hg6]; exact heap_alloc_new w5 _)
    have HW6 := Lib.hid (And.intro hg6 hW6)
    clear hj hb hg hX c6 hg6 hW6
    go_upto_region 4 with fail
    rw [← HW6.out.1, ← HW6.out.2]
    clear HW6
    obtain ⟨q0, q1, q2, q3, q4, _⟩ := cells5 BX6.out
    go_wp2_with fail
    refine (int2_calls X [.int .i64 k2, .bool is2, .string ⟨t2.toArray⟩, .slice b ns2.length nc2, .slice b' ks2.length kc2] W6 _ J6.out FX.out).mono ?_
    rintro e w7 ⟨rfl, hb⟩
    have B7 := Lib.hid (B6.out.trans (hb.mono B6.out.size))
    clear hb q0 q1 q2 q3 q4
    cases ht : Cx.toInt X with
    | none =>
      have HM := Lib.hid (show Dx.number V n no mo = none by rw [HN.out, ht])
      clear ht HN
      simp only [Option.isSome_none, Option.getD_none]
      go_wp2_with fail
      go_ret2
      exact ⟨0, by rw [HM.out]; rfl, fun y h => (by rw [HM.out] at h; cases h), B7.out⟩
    | some z =>
      have HM := Lib.hid (show Dx.number V n no mo = if 0 ≤ z ∧ z ≤ mo then some z else none by rw [HN.out, ht])
      clear ht HN
      simp only [Option.isSome_some, Option.getD_some]
      have hc : z < 0 ∨ (¬ z < 0 ∧ mo < z) ∨ (¬ z < 0 ∧ ¬ mo < z) := by omega
      rcases hc with h1 | ⟨h1, h2⟩ | ⟨h1, h2⟩
      · have HM2 := Lib.hid (show Dx.number V n no mo = none by rw [HM.out, if_neg (by omega)])
        clear HM
        go_wp2_with fail
        go_ret2
        exact ⟨z, by rw [HM2.out]; rfl, fun y h => (by rw [HM2.out] at h; cases h), B7.out⟩
      · have HM2 := Lib.hid (show Dx.number V n no mo = none by rw [HM.out, if_neg (by omega)])
        have hle : ¬ z ≤ mo := by omega
        clear HM
        go_wp2_with fail
        go_ret2
        exact ⟨z, by rw [HM2.out]; rfl, fun y h => (by rw [HM2.out] at h; cases h), B7.out⟩
      · have HM2 := Lib.hid (show Dx.number V n no mo = some z by rw [HM.out, if_pos (by omega)])
        clear HM
        go_wp2_with fail
        go_ret2
        exact ⟨z, by rw [HM2.out]; rfl, fun y h => (by rw [HM2.out] at h; injection h), B7.out⟩
end Go.Proofs.YtejlddimokmgjaaGreatDoor
