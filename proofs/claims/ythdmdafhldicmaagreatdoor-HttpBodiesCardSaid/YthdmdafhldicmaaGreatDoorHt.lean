/- WALKS: first. -/
import Derived.Test.YthdmdafhldicmaaGreatDoorHf
namespace Go.Proofs.YthdmdafhldicmaaGreatDoor
open Go.RowKit Go.Maps Go.WideMaps

/-- What 'first' comes to. -/
def FirstPost (l : Hx.Bytes) (w : World) (e : Ending) (w' : World) : Prop :=
  Below w.heap.size w w' ∧ ∃ m p : Hx.Bytes, e = .returned (.tuple #[.agg #[.string ⟨m.toArray⟩, .string ⟨p.toArray⟩, .string ⟨#[]⟩, .bool false], .bool (Hx.first l).isSome]) ∧ ∀ q, Hx.first l = some q → q = (m, p)

theorem put4_heap {w : World} {g : Nat} {x0 x1 x2 x3 a b c d : Value} {T : TypeId} (h : w.heap[g]? = some (.cells #[x0, x1, x2, x3] T (0, 0))) : ((((w.setCell ⟨g, 0, none⟩ a).setCell ⟨g, 1, none⟩ b).setCell ⟨g, 2, none⟩ c).setCell ⟨g, 3, none⟩ d).heap[g]? = some (.cells #[a, b, c, d] T (0, 0)) := by
  simp [World.setCell, Array.getElem?_modify, h]
theorem cells4 {w : World} {g : Nat} {a b c d : Value} {T : TypeId} (h : w.heap[g]? = some (.cells #[a, b, c, d] T (0, 0))) :
    w.cell? ⟨g, 0, none⟩ = some a ∧ w.cell? ⟨g, 1, none⟩ = some b ∧ w.cell? ⟨g, 2, none⟩ = some c ∧ w.cell? ⟨g, 3, none⟩ = some d ∧ ∀ o, w.frozen? ⟨g, o, none⟩ = false := by
  refine ⟨?_, ?_, ?_, ?_, fun o => ?_⟩ <;> simp [World.cell?, World.frozen?, h]

set_option maxRecDepth 100000 in
set_option maxHeartbeats 2000000 in
theorem first_calls (l : Hx.Bytes) (w : World) (hg : Glb w) (hl : l.length ≤ 100000) :
    Calls Tryz.prog 37 #[.string ⟨l.toArray⟩] w (FirstPost l w) := by
  obtain ⟨M, hM⟩ : ∃ M, M = Hx.ahead 32 l := ⟨_, rfl⟩
  obtain ⟨R, hR⟩ : ∃ R, R = Hx.behind 32 l := ⟨_, rfl⟩
  have hMl : M.length ≤ 100000 := by rw [hM]; exact Nat.le_trans (ahead_len 32 l) hl
  have hRl : R.length ≤ 100000 := by rw [hR]; exact Nat.le_trans (behind_len 32 l) hl
  obtain ⟨S, hS⟩ : ∃ S, S = Hx.tVersion.isSuffixOf R := ⟨_, rfl⟩
  obtain ⟨P, hP⟩ : ∃ P, P = (if S = true then R.take (R.length - 9) else R : Hx.Bytes) := ⟨_, rfl⟩
  have hPl : P.length ≤ 100000 := by
    rw [hP]; split
    · exact Nat.le_trans (List.length_take_le _ _) (by omega)
    · exact hRl
  obtain ⟨D, hD⟩ : ∃ D, D = decide (32 ∈ l) := ⟨_, rfl⟩
  obtain ⟨CK, hCK⟩ : ∃ CK, CK = M.all Hx.capital := ⟨_, rfl⟩
  obtain ⟨HK, hHK⟩ : ∃ HK, HK = Lib.hasPrefix P [47] := ⟨_, rfl⟩
  obtain ⟨VK, hVK⟩ : ∃ VK, VK = P.all Hx.visible := ⟨_, rfl⟩
  have hhk : HK = decide (P.head? = some 47) := by
    rw [hHK]; unfold Lib.hasPrefix
    cases P with
    | nil => rfl
    | cons c t => rw [Bool.eq_iff_iff]; simp [List.isPrefixOf]; exact eq_comm
  obtain ⟨OK, hOK⟩ : ∃ OK, OK = (D && (S && (!decide (M = []) && (decide (M.length ≤ 10) && (CK && (HK && VK)))))) := ⟨_, rfl⟩
  have hfin : OK = (Hx.first l).isSome ∧ ∀ q, Hx.first l = some q → q = (M, P) := by
    have e : Hx.first l = if OK = true then some (M, P) else none := by
      unfold Hx.first
      simp only
      rw [← hM, ← hR]
      have hc : (32 ∈ l ∧ Hx.tVersion.isSuffixOf R = true ∧ M ≠ [] ∧ M.length ≤ 10 ∧ M.all Hx.capital = true ∧ (R.take (R.length - 9)).head? = some 47 ∧ (R.take (R.length - 9)).all Hx.visible = true) ↔ OK = true := by
        rw [hOK, hD, hCK, hVK, hhk]
        simp only [Bool.and_eq_true, decide_eq_true_eq, Bool.not_eq_true', decide_eq_false_iff_not]
        rw [← hS]
        constructor
        · rintro ⟨h1, h2, h3, h4, h5, h6, h7⟩
          rw [if_pos h2] at hP
          exact ⟨h1, h2, h3, h4, h5, by rw [hP]; exact h6, by rw [hP]; exact h7⟩
        · rintro ⟨h1, h2, h3, h4, h5, h6, h7⟩
          rw [if_pos h2] at hP
          exact ⟨h1, h2, h3, h4, h5, by rw [← hP]; exact h6, by rw [← hP]; exact h7⟩
      by_cases ho : OK = true
      · rw [if_pos (hc.2 ho), if_pos ho]
        have h2 : S = true := by rw [hS]; exact (hc.2 ho).2.1
        rw [hP, if_pos h2]
      · rw [if_neg (fun h => ho (hc.1 h)), if_neg ho]
    rw [e]
    cases OK with
    | true => exact ⟨rfl, fun q h => by injection h with h; exact h.symm⟩
    | false => exact ⟨rfl, fun q h => by cases h⟩
  have CS : Hid (∀ wq, Calls Tryz.prog 50 #[.string ⟨R.toArray⟩, .string ⟨#[32, 72, 84, 84, 80, 47, 49, 46, 49]⟩] wq fun e w' => e = .returned (.tuple #[.string ⟨P.toArray⟩, .bool S]) ∧ w' = wq) := Lib.hid fun wq => by
    have h := Tryz.strings_CutSuffix ⟨R.toArray⟩ ⟨#[32, 72, 84, 84, 80, 47, 49, 46, 49]⟩ wq (by rw [size_list]; omega)
    rw [show (⟨R.toArray⟩ : ByteArray).data.toList = R by simp, show (⟨#[32, 72, 84, 84, 80, 47, 49, 46, 49]⟩ : ByteArray).data.toList = Hx.tVersion from rfl] at h
    have h1 : Lib.hasSuffix R Hx.tVersion = S := hS.symm
    have h2 : Lib.trimSuffix R Hx.tVersion = P := by
      unfold Lib.trimSuffix
      rw [h1, hP]
      rfl
    rw [h1, h2] at h
    exact h
  have CC : Hid (∀ wq, Calls Tryz.prog 52 #[.string ⟨M.toArray⟩, .func (.func 53) #[] #[]] wq fun e w' => e = .returned (.bool CK) ∧ w' = wq) := Lib.hid fun wq => by rw [hCK]; exact among_capital M wq (by unfold maxLen; omega)
  have HC : Hid (∀ wq, Calls Tryz.prog 54 #[.string ⟨P.toArray⟩, .string ⟨#[47]⟩] wq fun e w' => e = .returned (.bool HK) ∧ w' = wq) := Lib.hid fun wq => by
    have h := Tryz.strings_HasPrefix ⟨P.toArray⟩ ⟨#[47]⟩ wq
    rw [show (⟨P.toArray⟩ : ByteArray).data.toList = P by simp, show (⟨#[47]⟩ : ByteArray).data.toList = [47] from rfl, ← hHK] at h
    exact h
  have VC : Hid (∀ wq, Calls Tryz.prog 52 #[.string ⟨P.toArray⟩, .func (.func 55) #[] #[]] wq fun e w' => e = .returned (.bool VK) ∧ w' = wq) := Lib.hid fun wq => by rw [hVK]; exact among_visible P wq (by unfold maxLen; omega)
  have HFIN := Lib.hid hfin; have HOK := Lib.hid hOK; have HM := Lib.hid hM; have HR := Lib.hid hR; have HD := Lib.hid hD; have HG := Lib.hid hg
  have HX := Lib.hid (heap_alloc_new w (.cells #[.string ⟨#[]⟩, .string ⟨#[]⟩, .string ⟨#[]⟩, .bool false] 24))
  clear hfin hOK hM hR hD hg hS hP hCK hHK hVK hhk
  have B0 := Lib.hid ((Below.refl w.heap.size w).alloc (Nat.le_refl _) (.cells #[.string ⟨#[]⟩, .string ⟨#[]⟩, .string ⟨#[]⟩, .bool false] 24))
  have G0 := Lib.hid (HG.out.below B0.out)
  go_enter Tryz.func37, Tryz.ntmps37
  go_wp2_with fail
  refine (cut_calls l 32 _ G0.out (by omega)).mono ?_
  rintro e w1 ⟨rfl, n, rfl⟩
  rw [← HM.out, ← HR.out, ← HD.out]
  go_wp2_with fail
  refine (CS.out _).mono ?_
  rintro e w' ⟨rfl, hw'⟩
  have hw' := hw'.symm
  subst hw'
  obtain ⟨w1, hw1⟩ : ∃ w1, w1 = (w.alloc (.cells #[.string ⟨#[]⟩, .string ⟨#[]⟩, .string ⟨#[]⟩, .bool false] 24)).drewN n := ⟨_, rfl⟩
  have B1 : Hid (Below w.heap.size w w1) := Lib.hid (by rw [hw1]; exact below_dN B0.out n)
  have X1 : Hid (w1.heap[w.heap.size]? = some (.cells #[.string ⟨#[]⟩, .string ⟨#[]⟩, .string ⟨#[]⟩, .bool false] 24 (0, 0))) := Lib.hid (by rw [hw1]; exact HX.out)
  rw [← hw1]
  clear hw1 HX B0 G0
  go_upto_region 3 with fail
  go_cut [9] (fun z wr => z = .bool OK ∧ wr = w1)
  case first =>
    cases D with
    | false =>
      have ho : OK = false := by rw [HOK.out]; rfl
      subst ho
      go_wp2_with fail
      go_meet
      case rel => exact ⟨rfl, rfl⟩
    | true =>
    cases S with
    | false =>
      have ho : OK = false := by rw [HOK.out]; rfl
      subst ho
      go_wp2_with fail
      go_meet
      case rel => exact ⟨rfl, rfl⟩
    | true =>
    by_cases hm0 : M = []
    · have ho : OK = false := by rw [HOK.out, hm0]; rfl
      subst ho
      clear HOK HFIN HM CC hMl
      subst hm0
      go_wp2_with fail
      go_meet
      case rel => exact ⟨rfl, rfl⟩
    have hme : (M == []) = false := by simpa using hm0
    have hme2 : (M != []) = true := by rw [bne, hme]; rfl
    by_cases h10 : M.length ≤ 10
    rotate_left
    · have n10 : decide ((M.length : Int) ≤ 10) = false := by simp; omega
      have ho : OK = false := by rw [HOK.out, decide_eq_false h10]; simp
      subst ho
      clear hm0 h10
      go_wp2_with fail
      go_meet
      case rel => exact ⟨rfl, rfl⟩
    have n10 : decide ((M.length : Int) ≤ 10) = true := by simp; omega
    have HOK2 : Hid (OK = (CK && (HK && VK))) := Lib.hid (by rw [HOK.out, decide_eq_true h10, decide_eq_false hm0]; rfl)
    clear hm0 h10 HOK
    cases CK with
    | false =>
      have ho : OK = false := by rw [HOK2.out]; rfl
      subst ho
      go_wp2_with fail
      refine (CC.out _).mono ?_
      rintro e w' ⟨rfl, hw'⟩
      have hw' := hw'.symm
      subst hw'
      go_wp2_with fail
      go_meet
      case rel => exact ⟨rfl, rfl⟩
    | true =>
    cases HK with
    | false =>
      have ho : OK = false := by rw [HOK2.out]; rfl
      subst ho
      go_wp2_with fail
      refine (CC.out _).mono ?_
      rintro e w' ⟨rfl, hw'⟩
      have hw' := hw'.symm
      subst hw'
      go_wp2_with fail
      refine (HC.out _).mono ?_
      rintro e w' ⟨rfl, hw'⟩
      have hw' := hw'.symm
      subst hw'
      go_wp2_with fail
      go_meet
      case rel => exact ⟨rfl, rfl⟩
    | true =>
      have ho : OK = VK := by rw [HOK2.out]; rfl
      subst ho
      go_wp2_with fail
      refine (CC.out _).mono ?_
      rintro e w' ⟨rfl, hw'⟩
      have hw' := hw'.symm
      subst hw'
      go_wp2_with fail
      refine (HC.out _).mono ?_
      rintro e w' ⟨rfl, hw'⟩
      have hw' := hw'.symm
      subst hw'
      go_wp2_with fail
      refine (VC.out _).mono ?_
      rintro e w' ⟨rfl, hw'⟩
      have hw' := hw'.symm
      subst hw'
      go_wp2_with fail
      go_meet
      case rel => exact ⟨rfl, rfl⟩
  case rest =>
  obtain ⟨rfl, rfl⟩ := hcut
  obtain ⟨q0, q1, q2, q3, qf⟩ := cells4 X1.out
  have qf0 := qf 0; have qf1 := qf 1; have qf2 := qf 2; have qf3 := qf 3
  obtain ⟨z0, z1, z2, z3, _⟩ := cells4 (put4_heap (a := .string ⟨M.toArray⟩) (b := .string ⟨P.toArray⟩) (c := .string ⟨#[]⟩) (d := .bool false) X1.out)
  have Z := Lib.hid (And.intro z0 (And.intro z1 (And.intro z2 z3)))
  clear z0 z1 z2 z3 qf
  go_wp2_with fail
  obtain ⟨z0, z1, z2, z3⟩ := Z.out
  refine bodyPost_ret (v := .tuple #[.agg #[.string ⟨M.toArray⟩, .string ⟨P.toArray⟩, .string ⟨#[]⟩, .bool false], .bool OK]) (by simp [results, Tryz.results37, go_sem, z0, z1, z2, z3]) rfl ?_
  exact ⟨(((B1.out.setCell (by simp) _).setCell (by simp) _).setCell (by simp) _).setCell (by simp) _, M, P, by rw [HFIN.out.1], HFIN.out.2⟩
end Go.Proofs.YthdmdafhldicmaaGreatDoor
