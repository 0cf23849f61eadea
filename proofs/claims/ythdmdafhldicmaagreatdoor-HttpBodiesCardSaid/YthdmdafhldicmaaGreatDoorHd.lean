/- WALKS: line. -/
import Derived.Test.YthdmdafhldicmaaGreatDoorHl
namespace Go.Proofs.YthdmdafhldicmaaGreatDoor
open Go.RowKit

/-- What 'line' comes to. -/
def LinePost (b : Nat) (s : ByteArray) (r : Hx.Bytes × Nat × Nat) (w : World) (e : Ending) (w' : World) : Prop :=
  e = .returned (.tuple #[.string ⟨r.1.toArray⟩, .int .i64 r.2.1]) ∧ Hr b s r.2.2 w' ∧ Mv b w w'

theorem part_eq (s : ByteArray) (i most : Nat) (hi : i ≤ s.size) : s.extract i (min s.size (max most i)) = ⟨((s.data.toList.drop i).take (max most i - i)).toArray⟩ := by
  rw [extract_list]
  congr 2
  have hs : s.data.toList.length = s.size := rfl
  rcases Nat.le_total s.size (max most i) with h | h
  · rw [Nat.min_eq_left h, List.take_of_length_le (by rw [List.length_drop]; omega), List.take_of_length_le (by rw [List.length_drop]; omega)]
  · rw [Nat.min_eq_right h]

set_option maxRecDepth 100000 in
set_option maxHeartbeats 2000000 in
theorem line_calls (s : ByteArray) (i most : Nat) (b : Nat) (w : World) (h : Hr b s i w) (hi : i ≤ s.size) (hs : s.size ≤ 1000000000) (_hm : most ≤ 1000000000) (hg : Glb w) :
    Calls Tryz.prog 36 #[.pointer (some ⟨b, 0, none⟩), .int .i64 most] w (LinePost b s (Hx.line s.data.toList i most) w) := by
  have c0 := h.c0; have c1 := h.c1; have f1 := h.fr 1
  obtain ⟨R, hR⟩ : ∃ R, R = Hx.line s.data.toList i most := ⟨_, rfl⟩
  rw [← hR]
  unfold Hx.line at hR
  simp only at hR
  have hpe := part_eq s i most hi
  obtain ⟨T, hT⟩ : ∃ T, T = (s.data.toList.drop i).take (max most i - i) := ⟨_, rfl⟩
  rw [← hT] at hR hpe
  have hTl : T.length ≤ s.size := by
    rw [hT, List.length_take, List.length_drop]
    have hs : s.data.toList.length = s.size := rfl
    omega
  obtain ⟨M, hM⟩ : ∃ M : Nat, M = max most i := ⟨_, rfl⟩
  obtain ⟨E, hE⟩ : ∃ E : Nat, E = min s.size M := ⟨_, rfl⟩
  have hMi : max (most : Int) (i : Int) = (M : Int) := by omega
  have hEi : min (s.size : Int) (M : Int) = (E : Int) := by omega
  have hiE : i ≤ E := by omega
  have hEs : E ≤ s.size := by omega
  rw [← hM, ← hE] at hpe
  have H := Lib.hid h; have HG := Lib.hid hg; have HR := Lib.hid hR; have HPE := Lib.hid hpe
  have hsl : s.data.toList.length = s.size := rfl
  clear h hg hR hT hM hE hpe
  go_enter Tryz.func36, Tryz.ntmps36
  go_wp2_with fail
  go_region
  rw [HPE.out]
  go_wp2_with fail
  refine (cut_calls T 10 _ (HG.out.drewN 1) (by omega)).mono ?_
  rintro e w2 ⟨rfl, n, rfl⟩
  have hal := Hx.ahead_length (c := 10) (s := T)
  by_cases h10 : 10 ∈ T
  rotate_left
  · rw [decide_eq_false h10]
    by_cases hlt : most < s.size
    · have hr : R = ([], 431, i) := by rw [HR.out, if_neg h10, if_pos (by omega)]
      have hltd : decide ((most : Int) < (s.size : Int)) = true := by simp; omega
      have hltp : (most : Int) < (s.size : Int) := by omega
      subst hr
      clear h10 hlt hal
      go_wp2_with fail
      go_ret2
      exact ⟨rfl, (H.out.drewN _), ((Mv.refl b w).drewN _)⟩
    · have hr : R = ([], 0, i) := by rw [HR.out, if_neg h10, if_neg (by omega)]
      have hltd : decide ((most : Int) < (s.size : Int)) = false := by simp; omega
      have hltp : ¬ (most : Int) < (s.size : Int) := by omega
      subst hr
      clear h10 hlt hal
      go_wp2_with fail
      go_ret2
      exact ⟨rfl, (H.out.drewN _), ((Mv.refl b w).drewN _)⟩
  · rw [decide_eq_true h10]
    have hidx := Hx.idx_lt h10
    obtain ⟨k, hk⟩ : ∃ k, k = T.idxOf 10 := ⟨_, rfl⟩
    obtain ⟨A, hA⟩ : ∃ A, A = Hx.ahead 10 T := ⟨_, rfl⟩
    obtain ⟨B, hB⟩ : ∃ B, B = Hx.behind 10 T := ⟨_, rfl⟩
    have hr := HR.out
    rw [if_pos h10, ← hA, ← hk] at hr
    rw [← hk] at hal hidx
    rw [← hA] at hal ⊢
    rw [← hB]
    have HR2 := Lib.hid hr
    have hv : ((i + k + 1 : Nat) : Int) = (i : Int) + ((k : Int) + 1) := by omega
    have H2 := (H.out.drewN (1 + n)).set1 ((i + k + 1 : Nat) : Int)
    have M2 := ((Mv.refl b w).drewN (1 + n)).set (a := ⟨b, 1, none⟩) (.inl rfl) (.int .i64 ((i + k + 1 : Nat) : Int))
    conv at H2 => rhs; rw [hv]
    rw [hv] at M2
    have H2 := Lib.hid H2; have M2 := Lib.hid M2
    clear hr hA hB hk h10 HR
    go_wp2_with fail
    refine (cutSuffix_calls A 13 _ (by omega)).mono ?_
    rintro e w3 ⟨rfl, hw'⟩
    have hw' := hw'.symm
    subst hw'
    by_cases h13 : A.getLast? = some 13
    · rw [if_pos h13, decide_eq_true h13]
      have CT : Hid (∀ wq, Calls Tryz.prog 51 #[.string ⟨A.dropLast.toArray⟩, .string ⟨#[13]⟩] wq fun e w' => e = .returned (.bool (decide (13 ∈ A.dropLast))) ∧ w' = wq) := Lib.hid fun wq => contains_calls _ _ wq
      by_cases hc : 13 ∈ A.dropLast
      · have hr : R = ([], 400, i + k + 1) := by rw [HR2.out]; unfold Hx.lineText; rw [if_neg (fun h => h.2 hc)]
        have CT2 : Hid (∀ wq, Calls Tryz.prog 51 #[.string ⟨A.dropLast.toArray⟩, .string ⟨#[13]⟩] wq fun e w' => e = .returned (.bool true) ∧ w' = wq) := Lib.hid fun wq => decide_eq_true hc ▸ CT.out wq
        subst hr
        clear h13 hc CT
        go_wp2_with fail
        refine (CT2.out _).mono ?_
        rintro e w4 ⟨rfl, hw'⟩
        have hw' := hw'.symm
        subst hw'
        go_wp2_with fail
        go_ret2
        exact ⟨rfl, H2.out, M2.out⟩
      · have hr : R = (A.dropLast, 200, i + k + 1) := by rw [HR2.out]; unfold Hx.lineText; rw [if_pos ⟨h13, hc⟩]
        have CT2 : Hid (∀ wq, Calls Tryz.prog 51 #[.string ⟨A.dropLast.toArray⟩, .string ⟨#[13]⟩] wq fun e w' => e = .returned (.bool false) ∧ w' = wq) := Lib.hid fun wq => decide_eq_false hc ▸ CT.out wq
        subst hr
        clear h13 hc CT
        go_wp2_with fail
        refine (CT2.out _).mono ?_
        rintro e w4 ⟨rfl, hw'⟩
        have hw' := hw'.symm
        subst hw'
        go_wp2_with fail
        go_ret2
        exact ⟨rfl, H2.out, M2.out⟩
    · rw [if_neg h13, decide_eq_false h13]
      have hr : R = ([], 400, i + k + 1) := by rw [HR2.out]; unfold Hx.lineText; rw [if_neg (fun h => h13 h.1)]
      subst hr
      clear h13
      go_wp2_with fail
      go_ret2
      exact ⟨rfl, H2.out, M2.out⟩
end Go.Proofs.YthdmdafhldicmaaGreatDoor
