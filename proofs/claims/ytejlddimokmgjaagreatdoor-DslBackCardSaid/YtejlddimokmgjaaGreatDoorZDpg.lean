/- WALKS: the law DslPages. -/
import Derived.Test.YtejlddimokmgjaaGreatDoorGl
import Derived.Test.YtejlddimokmgjaaGreatDoorGc
namespace Go.Proofs.YtejlddimokmgjaaGreatDoor
open Go.RowKit

/-- What a law comes to. -/
def LawPost (w : World) (e : Ending) (w' : World) : Prop := e = .returned (.bool true) ∧ Below w.heap.size w w'
theorem size_bytes (l : List UInt8) : (⟨l.toArray⟩ : ByteArray).size = l.length := by simp [ByteArray.size]

set_option maxRecDepth 100000 in
set_option maxHeartbeats 4000000 in
theorem pages_out (f n : Int) (first : Bool) (w : World) (hg : GlbD w) (h8 : 8 ≤ w.heap.size) (ho : f < -1000000 ∨ 1000000 < f ∨ n < -1000000 ∨ 1000000 < n) :
    Calls Tryz.prog 3 #[.int .i64 f, .int .i64 n, .bool first] w (LawPost w) := by
  have HG := Lib.hid hg
  have hc : f < -1000000 ∨ (¬ f < -1000000 ∧ 1000000 < f) ∨ (¬ f < -1000000 ∧ ¬ 1000000 < f ∧ n < -1000000) ∨ (¬ f < -1000000 ∧ ¬ 1000000 < f ∧ ¬ n < -1000000 ∧ 1000000 < n) := by omega
  clear hg ho
  rcases hc with h1 | ⟨h1, h2⟩ | ⟨h1, h2, h3⟩ | ⟨h1, h2, h3, h4⟩
  all_goals
    go_enter Tryz.func3, Tryz.ntmps3
    go_wp2_with fail
    refine (shown_calls w HG.out h8).mono ?_
    rintro e w2 ⟨rfl, k⟩
    have K := Lib.hid k
    clear k
    go_wp2_with fail
    go_ret
    exact ⟨rfl, K.out⟩

set_option maxRecDepth 100000 in
set_option maxHeartbeats 4000000 in
theorem pages_true (f n : Int) (w : World) (hg : GlbD w) (h8 : 8 ≤ w.heap.size) (h1 : ¬ f < -1000000) (h2 : ¬ 1000000 < f) (h3 : ¬ n < -1000000) (h4 : ¬ 1000000 < n) :
    Calls Tryz.prog 3 #[.int .i64 f, .int .i64 n, .bool true] w (LawPost w) := by
  have HG := Lib.hid hg
  obtain ⟨F, hF⟩ : ∃ F : List UInt8, F = Cx.decI f := ⟨_, rfl⟩
  obtain ⟨N, hN⟩ : ∃ N : List UInt8, N = Cx.decI n := ⟨_, rfl⟩
  have hFl : F.length ≤ 16 := by rw [hF]; exact Cx.decI_length (by omega) (by omega)
  have hNl : N.length ≤ 16 := by rw [hN]; exact Cx.decI_length (by omega) (by omega)
  have hFs := size_bytes F; have hNs := size_bytes N
  obtain ⟨S, hS⟩ : ∃ S : List UInt8, S = Dx.pageText f n true := ⟨_, rfl⟩
  have hsr := Dx.page_search true (f := f) (n := n) (by omega) (by omega) (by omega) (by omega)
  rw [← hS] at hsr
  have hcat : (((((⟨#[123, 34, 113, 117, 101, 114, 121, 34, 58, 123, 34, 109, 97, 116, 99, 104, 95, 97, 108, 108, 34, 58, 123, 125, 125, 44]⟩ ++ (⟨#[34, 115, 105, 122, 101, 34, 58]⟩ ++ ⟨N.toArray⟩)) ++ ⟨#[44]⟩) ++ (⟨#[34, 102, 114, 111, 109, 34, 58]⟩ ++ ⟨F.toArray⟩)) ++ ⟨#[125]⟩) : ByteArray) = (⟨S.toArray⟩ : ByteArray) := by
    rw [hS, hF, hN]; simp [Dx.pageText, ByteArray.ext_iff, ByteArray.data_append]
  obtain ⟨FB, hFB⟩ : ∃ FB : ByteArray, FB = ⟨F.toArray⟩ := ⟨_, rfl⟩
  obtain ⟨NB, hNB⟩ : ∃ NB : ByteArray, NB = ⟨N.toArray⟩ := ⟨_, rfl⟩
  rw [← hFB] at hFs hcat
  rw [← hNB] at hNs hcat
  have hFz : FB.size ≤ 16 := by omega
  have hNz : NB.size ≤ 16 := by omega
  have C1 : Hid (∀ wq, Calls Tryz.prog 10 #[.int .i64 f] wq fun e w' => e = .returned (.string FB) ∧ w' = wq) := Lib.hid fun wq => by rw [hFB, hF]; exact decimal_calls f wq (by omega) (by omega)
  have C2 : Hid (∀ wq, Calls Tryz.prog 10 #[.int .i64 n] wq fun e w' => e = .returned (.string NB) ∧ w' = wq) := Lib.hid fun wq => by rw [hNB, hN]; exact decimal_calls n wq (by omega) (by omega)
  have HC := Lib.hid hcat; have SR := Lib.hid hsr
  clear hS hsr hcat hF hN hFB hNB hFs hNs hFl hNl hg
  go_enter Tryz.func3, Tryz.ntmps3
  go_wp2_with fail
  refine (shown_calls w HG.out h8).mono ?_
  rintro e w2 ⟨rfl, k⟩
  have B2 := Lib.hid k
  clear k
  go_wp2_with fail
  refine (C1.out w2).mono ?_
  rintro e w' ⟨rfl, hw⟩
  have hw := hw.symm
  subst hw
  go_wp2_with fail
  refine (C2.out _).mono ?_
  rintro e w' ⟨rfl, hw⟩
  have hw := hw.symm
  subst hw
  go_wp2_with fail
  rw [HC.out]
  refine (search_calls S _ (HG.out.below B2.out).1 (Nat.le_trans h8 B2.out.size)).mono ?_
  rintro e w3 ⟨cs, rfl, hq, hb⟩
  have B3 := Lib.hid (B2.out.trans (hb.mono B2.out.size))
  clear hb
  by_cases hm : 0 ≤ f ∧ f ≤ 10000 ∧ 0 ≤ n ∧ n ≤ 100
  · have hT := searchT_ok (SR.out.trans (if_pos hm))
    rw [hT] at hq ⊢
    obtain ⟨sa, sb, sc, rfl, ra, rb, rc⟩ := hq.rows
    obtain ⟨aa, ca, rfl⟩ := ra.shape
    obtain ⟨ab, cb, rfl⟩ := rb.shape
    obtain ⟨ac, cc, rfl⟩ := rc.shape
    obtain ⟨m1, m2, m3, m4⟩ := hm
    clear hq ra rb rc hT SR HC
    simp only
    go_wp2_with fail
    go_ret
    exact ⟨rfl, B3.out.alloc B3.out.size _⟩
  · have hT := searchT_error (SR.out.trans (if_neg hm))
    rw [hT] at hq ⊢
    obtain ⟨sa, sb, sc, rfl, ra, rb, rc⟩ := hq.rows
    obtain ⟨aa, ca, rfl⟩ := ra.shape
    obtain ⟨ab, cb, rfl⟩ := rb.shape
    obtain ⟨ac, cc, rfl⟩ := rc.shape
    have hc : ¬ 0 ≤ f ∨ (0 ≤ f ∧ ¬ f ≤ 10000) ∨ (0 ≤ f ∧ f ≤ 10000 ∧ ¬ 0 ≤ n) ∨ (0 ≤ f ∧ f ≤ 10000 ∧ 0 ≤ n ∧ ¬ n ≤ 100) := by omega
    clear hq ra rb rc hT SR HC hm
    simp only
    rcases hc with m1 | ⟨m1, m2⟩ | ⟨m1, m2, m3⟩ | ⟨m1, m2, m3, m4⟩
    all_goals
      go_wp2_with fail
      go_ret
      exact ⟨rfl, B3.out.alloc B3.out.size _⟩

set_option maxRecDepth 100000 in
set_option maxHeartbeats 4000000 in
theorem pages_false (f n : Int) (w : World) (hg : GlbD w) (h8 : 8 ≤ w.heap.size) (h1 : ¬ f < -1000000) (h2 : ¬ 1000000 < f) (h3 : ¬ n < -1000000) (h4 : ¬ 1000000 < n) :
    Calls Tryz.prog 3 #[.int .i64 f, .int .i64 n, .bool false] w (LawPost w) := by
  have HG := Lib.hid hg
  obtain ⟨F, hF⟩ : ∃ F : List UInt8, F = Cx.decI f := ⟨_, rfl⟩
  obtain ⟨N, hN⟩ : ∃ N : List UInt8, N = Cx.decI n := ⟨_, rfl⟩
  have hFl : F.length ≤ 16 := by rw [hF]; exact Cx.decI_length (by omega) (by omega)
  have hNl : N.length ≤ 16 := by rw [hN]; exact Cx.decI_length (by omega) (by omega)
  have hFs := size_bytes F; have hNs := size_bytes N
  obtain ⟨S, hS⟩ : ∃ S : List UInt8, S = Dx.pageText f n false := ⟨_, rfl⟩
  have hsr := Dx.page_search false (f := f) (n := n) (by omega) (by omega) (by omega) (by omega)
  rw [← hS] at hsr
  have hcat : (((((⟨#[123]⟩ ++ (⟨#[34, 102, 114, 111, 109, 34, 58]⟩ ++ ⟨F.toArray⟩)) ++ ⟨#[44]⟩) ++ (⟨#[34, 115, 105, 122, 101, 34, 58]⟩ ++ ⟨N.toArray⟩)) ++ ⟨#[44, 34, 113, 117, 101, 114, 121, 34, 58, 123, 34, 109, 97, 116, 99, 104, 95, 97, 108, 108, 34, 58, 123, 125, 125, 125]⟩) : ByteArray) = (⟨S.toArray⟩ : ByteArray) := by
    rw [hS, hF, hN]; simp [Dx.pageText, ByteArray.ext_iff, ByteArray.data_append]
  obtain ⟨FB, hFB⟩ : ∃ FB : ByteArray, FB = ⟨F.toArray⟩ := ⟨_, rfl⟩
  obtain ⟨NB, hNB⟩ : ∃ NB : ByteArray, NB = ⟨N.toArray⟩ := ⟨_, rfl⟩
  rw [← hFB] at hFs hcat
  rw [← hNB] at hNs hcat
  have hFz : FB.size ≤ 16 := by omega
  have hNz : NB.size ≤ 16 := by omega
  have C1 : Hid (∀ wq, Calls Tryz.prog 10 #[.int .i64 f] wq fun e w' => e = .returned (.string FB) ∧ w' = wq) := Lib.hid fun wq => by rw [hFB, hF]; exact decimal_calls f wq (by omega) (by omega)
  have C2 : Hid (∀ wq, Calls Tryz.prog 10 #[.int .i64 n] wq fun e w' => e = .returned (.string NB) ∧ w' = wq) := Lib.hid fun wq => by rw [hNB, hN]; exact decimal_calls n wq (by omega) (by omega)
  have HC := Lib.hid hcat; have SR := Lib.hid hsr
  clear hS hsr hcat hF hN hFB hNB hFs hNs hFl hNl hg
  go_enter Tryz.func3, Tryz.ntmps3
  go_wp2_with fail
  refine (shown_calls w HG.out h8).mono ?_
  rintro e w2 ⟨rfl, k⟩
  have B2 := Lib.hid k
  clear k
  go_wp2_with fail
  refine (C1.out w2).mono ?_
  rintro e w' ⟨rfl, hw⟩
  have hw := hw.symm
  subst hw
  go_wp2_with fail
  refine (C2.out _).mono ?_
  rintro e w' ⟨rfl, hw⟩
  have hw := hw.symm
  subst hw
  go_wp2_with fail
  rw [HC.out]
  refine (search_calls S _ (HG.out.below B2.out).1 (Nat.le_trans h8 B2.out.size)).mono ?_
  rintro e w3 ⟨cs, rfl, hq, hb⟩
  have B3 := Lib.hid (B2.out.trans (hb.mono B2.out.size))
  clear hb
  by_cases hm : 0 ≤ f ∧ f ≤ 10000 ∧ 0 ≤ n ∧ n ≤ 100
  · have hT := searchT_ok (SR.out.trans (if_pos hm))
    rw [hT] at hq ⊢
    obtain ⟨sa, sb, sc, rfl, ra, rb, rc⟩ := hq.rows
    obtain ⟨aa, ca, rfl⟩ := ra.shape
    obtain ⟨ab, cb, rfl⟩ := rb.shape
    obtain ⟨ac, cc, rfl⟩ := rc.shape
    obtain ⟨m1, m2, m3, m4⟩ := hm
    clear hq ra rb rc hT SR HC
    simp only
    go_wp2_with fail
    go_ret
    exact ⟨rfl, B3.out.alloc B3.out.size _⟩
  · have hT := searchT_error (SR.out.trans (if_neg hm))
    rw [hT] at hq ⊢
    obtain ⟨sa, sb, sc, rfl, ra, rb, rc⟩ := hq.rows
    obtain ⟨aa, ca, rfl⟩ := ra.shape
    obtain ⟨ab, cb, rfl⟩ := rb.shape
    obtain ⟨ac, cc, rfl⟩ := rc.shape
    have hc : ¬ 0 ≤ f ∨ (0 ≤ f ∧ ¬ f ≤ 10000) ∨ (0 ≤ f ∧ f ≤ 10000 ∧ ¬ 0 ≤ n) ∨ (0 ≤ f ∧ f ≤ 10000 ∧ 0 ≤ n ∧ ¬ n ≤ 100) := by omega
    clear hq ra rb rc hT SR HC hm
    simp only
    rcases hc with m1 | ⟨m1, m2⟩ | ⟨m1, m2, m3⟩ | ⟨m1, m2, m3, m4⟩
    all_goals
      go_wp2_with fail
      go_ret
      exact ⟨rfl, B3.out.alloc B3.out.size _⟩

theorem pages_calls (f n : Int) (first : Bool) (w : World) (hg : GlbD w) (h8 : 8 ≤ w.heap.size) :
    Calls Tryz.prog 3 #[.int .i64 f, .int .i64 n, .bool first] w (LawPost w) := by
  by_cases ho : f < -1000000 ∨ 1000000 < f ∨ n < -1000000 ∨ 1000000 < n
  · exact pages_out f n first w hg h8 ho
  · cases first
    · exact pages_false f n w hg h8 (by omega) (by omega) (by omega) (by omega)
    · exact pages_true f n w hg h8 (by omega) (by omega) (by omega) (by omega)
end Go.Proofs.YtejlddimokmgjaaGreatDoor
