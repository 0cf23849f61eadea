/- WALKS: the law HttpLengths. -/
import Derived.Test.YthdmdafhldicmaaGreatDoorHw2
import Derived.Test.YthdmdafhldicmaaGreatDoorHsh
namespace Go.Proofs.YthdmdafhldicmaaGreatDoor
open Go.RowKit Go.Maps Go.WideMaps

set_option maxRecDepth 100000 in
set_option maxHeartbeats 4000000 in
theorem lengths_out (st : Int) (body : Hx.Bytes) (close : Bool) (w : World) (hg : Glb w) (ht : Tb w) (h8 : 8 ≤ w.heap.size) (ho : 20000 < body.length ∨ st < 100 ∨ 999 < st) :
    Calls Tryz.prog 7 #[.agg #[.int .i64 st, .string ⟨body.toArray⟩, .bool close]] w (LawPost w) := by
  have hsz := size_list body
  have hc : (20000 : Int) < body.length ∨ (¬ (20000 : Int) < body.length ∧ st < 100) ∨ (¬ (20000 : Int) < body.length ∧ ¬ st < 100 ∧ 999 < st) := by omega
  clear ho
  have P0 := Lib.hid (show Pw w (.cells #[.int .i64 st, .string ⟨body.toArray⟩, .bool close] 38 (0, 0)) (w.alloc (.cells #[.int .i64 st, .string ⟨body.toArray⟩, .bool close] 38)) from ⟨(Below.refl _ w).alloc (Nat.le_refl _) _, heap_alloc_new w _⟩)
  have HG := Lib.hid hg; have HT := Lib.hid (Lib.tabBelow_of_tabIs ht)
  clear hg ht
  go_enter Tryz.func7, Tryz.ntmps7
  go_wp2_with fail
  obtain ⟨w1, hw1⟩ : ∃ w1, w1 = w.alloc (.cells #[.int .i64 st, .string ⟨body.toArray⟩, .bool close] 38) := ⟨_, rfl⟩
  rw [← hw1] at P0 ⊢
  clear hw1
  refine (shown_calls _ (HG.out.below P0.out.1) (HT.out _ P0.out.1) (Nat.le_trans h8 P0.out.1.size)).mono ?_
  rintro e w2 ⟨rfl, k⟩
  have P2 := Lib.hid (P0.out.next k)
  clear k P0
  obtain ⟨q0, q1, q2⟩ := pw_cells3 P2.out
  rcases hc with h1 | ⟨h1, h2⟩ | ⟨h1, h2, h3⟩
  all_goals
    go_wp2_with fail
    go_ret
    exact ⟨rfl, P2.out.1⟩

set_option maxRecDepth 100000 in
set_option maxHeartbeats 4000000 in
theorem lengths_main (n : Nat) (body : Hx.Bytes) (close : Bool) (w : World) (hg : Glb w) (ht : Tb w) (h8 : 8 ≤ w.heap.size) (hb47 : body.length ≤ 20000) (h1 : 100 ≤ n) (h2 : n ≤ 999) :
    Calls Tryz.prog 7 #[.agg #[.int .i64 n, .string ⟨body.toArray⟩, .bool close]] w (LawPost w) := by
  obtain ⟨st, hst⟩ : ∃ st : Int, st = n := ⟨_, rfl⟩
  rw [← hst]
  have i1 : ¬ (20000 : Int) < body.length := by omega
  have i2 : ¬ st < 100 := by omega
  have i3 : ¬ (999 : Int) < st := by omega
  have hsz := size_list body
  obtain ⟨DD, hDD⟩ : ∃ DD : Nat → ByteArray, ∀ n, DD n = ⟨(Hx.dec n).toArray⟩ := ⟨_, fun _ => rfl⟩
  obtain ⟨RS, hRS⟩ : ∃ RS : ByteArray, RS = ⟨(Hx.reason n).toArray⟩ := ⟨_, rfl⟩
  have hd1 : (DD n).size ≤ 10 := by rw [hDD, size_list]; exact Hx.dec_len 9 _ (by omega)
  have hd2 : (DD body.length).size ≤ 10 := by rw [hDD, size_list]; exact Hx.dec_len 9 _ (by omega)
  have hrs : RS.size ≤ 31 := by rw [hRS, size_list]; exact Hx.reason_len _
  obtain ⟨S, hS⟩ : ∃ S : ByteArray, S = ⟨(Hx.write n body close).toArray⟩ := ⟨_, rfl⟩
  have fin : (close = true → S = (((⟨#[72, 84, 84, 80, 47, 49, 46, 49, 32]⟩ ++ DD n ++ ⟨#[32]⟩ ++ RS ++ ⟨#[13, 10]⟩) ++ (⟨#[67, 111, 110, 116, 101, 110, 116, 45, 84, 121, 112, 101, 58, 32, 97, 112, 112, 108, 105, 99, 97, 116, 105, 111, 110, 47, 106, 115, 111, 110, 13, 10, 67, 111, 110, 116, 101, 110, 116, 45, 76, 101, 110, 103, 116, 104, 58, 32]⟩ ++ DD body.length)) ++ (⟨#[13, 10, 67, 111, 110, 110, 101, 99, 116, 105, 111, 110, 58, 32, 99, 108, 111, 115, 101]⟩ ++ (⟨#[13, 10, 13, 10]⟩ ++ ⟨body.toArray⟩)) : ByteArray)) ∧ (close = false → S = (((⟨#[72, 84, 84, 80, 47, 49, 46, 49, 32]⟩ ++ DD n ++ ⟨#[32]⟩ ++ RS ++ ⟨#[13, 10]⟩) ++ (⟨#[67, 111, 110, 116, 101, 110, 116, 45, 84, 121, 112, 101, 58, 32, 97, 112, 112, 108, 105, 99, 97, 116, 105, 111, 110, 47, 106, 115, 111, 110, 13, 10, 67, 111, 110, 116, 101, 110, 116, 45, 76, 101, 110, 103, 116, 104, 58, 32]⟩ ++ DD body.length)) ++ (⟨#[13, 10, 13, 10]⟩ ++ ⟨body.toArray⟩) : ByteArray)) := by
    rw [hS, hDD, hDD, hRS]
    constructor <;> (intro hc; subst hc; simp [Hx.write, Hx.pHttp, Hx.crlf, Hx.pType, Hx.pLen, Hx.pClose, ByteArray.ext_iff, ByteArray.data_append])
  have FIN := Lib.hid fin
  have C1 : Hid (∀ (k : Nat) (x : Int) wq, x = k → k ≤ 1000000 → Calls Tryz.prog 15 #[.int .i64 x] wq fun e w' => e = .returned (.string (DD k)) ∧ w' = wq) := Lib.hid fun k x wq hx hn => by rw [hDD, hx]; exact digits_calls k wq (by omega)
  have C3 : Hid (∀ wq, Calls Tryz.prog 19 #[.int .i64 st] wq fun e w' => e = .returned (.string RS) ∧ w' = wq) := Lib.hid fun wq => by rw [hRS, hst]; exact reason_calls n wq
  have C4 : Hid (∀ wq, Tb wq → Calls Tryz.prog 18 #[.agg #[.int .i64 st, .string ⟨body.toArray⟩, .bool close]] wq fun e w' => e = .returned (.string S) ∧ Below wq.heap.size wq w') := Lib.hid fun wq ht => by rw [hS, hst]; exact write_calls n body close wq ht (by omega) (by omega)
  have HST := Lib.hid hst
  clear hDD hRS fin hst hS
  have P0 := Lib.hid (show Pw w (.cells #[.int .i64 st, .string ⟨body.toArray⟩, .bool close] 38 (0, 0)) (w.alloc (.cells #[.int .i64 st, .string ⟨body.toArray⟩, .bool close] 38)) from ⟨(Below.refl _ w).alloc (Nat.le_refl _) _, heap_alloc_new w _⟩)
  have HG := Lib.hid hg; have HT := Lib.hid (Lib.tabBelow_of_tabIs ht)
  clear hg ht
  go_enter Tryz.func7, Tryz.ntmps7
  go_wp2_with fail
  obtain ⟨w1, hw1⟩ : ∃ w1, w1 = w.alloc (.cells #[.int .i64 st, .string ⟨body.toArray⟩, .bool close] 38) := ⟨_, rfl⟩
  rw [← hw1] at P0 ⊢
  clear hw1
  refine (shown_calls _ (HG.out.below P0.out.1) (HT.out _ P0.out.1) (Nat.le_trans h8 P0.out.1.size)).mono ?_
  rintro e w2 ⟨rfl, k⟩
  have P2 := Lib.hid (P0.out.next k)
  clear k P0
  obtain ⟨q0, q1, q2⟩ := pw_cells3 P2.out
  go_wp2_with fail
  refine (C4.out _ (HT.out _ P2.out.1)).mono ?_
  rintro e w3 ⟨rfl, k⟩
  have P3 := Lib.hid (P2.out.next k)
  clear k P2 q0 q1 q2
  obtain ⟨q0, q1, q2⟩ := pw_cells3 P3.out
  have n1 : ¬ 9223372036854775807 < 4 + body.length := by omega
  have m1 : ¬ 9223372036854775807 < 9 + (DD n).size := by omega
  have m2 : ¬ 9223372036854775807 < 9 + (DD n).size + 1 := by omega
  have m3 : ¬ 9223372036854775807 < 9 + (DD n).size + 1 + RS.size := by omega
  have m4 : ¬ 9223372036854775807 < 9 + (DD n).size + 1 + RS.size + 2 := by omega
  have m5 : ¬ 9223372036854775807 < 48 + (DD body.length).size := by omega
  have m6 : ¬ 9223372036854775807 < 9 + (DD n).size + 1 + RS.size + 2 + (48 + (DD body.length).size) := by omega
  cases close with
  | true =>
    have n2 : ¬ 9223372036854775807 < 19 + (4 + body.length) := by omega
    have n3 : ¬ 9223372036854775807 < 9 + (DD n).size + 1 + RS.size + 2 + (48 + (DD body.length).size) + (19 + (4 + body.length)) := by omega
    go_wp2_with fail
    go_quiet ((first | (go_at_call 15; exact Calls.quiet_of_same (C1.out n _ _ HST.out (by omega))) | (go_at_call 19; exact Calls.quiet_of_same (C3.out _))))
    have P4 := Lib.hid (P3.out.drewN nq)
    clear q0 q1 q2 P3
    obtain ⟨q0, q1, q2⟩ := pw_cells3 P4.out
    go_wp2_with fail
    refine (C1.out body.length _ _ rfl (by omega)).mono ?_
    rintro e w' ⟨rfl, hw'⟩
    have hw' := hw'.symm
    subst hw'
    go_wp2_with fail
    go_ret
    exact ⟨ret_bb (FIN.out.1 trivial), P4.out.1⟩
  | false =>
    have n3 : ¬ 9223372036854775807 < 9 + (DD n).size + 1 + RS.size + 2 + (48 + (DD body.length).size) + (4 + body.length) := by omega
    go_wp2_with fail
    go_quiet ((first | (go_at_call 15; exact Calls.quiet_of_same (C1.out n _ _ HST.out (by omega))) | (go_at_call 19; exact Calls.quiet_of_same (C3.out _))))
    have P4 := Lib.hid (P3.out.drewN nq)
    clear q0 q1 q2 P3
    obtain ⟨q0, q1, q2⟩ := pw_cells3 P4.out
    go_wp2_with fail
    refine (C1.out body.length _ _ rfl (by omega)).mono ?_
    rintro e w' ⟨rfl, hw'⟩
    have hw' := hw'.symm
    subst hw'
    go_wp2_with fail
    go_ret
    exact ⟨ret_bb (FIN.out.2 trivial), P4.out.1⟩
theorem lengths_calls (st : Int) (body : Hx.Bytes) (close : Bool) (w : World) (hg : Glb w) (ht : Tb w) (h8 : 8 ≤ w.heap.size) :
    Calls Tryz.prog 7 #[.agg #[.int .i64 st, .string ⟨body.toArray⟩, .bool close]] w (LawPost w) := by
  by_cases ho : 20000 < body.length ∨ st < 100 ∨ 999 < st
  · exact lengths_out st body close w hg ht h8 ho
  · obtain ⟨n, rfl⟩ : ∃ n : Nat, st = n := ⟨st.toNat, by omega⟩
    exact lengths_main n body close w hg ht h8 (by omega) (by omega) (by omega)
end Go.Proofs.YthdmdafhldicmaaGreatDoor
