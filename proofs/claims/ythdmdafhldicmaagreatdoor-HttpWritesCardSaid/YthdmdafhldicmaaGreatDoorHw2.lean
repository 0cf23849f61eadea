/- WALKS: Write of the document's answer. -/
import Derived.Test.YthdmdafhldicmaaGreatDoorHw
import Derived.Test.YthdmdafhldicmaaGreatDoorHn
namespace Go.Proofs.YthdmdafhldicmaaGreatDoor
open Go.RowKit Go.Maps Go.WideMaps

theorem Pw.drewN {w : World} {o : Obj} {w' : World} (h : Pw w o w') (n : Nat) : Pw w o (w'.drewN n) := ⟨below_dN h.1 n, h.2⟩

set_option maxRecDepth 100000 in
set_option maxHeartbeats 4000000 in
theorem write2_calls (st : Nat) (body : Hx.Bytes) (close : Bool) (w : World) (hst : st ≤ 1000) (hb : body.length ≤ 1000000) :
    Calls Tryz.prog 22 #[.agg #[.int .i64 st, .string ⟨body.toArray⟩, .bool close]] w fun e w' => e = .returned (.string ⟨(Hx.write st body close).toArray⟩) ∧ Below w.heap.size w w' := by
  have P0 := Lib.hid (show Pw w (.cells #[.int .i64 st, .string ⟨body.toArray⟩, .bool close] 38 (0, 0)) (w.alloc (.cells #[.int .i64 st, .string ⟨body.toArray⟩, .bool close] 38)) from ⟨(Below.refl _ w).alloc (Nat.le_refl _) _, heap_alloc_new w _⟩)
  have hsz := size_list body
  obtain ⟨DD, hDD⟩ : ∃ DD : Nat → ByteArray, ∀ n, DD n = ⟨(Hx.dec n).toArray⟩ := ⟨_, fun _ => rfl⟩
  obtain ⟨RS, hRS⟩ : ∃ RS : ByteArray, RS = ⟨(Hx.reason st).toArray⟩ := ⟨_, rfl⟩
  have hd1 : (DD st).size ≤ 10 := by rw [hDD, size_list]; exact Hx.dec_len 9 _ (by omega)
  have hd2 : (DD body.length).size ≤ 10 := by rw [hDD, size_list]; exact Hx.dec_len 9 _ (by omega)
  have hrs : RS.size ≤ 31 := by rw [hRS, size_list]; exact Hx.reason_len _
  have fin : (close = true → ((⟨#[72, 84, 84, 80, 47, 49, 46, 49, 32]⟩ ++ DD st ++ ⟨#[32]⟩ ++ RS ++ ⟨#[13, 10, 67, 111, 110, 116, 101, 110, 116, 45, 84, 121, 112, 101, 58, 32, 97, 112, 112, 108, 105, 99, 97, 116, 105, 111, 110, 47, 106, 115, 111, 110, 13, 10, 67, 111, 110, 116, 101, 110, 116, 45, 76, 101, 110, 103, 116, 104, 58, 32]⟩ ++ DD body.length ++ ⟨#[13, 10]⟩ ++ ⟨#[67, 111, 110, 110, 101, 99, 116, 105, 111, 110, 58, 32, 99, 108, 111, 115, 101, 13, 10]⟩ ++ ⟨#[13, 10]⟩ ++ ⟨body.toArray⟩ : ByteArray) = ⟨(Hx.write st body close).toArray⟩)) ∧ (close = false → ((⟨#[72, 84, 84, 80, 47, 49, 46, 49, 32]⟩ ++ DD st ++ ⟨#[32]⟩ ++ RS ++ ⟨#[13, 10, 67, 111, 110, 116, 101, 110, 116, 45, 84, 121, 112, 101, 58, 32, 97, 112, 112, 108, 105, 99, 97, 116, 105, 111, 110, 47, 106, 115, 111, 110, 13, 10, 67, 111, 110, 116, 101, 110, 116, 45, 76, 101, 110, 103, 116, 104, 58, 32]⟩ ++ DD body.length ++ ⟨#[13, 10]⟩ ++ ⟨#[13, 10]⟩ ++ ⟨body.toArray⟩ : ByteArray) = ⟨(Hx.write st body close).toArray⟩)) := by
    rw [hDD, hDD, hRS]
    constructor <;> (intro hc; subst hc; simp [Hx.write, Hx.pHttp, Hx.crlf, Hx.pType, Hx.pLen, Hx.pClose, ByteArray.ext_iff, ByteArray.data_append])
  have FIN := Lib.hid fin
  have C1 : Hid (∀ (n : Nat) wq, n ≤ 1000000 → Calls Tryz.prog 35 #[.int .i64 n] wq fun e w' => e = .returned (.string (DD n)) ∧ w' = wq) := Lib.hid fun n wq hn => by rw [hDD]; exact digits2_calls n wq (by omega)
  have C3 : Hid (∀ wq, Calls Tryz.prog 23 #[.int .i64 st] wq fun e w' => e = .returned (.string RS) ∧ w' = wq) := Lib.hid fun wq => by rw [hRS]; exact reason2_calls st wq
  have n1 : ¬ 9223372036854775807 < 9 + (DD st).size := by omega
  have n2 : ¬ 9223372036854775807 < 9 + (DD st).size + 1 := by omega
  have n3 : ¬ 9223372036854775807 < 9 + (DD st).size + 1 + RS.size := by omega
  have n4 : ¬ 9223372036854775807 < 9 + (DD st).size + 1 + RS.size + 50 := by omega
  have n5 : ¬ 9223372036854775807 < 9 + (DD st).size + 1 + RS.size + 50 + (DD body.length).size := by omega
  have n6 : ¬ 9223372036854775807 < 9 + (DD st).size + 1 + RS.size + 50 + (DD body.length).size + 2 := by omega
  have n7 : ¬ 9223372036854775807 < 9 + (DD st).size + 1 + RS.size + 50 + (DD body.length).size + 2 + 19 := by omega
  have n8 : ¬ 9223372036854775807 < 9 + (DD st).size + 1 + RS.size + 50 + (DD body.length).size + 2 + 19 + 2 := by omega
  have n9 : ¬ 9223372036854775807 < 9 + (DD st).size + 1 + RS.size + 50 + (DD body.length).size + 2 + 19 + 2 + body.length := by omega
  have n10 : ¬ 9223372036854775807 < 9 + (DD st).size + 1 + RS.size + 50 + (DD body.length).size + 2 + 2 := by omega
  have n11 : ¬ 9223372036854775807 < 9 + (DD st).size + 1 + RS.size + 50 + (DD body.length).size + 2 + 2 + body.length := by omega
  clear hDD hRS fin
  go_enter Tryz.func22, Tryz.ntmps22
  go_upto_region 1 with fail
  obtain ⟨w1, hw1⟩ : ∃ w1, w1 = w.alloc (.cells #[.int .i64 st, .string ⟨body.toArray⟩, .bool close] 38) := ⟨_, rfl⟩
  rw [← hw1] at P0 ⊢
  clear hw1
  obtain ⟨q0, q1, q2⟩ := pw_cells3 P0.out
  go_wp2_with fail
  go_quiet ((first | (go_at_call 35; exact Calls.quiet_of_same (C1.out _ _ (by omega))) | (go_at_call 23; exact Calls.quiet_of_same (C3.out _))))
  have P2 := Lib.hid (P0.out.drewN nq)
  clear q0 q1 q2 P0 C1 C3
  obtain ⟨q0, q1, q2⟩ := pw_cells3 P2.out
  cases close with
  | true =>
    go_wp2_with fail
    go_ret
    exact ⟨ret_str (FIN.out.1 trivial), P2.out.1⟩
  | false =>
    go_wp2_with fail
    go_ret
    exact ⟨ret_str (FIN.out.2 trivial), P2.out.1⟩
end Go.Proofs.YthdmdafhldicmaaGreatDoor
