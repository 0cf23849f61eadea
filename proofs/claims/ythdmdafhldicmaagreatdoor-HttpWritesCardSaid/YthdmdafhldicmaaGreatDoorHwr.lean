/- WALKS: the law HttpWrites. -/
import Derived.Test.YthdmdafhldicmaaGreatDoorHw2
import Derived.Test.YthdmdafhldicmaaGreatDoorHd2
import Derived.Test.YthdmdafhldicmaaGreatDoorHsh
namespace Go.Proofs.YthdmdafhldicmaaGreatDoor
open Go.RowKit Go.Maps Go.WideMaps

set_option maxRecDepth 100000 in
set_option maxHeartbeats 4000000 in
theorem writes_out (st : Int) (body s : Hx.Bytes) (close : Bool) (k0 : Int) (w : World) (hg : Glb w) (ht : Tb w) (hu : Ut w) (h8 : 8 ≤ w.heap.size) (ho : 3000 < s.length ∨ 20000 < body.length ∨ st < 100 ∨ 999 < st) :
    Calls Tryz.prog 8 #[.agg #[.int .i64 st, .string ⟨body.toArray⟩, .bool close], .string ⟨s.toArray⟩, .int .i64 k0] w (LawPost w) := by
  have hz1 := size_list s; have hz2 := size_list body
  have hc : (3000 : Int) < s.length ∨ (¬ (3000 : Int) < s.length ∧ (20000 : Int) < body.length) ∨ (¬ (3000 : Int) < s.length ∧ ¬ (20000 : Int) < body.length ∧ st < 100) ∨ (¬ (3000 : Int) < s.length ∧ ¬ (20000 : Int) < body.length ∧ ¬ st < 100 ∧ 999 < st) := by omega
  clear ho
  have P0 := Lib.hid (show Pw w (.cells #[.int .i64 st, .string ⟨body.toArray⟩, .bool close] 38 (0, 0)) (w.alloc (.cells #[.int .i64 st, .string ⟨body.toArray⟩, .bool close] 38)) from ⟨(Below.refl _ w).alloc (Nat.le_refl _) _, heap_alloc_new w _⟩)
  have HG := Lib.hid hg; have HT := Lib.hid (Lib.tabBelow_of_tabIs ht); have HU := Lib.hid hu
  clear hg ht hu
  go_enter Tryz.func8, Tryz.ntmps8
  go_wp2_with fail
  obtain ⟨w1, hw1⟩ : ∃ w1, w1 = w.alloc (.cells #[.int .i64 st, .string ⟨body.toArray⟩, .bool close] 38) := ⟨_, rfl⟩
  rw [← hw1] at P0 ⊢
  clear hw1
  refine (shown_calls _ (HG.out.below P0.out.1) (HT.out _ P0.out.1) (Nat.le_trans h8 P0.out.1.size)).mono ?_
  rintro e w2 ⟨rfl, k⟩
  have P2 := Lib.hid (P0.out.next k)
  clear k P0
  obtain ⟨q0, q1, q2⟩ := pw_cells3 P2.out
  rcases hc with h1 | ⟨h1, h2⟩ | ⟨h1, h2, h3⟩ | ⟨h1, h2, h3, h4⟩
  all_goals
    go_wp2_with fail
    go_ret
    exact ⟨rfl, P2.out.1⟩

set_option maxRecDepth 100000 in
set_option maxHeartbeats 8000000 in
theorem writes_main (n : Nat) (body s : Hx.Bytes) (close : Bool) (k0 : Int) (w : World) (hg : Glb w) (ht : Tb w) (hu : Ut w) (h8 : 8 ≤ w.heap.size) (hs : s.length ≤ 3000) (hb : body.length ≤ 20000) (hn1 : 100 ≤ n) (hn2 : n ≤ 999) :
    Calls Tryz.prog 8 #[.agg #[.int .i64 n, .string ⟨body.toArray⟩, .bool close], .string ⟨s.toArray⟩, .int .i64 k0] w (LawPost w) := by
  obtain ⟨st, hst⟩ : ∃ st : Int, st = n := ⟨_, rfl⟩
  rw [← hst]
  have hz1 := size_list s; have hz2 := size_list body
  have i0 : ¬ (3000 : Int) < s.length := by omega
  have i1 : ¬ (20000 : Int) < body.length := by omega
  have i2 : ¬ st < 100 := by omega
  have i3 : ¬ (999 : Int) < st := by omega
  obtain ⟨S, hS⟩ : ∃ S : ByteArray, S = ⟨(Hx.write n body close).toArray⟩ := ⟨_, rfl⟩
  obtain ⟨RS, hRS⟩ : ∃ RS : ByteArray, RS = ⟨(Hx.reason k0).toArray⟩ := ⟨_, rfl⟩
  obtain ⟨D, hD⟩ : ∃ D, D = decOut s := ⟨_, rfl⟩
  have C1 : Hid (∀ wq, Tb wq → Calls Tryz.prog 18 #[.agg #[.int .i64 st, .string ⟨body.toArray⟩, .bool close]] wq fun e w' => e = .returned (.string S) ∧ Below wq.heap.size wq w') := Lib.hid fun wq ht => by rw [hS, hst]; exact write_calls n body close wq ht (by omega) (by omega)
  have C2 : Hid (∀ wq, Calls Tryz.prog 22 #[.agg #[.int .i64 st, .string ⟨body.toArray⟩, .bool close]] wq fun e w' => e = .returned (.string S) ∧ Below wq.heap.size wq w') := Lib.hid fun wq => by rw [hS, hst]; exact write2_calls n body close wq (by omega) (by omega)
  have C3 : Hid (∀ wq, Calls Tryz.prog 19 #[.int .i64 k0] wq fun e w' => e = .returned (.string RS) ∧ w' = wq) := Lib.hid fun wq => by rw [hRS]; exact reason_calls k0 wq
  have C4 : Hid (∀ wq, Calls Tryz.prog 23 #[.int .i64 k0] wq fun e w' => e = .returned (.string RS) ∧ w' = wq) := Lib.hid fun wq => by rw [hRS]; exact reason2_calls k0 wq
  have C5 : Hid (∀ wq, Glb wq → Ut wq → Calls Tryz.prog 20 #[.string ⟨s.toArray⟩] wq (DecPost D wq)) := Lib.hid fun wq h1 h2 => by rw [hD]; exact decode_calls s wq h1 h2 (by omega)
  have C6 : Hid (∀ wq, Calls Tryz.prog 21 #[.string ⟨s.toArray⟩] wq (DecPost D wq)) := Lib.hid fun wq => by rw [hD]; exact decode2_calls s wq (by omega)
  clear hst hS hRS hD
  have P0 := Lib.hid (show Pw w (.cells #[.int .i64 st, .string ⟨body.toArray⟩, .bool close] 38 (0, 0)) (w.alloc (.cells #[.int .i64 st, .string ⟨body.toArray⟩, .bool close] 38)) from ⟨(Below.refl _ w).alloc (Nat.le_refl _) _, heap_alloc_new w _⟩)
  have HG := Lib.hid hg; have HT := Lib.hid (Lib.tabBelow_of_tabIs ht); have HU := Lib.hid hu
  clear hg ht hu
  go_enter Tryz.func8, Tryz.ntmps8
  go_wp2_with fail
  obtain ⟨w1, hw1⟩ : ∃ w1, w1 = w.alloc (.cells #[.int .i64 st, .string ⟨body.toArray⟩, .bool close] 38) := ⟨_, rfl⟩
  rw [← hw1] at P0 ⊢
  clear hw1
  refine (shown_calls _ (HG.out.below P0.out.1) (HT.out _ P0.out.1) (Nat.le_trans h8 P0.out.1.size)).mono ?_
  rintro e w2 ⟨rfl, k⟩
  have P2 := Lib.hid (P0.out.next k)
  clear k P0
  obtain ⟨q0, q1, q2⟩ := pw_cells3 P2.out
  go_wp2_with fail
  refine (C5.out _ (HG.out.below P2.out.1) (HU.out.below P2.out.1)).mono ?_
  rintro e w3 ⟨rfl, k⟩
  have P3 := Lib.hid (P2.out.next k)
  clear k P2 q0 q1 q2
  go_wp2_with fail
  refine (C6.out _).mono ?_
  rintro e w4 ⟨rfl, k⟩
  have P4 := Lib.hid (P3.out.next k)
  clear k P3 C5 C6 HG HU
  obtain ⟨q0, q1, q2⟩ := pw_cells3 P4.out
  obtain ⟨Z, hZ⟩ : ∃ Z : ByteArray, Z = ⟨(D.getD []).toArray⟩ := ⟨_, rfl⟩
  obtain ⟨Y, hY⟩ : ∃ Y : Bool, Y = D.isSome := ⟨_, rfl⟩
  rw [← hZ, ← hY]
  clear hZ hY
  go_wp2_with fail
  have TW := P4.out.drew
  go_region_held3 (fun w' => w'.cell? ⟨w.heap.size, 0, none⟩ = some (.int .i64 st) ∧ w'.cell? ⟨w.heap.size, 1, none⟩ = some (.string ⟨body.toArray⟩) ∧ w'.cell? ⟨w.heap.size, 2, none⟩ = some (.bool close)) (exact pw_cells3 ‹Pw w (.cells #[.int .i64 st, .string ⟨body.toArray⟩, .bool close] 38 (0, 0)) _›)
    (first
      | (go_at_call 18; refine (C1.out _ (HT.out _ (‹Pw w (.cells #[.int .i64 st, .string ⟨body.toArray⟩, .bool close] 38 (0, 0)) _›).1)).mono ?_; rintro e w8 ⟨rfl, hb8⟩; have TW8 := Pw.next ‹Pw w (.cells #[.int .i64 st, .string ⟨body.toArray⟩, .bool close] 38 (0, 0)) _› hb8)
      | (go_at_call 22; refine (C2.out _).mono ?_; rintro e w8 ⟨rfl, hb8⟩; have TW8 := Pw.next ‹Pw w (.cells #[.int .i64 st, .string ⟨body.toArray⟩, .bool close] 38 (0, 0)) _› hb8)
      | (go_at_call 19; refine (C3.out _).mono ?_; rintro e w8 ⟨rfl, hb8⟩; have hb8 := hb8.symm; subst hb8)
      | (go_at_call 23; refine (C4.out _).mono ?_; rintro e w8 ⟨rfl, hb8⟩; have hb8 := hb8.symm; subst hb8))
  all_goals
    try go_wp2_with fail
    go_ret
    exact ⟨rfl, (‹Pw w (.cells #[.int .i64 st, .string ⟨body.toArray⟩, .bool close] 38 (0, 0)) _›).1⟩

theorem writes_calls (st : Int) (body s : Hx.Bytes) (close : Bool) (k0 : Int) (w : World) (hg : Glb w) (ht : Tb w) (hu : Ut w) (h8 : 8 ≤ w.heap.size) :
    Calls Tryz.prog 8 #[.agg #[.int .i64 st, .string ⟨body.toArray⟩, .bool close], .string ⟨s.toArray⟩, .int .i64 k0] w (LawPost w) := by
  by_cases ho : 3000 < s.length ∨ 20000 < body.length ∨ st < 100 ∨ 999 < st
  · exact writes_out st body s close k0 w hg ht hu h8 ho
  · obtain ⟨n, rfl⟩ : ∃ n : Nat, st = n := ⟨st.toNat, by omega⟩
    exact writes_main n body s close k0 w hg ht hu h8 (by omega) (by omega) (by omega) (by omega)
end Go.Proofs.YthdmdafhldicmaaGreatDoor
