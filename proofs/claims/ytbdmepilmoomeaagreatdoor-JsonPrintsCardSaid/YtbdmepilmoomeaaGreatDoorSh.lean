/- WALKS: the law's helpers: wrong, shown. -/
import Derived.Test.YtbdmepilmoomeaaGreatDoorSm
namespace Go.Proofs.YtbdmepilmoomeaaGreatDoor
open Go.RowKit

set_option maxRecDepth 100000 in
theorem wrong_true (s : ByteArray) (er p : Int) (w : World) (hg : Glb w) (h8 : 8 ≤ w.heap.size) (hp : (parseT s.data.toList).1 = .mk 0 false [] [] [] ∧ (((parseT s.data.toList).2.1 : Nat) : Int) = er ∧ (((parseT s.data.toList).2.2 : Nat) : Int) = p) :
    Calls Tryz.prog 22 #[.string s, .int .i64 er, .int .i64 p] w fun e w' => e = .returned (.bool true) ∧ Below w.heap.size w w' := by
  have HG := Lib.hid hg; have HP := Lib.hid hp
  clear hg hp
  go_enter Tryz.func22, Tryz.ntmps22
  go_wp2_with fail
  refine (parse_calls s w HG.out h8).mono ?_
  rintro e w5 ⟨cs, rfl, hj, hb⟩
  rw [HP.out.1] at hj
  rw [HP.out.2.1, HP.out.2.2]
  obtain ⟨a, nc, a', kc, rfl⟩ := hj.shape
  have HB := Lib.hid hb
  clear hj hb
  go_wp2
  go_ret
  exact ⟨rfl, HB.out.alloc HB.out.size _⟩

def shownS : List UInt8 := [123, 34, 97, 34, 58, 32, 91, 49, 44, 32, 45, 50, 46, 53, 101, 51, 44, 32, 34, 120, 92, 117, 48, 48, 101, 57, 92, 110, 34, 93, 44, 32, 34, 98, 34, 58, 32, 110, 117, 108, 108, 125]
def shownV : Cx.J := .mk 6 false [] [[97], [98]] [.mk 5 false [] [] [.mk 3 false [49] [] [], .mk 3 false [45, 50, 46, 53, 101, 51] [] [], .mk 4 false [120, 195, 169, 10] [] []], .mk 1 false [] [] []]
theorem shown_parse : Cx.parse shownS = .ok shownV := by kernel_rfl
theorem shown_print : Cx.print shownV = [123, 34, 97, 34, 58, 91, 49, 44, 45, 50, 46, 53, 101, 51, 44, 34, 120, 195, 169, 92, 110, 34, 93, 44, 34, 98, 34, 58, 110, 117, 108, 108, 125] := by kernel_rfl
theorem shown_1 : parseT [] = (.mk 0 false [] [] [], 7, 0) := by kernel_rfl
theorem shown_2 : parseT [48, 49] = (.mk 0 false [] [] [], 7, 1) := by kernel_rfl
theorem shown_3 : parseT [91, 49, 44, 93] = (.mk 0 false [] [] [], 7, 3) := by kernel_rfl
theorem shown_4 : parseT [34, 92, 117, 100, 56, 48, 48, 120, 34] = (.mk 0 false [] [] [], 7, 1) := by kernel_rfl
theorem shown_5 : parseT [123, 34, 97, 34, 58, 49, 44, 34, 97, 34, 58, 50, 125] = (.mk 0 false [] [] [], 11, 7) := by kernel_rfl
theorem shown_6 : parseT [110, 117, 108] = (.mk 0 false [] [] [], 7, 3) := by kernel_rfl
theorem shown_7 : parseT [49, 32, 50] = (.mk 0 false [] [] [], 7, 2) := by kernel_rfl

set_option maxRecDepth 100000 in
set_option maxHeartbeats 2000000 in
theorem shown_calls (w : World) (hg : Glb w) (h8 : 8 ≤ w.heap.size) :
    Calls Tryz.prog 6 #[] w fun e w' => e = .returned (.bool true) ∧ Below w.heap.size w w' := by
  have HG := Lib.hid hg
  clear hg
  go_enter Tryz.func6, Tryz.ntmps6
  go_wp2_with fail
  refine (parse_calls ⟨shownS.toArray⟩ w HG.out h8).mono ?_
  rintro e w1 ⟨cs, rfl, hj, hb⟩
  have hp : parseT (⟨shownS.toArray⟩ : ByteArray).data.toList = (shownV, 0, 0) := by
    rw [show (⟨shownS.toArray⟩ : ByteArray).data.toList = shownS by simp]
    unfold parseT; rw [shown_parse]
  rw [hp] at hj ⊢
  obtain ⟨V, hV⟩ : ∃ V, V = shownV := ⟨_, rfl⟩
  rw [← hV] at hj
  have HV := Lib.hid hV
  have hfit : fit 100000 V := by
    rw [hV]
    exact fit_le (show shownS.length ≤ 100000 by decide) _ (Cx.parse_fit shown_parse)
  have HF := Lib.hid hfit
  clear hV hp hfit
  cases V with
  | mk k is t ns ks =>
  obtain ⟨a, nc, a', kc, rfl⟩ := hj.shape
  have B1 := Lib.hid hb; have J1 := Lib.hid hj.all
  have G1 := Lib.hid (HG.out.below hb)
  clear hb hj
  go_wp2_with fail
  have B2 := Lib.hid (B1.out.alloc B1.out.size (.cells #[.int .i64 k, .bool is, .string ⟨t.toArray⟩, .slice a ns.length nc, .slice a' ks.length kc] 26))
  have hj2 := J1.out.below ((Below.refl w1.heap.size w1).alloc (Nat.le_refl _) (.cells #[.int .i64 k, .bool is, .string ⟨t.toArray⟩, .slice a ns.length nc, .slice a' ks.length kc] 26))
  refine (print_calls (.mk k is t ns ks) [.int .i64 k, .bool is, .string ⟨t.toArray⟩, .slice a ns.length nc, .slice a' ks.length kc] _ _ hj2 HF.out (HG.out.below B2.out) (Nat.le_trans h8 B2.out.size)).mono ?_
  rintro e w2 ⟨rfl, hb⟩
  have B3 := Lib.hid (B2.out.trans (hb.mono B2.out.size))
  clear hb hj2 B1 B2 J1 G1 HF
  rw [HV.out, shown_print]
  clear HV
  go_wp2_with fail
  refine (show Calls Tryz.prog 22 #[.string ⟨#[]⟩, .int .i64 7, .int .i64 0] _ _ from wrong_true ⟨#[]⟩ 7 0 _ (HG.out.below B3.out) (Nat.le_trans h8 B3.out.size) (by rw [show (⟨#[]⟩ : ByteArray).data.toList = [] from rfl, shown_1]; exact ⟨rfl, rfl, rfl⟩)).mono ?_
  rintro e v1 ⟨rfl, hb⟩
  have B4 := Lib.hid (B3.out.trans (hb.mono B3.out.size))
  clear hb B3
  go_wp2_with fail
  refine (show Calls Tryz.prog 22 #[.string ⟨#[48, 49]⟩, .int .i64 7, .int .i64 1] _ _ from wrong_true ⟨#[48, 49]⟩ 7 1 _ (HG.out.below B4.out) (Nat.le_trans h8 B4.out.size) (by rw [show (⟨#[48, 49]⟩ : ByteArray).data.toList = [48, 49] from rfl, shown_2]; exact ⟨rfl, rfl, rfl⟩)).mono ?_
  rintro e v2 ⟨rfl, hb⟩
  have B5 := Lib.hid (B4.out.trans (hb.mono B4.out.size))
  clear hb B4
  go_wp2_with fail
  refine (show Calls Tryz.prog 22 #[.string ⟨#[91, 49, 44, 93]⟩, .int .i64 7, .int .i64 3] _ _ from wrong_true ⟨#[91, 49, 44, 93]⟩ 7 3 _ (HG.out.below B5.out) (Nat.le_trans h8 B5.out.size) (by rw [show (⟨#[91, 49, 44, 93]⟩ : ByteArray).data.toList = [91, 49, 44, 93] from rfl, shown_3]; exact ⟨rfl, rfl, rfl⟩)).mono ?_
  rintro e v3 ⟨rfl, hb⟩
  have B6 := Lib.hid (B5.out.trans (hb.mono B5.out.size))
  clear hb B5
  go_wp2_with fail
  refine (show Calls Tryz.prog 22 #[.string ⟨#[34, 92, 117, 100, 56, 48, 48, 120, 34]⟩, .int .i64 7, .int .i64 1] _ _ from wrong_true ⟨#[34, 92, 117, 100, 56, 48, 48, 120, 34]⟩ 7 1 _ (HG.out.below B6.out) (Nat.le_trans h8 B6.out.size) (by rw [show (⟨#[34, 92, 117, 100, 56, 48, 48, 120, 34]⟩ : ByteArray).data.toList = [34, 92, 117, 100, 56, 48, 48, 120, 34] from rfl, shown_4]; exact ⟨rfl, rfl, rfl⟩)).mono ?_
  rintro e v4 ⟨rfl, hb⟩
  have B7 := Lib.hid (B6.out.trans (hb.mono B6.out.size))
  clear hb B6
  go_wp2_with fail
  refine (show Calls Tryz.prog 22 #[.string ⟨#[123, 34, 97, 34, 58, 49, 44, 34, 97, 34, 58, 50, 125]⟩, .int .i64 11, .int .i64 7] _ _ from wrong_true ⟨#[123, 34, 97, 34, 58, 49, 44, 34, 97, 34, 58, 50, 125]⟩ 11 7 _ (HG.out.below B7.out) (Nat.le_trans h8 B7.out.size) (by rw [show (⟨#[123, 34, 97, 34, 58, 49, 44, 34, 97, 34, 58, 50, 125]⟩ : ByteArray).data.toList = [123, 34, 97, 34, 58, 49, 44, 34, 97, 34, 58, 50, 125] from rfl, shown_5]; exact ⟨rfl, rfl, rfl⟩)).mono ?_
  rintro e v5 ⟨rfl, hb⟩
  have B8 := Lib.hid (B7.out.trans (hb.mono B7.out.size))
  clear hb B7
  go_wp2_with fail
  refine (show Calls Tryz.prog 22 #[.string ⟨#[110, 117, 108]⟩, .int .i64 7, .int .i64 3] _ _ from wrong_true ⟨#[110, 117, 108]⟩ 7 3 _ (HG.out.below B8.out) (Nat.le_trans h8 B8.out.size) (by rw [show (⟨#[110, 117, 108]⟩ : ByteArray).data.toList = [110, 117, 108] from rfl, shown_6]; exact ⟨rfl, rfl, rfl⟩)).mono ?_
  rintro e v6 ⟨rfl, hb⟩
  have B9 := Lib.hid (B8.out.trans (hb.mono B8.out.size))
  clear hb B8
  go_wp2_with fail
  refine (show Calls Tryz.prog 22 #[.string ⟨#[49, 32, 50]⟩, .int .i64 7, .int .i64 2] _ _ from wrong_true ⟨#[49, 32, 50]⟩ 7 2 _ (HG.out.below B9.out) (Nat.le_trans h8 B9.out.size) (by rw [show (⟨#[49, 32, 50]⟩ : ByteArray).data.toList = [49, 32, 50] from rfl, shown_7]; exact ⟨rfl, rfl, rfl⟩)).mono ?_
  rintro e v7 ⟨rfl, hb⟩
  have B10 := Lib.hid (B9.out.trans (hb.mono B9.out.size))
  clear hb B9
  go_wp2
  go_ret
  exact ⟨rfl, B10.out⟩
end Go.Proofs.YtbdmepilmoomeaaGreatDoor
