/- WALKS: a name of an object. -/
import Derived.Test.YtbdmepilmoomeaaGreatDoorJv
import Derived.Lib.SlicesS
namespace Go.Proofs.YtbdmepilmoomeaaGreatDoor
open Go.RowKit

theorem contains_calls (sn : Value) (ns : List (List UInt8)) (t : List UInt8) (ok : Nat → Prop) (w : World) (h : Row w ok sn ns.length (ns.map strV)) (hn : ns.length ≤ 200000) :
    Calls Tryz.prog 103 #[sn, .string ⟨t.toArray⟩] w fun e w' => e = .returned (.bool (decide (t ∈ ns))) ∧ w = w' := by
  rcases h with ⟨h0, _, a, cap, rfl⟩ | ⟨h0, g, o, cap, rfl, _, _, _, hc⟩
  · have : ns = [] := List.length_eq_zero_iff.1 h0
    subst this
    refine (Tryz.slices_Contains_string_empty a cap ⟨t.toArray⟩ w).mono ?_
    rintro e w' ⟨rfl, rfl⟩
    exact ⟨by simp, rfl⟩
  · refine (Tryz.slices_Contains_string g o ns.length cap (ns.map fun t => ⟨t.toArray⟩) ⟨t.toArray⟩ w (by simp) (by omega) ?_).mono ?_
    · intro j hj
      simp only [List.length_map] at hj
      refine hc j _ ?_
      simp [List.getElem?_eq_getElem hj, strV, List.getD]
    · rintro e w' ⟨rfl, rfl⟩
      refine ⟨?_, rfl⟩
      congr 2
      rw [List.take_of_length_le (by simp), Bool.eq_iff_iff, Lib.containsS_iff]
      simp only [List.mem_map, decide_eq_true_eq]
      constructor
      · rintro ⟨t', h1, h2⟩
        injection h2 with h2
        have : t' = t := by simpa using congrArg Array.toList h2
        rw [← this]; exact h1
      · intro h; exact ⟨t, h, rfl⟩

theorem take_word (s : ByteArray) (i : Nat) (m : Int) (b : Nat) (c : UInt8) (hc0 : c ≠ 0) (w : World) (h : Rd b s i m w) (hle : i ≤ s.size) (hs : s.size ≤ maxLen) :
    Calls Tryz.prog 80 #[.pointer (some ⟨b, 0, none⟩), .int .u8 c.toNat] w (Gives (Cx.word s.data.toList [c] i) (At b s m) b w) := by
  by_cases hc : Cx.peek s.data.toList i = c
  · have hlt : i < s.size := Cx.peek_lt (s := s.data.toList) (by rw [hc]; exact hc0)
    have hr : Cx.word s.data.toList [c] i = .ok (i + 1) := by unfold Cx.word; rw [if_pos hc]; rfl
    have := take_ok s i m b w h hlt hs
    rw [← peek_size hlt, hc] at this
    refine this.mono ?_
    rintro e w' ⟨rfl, h1, h2⟩
    exact Gives.ok hr h2 ⟨rfl, h1⟩
  · have hr : Cx.word s.data.toList [c] i = .error (7, i) := by unfold Cx.word; rw [if_neg hc]
    refine (take_bad s i m b c w h hc hle hs).mono ?_
    rintro e w' ⟨rfl, h2⟩
    exact Gives.err hr h2

set_option maxHeartbeats 1000000 in
theorem name_calls (s : ByteArray) (i : Nat) (m : Int) (b : Nat) (sn : Value) (ns : List (List UInt8)) (w : World) (h : Rd b s i m w) (hg : Glb w) (hb8 : 8 ≤ b) (hle : i ≤ s.size) (hs : s.size ≤ 100000)
    (hsn : Row w (fun g => g ≠ b) sn ns.length (ns.map strV)) (hns : ns.length ≤ 200000) :
    Calls Tryz.prog 83 #[.pointer (some ⟨b, 0, none⟩), sn] w (Gives (Cx.name s.data.toList ns i) (TextAt b s m) b w) := by
  have hs' : s.size ≤ maxLen := by unfold maxLen; omega
  obtain ⟨RES, hRES⟩ : ∃ RES, RES = Cx.name s.data.toList ns i := ⟨_, rfl⟩
  rw [← hRES]
  unfold Cx.name at hRES
  have HR := Lib.hid hRES; have H := Lib.hid h; have HG := Lib.hid hg; have HS := Lib.hid hsn
  clear hRES h hg hsn
  go_enter Tryz.func83, Tryz.ntmps83
  go_wp2_with fail
  refine (blanks_calls s i m b _ H.out hle hs').mono ?_
  rintro e w1 ⟨rfl, k1, k2⟩
  have hle1 : Cx.skipB s.data.toList i ≤ s.size := Cx.skipB_len (s := s.data.toList) hle
  generalize hp : Cx.skipB s.data.toList i = p at hle1 k1
  have HR2 := HR.out
  rw [hp] at HR2
  have c1 := k1.c1
  have K1 := Lib.hid k1; have K2 := Lib.hid k2; have G1 := Lib.hid (HG.out.mv k2 hb8)
  have S1 : Hid (Row w1 (fun g => g ≠ b) sn ns.length (ns.map strV)) := Lib.hid (HS.out.kept k2.size fun g hgb hgl => ⟨k2.block g hgl (by simpa using hgb), hgb⟩)
  have HRA := Lib.hid HR2; have HP := Lib.hid hp
  clear k1 k2 HR2 HR H HG HS hp
  go_wp2_with fail
  refine (text_calls s p m b _ K1.out G1.out hb8 hle1 hs).mono ?_
  intro e w2 hgv
  cases ht : Cx.text s.data.toList p with
  | error x =>
    obtain ⟨rfl, k3⟩ := hgv.of_err ht
    have hr := HRA.out
    rw [ht] at hr
    exact ⟨rfl, Gives.err hr (K2.out.trans k3)⟩
  | ok a =>
    obtain ⟨t, j⟩ := a
    obtain ⟨⟨rfl, k3⟩, k4⟩ := hgv.of_ok ht
    have htk := Cx.text_ok ht
    have hlj : j ≤ s.size := htk.2.1
    have hr := HRA.out
    rw [ht] at hr
    simp only at hr
    have HRB := Lib.hid hr; have K3 := Lib.hid k3; have K4 := Lib.hid (K2.out.trans k4)
    have S2 : Hid (Row w2 (fun g => g ≠ b) sn ns.length (ns.map strV)) := Lib.hid (S1.out.kept k4.size fun g hgb hgl => ⟨k4.block g hgl (by simpa using hgb), hgb⟩)
    clear hr htk ht hgv k3 k4 HRA S1 c1
    go_wp2_with fail
    refine (contains_calls sn ns t _ _ S2.out hns).mono ?_
    rintro e w3 ⟨rfl, rfl⟩
    by_cases hm : t ∈ ns
    · have hd : decide (t ∈ ns) = true := by simpa using hm
      have hr := HRB.out
      rw [if_pos hm] at hr
      have HRC := Lib.hid hr
      rw [hd]
      clear hr hm hd HRB
      go_wp2_with (go_at_call 26; refine (give_calls _ _ _ _).mono ?_; rintro e w' ⟨rfl, rfl⟩)
      exact ⟨rfl, Gives.err HRC.out K4.out⟩
    · have hd : decide (t ∈ ns) = false := by simpa using hm
      have hr := HRB.out
      rw [if_neg hm] at hr
      have HRC := Lib.hid hr
      rw [hd]
      clear hr hm hd HRB
      go_wp2_with fail
      refine (blanks_calls s j m b _ K3.out hlj hs').mono ?_
      rintro e w4 ⟨rfl, k5, k6⟩
      have hle5 : Cx.skipB s.data.toList j ≤ s.size := Cx.skipB_len (s := s.data.toList) hlj
      have K5 := Lib.hid k5; have K6 := Lib.hid (K4.out.trans k6)
      clear k5 k6
      go_wp2_with fail
      refine (take_word s (Cx.skipB s.data.toList j) m b 58 (by decide) _ K5.out hle5 hs').mono ?_
      intro e w5 hgv
      cases hw : Cx.word s.data.toList [58] (Cx.skipB s.data.toList j) with
      | error x =>
        obtain ⟨rfl, k7⟩ := hgv.of_err hw
        have hr := HRC.out
        rw [hw] at hr
        exact ⟨rfl, Gives.err hr (K6.out.trans k7)⟩
      | ok k =>
        obtain ⟨⟨rfl, k7⟩, k8⟩ := hgv.of_ok hw
        have hr := HRC.out
        rw [hw] at hr
        simp only at hr
        have HRD := Lib.hid hr; have K7 := Lib.hid k7; have K8 := Lib.hid (K6.out.trans k8)
        clear hr hw hgv k7 k8
        go_wp2
        go_ret
        exact Gives.ok HRD.out K8.out ⟨rfl, K7.out⟩
end Go.Proofs.YtbdmepilmoomeaaGreatDoor
