/- WALKS: slices.Index over a row of texts, Get. -/
import Derived.Test.YtbdmepilmoomeaaDoorSh
import Derived.Test.YtbdmepilmoomeaaDoorCxGet
import Derived.Lib.SlicesS
namespace Go.Proofs.YtbdmepilmoomeaaDoor
open Go.RowKit

def ixN (ns : List (List UInt8)) (t : List UInt8) : Int := if t ∈ ns then (ns.idxOf t : Int) else -1

theorem indexS_calls (sn : Value) (ns : List (List UInt8)) (t : List UInt8) (ok : Nat → Prop) (w : World) (h : Row w ok sn ns.length (ns.map strV)) (hn : ns.length ≤ 9223372036854775807) :
    Calls Tryd.prog 30 #[sn, .string ⟨t.toArray⟩] w fun e w' => e = .returned (.int .i64 (ixN ns t)) ∧ w = w' := by
  rcases h with ⟨h0, _, a, cap, rfl⟩ | ⟨h0, g, o, cap, rfl, _, _, _, hc⟩
  · have : ns = [] := List.length_eq_zero_iff.1 h0
    subst this
    refine (Tryd.slices_Index_string_empty a cap ⟨t.toArray⟩ w).mono ?_
    rintro e w' ⟨rfl, rfl⟩
    exact ⟨by simp [ixN]; rfl, rfl⟩
  · refine (Tryd.slices_Index_string g o ns.length cap (ns.map fun t => ⟨t.toArray⟩) ⟨t.toArray⟩ w (by simp) hn ?_).mono ?_
    · intro j hj
      simp only [List.length_map] at hj
      refine hc j _ ?_
      simp [List.getElem?_eq_getElem hj, strV, List.getD]
    · rintro e w' ⟨rfl, rfl⟩
      refine ⟨ret_int ?_, rfl⟩
      have inj : ∀ x y : List UInt8, (⟨x.toArray⟩ : ByteArray) = ⟨y.toArray⟩ → x = y := by
        intro x y h
        injection h with h
        simpa using congrArg Array.toList h
      have hg : ∀ j (hj : j < ns.length), (ns.map fun t => (⟨t.toArray⟩ : ByteArray)).getD j ByteArray.empty = ⟨(ns[j]'hj).toArray⟩ := by
        intro j hj
        simp [List.getD, hj]
      unfold ixN
      by_cases hm : t ∈ ns
      · rw [if_pos hm]
        have hlt := List.idxOf_lt_length_of_mem hm
        refine Lib.idxOfS_hit _ _ _ _ hlt (by simp) ?_ ?_
        · rw [hg _ hlt, List.getElem_idxOf]
        · intro j hj
          rw [hg j (by omega)]
          intro e
          have h1 := List.not_of_lt_findIdx (p := (· == t)) (xs := ns) (i := j) hj
          simp at h1
          exact h1 (inj _ _ e)
      · rw [if_neg hm]
        refine Lib.idxOfS_miss _ _ _ ?_
        intro j hj
        rw [hg j hj]
        intro e
        exact hm (by rw [← inj _ _ e]; exact List.getElem_mem hj)

/-- What 'Get' hands back. -/
def GetPost (v : Cx.J) (t : List UInt8) (w : World) (e : Ending) (w' : World) : Prop :=
  ∃ cs : List Value, e = .returned (.tuple #[.agg cs.toArray, .bool (Cx.get v t).isSome]) ∧ JAt w' (fun g => g < w'.heap.size) ((Cx.get v t).getD (.mk 0 false [] [] [])) cs ∧ Below w.heap.size w w'

set_option maxRecDepth 100000 in
set_option maxHeartbeats 2000000 in
theorem get_calls (v : Cx.J) (cs : List Value) (n : List UInt8) (w : World) (ok : Nat → Prop) (hj : JAt w ok v cs) (hf : fit maxLen v) :
    Calls Tryd.prog 15 #[.agg cs.toArray, .string ⟨n.toArray⟩] w (GetPost v n w) := by
  cases v with
  | mk k is t ns ks =>
  obtain ⟨a, nc, a', kc, rfl⟩ := hj.shape
  have hnl : ns.length ≤ maxLen := hf.2.1
  have hkl : ks.length ≤ maxLen := hf.2.2.2.1
  unfold maxLen at hnl hkl
  have J := Lib.hid hj.all
  have hrow : Row w (fun g => g < w.heap.size) (.slice a ns.length nc) ns.length (ns.map strV) := by
    have hj := J.out
    unfold JAt at hj
    obtain ⟨sn, sk, hcs, h1, _⟩ := hj
    injection hcs with _ hcs; injection hcs with _ hcs; injection hcs with _ hcs; injection hcs with e3 hcs
    rw [e3]; exact h1
  have HROW := Lib.hid hrow
  have hb2 : Below w.heap.size w ((w.alloc (.cells #[.int .i64 k, .bool is, .string ⟨t.toArray⟩, .slice a ns.length nc, .slice a' ks.length kc] 25)).alloc (.cells #[.int .i64 0, .bool false, .string ⟨#[]⟩, .slice none 0 0, .slice none 0 0] 25)) := ((Below.refl w.heap.size w).alloc (Nat.le_refl _) _).alloc (by simp) _
  have HB2 := Lib.hid hb2
  clear hj hf hrow hb2
  have hixb : -1 ≤ ixN ns n ∧ ixN ns n < (ns.length : Int) + 1 := by
    unfold ixN
    split
    · rename_i h; have := List.idxOf_lt_length_of_mem h; omega
    · omega
  obtain ⟨hix1, hix2⟩ := hixb
  go_enter Tryd.func15, Tryd.ntmps15
  go_wp2_with fail
  refine (indexS_calls _ ns n _ _ (HROW.out.below HB2.out) (by omega)).mono ?_
  rintro e w5 ⟨rfl, rfl⟩
  obtain ⟨r, hr⟩ : ∃ r, r = ixN ns n := ⟨_, rfl⟩
  rw [← hr] at hix1 hix2 ⊢
  have HRX := Lib.hid hr
  clear hr
  by_cases hk : k = 6
  · subst hk
    by_cases hneg : r < 0
    · have HGN : Hid (Cx.get (.mk 6 is t ns ks) n = none) := Lib.hid (by
        have h := HRX.out
        unfold ixN at h
        show (if (6 : Int) = 6 ∧ n ∈ ns then ks[ns.idxOf n]? else none) = none
        rw [if_neg]
        rintro ⟨_, hm⟩
        rw [if_pos hm] at h
        omega)
      go_wp2_with fail
      exact bodyPost_ret (v := .tuple #[.agg #[.int .i64 0, .bool false, .string ⟨#[]⟩, .slice none 0 0, .slice none 0 0], .bool false]) (by simp [results, Tryd.results15, go_sem]) rfl ⟨[.int .i64 0, .bool false, .string ⟨#[]⟩, .slice none 0 0, .slice none 0 0], by rw [HGN.out]; rfl, by rw [HGN.out]; exact JAt.plain, HB2.out⟩
    · have hm : n ∈ ns := by
        have h := HRX.out
        unfold ixN at h
        by_cases hm : n ∈ ns
        · exact hm
        · rw [if_neg hm] at h; omega
      have hre : r = (ns.idxOf n : Int) := by rw [HRX.out]; unfold ixN; rw [if_pos hm]
      have hnegd : decide (r < 0) = false := by simp; omega
      obtain ⟨i, hi⟩ : ∃ i, i = ns.idxOf n := ⟨_, rfl⟩
      rw [← hi] at hre
      have HI := Lib.hid hi; have HM := Lib.hid hm
      clear hi hm
      subst hre
      by_cases hge : ks.length ≤ i
      · have HGN : Hid (Cx.get (.mk 6 is t ns ks) n = none) := Lib.hid (by
          show (if (6 : Int) = 6 ∧ n ∈ ns then ks[ns.idxOf n]? else none) = none
          rw [if_pos ⟨rfl, HM.out⟩, ← HI.out]
          exact List.getElem?_eq_none hge)
        have hged : decide ((ks.length : Int) ≤ (i : Int)) = true := by simp; omega
        go_wp2_with fail
        exact bodyPost_ret (v := .tuple #[.agg #[.int .i64 0, .bool false, .string ⟨#[]⟩, .slice none 0 0, .slice none 0 0], .bool false]) (by simp [results, Tryd.results15, go_sem]) rfl ⟨[.int .i64 0, .bool false, .string ⟨#[]⟩, .slice none 0 0, .slice none 0 0], by rw [HGN.out]; rfl, by rw [HGN.out]; exact JAt.plain, HB2.out⟩
      · obtain ⟨k, hk⟩ : ∃ k, ks[i]? = some k := ⟨ks[i]'(by omega), List.getElem?_eq_getElem _⟩
        have HGN : Hid (Cx.get (.mk 6 is t ns ks) n = some k) := Lib.hid (by
          show (if (6 : Int) = 6 ∧ n ∈ ns then ks[ns.idxOf n]? else none) = some k
          rw [if_pos ⟨rfl, HM.out⟩, ← HI.out]
          exact hk)
        obtain ⟨g, o, cap, hv, _, hgl, kb0, kb1, kb2, kb3, hkj, d0, d1, d2, d3, d4⟩ := J.out.kid' hk
        injection hv with ha _ hc
        subst ha hc
        have hged : decide ((ks.length : Int) ≤ (i : Int)) = false := by simp; omega
        have hlt : (i : Int) < (ks.length : Int) := by omega
        have KJ := Lib.hid hkj
        clear hkj hge hk
        go_wp2_with fail
        have hb3 : Below w.heap.size w ((w.alloc (.cells #[.int .i64 6, .bool is, .string ⟨t.toArray⟩, .slice a ns.length nc, .slice (some ⟨g, o, none⟩) ks.length kc] 25)).alloc (.cells #[.int .i64 k.kind, .bool k.is, .string ⟨k.text.toArray⟩, .slice kb0 k.names.length kb1, .slice kb2 k.kids.length kb3] 25)) := ((Below.refl w.heap.size w).alloc (Nat.le_refl _) _).alloc (by simp) _
        exact bodyPost_ret (v := .tuple #[.agg #[.int .i64 k.kind, .bool k.is, .string ⟨k.text.toArray⟩, .slice kb0 k.names.length kb1, .slice kb2 k.kids.length kb3], .bool true]) (by simp [results, Tryd.results15, go_sem]) rfl ⟨[.int .i64 k.kind, .bool k.is, .string ⟨k.text.toArray⟩, .slice kb0 k.names.length kb1, .slice kb2 k.kids.length kb3], by rw [HGN.out]; rfl, by rw [HGN.out]; exact (KJ.out.below hb3).all, hb3⟩
  · have HGN : Hid (Cx.get (.mk k is t ns ks) n = none) := Lib.hid (by
      show (if k = 6 ∧ n ∈ ns then ks[ns.idxOf n]? else none) = none
      rw [if_neg]
      rintro ⟨h6, _⟩
      exact hk h6)
    have hkd : (k != 6) = true := by simpa using hk
    go_wp2_with fail
    exact bodyPost_ret (v := .tuple #[.agg #[.int .i64 0, .bool false, .string ⟨#[]⟩, .slice none 0 0, .slice none 0 0], .bool false]) (by simp [results, Tryd.results15, go_sem]) rfl ⟨[.int .i64 0, .bool false, .string ⟨#[]⟩, .slice none 0 0, .slice none 0 0], by rw [HGN.out]; rfl, by rw [HGN.out]; exact JAt.plain, HB2.out⟩
end Go.Proofs.YtbdmepilmoomeaaDoor
