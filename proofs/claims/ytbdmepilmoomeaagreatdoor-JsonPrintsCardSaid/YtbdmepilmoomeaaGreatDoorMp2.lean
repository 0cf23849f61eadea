/- JsonPrints is proved: for every value and every text the law returns true, and the value reads as it did. Conditions: the package-level variables that the row lists hold what the program's text lays (the card ties them); as the form has it, no string, slice or map that came in takes more than 2^47 - 4096 bytes. -/
import Derived.Test.YtbdmepilmoomeaaGreatDoorSh
import Derived.Test.YtbdmepilmoomeaaGreatDoorMp1
import Derived.Lib.SlicesS
import Derived.Test.YtbdmepilmoomeaaGreatDoorPartsO
import Derived.Test.YtbdmepilmoomeaaGreatDoorCxLaws
import Derived.Test.YtbdmepilmoomeaaGreatDoorJv
import Derived.Test.YtbdmepilmoomeaaGreatDoorBare
import Derived.Test.YtbdmepilmoomeaaGreatDoorShelf
import Derived.Shelf.Strings.SlTrimAscii
import Derived.Shelf.Strconv.AtoiAll
import Derived.Lib.SmallJoins
import Derived.Test.YtbdmepilmoomeaaGreatDoorCl
import Derived.Test.YtbdmepilmoomeaaGreatDoorTie
import Derived.Test.YtbdmepilmoomeaaGreatDoorCards
namespace Go.Proofs.YtbdmepilmoomeaaGreatDoor
open Go.RowKit

def ixN (ns : List (List UInt8)) (t : List UInt8) : Int := if t ∈ ns then (ns.idxOf t : Int) else -1

theorem indexS_calls (sn : Value) (ns : List (List UInt8)) (t : List UInt8) (ok : Nat → Prop) (w : World) (h : Row w ok sn ns.length (ns.map strV)) (hn : ns.length ≤ 9223372036854775807) :
    Calls Tryz.prog 38 #[sn, .string ⟨t.toArray⟩] w fun e w' => e = .returned (.int .i64 (ixN ns t)) ∧ w = w' := by
  rcases h with ⟨h0, _, a, cap, rfl⟩ | ⟨h0, g, o, cap, rfl, _, _, _, hc⟩
  · have : ns = [] := List.length_eq_zero_iff.1 h0
    subst this
    refine (Tryz.slices_Index_string_empty a cap ⟨t.toArray⟩ w).mono ?_
    rintro e w' ⟨rfl, rfl⟩
    exact ⟨by simp [ixN]; rfl, rfl⟩
  · refine (Tryz.slices_Index_string g o ns.length cap (ns.map fun t => ⟨t.toArray⟩) ⟨t.toArray⟩ w (by simp) hn ?_).mono ?_
    · intro j hj
      simp only [List.length_map] at hj
      refine hc j _ ?_
      simp [List.getElem?_eq_getElem hj, strV, List.getD]
    · rintro e w' ⟨rfl, rfl⟩
      refine ⟨ret_int ?_, rfl⟩
      have inj : ∀ x y : List UInt8, (⟨x.toArray⟩ : ByteArray) = ⟨y.toArray⟩ → x = y := by
        intro x y h
        injection h with h
        simpa using congrArg Array.toList h
      have hg : ∀ j (hj : j < ns.length), (ns.map fun t => (⟨t.toArray⟩ : ByteArray)).getD j ByteArray.empty = ⟨(ns[j]'hj).toArray⟩ := by
        intro j hj
        simp [List.getD, hj]
      unfold ixN
      by_cases hm : t ∈ ns
      · rw [if_pos hm]
        have hlt := List.idxOf_lt_length_of_mem hm
        refine Lib.idxOfS_hit _ _ _ _ hlt (by simp) ?_ ?_
        · rw [hg _ hlt, List.getElem_idxOf]
        · intro j hj
          rw [hg j (by omega)]
          intro e
          have h1 := List.not_of_lt_findIdx (p := (· == t)) (xs := ns) (i := j) hj
          simp at h1
          exact h1 (inj _ _ e)
      · rw [if_neg hm]
        refine Lib.idxOfS_miss _ _ _ ?_
        intro j hj
        rw [hg j hj]
        intro e
        exact hm (by rw [← inj _ _ e]; exact List.getElem_mem hj)

/-- What 'Get' hands back. -/
def GetPost (v : Cx.J) (t : List UInt8) (w : World) (e : Ending) (w' : World) : Prop :=
  ∃ cs : List Value, e = .returned (.tuple #[.agg cs.toArray, .bool (Cx.get v t).isSome]) ∧ JAt w' (fun g => g < w'.heap.size) ((Cx.get v t).getD (.mk 0 false [] [] [])) cs ∧ Below w.heap.size w w'

set_option maxRecDepth 100000 in
set_option maxHeartbeats 2000000 in
theorem get_calls (v : Cx.J) (cs : List Value) (n : List UInt8) (w : World) (ok : Nat → Prop) (hj : JAt w ok v cs) (hf : fit maxLen v) :
    Calls Tryz.prog 14 #[.agg cs.toArray, .string ⟨n.toArray⟩] w (GetPost v n w) := by
  cases v with
  | mk k is t ns ks =>
  obtain ⟨a, nc, a', kc, rfl⟩ := hj.shape
  have hnl : ns.length ≤ maxLen := hf.2.1
  have hkl : ks.length ≤ maxLen := hf.2.2.2.1
  unfold maxLen at hnl hkl
  have J := Lib.hid hj.all
  have hrow : Row w (fun g => g < w.heap.size) (.slice a ns.length nc) ns.length (ns.map strV) := by
    have hj := J.out
    unfold JAt at hj
    obtain ⟨sn, sk, hcs, h1, _⟩ := hj
    injection hcs with _ hcs; injection hcs with _ hcs; injection hcs with _ hcs; injection hcs with e3 hcs
    rw [e3]; exact h1
  have HROW := Lib.hid hrow
  have hb2 : Below w.heap.size w ((w.alloc (.cells #[.int .i64 k, .bool is, .string ⟨t.toArray⟩, .slice a ns.length nc, .slice a' ks.length kc] 26)).alloc (.cells #[.int .i64 0, .bool false, .string ⟨#[]⟩, .slice none 0 0, .slice none 0 0] 26)) := ((Below.refl w.heap.size w).alloc (Nat.le_refl _) _).alloc (by simp) _
  have HB2 := Lib.hid hb2
  clear hj hf hrow hb2
  have hixb : -1 ≤ ixN ns n ∧ ixN ns n < (ns.length : Int) + 1 := by
    unfold ixN
    split
    · rename_i h; have := List.idxOf_lt_length_of_mem h; omega
    · omega
  obtain ⟨hix1, hix2⟩ := hixb
  go_enter Tryz.func14, Tryz.ntmps14
  go_wp2_with fail
  refine (indexS_calls _ ns n _ _ (HROW.out.below HB2.out) (by omega)).mono ?_
  rintro e w5 ⟨rfl, rfl⟩
  obtain ⟨r, hr⟩ : ∃ r, r = ixN ns n := ⟨_, rfl⟩
  rw [← hr] at hix1 hix2 ⊢
  have HRX := Lib.hid hr
  clear hr
  by_cases hk : k = 6
  · subst hk
    by_cases hneg : r < 0
    · have HGN : Hid (Cx.get (.mk 6 is t ns ks) n = none) := Lib.hid (by
        have h := HRX.out
        unfold ixN at h
        show (if (6 : Int) = 6 ∧ n ∈ ns then ks[ns.idxOf n]? else none) = none
        rw [if_neg]
        rintro ⟨_, hm⟩
        rw [if_pos hm] at h
        omega)
      go_wp2_with fail
      exact bodyPost_ret (v := .tuple #[.agg #[.int .i64 0, .bool false, .string ⟨#[]⟩, .slice none 0 0, .slice none 0 0], .bool false]) (by simp [results, Tryz.results14, go_sem]) rfl ⟨[.int .i64 0, .bool false, .string ⟨#[]⟩, .slice none 0 0, .slice none 0 0], by rw [HGN.out]; rfl, by rw [HGN.out]; exact JAt.plain, HB2.out⟩
    · have hm : n ∈ ns := by
        have h := HRX.out
        unfold ixN at h
        by_cases hm : n ∈ ns
        · exact hm
        · rw [if_neg hm] at h; omega
      have hre : r = (ns.idxOf n : Int) := by rw [HRX.out]; unfold ixN; rw [if_pos hm]
      have hnegd : decide (r < 0) = false := by simp; omega
      obtain ⟨i, hi⟩ : ∃ i, i = ns.idxOf n := ⟨_, rfl⟩
      rw [← hi] at hre
      have HI := Lib.hid hi; have HM := Lib.hid hm
      clear hi hm
      subst hre
      by_cases hge : ks.length ≤ i
      · have HGN : Hid (Cx.get (.mk 6 is t ns ks) n = none) := Lib.hid (by
          show (if (6 : Int) = 6 ∧ n ∈ ns then ks[ns.idxOf n]? else none) = none
          rw [if_pos ⟨rfl, HM.out⟩, ← HI.out]
          exact List.getElem?_eq_none hge)
        have hged : decide ((ks.length : Int) ≤ (i : Int)) = true := by simp; omega
        go_wp2_with fail
        exact bodyPost_ret (v := .tuple #[.agg #[.int .i64 0, .bool false, .string ⟨#[]⟩, .slice none 0 0, .slice none 0 0], .bool false]) (by simp [results, Tryz.results14, go_sem]) rfl ⟨[.int .i64 0, .bool false, .string ⟨#[]⟩, .slice none 0 0, .slice none 0 0], by rw [HGN.out]; rfl, by rw [HGN.out]; exact JAt.plain, HB2.out⟩
      · obtain ⟨k, hk⟩ : ∃ k, ks[i]? = some k := ⟨ks[i]'(by omega), List.getElem?_eq_getElem _⟩
        have HGN : Hid (Cx.get (.mk 6 is t ns ks) n = some k) := Lib.hid (by
          show (if (6 : Int) = 6 ∧ n ∈ ns then ks[ns.idxOf n]? else none) = some k
          rw [if_pos ⟨rfl, HM.out⟩, ← HI.out]
          exact hk)
        obtain ⟨g, o, cap, hv, _, hgl, kb0, kb1, kb2, kb3, hkj, d0, d1, d2, d3, d4⟩ := J.out.kid' hk
        injection hv with ha _ hc
        subst ha hc
        have hged : decide ((ks.length : Int) ≤ (i : Int)) = false := by simp; omega
        have hlt : (i : Int) < (ks.length : Int) := by omega
        have KJ := Lib.hid hkj
        clear hkj hge hk
        go_wp2_with fail
        have hb3 : Below w.heap.size w ((w.alloc (.cells #[.int .i64 6, .bool is, .string ⟨t.toArray⟩, .slice a ns.length nc, .slice (some ⟨g, o, none⟩) ks.length kc] 26)).alloc (.cells #[.int .i64 k.kind, .bool k.is, .string ⟨k.text.toArray⟩, .slice kb0 k.names.length kb1, .slice kb2 k.kids.length kb3] 26)) := ((Below.refl w.heap.size w).alloc (Nat.le_refl _) _).alloc (by simp) _
        exact bodyPost_ret (v := .tuple #[.agg #[.int .i64 k.kind, .bool k.is, .string ⟨k.text.toArray⟩, .slice kb0 k.names.length kb1, .slice kb2 k.kids.length kb3], .bool true]) (by simp [results, Tryz.results14, go_sem]) rfl ⟨[.int .i64 k.kind, .bool k.is, .string ⟨k.text.toArray⟩, .slice kb0 k.names.length kb1, .slice kb2 k.kids.length kb3], by rw [HGN.out]; rfl, by rw [HGN.out]; exact (KJ.out.below hb3).all, hb3⟩
  · have HGN : Hid (Cx.get (.mk k is t ns ks) n = none) := Lib.hid (by
      show (if k = 6 ∧ n ∈ ns then ks[ns.idxOf n]? else none) = none
      rw [if_neg]
      rintro ⟨h6, _⟩
      exact hk h6)
    have hkd : (k != 6) = true := by simpa using hk
    go_wp2_with fail
    exact bodyPost_ret (v := .tuple #[.agg #[.int .i64 0, .bool false, .string ⟨#[]⟩, .slice none 0 0, .slice none 0 0], .bool false]) (by simp [results, Tryz.results14, go_sem]) rfl ⟨[.int .i64 0, .bool false, .string ⟨#[]⟩, .slice none 0 0, .slice none 0 0], by rw [HGN.out]; rfl, by rw [HGN.out]; exact JAt.plain, HB2.out⟩
end Go.Proofs.YtbdmepilmoomeaaGreatDoor

namespace Go.Proofs.YtbdmepilmoomeaaGreatDoor
open Go.RowKit

theorem put5_below {w wr : World} {a b c d e : Value} (h : Below w.heap.size w wr) : Below w.heap.size w (put5 wr (w.heap.size + 1) a b c d e) :=
  ((((h.setCell (by simp) a).setCell (by simp) b).setCell (by simp) c).setCell (by simp) d).setCell (by simp) e
theorem idx_ge {ns : List (List UInt8)} {n : List UInt8} {i : Nat} (h : n ∉ ns.take i) : min i ns.length ≤ ns.idxOf n := by
  rcases Nat.lt_or_ge (ns.idxOf n) (min i ns.length) with hlt | hge
  · exfalso
    refine h ?_
    have hl : ns.idxOf n < ns.length := by omega
    have : (ns.take i)[ns.idxOf n]? = some n := by
      rw [List.getElem?_take, if_pos (by omega), List.getElem?_eq_getElem hl, List.getElem_idxOf]
    exact List.mem_of_getElem? this
  · exact hge
theorem idx_eq {ns : List (List UInt8)} {n : List UInt8} {i : Nat} (hm : ns[i]? = some n) (h : n ∉ ns.take i) : ns.idxOf n = i := by
  obtain ⟨hl, he⟩ := List.getElem?_eq_some_iff.1 hm
  have h1 := idx_ge h
  have h2 : ns.idxOf n ≤ i := by
    rcases Nat.lt_or_ge i (ns.idxOf n) with hlt | hge
    · exfalso
      have h3 := List.not_of_lt_findIdx (p := (· == n)) (xs := ns) (i := i) hlt
      simp at h3
      exact h3 he
    · exact hge
  omega

set_option maxRecDepth 100000 in
set_option maxHeartbeats 2000000 in
theorem get2_calls (v : Cx.J) (cs : List Value) (n : List UInt8) (w : World) (ok : Nat → Prop) (hj : JAt w ok v cs) (hf : fit maxLen v) :
    Calls Tryz.prog 15 #[.agg cs.toArray, .string ⟨n.toArray⟩] w (GetPost v n w) := by
  cases v with
  | mk k is t ns ks =>
  obtain ⟨a, nc, a', kc, rfl⟩ := hj.shape
  have hnl : ns.length ≤ maxLen := hf.2.1
  have hkl : ks.length ≤ maxLen := hf.2.2.2.1
  unfold maxLen at hnl hkl
  have J := Lib.hid hj.all
  have HB := Lib.hid (((Below.refl w.heap.size w).alloc (Nat.le_refl _) (.cells #[.int .i64 k, .bool is, .string ⟨t.toArray⟩, .slice a ns.length nc, .slice a' ks.length kc] 26)).alloc (by simp) (.cells #[.int .i64 0, .bool false, .string ⟨#[]⟩, .slice none 0 0, .slice none 0 0] 26))
  have HBX := Lib.hid ((Below.heap_alloc _ (.cells #[.int .i64 0, .bool false, .string ⟨#[]⟩, .slice none 0 0, .slice none 0 0] 26) _ (by simp)).trans (heap_alloc_new w (.cells #[.int .i64 k, .bool is, .string ⟨t.toArray⟩, .slice a ns.length nc, .slice a' ks.length kc] 26)))
  have HRX := Lib.hid (show ((w.alloc (.cells #[.int .i64 k, .bool is, .string ⟨t.toArray⟩, .slice a ns.length nc, .slice a' ks.length kc] 26)).alloc (.cells #[.int .i64 0, .bool false, .string ⟨#[]⟩, .slice none 0 0, .slice none 0 0] 26)).heap[w.heap.size + 1]? = some (.cells #[.int .i64 0, .bool false, .string ⟨#[]⟩, .slice none 0 0, .slice none 0 0] 26 (0, 0)) from by have := heap_alloc_new (w.alloc (.cells #[.int .i64 k, .bool is, .string ⟨t.toArray⟩, .slice a ns.length nc, .slice a' ks.length kc] 26)) (.cells #[.int .i64 0, .bool false, .string ⟨#[]⟩, .slice none 0 0, .slice none 0 0] 26); rw [show (w.alloc (.cells #[.int .i64 k, .bool is, .string ⟨t.toArray⟩, .slice a ns.length nc, .slice a' ks.length kc] 26)).heap.size = w.heap.size + 1 by simp] at this; exact this)
  clear hj hf
  go_enter Tryz.func15, Tryz.ntmps15
  go_wp2_with fail
  go_loopg [6] (ns.length) (fun q z wr => ∃ (i : Nat), z = .int .i64 i ∧ q = ns.length - i ∧ i ≤ ns.length ∧ i ≤ ks.length ∧ Hid (n ∉ ns.take i) ∧ Hid (Below w.heap.size w wr) ∧ Hid (wr.heap[w.heap.size]? = some (.cells #[.int .i64 k, .bool is, .string ⟨t.toArray⟩, .slice a ns.length nc, .slice a' ks.length kc] 26 (0, 0))) ∧ Hid (wr.heap[w.heap.size + 1]? = some (.cells #[.int .i64 0, .bool false, .string ⟨#[]⟩, .slice none 0 0, .slice none 0 0] 26 (0, 0))))
  case atStart => exact ⟨0, rfl, rfl, Nat.zero_le _, Nat.zero_le _, Lib.hid (by simp), HB, HBX, HRX⟩
  case round =>
    clear HB HBX HRX
    obtain ⟨i, rfl, hq, hi, hik, HT, hb, HBX, HRX⟩ := hrel
    obtain ⟨r0, r1, r2, r3, r4, rf⟩ := cells5 HRX.out
    have rf0 := rf 0
    obtain ⟨q0, q1, q2, q3, q4, _⟩ := cells5 HBX.out
    have hsz : w.heap.size < wr.heap.size := heap_lt HBX.out
    have HQ := Lib.hid hq
    clear hq
    by_cases hlt : i < ns.length
    rotate_left
    · have hie : i = ns.length := by omega
      have HGN : Hid (Cx.get (.mk k is t ns ks) n = none) := Lib.hid (by
        show (if k = 6 ∧ n ∈ ns then ks[ns.idxOf n]? else none) = none
        rw [if_neg]
        rintro ⟨_, hm⟩
        have := HT.out
        rw [hie, List.take_length] at this
        exact this hm)
      have hltI : ¬ (i : Int) < (ns.length : Int) := by omega
      clear hlt
      obtain ⟨z0, z1, z2, z3, z4, _⟩ := cells5 (put5_heap (a := .int .i64 0) (b := .bool false) (c := .string ⟨#[]⟩) (d := .slice none 0 0) (e := .slice none 0 0) HRX.out)
      have Z := Lib.hid (And.intro z0 (And.intro z1 (And.intro z2 (And.intro z3 z4))))
      clear z0 z1 z2 z3 z4
      go_wp2_with fail
      obtain ⟨z0, z1, z2, z3, z4⟩ := Z.out
      refine bodyPost_ret (v := .tuple #[.agg #[.int .i64 0, .bool false, .string ⟨#[]⟩, .slice none 0 0, .slice none 0 0], .bool false]) (by simp [results, Tryz.results15, go_sem, z0, z1, z2, z3, z4]) rfl ?_
      exact ⟨[.int .i64 0, .bool false, .string ⟨#[]⟩, .slice none 0 0, .slice none 0 0], by rw [HGN.out]; rfl, by rw [HGN.out]; exact JAt.plain, put5_below hb.out⟩
    have hltI : (i : Int) < (ns.length : Int) := by omega
    by_cases hlk : i < ks.length
    rotate_left
    · have hie : i = ks.length := by omega
      have HGN : Hid (Cx.get (.mk k is t ns ks) n = none) := Lib.hid (by
        show (if k = 6 ∧ n ∈ ns then ks[ns.idxOf n]? else none) = none
        by_cases h : k = 6 ∧ n ∈ ns
        · rw [if_pos h]
          refine List.getElem?_eq_none ?_
          rw [← hie]
          have := idx_ge HT.out; omega
        · rw [if_neg h])
      have hlkI : ¬ (i : Int) < (ks.length : Int) := by omega
      clear hlk
      obtain ⟨z0, z1, z2, z3, z4, _⟩ := cells5 (put5_heap (a := .int .i64 0) (b := .bool false) (c := .string ⟨#[]⟩) (d := .slice none 0 0) (e := .slice none 0 0) HRX.out)
      have Z := Lib.hid (And.intro z0 (And.intro z1 (And.intro z2 (And.intro z3 z4))))
      clear z0 z1 z2 z3 z4
      go_wp2_with fail
      obtain ⟨z0, z1, z2, z3, z4⟩ := Z.out
      refine bodyPost_ret (v := .tuple #[.agg #[.int .i64 0, .bool false, .string ⟨#[]⟩, .slice none 0 0, .slice none 0 0], .bool false]) (by simp [results, Tryz.results15, go_sem, z0, z1, z2, z3, z4]) rfl ?_
      exact ⟨[.int .i64 0, .bool false, .string ⟨#[]⟩, .slice none 0 0, .slice none 0 0], by rw [HGN.out]; rfl, by rw [HGN.out]; exact JAt.plain, put5_below hb.out⟩
    have hlkI : (i : Int) < (ks.length : Int) := by omega
    by_cases hk6 : k = 6
    rotate_left
    · have HGN : Hid (Cx.get (.mk k is t ns ks) n = none) := Lib.hid (by
        show (if k = 6 ∧ n ∈ ns then ks[ns.idxOf n]? else none) = none
        rw [if_neg]
        rintro ⟨h6, _⟩
        exact hk6 h6)
      have n6 : (k == 6) = false := by simpa using hk6
      clear hk6
      obtain ⟨z0, z1, z2, z3, z4, _⟩ := cells5 (put5_heap (a := .int .i64 0) (b := .bool false) (c := .string ⟨#[]⟩) (d := .slice none 0 0) (e := .slice none 0 0) HRX.out)
      have Z := Lib.hid (And.intro z0 (And.intro z1 (And.intro z2 (And.intro z3 z4))))
      clear z0 z1 z2 z3 z4
      go_wp2_with fail
      obtain ⟨z0, z1, z2, z3, z4⟩ := Z.out
      refine bodyPost_ret (v := .tuple #[.agg #[.int .i64 0, .bool false, .string ⟨#[]⟩, .slice none 0 0, .slice none 0 0], .bool false]) (by simp [results, Tryz.results15, go_sem, z0, z1, z2, z3, z4]) rfl ?_
      exact ⟨[.int .i64 0, .bool false, .string ⟨#[]⟩, .slice none 0 0, .slice none 0 0], by rw [HGN.out]; rfl, by rw [HGN.out]; exact JAt.plain, put5_below hb.out⟩
    subst hk6
    obtain ⟨m, hm⟩ : ∃ m, ns[i]? = some m := ⟨ns[i], by simp [hlt]⟩
    obtain ⟨g, o, cap, hv, hgB, hgl, hnc⟩ := J.out.name' hm
    injection hv with ha _ hc
    subst ha hc
    have b5 := (hb.out.cell (p := ⟨g, o + i, none⟩) hgB).trans hnc
    have HM := Lib.hid hm
    clear hnc hm
    by_cases he : m = n
    · subst he
      obtain ⟨x, hx⟩ : ∃ x, ks[i]? = some x := ⟨ks[i]'(by omega), List.getElem?_eq_getElem _⟩
      have HGN : Hid (Cx.get (.mk 6 is t ns ks) m = some x) := Lib.hid (by
        show (if (6 : Int) = 6 ∧ m ∈ ns then ks[ns.idxOf m]? else none) = some x
        rw [if_pos ⟨rfl, List.mem_of_getElem? HM.out⟩, idx_eq HM.out HT.out]
        exact hx)
      obtain ⟨g', o', cap', hv', _, hgl', kb0, kb1, kb2, kb3, hkj, d0, d1, d2, d3, d4⟩ := J.out.kid' hx
      injection hv' with ha' _ hc'
      subst ha' hc'
      have b0 := (hb.out.cell (p := ⟨g', o' + i * 5, none⟩) hgl').trans d0
      have b1 := (hb.out.cell (p := ⟨g', o' + i * 5 + 1, none⟩) hgl').trans d1
      have b2 := (hb.out.cell (p := ⟨g', o' + i * 5 + 2, none⟩) hgl').trans d2
      have b3 := (hb.out.cell (p := ⟨g', o' + i * 5 + 3, none⟩) hgl').trans d3
      have b4 := (hb.out.cell (p := ⟨g', o' + i * 5 + 4, none⟩) hgl').trans d4
      have KJ := Lib.hid hkj
      clear hkj d0 d1 d2 d3 d4 hx
      obtain ⟨z0, z1, z2, z3, z4, _⟩ := cells5 (put5_heap (a := .int .i64 x.kind) (b := .bool x.is) (c := .string ⟨x.text.toArray⟩) (d := .slice kb0 x.names.length kb1) (e := .slice kb2 x.kids.length kb3) HRX.out)
      have Z := Lib.hid (And.intro z0 (And.intro z1 (And.intro z2 (And.intro z3 z4))))
      clear z0 z1 z2 z3 z4
      go_wp2_with fail
      obtain ⟨z0, z1, z2, z3, z4⟩ := Z.out
      refine bodyPost_ret (v := .tuple #[.agg #[.int .i64 x.kind, .bool x.is, .string ⟨x.text.toArray⟩, .slice kb0 x.names.length kb1, .slice kb2 x.kids.length kb3], .bool true]) (by simp [results, Tryz.results15, go_sem, z0, z1, z2, z3, z4]) rfl ?_
      have hb3 := put5_below (a := .int .i64 x.kind) (b := .bool x.is) (c := .string ⟨x.text.toArray⟩) (d := .slice kb0 x.names.length kb1) (e := .slice kb2 x.kids.length kb3) hb.out
      exact ⟨[.int .i64 x.kind, .bool x.is, .string ⟨x.text.toArray⟩, .slice kb0 x.names.length kb1, .slice kb2 x.kids.length kb3], by rw [HGN.out]; rfl, by rw [HGN.out]; exact (KJ.out.below hb3).all, hb3⟩
    · have heb : (m == n) = false := by simpa using he
      have HE := Lib.hid he
      clear he
      go_wp2_with fail
      go_roundg (ns.length - (i + 1))
      case measure => have := HQ.out; omega
      case rel => exact ⟨i + 1, by go_num, rfl, by omega, by omega, Lib.hid (by rw [List.take_add_one, HM.out]; simp only [Option.toList_some, List.mem_append, List.mem_singleton, not_or]; exact ⟨HT.out, fun h => HE.out h.symm⟩), hb, HBX, HRX⟩
end Go.Proofs.YtbdmepilmoomeaaGreatDoor

namespace Cx

/-- What digits say. -/
def digVal (l : Bytes) : Nat := l.foldl (fun n c => 10 * n + (c.toNat - 48)) 0
/-- Without a minus ahead. -/
def unsign (t : Bytes) : Bytes := match t with | 45 :: r => r | t => t
/-- The int that a number is, if it has at most fifteen digits and nothing else. -/
def toIntT (t : Bytes) : Option Int :=
  if unsign t ≠ [] ∧ (unsign t).length ≤ 15 ∧ (unsign t).all isDig = true
  then some (if t.head? = some 45 then -(digVal (unsign t) : Int) else (digVal (unsign t) : Int)) else none
def toInt : J → Option Int
  | .mk k _ t _ _ => if k = 3 then toIntT t else none

/-- A number in decimal digits. -/
def dec (n : Nat) : Bytes := if h : n < 10 then [UInt8.ofNat (48 + n)] else dec (n / 10) ++ [UInt8.ofNat (48 + n % 10)]
termination_by n
decreasing_by omega
def decI (n : Int) : Bytes := if n < 0 then 45 :: dec n.natAbs else dec n.natAbs

theorem dec_small {n : Nat} (h : n < 10) : dec n = [UInt8.ofNat (48 + n)] := by unfold dec; rw [dif_pos h]
theorem dec_big {n : Nat} (h : ¬ n < 10) : dec n = dec (n / 10) ++ dec (n % 10) := by
  conv => lhs; unfold dec
  rw [dif_neg h, dec_small (n := n % 10) (by omega)]
theorem isDig_of {n : Nat} (h : n < 10) : isDig (UInt8.ofNat (48 + n)) = true := by
  have : ∀ n : Fin 10, isDig (UInt8.ofNat (48 + n.val)) = true := by decide
  exact this ⟨n, h⟩
theorem toNat_of {n : Nat} (h : n < 10) : (UInt8.ofNat (48 + n)).toNat = 48 + n := by
  have : ∀ n : Fin 10, (UInt8.ofNat (48 + n.val)).toNat = 48 + n.val := by decide
  exact this ⟨n, h⟩
theorem dec_dig (n : Nat) : ∀ c ∈ dec n, isDig c = true := by
  unfold dec
  split
  · rename_i h
    intro c hc
    simp only [List.mem_singleton] at hc
    subst hc; exact isDig_of h
  · rename_i h
    intro c hc
    rcases List.mem_append.1 hc with hc | hc
    · exact dec_dig (n / 10) c hc
    · simp only [List.mem_singleton] at hc
      subst hc; exact isDig_of (by omega)
termination_by n
decreasing_by omega
theorem dec_ne (n : Nat) : dec n ≠ [] := by
  unfold dec; split <;> simp
theorem digVal_snoc (l : Bytes) (c : UInt8) : digVal (l ++ [c]) = 10 * digVal l + (c.toNat - 48) := by
  unfold digVal; rw [List.foldl_append]; rfl
theorem dec_val (n : Nat) : digVal (dec n) = n := by
  unfold dec
  split
  · rename_i h
    unfold digVal
    simp only [List.foldl]
    rw [toNat_of h]; omega
  · rename_i h
    rw [digVal_snoc, dec_val (n / 10), toNat_of (by omega)]; omega
termination_by n
decreasing_by omega
theorem dec_length : ∀ (k n : Nat), n < 10 ^ (k + 1) → (dec n).length ≤ k + 1
  | 0, n, h => by rw [dec_small (by simpa using h)]; simp
  | k + 1, n, h => by
    by_cases h1 : n < 10
    · rw [dec_small h1]; simp
    · rw [dec_big h1, List.length_append, dec_small (n := n % 10) (by omega)]
      have := dec_length k (n / 10) (by rw [Nat.pow_succ] at h; omega)
      simp; omega
/-- Its first digit is no 0, but for 0. -/
theorem dec_head (n : Nat) : (dec n).length = 1 ∨ (dec n).head? ≠ some 48 := by
  unfold dec
  split
  · left; rfl
  · rename_i h
    right
    have h1 := dec_ne (n / 10)
    rw [show (dec (n / 10) ++ [UInt8.ofNat (48 + n % 10)]).head? = (dec (n / 10)).head? from by cases hx : dec (n / 10) with | nil => exact absurd hx h1 | cons c l => rfl]
    rcases dec_head (n / 10) with g | g
    · by_cases h2 : n / 10 < 10
      · rw [dec_small h2]
        simp only [List.head?_cons]
        intro e
        injection e with e
        have := congrArg UInt8.toNat e
        rw [toNat_of h2] at this
        simp at this; omega
      · have h3 := dec_big h2
        have h4 : 0 < (dec (n / 10 / 10)).length := List.length_pos_iff.2 (dec_ne _)
        have h5 : 0 < (dec (n / 10 % 10)).length := List.length_pos_iff.2 (dec_ne _)
        rw [h3, List.length_append] at g; omega
    · exact g
termination_by n
decreasing_by omega

theorem skipD_over {s ds r : Bytes} {i : Nat} (h : s.drop i = ds ++ r) (hd : ∀ c ∈ ds, isDig c = true) (hr : isDig (r.headD 0) = false) : skipD s i = i + ds.length := by
  unfold skipD
  rw [h, List.takeWhile_append_of_pos hd]
  cases r with
  | nil => simp
  | cons c r => simp [show isDig c = false from hr]
theorem dig_not {c : UInt8} (h : isDig c = true) : c ≠ 45 ∧ c ≠ 46 ∧ c ≠ 101 ∧ c ≠ 69 ∧ c ≠ 43 := by
  refine ⟨?_, ?_, ?_, ?_, ?_⟩ <;> (rintro rfl; revert h; decide)

theorem numInt_dec {s r : Bytes} {i n : Nat} (h : s.drop i = dec n ++ r) (hr : isDig (r.headD 0) = false) : numInt s i = .ok (i + (dec n).length) := by
  have hd := dec_dig n
  unfold numInt
  cases hx : dec n with
  | nil => exact absurd hx (dec_ne n)
  | cons c l =>
    have hp : peek s i = c := peek_drop (r := l ++ r) (by rw [h, hx]; rfl)
    by_cases h48 : c = 48
    · have hl : (dec n).length = 1 := by
        rcases dec_head n with g | g
        · exact g
        · rw [hx] at g; exact absurd (by rw [h48]; rfl) g
      rw [hx] at hl
      have ho : opt s [48] i = i + 1 := by unfold opt; rw [hp, if_pos (by simp [h48])]
      rw [if_neg (by omega), hl]
    · have ho : opt s [48] i = i := by unfold opt; rw [hp, if_neg (by simpa using h48)]
      rw [if_pos ho]
      have hk := skipD_over h hd hr
      unfold digits
      rw [hk, hx, if_neg (by simp)]

/-- A number: its sign, its digits, and nothing or an exponent 0. -/
theorem isNum_dec (n : Nat) (neg : Bool) (ex : Bool) (hn : n < 10 ^ 15) : isNum ((if neg then [45] else []) ++ (dec n ++ (if ex then [101, 48] else []))) := by
  have hlen := dec_length 14 n hn
  have hd := dec_dig n
  obtain ⟨r, hr⟩ : ∃ r : Bytes, r = if ex then [101, 48] else [] := ⟨_, rfl⟩
  rw [← hr]
  have hr0 : isDig (r.headD 0) = false := by cases ex <;> simp [hr] <;> decide
  obtain ⟨s, hs⟩ : ∃ s : Bytes, s = (if neg then [45] else []) ++ (dec n ++ r) := ⟨_, rfl⟩
  rw [← hs]
  obtain ⟨a, ha⟩ : ∃ a : Nat, a = if neg then 1 else 0 := ⟨_, rfl⟩
  have hdrop : s.drop a = dec n ++ r := by cases neg <;> simp [ha, hs]
  have hopt : opt s [45] 0 = a := by
    unfold opt
    cases neg
    · cases hx : dec n with
      | nil => exact absurd hx (dec_ne n)
      | cons c l =>
        have hp : peek s 0 = c := peek_drop (r := l ++ r) (by rw [hs, hx]; rfl)
        have := dig_not (hd c (by rw [hx]; simp))
        rw [hp, if_neg (by simpa using this.1), ha]; rfl
    · have hp : peek s 0 = 45 := peek_drop (r := dec n ++ r) (by rw [hs]; rfl)
      rw [hp, if_pos (by simp), ha]; rfl
  have hsl : s.length = a + (dec n).length + r.length := by cases neg <;> simp [ha, hs] <;> omega
  have hrl : r.length ≤ 2 := by cases ex <;> simp [hr]
  have hb : s.drop (a + (dec n).length) = r := drop_add hdrop
  unfold isNum number
  rw [hopt, numInt_dec hdrop hr0]
  simp only
  have hfr : numFrac s (a + (dec n).length) = .ok (a + (dec n).length) := by
    unfold numFrac opt
    cases ex
    · rw [peek_end (by rw [hsl, hr]; simp)]; simp
    · rw [peek_drop (c := 101) (r := [48]) (by rw [hb, hr]; rfl)]; simp
  rw [hfr]
  simp only
  have hex : numExp s (a + (dec n).length) = .ok s.length := by
    unfold numExp
    cases ex
    · have ho : opt s [101, 69] (a + (dec n).length) = a + (dec n).length := by
        unfold opt; rw [peek_end (by rw [hsl, hr]; simp)]; simp
      rw [if_pos ho, hsl, hr]; simp
    · have hb' : s.drop (a + (dec n).length) = 101 :: [48] := by rw [hb, hr]; rfl
      have ho : opt s [101, 69] (a + (dec n).length) = a + (dec n).length + 1 := by
        unfold opt; rw [peek_drop hb']; simp
      have hb2 := drop_succ hb'
      have ho2 : opt s [43, 45] (a + (dec n).length + 1) = a + (dec n).length + 1 := by
        unfold opt; rw [peek_drop hb2]; simp
      rw [if_neg (by omega), ho2]
      unfold digits
      rw [skipD_over (ds := [48]) (r := []) hb2 (by intro c hc; simp at hc; subst hc; decide) (by decide)]
      rw [if_neg (by simp), hsl, hr]; simp
  rw [hex]
  simp only
  rw [if_neg]
  have : a ≤ 1 := by cases neg <;> simp [ha]
  omega

theorem decI_eq (n : Int) : decI n = (if decide (n < 0) then [45] else []) ++ dec n.natAbs := by
  unfold decI; by_cases h : n < 0 <;> simp [h]
theorem isNum_decI {n : Int} (h : -999999999999999 ≤ n) (h' : n ≤ 999999999999999) : isNum (decI n) := by
  have := isNum_dec n.natAbs (decide (n < 0)) false (by omega)
  rw [decI_eq]; simpa using this
theorem isNum_decI_e {n : Int} (h : -999999999999999 ≤ n) (h' : n ≤ 999999999999999) : isNum (decI n ++ [101, 48]) := by
  have := isNum_dec n.natAbs (decide (n < 0)) true (by omega)
  rw [decI_eq, List.append_assoc]; simpa using this
theorem parse_num {t : Bytes} (h : isNum t) : parse t = .ok (.mk 3 false t [] []) ∧ print (.mk 3 false t [] []) = t := by
  have hl := isNum_len h
  have hr : Right (.mk 3 false t [] []) = true := by
    unfold Right right
    simp [nodes, nodesK, h]
  have hp : pr (.mk 3 false t [] []) = t := by unfold pr; simp
  refine ⟨?_, ?_⟩
  · have := parse_pr hr (by rw [hp]; omega)
    rw [hp] at this; exact this
  · unfold print; rw [if_pos hr, hp]
theorem unsign_dig {l : Bytes} (h : ∀ c ∈ l, isDig c = true) : unsign l = l := by
  unfold unsign
  split
  · rename_i r
    have := h 45 (by simp)
    exact absurd this (by decide)
  · rfl
theorem toInt_decI {n : Int} (h : -999999999999999 ≤ n) (h' : n ≤ 999999999999999) : toInt (.mk 3 false (decI n) [] []) = some n := by
  have hd := dec_dig n.natAbs
  have hl := dec_length 14 n.natAbs (by omega)
  have hv := dec_val n.natAbs
  have hne := dec_ne n.natAbs
  show (if (3 : Int) = 3 then toIntT (decI n) else none) = some n
  rw [if_pos rfl]
  unfold toIntT
  have hu : unsign (decI n) = dec n.natAbs := by
    unfold decI
    split
    · rfl
    · exact unsign_dig hd
  rw [hu, if_pos ⟨hne, hl, by rw [List.all_eq_true]; exact hd⟩, hv]
  by_cases hn : n < 0
  · have : (decI n).head? = some 45 := by unfold decI; rw [if_pos hn]; rfl
    rw [if_pos this]
    congr 1; omega
  · have : (decI n).head? ≠ some 45 := by
      unfold decI; rw [if_neg hn]
      intro e
      exact absurd (hd 45 (List.mem_of_mem_head? (by rw [e]; rfl))) (by decide)
    rw [if_neg this]
    congr 1; omega
theorem toInt_e {t : Bytes} : toInt (.mk 3 false (t ++ [101, 48]) [] []) = none := by
  show (if (3 : Int) = 3 then toIntT (t ++ [101, 48]) else none) = none
  rw [if_pos rfl]
  unfold toIntT
  rw [if_neg]
  rintro ⟨_, _, h⟩
  rw [List.all_eq_true] at h
  have hm : (101 : UInt8) ∈ unsign (t ++ [101, 48]) := by
    unfold unsign
    split
    · rename_i r he
      cases t with
      | nil => simp at he
      | cons c t =>
        simp only [List.cons_append, List.cons.injEq] at he
        rw [← he.2]; simp
    · simp
  exact absurd (h _ hm) (by decide)
theorem decI_length {n : Int} (h : -999999999999999 ≤ n) (h' : n ≤ 999999999999999) : (decI n).length ≤ 16 := by
  have hl := dec_length 14 n.natAbs (by omega)
  unfold decI; split <;> simp <;> omega
end Cx

namespace Go.Proofs.YtbdmepilmoomeaaGreatDoor
open Go.RowKit

theorem dropWhile_nil (p : UInt8 → Bool) : ∀ l : List UInt8, l.dropWhile p = [] ↔ ∀ x ∈ l, p x = true
  | [] => by simp
  | a :: l => by
    rw [List.dropWhile_cons]
    by_cases h : p a = true
    · rw [if_pos h, dropWhile_nil p l]; simp [h]
    · rw [if_neg h]; simp [h]
theorem dropWhile_cons_head (p : UInt8 → Bool) : ∀ (l : List UInt8) (a : UInt8) (r : List UInt8), l.dropWhile p = a :: r → p a = false ∧ a ∈ l
  | [], a, r, h => by simp at h
  | b :: l, a, r, h => by
    rw [List.dropWhile_cons] at h
    by_cases hb : p b = true
    · rw [if_pos hb] at h
      have := dropWhile_cons_head p l a r h
      exact ⟨this.1, by simp [this.2]⟩
    · rw [if_neg hb] at h
      injection h with h1 h2
      subst h1
      exact ⟨by simpa using hb, by simp⟩
theorem trimS_nil (l cs : List UInt8) : Lib.trimS l cs = [] ↔ ∀ b ∈ l, cs.contains b = true := by
  unfold Lib.trimS Lib.trimLeftS Lib.trimRightS
  constructor
  · intro h
    rw [dropWhile_nil] at h
    cases hx : l.reverse.dropWhile (cs.contains ·) with
    | nil => intro b hb; exact (dropWhile_nil _ _).1 hx b (by simpa using hb)
    | cons a r =>
      have h1 := (dropWhile_cons_head _ _ _ _ hx).1
      rw [h a (by rw [hx]; simp)] at h1
      cases h1
  · intro h
    have e : l.reverse.dropWhile (cs.contains ·) = [] := by
      rw [dropWhile_nil]
      intro x hx; exact h x (by simpa using hx)
    rw [e]; rfl
theorem digs_iff (c : UInt8) : ([48, 49, 50, 51, 52, 53, 54, 55, 56, 57] : List UInt8).contains c = Cx.isDig c := by
  have : ∀ c : Fin 256, ([48, 49, 50, 51, 52, 53, 54, 55, 56, 57] : List UInt8).contains (UInt8.ofNat c.val) = Cx.isDig (UInt8.ofNat c.val) := by decide +kernel
  have h := this ⟨c.toNat, c.toNat_lt⟩
  simpa using h
theorem trim_digs (l : List UInt8) : Lib.trimS l [48, 49, 50, 51, 52, 53, 54, 55, 56, 57] = [] ↔ l.all Cx.isDig = true := by
  rw [trimS_nil, List.all_eq_true]
  constructor
  · intro h b hb; rw [← digs_iff]; exact h b hb
  · intro h b hb; rw [digs_iff]; exact h b hb
theorem trimPrefix_unsign (t : List UInt8) : Lib.trimPrefix t [45] = Cx.unsign t := by
  unfold Cx.unsign
  split
  · rename_i r; simp [Lib.trimPrefix, Lib.hasPrefix]
  · rename_i h
    cases t with
    | nil => rfl
    | cons c r =>
      have hc : c ≠ 45 := by rintro rfl; exact h r rfl
      simp [Lib.trimPrefix, Lib.hasPrefix, hc.symm]
theorem parseUint_dig : ∀ (l : List UInt8) (acc k : Nat), (∀ c ∈ l, Cx.isDig c = true) → acc < 10 ^ k → k + l.length ≤ 18 → Lib.parseUint10 acc l = .ok (l.foldl (fun n c => 10 * n + (c.toNat - 48)) acc)
  | [], acc, k, _, _, _ => rfl
  | c :: r, acc, k, hd, ha, hk => by
    have hc := hd c (by simp)
    simp only [Cx.isDig, Bool.and_eq_true, decide_eq_true_eq, UInt8.le_iff_toNat_le] at hc
    have hc' : 48 ≤ c.toNat ∧ c.toNat ≤ 57 := hc
    simp only [List.length_cons] at hk
    have hp : 10 ^ k ≤ 10 ^ 17 := Nat.pow_le_pow_right (by omega) (by omega)
    have ha' : acc < 100000000000000000 := Nat.lt_of_lt_of_le ha hp
    simp only [Lib.parseUint10]
    rw [if_pos hc', if_neg (by omega), if_neg (by omega)]
    rw [parseUint_dig r _ (k + 1) (fun x hx => hd x (by simp [hx])) (by rw [Nat.pow_succ]; omega) (by omega)]
    simp only [List.foldl_cons]
    rw [Nat.mul_comm acc 10]
theorem atoi_ok {t : List UInt8} {v : Int} (h : Cx.toIntT t = some v) : Lib.atoiAll t = .ok v := by
  unfold Cx.toIntT at h
  split at h
  · rename_i hc
    obtain ⟨hne, hl, hd⟩ := hc
    injection h with h
    subst h
    rw [List.all_eq_true] at hd
    have hp := parseUint_dig (Cx.unsign t) 0 0 hd (by decide) (by omega)
    have hlt := Lib.parseUint10_lt _ _ _ (by decide) hp
    have hsm : ∀ (l : List UInt8) (acc k : Nat), (∀ c ∈ l, Cx.isDig c = true) → acc < 10 ^ k → l.foldl (fun n c => 10 * n + (c.toNat - 48)) acc < 10 ^ (k + l.length) := by
      intro l
      induction l with
      | nil => intro acc k _ h; simpa using h
      | cons c r ih =>
        intro acc k hd ha
        have hc := hd c (by simp)
        simp only [Cx.isDig, Bool.and_eq_true, decide_eq_true_eq, UInt8.le_iff_toNat_le] at hc
        have hc' : 48 ≤ c.toNat ∧ c.toNat ≤ 57 := hc
        simp only [List.foldl_cons, List.length_cons]
        have := ih (10 * acc + (c.toNat - 48)) (k + 1) (fun x hx => hd x (by simp [hx])) (by rw [Nat.pow_succ]; omega)
        rw [show k + (r.length + 1) = k + 1 + r.length by omega]; exact this
    have hs := hsm (Cx.unsign t) 0 0 hd (by decide)
    have hs2 : (10 : Nat) ^ (0 + (Cx.unsign t).length) ≤ 10 ^ 15 := Nat.pow_le_pow_right (by omega) (by omega)
    have hs3 : (Cx.unsign t).foldl (fun n c => 10 * n + (c.toNat - 48)) 0 < 1000000000000000 := Nat.lt_of_lt_of_le hs hs2
    clear hs hs2 hsm hlt
    unfold Cx.digVal
    generalize hV : (Cx.unsign t).foldl (fun n c => 10 * n + (c.toNat - 48)) 0 = V at hp hs3 ⊢
    cases t with
    | nil => exact absurd rfl hne
    | cons c r =>
      by_cases h45 : c = 45
      · subst h45
        have hu : Cx.unsign (45 :: r) = r := rfl
        rw [hu] at hp hne
        unfold Lib.atoiAll Lib.parseMag
        simp only [show (45 : UInt8).toNat = 45 from rfl, or_true, if_true]
        rw [if_neg hne, hp]
        simp only [not_true_eq_false, false_and, if_false, true_and, List.head?_cons, if_true]
        rw [if_neg (by omega)]
      · have hu : Cx.unsign (c :: r) = c :: r := by
          unfold Cx.unsign
          split
          · rename_i r' he; injection he with he _; exact absurd he h45
          · rfl
        rw [hu] at hp hne hd
        have hc := hd c (by simp)
        simp only [Cx.isDig, Bool.and_eq_true, decide_eq_true_eq, UInt8.le_iff_toNat_le] at hc
        have hc' : 48 ≤ c.toNat ∧ c.toNat ≤ 57 := hc
        have hn1 : ¬ (c.toNat = 43 ∨ c.toNat = 45) := by omega
        have hn2 : ¬ c.toNat = 45 := by omega
        unfold Lib.atoiAll Lib.parseMag
        simp only
        rw [if_neg hn1, if_neg hne, hp]
        simp only
        rw [if_neg (by omega), if_neg (by omega), if_neg hn2]
        have : (c :: r).head? ≠ some 45 := by simpa using h45
        rw [if_neg this]
  · cases h
/-- What 'Int' hands back. -/
def IntPost (v : Cx.J) (w : World) (e : Ending) (w' : World) : Prop :=
  e = .returned (.tuple #[.int .i64 ((Cx.toInt v).getD 0), .bool (Cx.toInt v).isSome]) ∧ Below w.heap.size w w'

theorem unsign_le (t : List UInt8) : (Cx.unsign t).length ≤ t.length ∧ t.length ≤ (Cx.unsign t).length + 1 := by
  unfold Cx.unsign
  split
  · simp
  · exact ⟨Nat.le_refl _, Nat.le_succ _⟩

set_option maxRecDepth 100000 in
set_option maxHeartbeats 1000000 in
theorem int_calls (v : Cx.J) (cs : List Value) (w : World) (ok : Nat → Prop) (hj : JAt w ok v cs) (hf : fit maxLen v) :
    Calls Tryz.prog 11 #[.agg cs.toArray] w (IntPost v w) := by
  cases v with
  | mk k is t ns ks =>
  obtain ⟨a, nc, a', kc, rfl⟩ := hj.shape
  have htl : t.length ≤ maxLen := hf.1
  unfold maxLen at htl
  have hts : (⟨t.toArray⟩ : ByteArray).size = t.length := by simp [ByteArray.size]
  have htd : (⟨t.toArray⟩ : ByteArray).data.toList = t := by simp
  obtain ⟨R, hR⟩ : ∃ R, R = Cx.toInt (.mk k is t ns ks) := ⟨_, rfl⟩
  unfold IntPost
  rw [← hR]
  have HR := Lib.hid hR
  have HB := Lib.hid ((Below.refl w.heap.size w).alloc (Nat.le_refl _) (.cells #[.int .i64 k, .bool is, .string ⟨t.toArray⟩, .slice a ns.length nc, .slice a' ks.length kc] 26))
  obtain ⟨U, hU⟩ : ∃ U : List UInt8, U = Cx.unsign t := ⟨_, rfl⟩
  have hUl : U.length ≤ t.length ∧ t.length ≤ U.length + 1 := by rw [hU]; exact unsign_le t
  have hus : (⟨U.toArray⟩ : ByteArray).size = U.length := by simp [ByteArray.size]
  have hud : (⟨U.toArray⟩ : ByteArray).data.toList = U := by simp
  have HU := Lib.hid hU;
  have hp : Lib.trimPrefix (⟨t.toArray⟩ : ByteArray).data.toList (⟨#[45]⟩ : ByteArray).data.toList = U := by rw [htd, hU]; exact trimPrefix_unsign t
  have HP := Lib.hid hp
  clear hR hj hf hU htd hud hp
  by_cases hk : k = 3
  rotate_left
  · have hkd : (k != 3) = true := by simpa using hk
    have HN : Hid (R = none) := Lib.hid (by rw [HR.out]; simp [Cx.toInt, hk])
    clear hk
    go_enter Tryz.func11, Tryz.ntmps11
    go_wp2_with fail
    refine (Tryz.strings_TrimPrefix _ _ _).mono ?_
    rintro e w' ⟨rfl, rfl⟩
    rw [HP.out]
    go_wp2_with fail
    go_ret2
    rw [HN.out]
    exact ⟨rfl, HB.out⟩
  subst hk
  have hRT : R = Cx.toIntT t := by rw [HR.out]; simp [Cx.toInt]
  have HRT := Lib.hid hRT
  clear hRT HR
  by_cases h0 : U = []
  · subst h0
    have HN : Hid (R = none) := Lib.hid (by rw [HRT.out]; unfold Cx.toIntT; rw [← HU.out]; simp)
    go_enter Tryz.func11, Tryz.ntmps11
    go_wp2_with fail
    refine (Tryz.strings_TrimPrefix _ _ _).mono ?_
    rintro e w' ⟨rfl, rfl⟩
    rw [HP.out]
    go_wp2_with fail
    go_ret2
    rw [HN.out]
    exact ⟨rfl, HB.out⟩
  have h0d : (U == []) = false := by simpa using h0
  by_cases h15 : U.length ≤ 15
  rotate_left
  · have HN : Hid (R = none) := Lib.hid (by rw [HRT.out]; unfold Cx.toIntT; rw [← HU.out, if_neg]; rintro ⟨_, h, _⟩; exact h15 h)
    have h15i : (15 : Int) < (U.length : Int) := by omega
    clear h15
    go_enter Tryz.func11, Tryz.ntmps11
    go_wp2_with fail
    refine (Tryz.strings_TrimPrefix _ _ _).mono ?_
    rintro e w' ⟨rfl, rfl⟩
    rw [HP.out]
    go_wp2_with fail
    go_ret2
    rw [HN.out]
    exact ⟨rfl, HB.out⟩
  have h15i : ¬ (15 : Int) < (U.length : Int) := by omega
  by_cases hd : U.all Cx.isDig = true
  rotate_left
  · have HN : Hid (R = none) := Lib.hid (by rw [HRT.out]; unfold Cx.toIntT; rw [← HU.out, if_neg]; rintro ⟨_, _, h⟩; exact hd h)
    have htn : Lib.trimS U [48, 49, 50, 51, 52, 53, 54, 55, 56, 57] ≠ [] := fun e => hd ((trim_digs U).1 e)
    have HTN := Lib.hid htn
    clear hd htn
    go_enter Tryz.func11, Tryz.ntmps11
    go_wp2_with fail
    refine (Tryz.strings_TrimPrefix _ _ _).mono ?_
    rintro e w' ⟨rfl, rfl⟩
    rw [HP.out]
    go_wp2_with fail
    refine (Any.strings_Trim_laid Tryz.lays160 (by kernel_rfl) ⟨U.toArray⟩ ⟨#[48, 49, 50, 51, 52, 53, 54, 55, 56, 57]⟩ _ (by omega) (by decide) (ascii_of_all (by decide))).mono ?_
    rintro e w2 ⟨rfl, hb⟩
    have HB2 := Lib.hid (HB.out.trans (hb.mono HB.out.size))
    clear hb
    rw [show (⟨U.toArray⟩ : ByteArray).data.toList = U by simp, show (⟨#[48, 49, 50, 51, 52, 53, 54, 55, 56, 57]⟩ : ByteArray).data.toList = [48, 49, 50, 51, 52, 53, 54, 55, 56, 57] from rfl]
    generalize hT : Lib.trimS U [48, 49, 50, 51, 52, 53, 54, 55, 56, 57] = T at HTN
    have htn := HTN.out
    have hTd : (T != []) = true := by simpa using htn
    have hTd2 : (T == []) = false := by simpa using htn
    go_wp2_with fail
    go_ret2
    rw [HN.out]
    exact ⟨rfl, HB2.out⟩
  have htn : Lib.trimS U [48, 49, 50, 51, 52, 53, 54, 55, 56, 57] = [] := (trim_digs U).2 hd
  have HTN := Lib.hid htn
  obtain ⟨n, hn⟩ : ∃ n, R = some n := by
    rw [HRT.out]; unfold Cx.toIntT; rw [← HU.out, if_pos ⟨h0, h15, hd⟩]; exact ⟨_, rfl⟩
  have HA := Lib.hid (atoi_ok (HRT.out.symm.trans hn))
  have HN := Lib.hid hn
  obtain ⟨c0, c1, c2, c3, c4, _⟩ := cells5 (heap_alloc_new w (.cells #[.int .i64 3, .bool is, .string ⟨t.toArray⟩, .slice a ns.length nc, .slice a' ks.length kc] 26))
  clear htn hd hn h0
  go_enter Tryz.func11, Tryz.ntmps11
  go_wp2_with fail
  refine (Tryz.strings_TrimPrefix _ _ _).mono ?_
  rintro e w' ⟨rfl, rfl⟩
  rw [HP.out]
  go_wp2_with fail
  refine (Any.strings_Trim_laid Tryz.lays160 (by kernel_rfl) ⟨U.toArray⟩ ⟨#[48, 49, 50, 51, 52, 53, 54, 55, 56, 57]⟩ _ (by omega) (by decide) (ascii_of_all (by decide))).mono ?_
  rintro e w2 ⟨rfl, hb⟩
  rw [show (⟨U.toArray⟩ : ByteArray).data.toList = U by simp, show (⟨#[48, 49, 50, 51, 52, 53, 54, 55, 56, 57]⟩ : ByteArray).data.toList = [48, 49, 50, 51, 52, 53, 54, 55, 56, 57] from rfl, HTN.out]
  have HB2 := Lib.hid (HB.out.trans (hb.mono HB.out.size))
  have d2 := (hb.cell (p := ⟨w.heap.size, 2, none⟩) (by simp)).trans c2
  clear hb c0 c1 c2 c3 c4
  go_wp2_with fail
  refine (Tryz.strconv_Atoi_ok ⟨t.toArray⟩ (by omega) n (by rw [show (⟨t.toArray⟩ : ByteArray).data.toList = t by simp]; exact HA.out) _).mono ?_
  rintro e w3 ⟨rfl, hw⟩
  have HB3 : Hid (Below w.heap.size w w3) := Lib.hid (by
    rcases hw with rfl | ⟨x, rfl⟩
    · exact HB2.out
    · exact HB2.out.trans ((Joins.below_bytesWorld _ _ _ _ (Nat.le_refl _)).mono HB2.out.size))
  clear hw
  go_wp2_with fail
  go_ret2
  rw [HN.out]
  exact ⟨rfl, HB3.out⟩

end Go.Proofs.YtbdmepilmoomeaaGreatDoor

namespace Go.Proofs.YtbdmepilmoomeaaGreatDoor
open Go.RowKit

set_option maxRecDepth 100000 in
set_option maxHeartbeats 2000000 in
theorem int2_calls (v : Cx.J) (cs : List Value) (w : World) (ok : Nat → Prop) (hj : JAt w ok v cs) (hf : fit maxLen v) :
    Calls Tryz.prog 16 #[.agg cs.toArray] w (IntPost v w) := by
  cases v with
  | mk k is t ns ks =>
  obtain ⟨a, nc, a', kc, rfl⟩ := hj.shape
  have htl : t.length ≤ maxLen := hf.1
  unfold maxLen at htl
  have hts : (⟨t.toArray⟩ : ByteArray).size = t.length := by simp [ByteArray.size]
  obtain ⟨R, hR⟩ : ∃ R, R = Cx.toInt (.mk k is t ns ks) := ⟨_, rfl⟩
  unfold IntPost
  rw [← hR]
  have HR := Lib.hid hR
  have HB := Lib.hid ((Below.refl w.heap.size w).alloc (Nat.le_refl _) (.cells #[.int .i64 k, .bool is, .string ⟨t.toArray⟩, .slice a ns.length nc, .slice a' ks.length kc] 26))
  clear hR hj hf
  by_cases hk : k = 3
  rotate_left
  · have hkd : (k != 3) = true := by simpa using hk
    have HN : Hid (R = none) := Lib.hid (by rw [HR.out]; simp [Cx.toInt, hk])
    clear hk
    go_enter Tryz.func16, Tryz.ntmps16
    go_wp2_with fail
    go_ret2
    rw [HN.out]
    exact ⟨rfl, HB.out⟩
  subst hk
  have hRT : R = Cx.toIntT t := by rw [HR.out]; simp [Cx.toInt]
  have HRT := Lib.hid hRT
  clear hRT HR
  obtain ⟨U, hU⟩ : ∃ U : List UInt8, U = Cx.unsign t := ⟨_, rfl⟩
  obtain ⟨M, hM⟩ : ∃ M : Bool, M = decide (t.head? = some 45) := ⟨_, rfl⟩
  have hUl : U.length ≤ t.length ∧ t.length ≤ U.length + 1 := by rw [hU]; exact unsign_le t
  have HU := Lib.hid hU; have HM := Lib.hid hM
  go_enter Tryz.func16, Tryz.ntmps16
  go_upto_region 4 with fail
  go_cut [5] (fun z wr => z = .bool M ∧ wr = w.alloc (.cells #[.int .i64 3, .bool is, .string ⟨t.toArray⟩, .slice a ns.length nc, .slice a' ks.length kc] 26))
  case first =>
    by_cases ht0 : t = []
    · subst ht0
      have hm : M = false := by rw [hM]; rfl
      subst hm
      clear hM hU
      go_wp2_with fail
      go_meet
      case rel => exact ⟨rfl, rfl⟩
    · have htl0 : 0 < t.length := List.length_pos_iff.2 ht0
      obtain ⟨c, hcp⟩ : ∃ c, c = Cx.peek t 0 := ⟨_, rfl⟩
      have hm0 : M = decide (c = 45) := by
        rw [hM, hcp]
        cases t with
        | nil => exact absurd rfl ht0
        | cons d l => simp [Cx.peek]
      have hc0 : (((⟨t.toArray⟩ : ByteArray)[0]'(by rw [hts]; exact htl0)).toNat : Int) = (c.toNat : Int) := by
        have := peek_size (s := ⟨t.toArray⟩) (i := 0) (by rw [hts]; exact htl0)
        rw [← this, hcp]
      have hte : (t == []) = false := by simpa using ht0
      have hte2 : (t != []) = true := by rw [bne, hte]; rfl
      have hte3 : decide (t = []) = false := by simpa using ht0
      have hte4 : t.isEmpty = false := by simpa using ht0
      have hte5 : (!decide (t = [])) = true := by simpa using ht0
      have hte6 : ((⟨t.toArray⟩ : ByteArray).toList == (⟨#[]⟩ : ByteArray).toList) = false := by rw [ByteArray.toList_eq, ByteArray.toList_eq]; exact hte
      have hte7 : (!((⟨t.toArray⟩ : ByteArray).toList == (⟨#[]⟩ : ByteArray).toList)) = true := by rw [hte6]; rfl
      clear hM hU hcp
      by_cases h45 : c = 45
      · have n45 : ((c.toNat : Int) == 45) = true := by rw [h45]; rfl
        have hm : M = true := by rw [hm0, h45]; rfl
        clear hm0
        subst hm
        clear h45
        go_wp2_with fail
        go_meet
        case rel => exact ⟨rfl, rfl⟩
      · have n45 : ((c.toNat : Int) == 45) = false := u8ne (k := 45) h45
        have hm : M = false := by rw [hm0]; exact decide_eq_false h45
        clear hm0
        subst hm
        clear h45
        go_wp2_with fail
        go_meet
        case rel => exact ⟨rfl, rfl⟩
  case rest =>
  obtain ⟨rfl, rfl⟩ := hcut
  go_upto_if 20 with fail
  go_cut [4, 5] (fun z z2 wr => z = .string ⟨U.toArray⟩ ∧ z2 = .bool M ∧ wr = w.alloc (.cells #[.int .i64 3, .bool is, .string ⟨t.toArray⟩, .slice a ns.length nc, .slice a' ks.length kc] 26))
  case first =>
    cases M with
    | true =>
      obtain ⟨l, hl⟩ : ∃ l, t = 45 :: l := by
        cases t with
        | nil => simp at hM
        | cons c l => simp at hM; exact ⟨l, by rw [hM]⟩
      have hUe : U = l := by rw [hU, hl]; rfl
      have hx : (⟨t.toArray⟩ : ByteArray).extract 1 t.length = ⟨U.toArray⟩ := by rw [extract_list, hUe]; simp [hl]
      have ht1 : 1 ≤ t.length := by rw [hl]; simp
      have HX := Lib.hid hx
      clear hU hM hl hUe hx
      go_wp2_with fail
      go_meet
      case rel => exact ⟨congrArg Value.string HX.out, rfl, rfl⟩
    | false =>
      have hUe : U = t := by
        rw [hU]; unfold Cx.unsign
        split
        · simp at hM
        · rfl
      subst hUe
      clear hU hM
      go_wp2_with fail
      go_meet
      case rel => exact ⟨rfl, rfl, rfl⟩
  case rest =>
  obtain ⟨rfl, rfl, rfl⟩ := hcut
  clear hU hM
  have hus : (⟨U.toArray⟩ : ByteArray).size = U.length := by simp [ByteArray.size]
  go_wp2_with fail
  go_loop [6, 7] (fun zn zi => ∃ (n i : Nat), zn = .int .i64 n ∧ zi = .int .i64 i ∧ i ≤ U.length ∧ i ≤ 15 ∧ n < 10 ^ i ∧ Hid (n = Cx.digVal (U.take i)) ∧ Hid (∀ c ∈ U.take i, Cx.isDig c = true)) (fun _ zi => U.length - (intOf zi).toNat)
  case atStart => exact ⟨0, 0, rfl, rfl, by omega, by omega, by decide, Lib.hid rfl, Lib.hid (by simp)⟩
  case round =>
    obtain ⟨n, i, rfl, rfl, hi, hi15, hn, HN, HD⟩ := hrel
    rcases Nat.lt_or_ge i U.length with hlt | hge
    · obtain ⟨c, hc⟩ : ∃ c, U[i]? = some c := ⟨U[i], by simp [hlt]⟩
      have hci : (((⟨U.toArray⟩ : ByteArray)[i]'(by rw [hus]; exact hlt)).toNat : Int) = (c.toNat : Int) := by
        have := peek_size (s := ⟨U.toArray⟩) (i := i) (by rw [hus]; exact hlt)
        rw [← this]
        show ((U.getD i 0).toNat : Int) = _
        rw [List.getD, hc]; rfl
      have hltI : (i : Int) < (U.length : Int) := by omega
      have hti : U.take (i + 1) = U.take i ++ [c] := by rw [List.take_add_one, hc]; rfl
      have HC := Lib.hid hc; have HTI := Lib.hid hti
      have hc256 := c.toNat_lt
      clear hc hti
      cases hd : Cx.isDig c with
      | false =>
        have hno : R = none := by
          rw [HRT.out]; unfold Cx.toIntT; rw [← HU.out, if_neg]
          rintro ⟨_, _, h⟩
          rw [List.all_eq_true] at h
          rw [h c (List.mem_of_getElem? HC.out)] at hd
          cases hd
        have HNO := Lib.hid hno; have HDD := Lib.hid hd
        clear hno hd
        go_wp2_with fail
        refine (digit2_calls c _).mono ?_
        rintro e w' ⟨rfl, hw'⟩
        subst hw'
        rw [HDD.out]
        go_wp2_with fail
        go_ret2
        rw [HNO.out]
        exact ⟨rfl, HB.out⟩
      | true =>
        have HDD := Lib.hid hd
        have hcd : 48 ≤ c.toNat ∧ c.toNat ≤ 57 := by
          simp only [Cx.isDig, Bool.and_eq_true, decide_eq_true_eq, UInt8.le_iff_toNat_le] at hd
          exact hd
        by_cases h15 : i < 15
        rotate_left
        · have hi15' : (15 : Int) ≤ (i : Int) := by omega
          have hno : R = none := by
            rw [HRT.out]; unfold Cx.toIntT; rw [← HU.out, if_neg]
            rintro ⟨_, h, _⟩
            omega
          have HNO := Lib.hid hno
          clear hno hd
          go_wp2_with fail
          refine (digit2_calls c _).mono ?_
          rintro e w' ⟨rfl, hw'⟩
          subst hw'
          rw [HDD.out]
          go_wp2_with fail
          go_ret2
          rw [HNO.out]
          exact ⟨rfl, HB.out⟩
        have hi15' : ¬ (15 : Int) ≤ (i : Int) := by omega
        have hnb : n < 1000000000000000 := Nat.lt_of_lt_of_le hn (Nat.pow_le_pow_right (n := 10) (by omega) (show i ≤ 15 by omega))
        have hn2 : n * 10 + (c.toNat - 48) < 10 ^ (i + 1) := by rw [Nat.pow_succ]; omega
        have HNN := Lib.hid hn2
        clear hd hn hn2
        go_wp2_with fail
        refine (digit2_calls c _).mono ?_
        rintro e w' ⟨rfl, hw'⟩
        subst hw'
        rw [HDD.out]
        go_wp2_with fail
        go_round
        case rel =>
          refine ⟨n * 10 + (c.toNat - 48), i + 1, ?_, by go_num, by omega, by omega, HNN.out, Lib.hid ?_, Lib.hid ?_⟩
          · congr 1; omega
          · rw [HTI.out, Cx.digVal_snoc, ← HN.out, Nat.mul_comm]
          · rw [HTI.out]
            intro x hx
            rcases List.mem_append.1 hx with h | h
            · exact HD.out x h
            · simp at h; rw [h]; exact HDD.out
        case measure => simp [intOf]; omega
    · have hik : i = U.length := by omega
      subst hik
      have hltI : ¬ (U.length : Int) < (U.length : Int) := by omega
      have hN := HN.out; have hD := HD.out
      rw [List.take_length] at hN hD
      by_cases h0 : U = []
      · have hno : R = none := by
          rw [HRT.out]; unfold Cx.toIntT; rw [← HU.out, if_neg]
          rintro ⟨h, _, _⟩; exact h h0
        have HNO := Lib.hid hno
        have h0d : (U == []) = true := by rw [h0]; rfl
        clear hno hN hD h0
        go_wp2_with fail
        go_ret2
        rw [HNO.out]
        exact ⟨rfl, HB.out⟩
      · have hso : R = some (if M = true then -(n : Int) else (n : Int)) := by
          rw [HRT.out]; unfold Cx.toIntT
          rw [← HU.out, if_pos ⟨h0, hi15, by rw [List.all_eq_true]; exact hD⟩, ← hN, HM.out]
          by_cases h : t.head? = some 45
          · rw [if_pos h, if_pos (by simpa using h)]
          · rw [if_neg h, if_neg (by simpa using h)]
        have HSO := Lib.hid hso
        have h0d : (U == []) = false := by simpa using h0
        have hnb : n < 1000000000000000 := Nat.lt_of_lt_of_le hn (Nat.pow_le_pow_right (n := 10) (by omega) hi15)
        clear hso hN hD h0 hn
        cases M with
        | true =>
          go_wp2_with fail
          go_ret2
          rw [HSO.out]
          exact ⟨rfl, HB.out⟩
        | false =>
          go_wp2_with fail
          go_ret2
          rw [HSO.out]
          exact ⟨rfl, HB.out⟩
end Go.Proofs.YtbdmepilmoomeaaGreatDoor

namespace Go.Proofs.YtbdmepilmoomeaaGreatDoor
open Go.RowKit

/-- The world behind all that the law reads: what it read is as it was. -/
def Pw (w : World) (bx : Obj) (w' : World) : Prop := Below w.heap.size w w' ∧ w'.heap[w.heap.size]? = some bx
theorem Pw.next {w w1 w2 : World} {bx : Obj} (h : Pw w bx w1) (k : Below w1.heap.size w1 w2) : Pw w bx w2 := ⟨h.1.trans (k.mono h.1.size), (k.block _ (heap_lt h.2)).trans h.2⟩
theorem Pw.drew {w w1 : World} {bx : Obj} (h : Pw w bx w1) : Pw w bx w1.drew := ⟨h.1.drew, h.2⟩
theorem Pw.alloc {w w1 : World} {bx : Obj} (h : Pw w bx w1) (o : Obj) : Pw w bx (w1.alloc o) := h.next ((Below.refl _ _).alloc (Nat.le_refl _) o)

theorem pw_cells {w w' : World} {x0 x1 x2 x3 x4 : Value} {T : TypeId} (h : Pw w (.cells #[x0, x1, x2, x3, x4] T (0, 0)) w') : w'.cell? ⟨w.heap.size, 0, none⟩ = some x0 ∧ w'.cell? ⟨w.heap.size, 1, none⟩ = some x1 ∧ w'.cell? ⟨w.heap.size, 2, none⟩ = some x2 ∧ w'.cell? ⟨w.heap.size, 3, none⟩ = some x3 ∧ w'.cell? ⟨w.heap.size, 4, none⟩ = some x4 := by
  obtain ⟨a, b, c, d, e, _⟩ := cells5 h.2
  exact ⟨a, b, c, d, e⟩
theorem fit_get {L : Nat} {v x : Cx.J} {n : List UInt8} (h : fit L v) (hx : Cx.get v n = some x) : fit L x := by
  cases v with
  | mk k is t ns ks =>
  have hx' : (if k = 6 ∧ n ∈ ns then ks[ns.idxOf n]? else none) = some x := hx
  split at hx'
  · exact fitK_get h.2.2.2.2 hx'
  · cases hx'

set_option maxRecDepth 100000 in
set_option maxHeartbeats 4000000 in
theorem prints_calls (v : Cx.J) (cs : List Value) (s : List UInt8) (w : World) (ok : Nat → Prop) (hj : JAt w ok v cs) (hf : fit maxLen v) (hsl : s.length ≤ maxLen) (hg : Glb w) (h8 : 8 ≤ w.heap.size) :
    Calls Tryz.prog 5 #[.agg cs.toArray, .string ⟨s.toArray⟩] w fun e w' => e = .returned (.bool true) ∧ Below w.heap.size w w' := by
  cases v with
  | mk k is t ns ks =>
  obtain ⟨a, nc, b, kc, rfl⟩ := hj.shape
  unfold maxLen at hsl
  have P0 : Hid (Pw w (.cells #[.int .i64 k, .bool is, .string ⟨t.toArray⟩, .slice a ns.length nc, .slice b ks.length kc] 26 (0, 0)) (w.alloc (.cells #[.int .i64 k, .bool is, .string ⟨t.toArray⟩, .slice a ns.length nc, .slice b ks.length kc] 26))) := Lib.hid ⟨(Below.refl _ _).alloc (Nat.le_refl _) _, heap_alloc_new w _⟩
  have J := Lib.hid hj.all; have F := Lib.hid hf; have HG := Lib.hid hg
  clear hj hf hg
  go_enter Tryz.func5, Tryz.ntmps5
  go_wp2_with fail
  refine (shown_calls _ (HG.out.below P0.out.1) (Nat.le_trans h8 P0.out.1.size)).mono ?_
  rintro e w1 ⟨rfl, hb⟩
  have P1 := Lib.hid (P0.out.next hb)
  obtain ⟨q0, q1, q2, q3, q4, _⟩ := cells5 P1.out.2
  clear hb P0
  go_wp2_with fail
  refine (light_calls (.mk k is t ns ks) [.int .i64 k, .bool is, .string ⟨t.toArray⟩, .slice a ns.length nc, .slice b ks.length kc] _ _ (J.out.below P1.out.1) F.out).mono ?_
  rintro e w2 ⟨r, rfl, hr, hb⟩
  have P2 := Lib.hid (P1.out.next hb)
  have HR := Lib.hid hr
  clear hb hr P1 q0 q1 q2 q3 q4
  obtain ⟨q0, q1, q2, q3, q4, _⟩ := cells5 P2.out.2
  cases r with
  | false =>
    go_wp2_with fail
    go_ret
    exact ⟨rfl, P2.out.1⟩
  | true =>
  have HFIT := Lib.hid (HR.out rfl).1
  clear HR
  by_cases hl : s.length ≤ 2000
  rotate_left
  · have hl1 : (2000 : Int) < (s.length : Int) := by omega
    go_wp2_with fail
    go_ret
    exact ⟨rfl, P2.out.1⟩
  have hl1 : ¬ (2000 : Int) < (s.length : Int) := by omega
  have HL := Lib.hid hl
  clear hl
  have HF5 : Hid (fit 100000 (.mk k is t ns ks)) := Lib.hid (fit_le (by omega) _ HFIT.out)
  obtain ⟨u, hu⟩ : ∃ u, u = (Cx.get (.mk k is t ns ks) s).getD (.mk 0 false [] [] []) := ⟨_, rfl⟩
  have hfu : fit maxLen u := by
    rw [hu]
    cases hx : Cx.get (.mk k is t ns ks) s with
    | none => exact Cx.fit_leaf (by simp)
    | some x => exact fit_get F.out hx
  have HU := Lib.hid hu; have HFU := Lib.hid hfu
  clear hu hfu
  obtain ⟨G, hG⟩ : ∃ G : Bool, G = (Cx.get (.mk k is t ns ks) s).isSome := ⟨_, rfl⟩
  have HGS := Lib.hid hG
  clear hG
  go_wp2_with fail
  refine (get_calls (.mk k is t ns ks) [.int .i64 k, .bool is, .string ⟨t.toArray⟩, .slice a ns.length nc, .slice b ks.length kc] s _ _ (J.out.below P2.out.1) F.out).mono ?_
  rintro e w3 ⟨cs3, rfl, hj, hb⟩
  rw [← HU.out] at hj
  rw [← HGS.out]
  cases u with
  | mk uk uis ut uns uks =>
  obtain ⟨ua, unc, ub, ukc, rfl⟩ := hj.shape
  have P3 := Lib.hid ((P2.out.next hb).alloc (.cells #[.int .i64 uk, .bool uis, .string ⟨ut.toArray⟩, .slice ua uns.length unc, .slice ub uks.length ukc] 26))
  have U3 := Lib.hid (hj.all.below ((Below.refl w3.heap.size w3).alloc (Nat.le_refl _) (.cells #[.int .i64 uk, .bool uis, .string ⟨ut.toArray⟩, .slice ua uns.length unc, .slice ub uks.length ukc] 26)))
  have X3 := Lib.hid (heap_alloc_new w3 (.cells #[.int .i64 uk, .bool uis, .string ⟨ut.toArray⟩, .slice ua uns.length unc, .slice ub uks.length ukc] 26))
  clear q0 q1 q2 q3 q4
  obtain ⟨q0, q1, q2, q3, q4, _⟩ := cells5 P3.out.2
  clear hb hj P2
  go_wp2_with fail
  refine (get2_calls (.mk k is t ns ks) [.int .i64 k, .bool is, .string ⟨t.toArray⟩, .slice a ns.length nc, .slice b ks.length kc] s _ _ (J.out.below P3.out.1) F.out).mono ?_
  rintro e w4 ⟨cs4, rfl, hj, hb⟩
  rw [← HU.out] at hj
  rw [← HGS.out]
  obtain ⟨va, vnc, vb, vkc, rfl⟩ := hj.shape
  have hb4 := hb.trans (((Below.refl w4.heap.size w4).alloc (Nat.le_refl _) (.cells #[.int .i64 uk, .bool uis, .string ⟨ut.toArray⟩, .slice va uns.length vnc, .slice vb uks.length vkc] 26)).mono hb.size)
  have P4 := Lib.hid (P3.out.next hb4)
  have U4 := Lib.hid (U3.out.all.below hb4)
  have V4 := Lib.hid (hj.all.below ((Below.refl w4.heap.size w4).alloc (Nat.le_refl _) (.cells #[.int .i64 uk, .bool uis, .string ⟨ut.toArray⟩, .slice va uns.length vnc, .slice vb uks.length vkc] 26)))
  have X4 := Lib.hid ((hb4.block _ (heap_lt X3.out)).trans X3.out)
  have Y4 := Lib.hid (heap_alloc_new w4 (.cells #[.int .i64 uk, .bool uis, .string ⟨ut.toArray⟩, .slice va uns.length vnc, .slice vb uks.length vkc] 26))
  clear q0 q1 q2 q3 q4
  obtain ⟨q0, q1, q2, q3, q4, _⟩ := cells5 P4.out.2
  clear hb hb4 hj P3 U3 X3
  go_wp2_with fail
  refine (int_calls (.mk k is t ns ks) [.int .i64 k, .bool is, .string ⟨t.toArray⟩, .slice a ns.length nc, .slice b ks.length kc] _ _ (J.out.below P4.out.1) F.out).mono ?_
  rintro e w5 ⟨he5, hb⟩
  obtain ⟨IV, hIV⟩ : ∃ IV : Int, IV = (Cx.toInt (.mk k is t ns ks)).getD 0 := ⟨_, rfl⟩
  obtain ⟨IO, hIO⟩ : ∃ IO : Bool, IO = (Cx.toInt (.mk k is t ns ks)).isSome := ⟨_, rfl⟩
  have HIV := Lib.hid hIV; have HIO := Lib.hid hIO
  rw [← HIV.out, ← HIO.out] at he5
  subst he5
  clear hIV hIO
  have P5 := Lib.hid (P4.out.next hb)
  have U5 := Lib.hid (U4.out.all.below hb); have V5 := Lib.hid (V4.out.all.below hb)
  have X5 := Lib.hid ((hb.block _ (heap_lt X4.out)).trans X4.out)
  have Y5 := Lib.hid ((hb.block _ (heap_lt Y4.out)).trans Y4.out)
  clear hb P4 U4 V4 X4 Y4 q0 q1 q2 q3 q4
  obtain ⟨q0, q1, q2, q3, q4, _⟩ := cells5 P5.out.2
  go_wp2_with fail
  refine (int2_calls (.mk k is t ns ks) [.int .i64 k, .bool is, .string ⟨t.toArray⟩, .slice a ns.length nc, .slice b ks.length kc] _ _ (J.out.below P5.out.1) F.out).mono ?_
  rintro e w6 ⟨he6, hb⟩
  rw [← HIV.out, ← HIO.out] at he6
  subst he6
  have P6 := Lib.hid (P5.out.next hb)
  have U6 := Lib.hid (U5.out.all.below hb); have V6 := Lib.hid (V5.out.all.below hb)
  have X6 := Lib.hid ((hb.block _ (heap_lt X5.out)).trans X5.out)
  have Y6 := Lib.hid ((hb.block _ (heap_lt Y5.out)).trans Y5.out)
  clear hb P5 U5 V5 X5 Y5 q0 q1 q2 q3 q4
  obtain ⟨q0, q1, q2, q3, q4, _⟩ := cells5 X6.out
  obtain ⟨p0, p1, p2, p3, p4, _⟩ := cells5 Y6.out
  go_wp2_with fail
  refine (same_calls _ (.mk uk uis ut uns uks) (.mk uk uis ut uns uks) [.int .i64 uk, .bool uis, .string ⟨ut.toArray⟩, .slice ua uns.length unc, .slice ub uks.length ukc] [.int .i64 uk, .bool uis, .string ⟨ut.toArray⟩, .slice va uns.length vnc, .slice vb uks.length vkc] _ (fun g => g < w6.heap.size) (Nat.le_refl _) U6.out.all V6.out.all HFU.out HFU.out).mono ?_
  rintro e w7 ⟨r, rfl, hr, hb⟩
  have hrt : r = true := hr.2 rfl
  subst hrt
  have P7 := Lib.hid (P6.out.next hb)
  clear hb hr P6 U6 V6 X6 Y6 q0 q1 q2 q3 q4 p0 p1 p2 p3 p4
  obtain ⟨q0, q1, q2, q3, q4, _⟩ := cells5 P7.out.2
  obtain ⟨PR, hPR⟩ : ∃ PR : ByteArray, PR = ⟨(Cx.print (.mk k is t ns ks)).toArray⟩ := ⟨_, rfl⟩
  obtain ⟨RT, hRT⟩ : ∃ RT, RT = Cx.Right (.mk k is t ns ks) := ⟨_, rfl⟩
  obtain ⟨TX, hTX⟩ : ∃ TX : ByteArray, TX = ⟨(Cx.jtext s).toArray⟩ := ⟨_, rfl⟩
  have HPR := Lib.hid hPR; have HRT := Lib.hid hRT; have HTX := Lib.hid hTX
  clear hPR hRT hTX
  have hsz : (⟨s.toArray⟩ : ByteArray).size = s.length := by simp [ByteArray.size]
  have hsd : (⟨s.toArray⟩ : ByteArray).data.toList = s := by simp
  have JT : Hid (∀ wq : World, Calls Tryz.prog 20 #[.string ⟨s.toArray⟩] wq fun e w' => e = .returned (.string TX) ∧ Below wq.heap.size wq w') := Lib.hid fun wq => by
    have h := jtext_calls ⟨s.toArray⟩ wq (by have := HL.out; rw [hsz]; omega)
    rw [hsd, ← HTX.out] at h
    exact h
  clear hsd hsz
  go_wp2_with fail
  have TW := P7.out.drew
  go_region_held3 (fun w' => w'.cell? ⟨w.heap.size, 0, none⟩ = some (.int .i64 k) ∧ w'.cell? ⟨w.heap.size, 1, none⟩ = some (.bool is) ∧ w'.cell? ⟨w.heap.size, 2, none⟩ = some (.string ⟨t.toArray⟩) ∧ w'.cell? ⟨w.heap.size, 3, none⟩ = some (.slice a ns.length nc) ∧ w'.cell? ⟨w.heap.size, 4, none⟩ = some (.slice b ks.length kc)) (exact pw_cells ‹Pw w (.cells #[.int .i64 k, .bool is, .string ⟨t.toArray⟩, .slice a ns.length nc, .slice b ks.length kc] 26 (0, 0)) _›)
    (first
      | (go_at_call 12; refine (print_calls (.mk k is t ns ks) [.int .i64 k, .bool is, .string ⟨t.toArray⟩, .slice a ns.length nc, .slice b ks.length kc] _ _ (J.out.below (‹Pw w (.cells #[.int .i64 k, .bool is, .string ⟨t.toArray⟩, .slice a ns.length nc, .slice b ks.length kc] 26 (0, 0)) _›).1) HF5.out (HG.out.below (‹Pw w (.cells #[.int .i64 k, .bool is, .string ⟨t.toArray⟩, .slice a ns.length nc, .slice b ks.length kc] 26 (0, 0)) _›).1) (Nat.le_trans h8 (‹Pw w (.cells #[.int .i64 k, .bool is, .string ⟨t.toArray⟩, .slice a ns.length nc, .slice b ks.length kc] 26 (0, 0)) _›).1.size)).mono ?_; rintro e w8 ⟨rfl, hb⟩; have TW8 := Pw.next ‹Pw w (.cells #[.int .i64 k, .bool is, .string ⟨t.toArray⟩, .slice a ns.length nc, .slice b ks.length kc] 26 (0, 0)) _› hb; rw [← HPR.out])
      | (go_at_call 17; refine (print2_calls (.mk k is t ns ks) [.int .i64 k, .bool is, .string ⟨t.toArray⟩, .slice a ns.length nc, .slice b ks.length kc] _ _ (J.out.below (‹Pw w (.cells #[.int .i64 k, .bool is, .string ⟨t.toArray⟩, .slice a ns.length nc, .slice b ks.length kc] 26 (0, 0)) _›).1) HF5.out).mono ?_; rintro e w8 ⟨rfl, hb⟩; have TW8 := Pw.next ‹Pw w (.cells #[.int .i64 k, .bool is, .string ⟨t.toArray⟩, .slice a ns.length nc, .slice b ks.length kc] 26 (0, 0)) _› hb; rw [← HPR.out])
      | (go_at_call 18; refine (Right_calls (.mk k is t ns ks) [.int .i64 k, .bool is, .string ⟨t.toArray⟩, .slice a ns.length nc, .slice b ks.length kc] _ _ (J.out.below (‹Pw w (.cells #[.int .i64 k, .bool is, .string ⟨t.toArray⟩, .slice a ns.length nc, .slice b ks.length kc] 26 (0, 0)) _›).1) F.out (HG.out.below (‹Pw w (.cells #[.int .i64 k, .bool is, .string ⟨t.toArray⟩, .slice a ns.length nc, .slice b ks.length kc] 26 (0, 0)) _›).1) (Nat.le_trans h8 (‹Pw w (.cells #[.int .i64 k, .bool is, .string ⟨t.toArray⟩, .slice a ns.length nc, .slice b ks.length kc] 26 (0, 0)) _›).1.size)).mono ?_; rintro e w8 ⟨rfl, hb⟩; have TW8 := Pw.next ‹Pw w (.cells #[.int .i64 k, .bool is, .string ⟨t.toArray⟩, .slice a ns.length nc, .slice b ks.length kc] 26 (0, 0)) _› hb; rw [← HRT.out])
      | (go_at_call 19; refine (right2_calls (.mk k is t ns ks) [.int .i64 k, .bool is, .string ⟨t.toArray⟩, .slice a ns.length nc, .slice b ks.length kc] _ _ (J.out.below (‹Pw w (.cells #[.int .i64 k, .bool is, .string ⟨t.toArray⟩, .slice a ns.length nc, .slice b ks.length kc] 26 (0, 0)) _›).1) HF5.out).mono ?_; rintro e w8 ⟨rfl, hb⟩; have TW8 := Pw.next ‹Pw w (.cells #[.int .i64 k, .bool is, .string ⟨t.toArray⟩, .slice a ns.length nc, .slice b ks.length kc] 26 (0, 0)) _› hb; rw [← HRT.out])
      | (go_at_call 20; refine (JT.out _).mono ?_; rintro e w8 ⟨rfl, hb⟩; have TW8 := Pw.next ‹Pw w (.cells #[.int .i64 k, .bool is, .string ⟨t.toArray⟩, .slice a ns.length nc, .slice b ks.length kc] 26 (0, 0)) _› hb)
      | (go_at_call 21; refine (jtext2_calls s _ (by have := HL.out; omega)).mono ?_; rintro e w8 ⟨rfl, hb⟩; have TW8 := Pw.next ‹Pw w (.cells #[.int .i64 k, .bool is, .string ⟨t.toArray⟩, .slice a ns.length nc, .slice b ks.length kc] 26 (0, 0)) _› hb; rw [← HTX.out]))
  have PE : Below w.heap.size w _ := (‹Pw w (.cells #[.int .i64 k, .bool is, .string ⟨t.toArray⟩, .slice a ns.length nc, .slice b ks.length kc] 26 (0, 0)) _›).1
  go_wp2_with fail
  go_ret
  exact ⟨rfl, PE⟩
end Go.Proofs.YtbdmepilmoomeaaGreatDoor

namespace Go.Proofs.YtbdmepilmoomeaaGreatDoor
open Go.RowKit Go.ChangeShapes Go.WideShapes Go.ChangeAt Go.Lib Go.Shelf
open Go.ChangeMaps (open_string shut_string)

set_option maxRecDepth 100000 in
theorem jsonPrints_lifted (os : Os) (started : os.Started) (H : Type) (enc : TypeId × Value → H) :
    ReturnsInHanded {} Tryz.checked os 5 .any (fun w args => (Rows.jsonPrintsSpec.pre enc Tryz.prog Tryz.f5 [] false w args ∧ laidMetH Tryz.prog lst w) ∧ sizedMet enc Tryz.prog Tryz.f5 (OpenSpec.ofChange Rows.jsonPrintsSpec) false w args)
      (Rows.jsonPrintsSpec.post enc Tryz.prog Tryz.f5 false true false false) := by
  refine returnsInHanded_of_change_and (C := Tryz.checked) (X := fun w _ => laidMetH Tryz.prog lst w) (fun _ _ _ hh h => h.of_heap hh) own started (by kernel_rfl) Tryz.func5
    (ChangeSpec.witness_shaped (enc := enc) (C := Tryz.checked) (os := os) (X := fun w _ => laidMetH Tryz.prog lst w) false (World.laidAll Tryz.prog os lst) #[.agg #[.int .i64 0, .bool false, .string ⟨#[]⟩, .slice none 0 0, .slice none 0 0], .string ⟨#[]⟩] 8 (World.laidAll_os _ _ _)
      (World.shaped_of_ZipB (by kernel_rfl) (by kernel_rfl)) (by kernel_rfl) (by kernel_rfl) (by kernel_rfl)
      (by rw [MakeChecks.laidMetH_plain _ _ _ (by kernel_rfl)]; exact laidMet_laidAll _ (by kernel_rfl) (by kernel_rfl))) ?_
  intro W base args ds gs before hval0 hW _ _ hL _
  have hval : ∀ (j : Nat) t v, Tryz.f5.params[j]? = some t → args[j]? = some v → Value.okWide Tryz.prog W .any base t v := hval0
  have hW' := hW
  obtain ⟨p, q, hA0, hV, rfl, _, _⟩ := hW
  have hA : DataW.TrodAll enc Tryz.prog W 0 (fun _ => true) true Tryz.f5.params.toList args.toList ds p := hA0
  rw [Tryz.params5] at hA hval
  obtain ⟨v0, v1, d0, d1, p0, p1, rfl, rfl, rfl, h0, h1⟩ := trodAll_two hA
  obtain ⟨rfl, rfl⟩ := trodVars_none hV
  obtain ⟨c0, rfl, _⟩ := okWide_struct Tryz.underlying26 (hval 0 26 v0 rfl rfl)
  have hk0 := h0
  obtain ⟨fuel0, hf0⟩ := h0
  have hlt0 := DataW.trod_lt _ _ _ _ hf0
  obtain ⟨u0, hj0, hft0⟩ := jat_of_trod enc W _ fuel0 _ _ hf0
  have hcs0 : (Value.agg c0).cells.toList.toArray = c0 := rfl
  obtain ⟨s1, rfl, rfl, rfl, hs1⟩ := open_string under_string (hval 1 9 v1 rfl rfl) h1
  have hsl1 : s1 = ⟨s1.data.toList.toArray⟩ := rfl
  simp only [List.append_nil] at hW'
  obtain ⟨hg, h8⟩ := glb_of_laid hL
  have hc := prints_calls u0 _ s1.data.toList W _ hj0 hft0 hs1 hg h8
  rw [hcs0, ← hsl1] at hc
  refine hc.mono fun e W' ⟨he, hb⟩ => ?_
  subst he
  exact ⟨_, rfl, _, _, _, [], _, [], hW', trodAll_mk1 (shut_bool Tryz.underlying4 _), trodAll_mk2 (Below.trod laidOut (by kernel_rfl) (of_decide_eq_true (by kernel_rfl)) hk0 hb hlt0) (shut_string under_string hs1), rfl, hb.frame _, fun h => by cases h⟩

theorem jsonPrints_holds : Rows.JsonPrintsSaid :=
  OpenClaim.holds_of_wide 5 Tryz.f5 rfl rfl rfl rfl rfl rfl rfl ⟨rfl, rfl, rfl, rfl, rfl⟩ rfl rfl rfl rfl rfl (by kernel_rfl) Tryz.func5 (by kernel_rfl)
    (of_decide_eq_true (by kernel_rfl)) (by unfold Func.isWrapper; rw [if_neg (of_decide_eq_false (by kernel_rfl))]; exact ⟨rfl, rfl⟩)
    (fun os started H enc _ => jsonPrints_lifted os started H enc)

theorem jsonPrints_card : Rows.JsonPrintsCardSaid :=
  Claim7.holds_tied_plain_at .later [] [.data, .data, .data, .data, .sentinel, .sentinel, .pinned] true Rows.jsonPrintsCard.stood.harness true jsonPrints_holds (fun _ h => by cases h) (by kernel_rfl) (fun _ h => by cases h) jsonPrints_row_tie rfl ⟨rfl, rfl⟩ (by kernel_rfl) rfl
    (fun f fn hf hfn => by
      obtain rfl : f = 5 := Option.some.inj ((show Tryz.prog.funcNamed Rows.jsonPrintsRow.func = some 5 by kernel_rfl).symm.trans hf) |>.symm
      obtain rfl : fn = Tryz.f5 := (Option.some.inj (Tryz.func5.symm.trans hfn)).symm
      exact ⟨by kernel_rfl, fun j t ht => by
        rw [Tryz.params5] at ht
        have hm : t ∈ [26, 9] := by simpa using Array.mem_of_getElem? ht
        have hall : ([26, 9].all fun u => !Tryz.prog.wantsStandIn u) = true := by kernel_rfl
        exact (show Tryz.prog.wantsStandIn t = false by simpa using List.all_eq_true.1 hall t hm)⟩)
    (by kernel_rfl)
#print axioms jsonPrints_card
end Go.Proofs.YtbdmepilmoomeaaGreatDoor

