/- WALKS: Get, as the document's answer has it. -/
import Derived.Test.YtejlddimokmgjaaGreatDoorKh
import Derived.Test.YtejlddimokmgjaaGreatDoorKf
namespace Go.Proofs.YtejlddimokmgjaaGreatDoor
open Go.RowKit

theorem put5_below {w wr : World} {a b c d e : Value} (h : Below w.heap.size w wr) : Below w.heap.size w (put5 wr (w.heap.size + 1) a b c d e) :=
  ((((h.setCell (by simp) a).setCell (by simp) b).setCell (by simp) c).setCell (by simp) d).setCell (by simp) e
theorem idx_ge {ns : List (List UInt8)} {n : List UInt8} {i : Nat} (h : n ∉ ns.take i) : min i ns.length ≤ ns.idxOf n := by
  rcases Nat.lt_or_ge (ns.idxOf n) (min i ns.length) with hlt | hge
  · exfalso
    refine h ?_
    have hl : ns.idxOf n < ns.length := by omega
    have : (ns.take i)[ns.idxOf n]? = some n := by
      rw [List.getElem?_take, if_pos (by omega), List.getElem?_eq_getElem hl, List.getElem_idxOf]
    exact List.mem_of_getElem? this
  · exact hge
theorem idx_eq {ns : List (List UInt8)} {n : List UInt8} {i : Nat} (hm : ns[i]? = some n) (h : n ∉ ns.take i) : ns.idxOf n = i := by
  obtain ⟨hl, he⟩ := List.getElem?_eq_some_iff.1 hm
  have h1 := idx_ge h
  have h2 : ns.idxOf n ≤ i := by
    rcases Nat.lt_or_ge i (ns.idxOf n) with hlt | hge
    · exfalso
      have h3 := List.not_of_lt_findIdx (p := (· == n)) (xs := ns) (i := i) hlt
      simp at h3
      exact h3 he
    · exact hge
  omega

set_option maxRecDepth 100000 in
set_option maxHeartbeats 2000000 in
theorem get2_calls (v : Cx.J) (cs : List Value) (n : List UInt8) (w : World) (ok : Nat → Prop) (hj : JAt w ok v cs) (hf : fit maxLen v) :
    Calls Tryz.prog 39 #[.agg cs.toArray, .string ⟨n.toArray⟩] w (GetPost v n w) := by
  cases v with
  | mk k is t ns ks =>
  obtain ⟨a, nc, a', kc, rfl⟩ := hj.shape
  have hnl : ns.length ≤ maxLen := hf.2.1
  have hkl : ks.length ≤ maxLen := hf.2.2.2.1
  unfold maxLen at hnl hkl
  have J := Lib.hid hj.all
  have HB := Lib.hid (((Below.refl w.heap.size w).alloc (Nat.le_refl _) (.cells #[.int .i64 k, .bool is, .string ⟨t.toArray⟩, .slice a ns.length nc, .slice a' ks.length kc] 48)).alloc (by simp) (.cells #[.int .i64 0, .bool false, .string ⟨#[]⟩, .slice none 0 0, .slice none 0 0] 48))
  have HBX := Lib.hid ((Below.heap_alloc _ (.cells #[.int .i64 0, .bool false, .string ⟨#[]⟩, .slice none 0 0, .slice none 0 0] 48) _ (by simp)).trans (heap_alloc_new w (.cells #[.int .i64 k, .bool is, .string ⟨t.toArray⟩, .slice a ns.length nc, .slice a' ks.length kc] 48)))
  have HRX := Lib.hid (show ((w.alloc (.cells #[.int .i64 k, .bool is, .string ⟨t.toArray⟩, .slice a ns.length nc, .slice a' ks.length kc] 48)).alloc (.cells #[.int .i64 0, .bool false, .string ⟨#[]⟩, .slice none 0 0, .slice none 0 0] 48)).heap[w.heap.size + 1]? = some (.cells #[.int .i64 0, .bool false, .string ⟨#[]⟩, .slice none 0 0, .slice none 0 0] 48 (0, 0)) from by have := heap_alloc_new (w.alloc (.cells #[.int .i64 k, .bool is, .string ⟨t.toArray⟩, .slice a ns.length nc, .slice a' ks.length kc] 48)) (.cells #[.int .i64 0, .bool false, .string ⟨#[]⟩, .slice none 0 0, .slice none 0 0] 48); rw [show (w.alloc (.cells #[.int .i64 k, .bool is, .string ⟨t.toArray⟩, .slice a ns.length nc, .slice a' ks.length kc] 48)).heap.size = w.heap.size + 1 by simp] at this; exact this)
  clear hj hf
  go_enter Tryz.func39, Tryz.ntmps39
  go_wp2_with fail
  go_loopg [6] (ns.length) (fun q z wr => ∃ (i : Nat), z = .int .i64 i ∧ q = ns.length - i ∧ i ≤ ns.length ∧ i ≤ ks.length ∧ Hid (n ∉ ns.take i) ∧ Hid (Below w.heap.size w wr) ∧ Hid (wr.heap[w.heap.size]? = some (.cells #[.int .i64 k, .bool is, .string ⟨t.toArray⟩, .slice a ns.length nc, .slice a' ks.length kc] 48 (0, 0))) ∧ Hid (wr.heap[w.heap.size + 1]? = some (.cells #[.int .i64 0, .bool false, .string ⟨#[]⟩, .slice none 0 0, .slice none 0 0] 48 (0, 0))))
  case atStart => exact ⟨0, rfl, rfl, Nat.zero_le _, Nat.zero_le _, Lib.hid (by simp), HB, HBX, HRX⟩
  case round =>
    clear HB HBX HRX
    obtain ⟨i, rfl, hq, hi, hik, HT, hb, HBX, HRX⟩ := hrel
    obtain ⟨r0, r1, r2, r3, r4, rf⟩ := cells5 HRX.out
    have rf0 := rf 0
    obtain ⟨q0, q1, q2, q3, q4, _⟩ := cells5 HBX.out
    have hsz : w.heap.size < wr.heap.size := heap_lt HBX.out
    have HQ := Lib.hid hq
    clear hq
    by_cases hlt : i < ns.length
    rotate_left
    · have hie : i = ns.length := by omega
      have HGN : Hid (Cx.get (.mk k is t ns ks) n = none) := Lib.hid (by
        show (if k = 6 ∧ n ∈ ns then ks[ns.idxOf n]? else none) = none
        rw [if_neg]
        rintro ⟨_, hm⟩
        have := HT.out
        rw [hie, List.take_length] at this
        exact this hm)
      have hltI : ¬ (i : Int) < (ns.length : Int) := by omega
      clear hlt
      obtain ⟨z0, z1, z2, z3, z4, _⟩ := cells5 (put5_heap (a := .int .i64 0) (b := .bool false) (c := .string ⟨#[]⟩) (d := .slice none 0 0) (e := .slice none 0 0) HRX.out)
      have Z := Lib.hid (And.intro z0 (And.intro z1 (And.intro z2 (And.intro z3 z4))))
      clear z0 z1 z2 z3 z4
      go_wp2_with fail
      obtain ⟨z0, z1, z2, z3, z4⟩ := Z.out
      refine bodyPost_ret (v := .tuple #[.agg #[.int .i64 0, .bool false, .string ⟨#[]⟩, .slice none 0 0, .slice none 0 0], .bool false]) (by simp [results, Tryz.results39, go_sem, z0, z1, z2, z3, z4]) rfl ?_
      exact ⟨[.int .i64 0, .bool false, .string ⟨#[]⟩, .slice none 0 0, .slice none 0 0], by rw [HGN.out]; rfl, by rw [HGN.out]; exact JAt.plain, put5_below hb.out⟩
    have hltI : (i : Int) < (ns.length : Int) := by omega
    by_cases hlk : i < ks.length
    rotate_left
    · have hie : i = ks.length := by omega
      have HGN : Hid (Cx.get (.mk k is t ns ks) n = none) := Lib.hid (by
        show (if k = 6 ∧ n ∈ ns then ks[ns.idxOf n]? else none) = none
        by_cases h : k = 6 ∧ n ∈ ns
        · rw [if_pos h]
          refine List.getElem?_eq_none ?_
          rw [← hie]
          have := idx_ge HT.out; omega
        · rw [if_neg h])
      have hlkI : ¬ (i : Int) < (ks.length : Int) := by omega
      clear hlk
      obtain ⟨z0, z1, z2, z3, z4, _⟩ := cells5 (put5_heap (a := .int .i64 0) (b := .bool false) (c := .string ⟨#[]⟩) (d := .slice none 0 0) (e := .slice none 0 0) HRX.out)
      have Z := Lib.hid (And.intro z0 (And.intro z1 (And.intro z2 (And.intro z3 z4))))
      clear z0 z1 z2 z3 z4
      go_wp2_with fail
      obtain ⟨z0, z1, z2, z3, z4⟩ := Z.out
      refine bodyPost_ret (v := .tuple #[.agg #[.int .i64 0, .bool false, .string ⟨#[]⟩, .slice none 0 0, .slice none 0 0], .bool false]) (by simp [results, Tryz.results39, go_sem, z0, z1, z2, z3, z4]) rfl ?_
      exact ⟨[.int .i64 0, .bool false, .string ⟨#[]⟩, .slice none 0 0, .slice none 0 0], by rw [HGN.out]; rfl, by rw [HGN.out]; exact JAt.plain, put5_below hb.out⟩
    have hlkI : (i : Int) < (ks.length : Int) := by omega
    by_cases hk6 : k = 6
    rotate_left
    · have HGN : Hid (Cx.get (.mk k is t ns ks) n = none) := Lib.hid (by
        show (if k = 6 ∧ n ∈ ns then ks[ns.idxOf n]? else none) = none
        rw [if_neg]
        rintro ⟨h6, _⟩
        exact hk6 h6)
      have n6 : (k == 6) = false := by simpa using hk6
      clear hk6
      obtain ⟨z0, z1, z2, z3, z4, _⟩ := cells5 (put5_heap (a := .int .i64 0) (b := .bool false) (c := .string ⟨#[]⟩) (d := .slice none 0 0) (e := .slice none 0 0) HRX.out)
      have Z := Lib.hid (And.intro z0 (And.intro z1 (And.intro z2 (And.intro z3 z4))))
      clear z0 z1 z2 z3 z4
      go_wp2_with fail
      obtain ⟨z0, z1, z2, z3, z4⟩ := Z.out
      refine bodyPost_ret (v := .tuple #[.agg #[.int .i64 0, .bool false, .string ⟨#[]⟩, .slice none 0 0, .slice none 0 0], .bool false]) (by simp [results, Tryz.results39, go_sem, z0, z1, z2, z3, z4]) rfl ?_
      exact ⟨[.int .i64 0, .bool false, .string ⟨#[]⟩, .slice none 0 0, .slice none 0 0], by rw [HGN.out]; rfl, by rw [HGN.out]; exact JAt.plain, put5_below hb.out⟩
    subst hk6
    obtain ⟨m, hm⟩ : ∃ m, ns[i]? = some m := ⟨ns[i], by simp [hlt]⟩
    obtain ⟨g, o, cap, hv, hgB, hgl, hnc⟩ := J.out.name' hm
    injection hv with ha _ hc
    subst ha hc
    have b5 := (hb.out.cell (p := ⟨g, o + i, none⟩) hgB).trans hnc
    have HM := Lib.hid hm
    clear hnc hm
    by_cases he : m = n
    · subst he
      obtain ⟨x, hx⟩ : ∃ x, ks[i]? = some x := ⟨ks[i]'(by omega), List.getElem?_eq_getElem _⟩
      have HGN : Hid (Cx.get (.mk 6 is t ns ks) m = some x) := Lib.hid (by
        show (if (6 : Int) = 6 ∧ m ∈ ns then ks[ns.idxOf m]? else none) = some x
        rw [if_pos ⟨rfl, List.mem_of_getElem? HM.out⟩, idx_eq HM.out HT.out]
        exact hx)
      obtain ⟨g', o', cap', hv', _, hgl', kb0, kb1, kb2, kb3, hkj, d0, d1, d2, d3, d4⟩ := J.out.kid' hx
      injection hv' with ha' _ hc'
      subst ha' hc'
      have b0 := (hb.out.cell (p := ⟨g', o' + i * 5, none⟩) hgl').trans d0
      have b1 := (hb.out.cell (p := ⟨g', o' + i * 5 + 1, none⟩) hgl').trans d1
      have b2 := (hb.out.cell (p := ⟨g', o' + i * 5 + 2, none⟩) hgl').trans d2
      have b3 := (hb.out.cell (p := ⟨g', o' + i * 5 + 3, none⟩) hgl').trans d3
      have b4 := (hb.out.cell (p := ⟨g', o' + i * 5 + 4, none⟩) hgl').trans d4
      have KJ := Lib.hid hkj
      clear hkj d0 d1 d2 d3 d4 hx
      obtain ⟨z0, z1, z2, z3, z4, _⟩ := cells5 (put5_heap (a := .int .i64 x.kind) (b := .bool x.is) (c := .string ⟨x.text.toArray⟩) (d := .slice kb0 x.names.length kb1) (e := .slice kb2 x.kids.length kb3) HRX.out)
      have Z := Lib.hid (And.intro z0 (And.intro z1 (And.intro z2 (And.intro z3 z4))))
      clear z0 z1 z2 z3 z4
      go_wp2_with fail
      obtain ⟨z0, z1, z2, z3, z4⟩ := Z.out
      refine bodyPost_ret (v := .tuple #[.agg #[.int .i64 x.kind, .bool x.is, .string ⟨x.text.toArray⟩, .slice kb0 x.names.length kb1, .slice kb2 x.kids.length kb3], .bool true]) (by simp [results, Tryz.results39, go_sem, z0, z1, z2, z3, z4]) rfl ?_
      have hb3 := put5_below (a := .int .i64 x.kind) (b := .bool x.is) (c := .string ⟨x.text.toArray⟩) (d := .slice kb0 x.names.length kb1) (e := .slice kb2 x.kids.length kb3) hb.out
      exact ⟨[.int .i64 x.kind, .bool x.is, .string ⟨x.text.toArray⟩, .slice kb0 x.names.length kb1, .slice kb2 x.kids.length kb3], by rw [HGN.out]; rfl, by rw [HGN.out]; exact (KJ.out.below hb3).all, hb3⟩
    · have heb : (m == n) = false := by simpa using he
      have HE := Lib.hid he
      clear he
      go_wp2_with fail
      go_roundg (ns.length - (i + 1))
      case measure => have := HQ.out; omega
      case rel => exact ⟨i + 1, by go_num, rfl, by omega, by omega, Lib.hid (by rw [List.take_add_one, HM.out]; simp only [Option.toList_some, List.mem_append, List.mem_singleton, not_or]; exact ⟨HT.out, fun h => HE.out h.symm⟩), hb, HBX, HRX⟩
end Go.Proofs.YtejlddimokmgjaaGreatDoor
