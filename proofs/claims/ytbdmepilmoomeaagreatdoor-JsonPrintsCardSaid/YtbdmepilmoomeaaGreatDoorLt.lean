/- WALKS: the law's helpers: count, small, light. -/
import Derived.Test.YtbdmepilmoomeaaGreatDoorPrn
namespace Go.Proofs.YtbdmepilmoomeaaGreatDoor
open Go.RowKit

set_option maxRecDepth 100000 in
set_option maxHeartbeats 2000000 in
theorem count_calls : ∀ (N : Nat) (v : Cx.J) (cs : List Value) (most : Nat) (w : World) (ok : Nat → Prop), Cx.nodes v ≤ N → JAt w ok v cs → most ≤ 100000 → fit maxLen v →
    Calls Tryz.prog 36 #[.agg cs.toArray, .int .i64 most] w fun e w' => e = .returned (.int .i64 (min (Cx.nodes v) (most + 1) : Nat)) ∧ Below w.heap.size w w' := by
  intro N
  induction N with
  | zero => intro v _ _ _ _ h; have := nodes_pos v; omega
  | succ N ih =>
    intro v cs most w ok hN hj hm hf
    cases v with
    | mk x is t ns ks =>
    obtain ⟨a, nc, a', kc, rfl⟩ := hj.shape
    have hkl : ks.length ≤ maxLen := hf.2.2.2.1
    unfold maxLen at hkl
    have HBX := Lib.hid (heap_alloc_new w (.cells #[.int .i64 x, .bool is, .string ⟨t.toArray⟩, .slice a ns.length nc, .slice a' ks.length kc] 26))
    have IH := Lib.hid ih; have J := Lib.hid hj.all; have F := Lib.hid hf; have HN := Lib.hid hN
    clear ih hj hf hN
    go_enter Tryz.func36, Tryz.ntmps36
    go_wp2_with fail
    go_loopg [5, 6] (ks.length) (fun q y z wr => ∃ (i n : Nat), y = .int .i64 n ∧ z = .int .i64 i ∧ q = ks.length - i ∧ i ≤ ks.length ∧ n ≤ most + 1 ∧ n = min (1 + Cx.nodesK (ks.take i)) (most + 1) ∧ Hid (Below w.heap.size w wr) ∧ Hid (wr.heap[w.heap.size]? = some (.cells #[.int .i64 x, .bool is, .string ⟨t.toArray⟩, .slice a ns.length nc, .slice a' ks.length kc] 26 (0, 0))))
    case atStart => exact ⟨0, 1, rfl, rfl, rfl, Nat.zero_le _, by omega, by simp [Cx.nodesK], Lib.hid ((Below.refl _ w).alloc (Nat.le_refl _) _), HBX⟩
    case round =>
      clear HBX
      obtain ⟨i, n, rfl, rfl, hq, hi, hn, hnn, hb, HBX⟩ := hrel
      obtain ⟨q0, q1, q2, q3, q4, _⟩ := cells5 HBX.out
      have hsz : w.heap.size < wr.heap.size := heap_lt HBX.out
      have HQ := Lib.hid hq; have HNN := Lib.hid hnn
      clear hq hnn
      rcases Nat.lt_or_ge i ks.length with hlt | hge
      · obtain ⟨k, hk⟩ : ∃ k, ks[i]? = some k := ⟨ks[i], by simp [hlt]⟩
        have hltI : decide ((i : Int) < (ks.length : Int)) = true := by simp; omega
        by_cases hnm : most < n
        · have hnmi : decide ((n : Int) ≤ (most : Int)) = false := by simp; omega
          have hfin : min (Cx.nodes (.mk x is t ns ks)) (most + 1) = min n (most + 1) := by
            have := HNN.out; have := nodesK_get hk
            simp only [Cx.nodes]; omega
          have HFIN : Hid (n = most + 1) := Lib.hid (by omega)
          have HFIN2 := Lib.hid hfin
          clear hfin hk
          go_wp2_with fail
          go_ret
          exact ⟨ret_int (by rw [HFIN2.out]; omega), hb.out⟩
        · have hnmi : decide ((n : Int) ≤ (most : Int)) = true := by simp; omega
          obtain ⟨g, o, cap, hv, _, hgl, kb0, kb1, kb2, kb3, hkj, d0, d1, d2, d3, d4⟩ := J.out.kid' hk
          injection hv with ha _ hc
          subst ha hc
          have b0 := (hb.out.cell (p := ⟨g, o + i * 5, none⟩) hgl).trans d0
          have b1 := (hb.out.cell (p := ⟨g, o + i * 5 + 1, none⟩) hgl).trans d1
          have b2 := (hb.out.cell (p := ⟨g, o + i * 5 + 2, none⟩) hgl).trans d2
          have b3 := (hb.out.cell (p := ⟨g, o + i * 5 + 3, none⟩) hgl).trans d3
          have b4 := (hb.out.cell (p := ⟨g, o + i * 5 + 4, none⟩) hgl).trans d4
          have KJ := Lib.hid hkj; have HK := Lib.hid hk
          clear hkj d0 d1 d2 d3 d4 hk
          go_wp2_with fail
          have hc := IH.out k [.int .i64 k.kind, .bool k.is, .string ⟨k.text.toArray⟩, .slice kb0 k.names.length kb1, .slice kb2 k.kids.length kb3] (most - n) wr _ (by have := HN.out; have := nodesK_get HK.out; simp only [Cx.nodes] at *; omega) (KJ.out.below hb.out) (by omega) (fitK_get F.out.2.2.2.2 HK.out)
          rw [show (((most - n : Nat) : Nat) : Int) = (most : Int) - (n : Int) by omega] at hc
          refine hc.mono ?_
          rintro e w5 ⟨rfl, hb5⟩
          have HB5 := Lib.hid (hb.out.trans (hb5.mono hb.out.size))
          have HBX5 := Lib.hid ((hb5.block _ hsz).trans HBX.out)
          obtain ⟨r, hr⟩ : ∃ r, r = min (Cx.nodes k) (most - n + 1) := ⟨_, rfl⟩
          rw [← hr]
          have hrl : r ≤ most - n + 1 := by omega
          have HR := Lib.hid hr
          clear hb5 hc hr b0 b1 b2 b3 b4
          go_wp2
          go_roundg (ks.length - (i + 1))
          case measure => have := HQ.out; omega
          case rel =>
            refine ⟨i + 1, n + r, by go_num, by go_num, rfl, by omega, by omega, ?_, HB5, HBX5⟩
            have := HR.out; have := HNN.out; have h2 := (nodesK_get HK.out).1
            rw [h2]; omega
      · have hik : i = ks.length := by omega
        subst hik
        have hltI : decide ((ks.length : Int) < (ks.length : Int)) = false := by simp
        have hfin : min (Cx.nodes (.mk x is t ns ks)) (most + 1) = n := by
          have := HNN.out
          rw [List.take_length] at this
          simp only [Cx.nodes]; omega
        have HFIN2 := Lib.hid hfin
        clear hfin
        go_wp2_with fail
        go_ret
        exact ⟨ret_int (by rw [HFIN2.out]; omega), hb.out⟩

/-- What 'small' answers: if it says yes, no text and no list is longer than 2000. -/
def SmallPost (v : Cx.J) (w : World) (e : Ending) (w' : World) : Prop := ∃ r : Bool, e = .returned (.bool r) ∧ (r = true → fit 2000 v) ∧ Below w.heap.size w w'

theorem fitK_all {L : Nat} : ∀ {ks : List Cx.J}, (∀ k ∈ ks, fit L k) → fitK L ks
  | [], _ => by unfold fitK Cx.fitK; trivial
  | k :: ks, h => by
    unfold fitK Cx.fitK
    exact ⟨h k (by simp), fitK_all fun x hx => h x (by simp [hx])⟩

set_option maxRecDepth 100000 in
set_option maxHeartbeats 2000000 in
theorem small_step (deep : Nat) (hd : deep ≤ 61) (ih : deep < 61 → ∀ (v : Cx.J) (cs : List Value) (w : World) (ok : Nat → Prop), JAt w ok v cs → fit maxLen v →
      Calls Tryz.prog 37 #[.agg cs.toArray, .int .i64 ((deep : Int) + 1)] w (SmallPost v w))
    (v : Cx.J) (cs : List Value) (w : World) (ok : Nat → Prop) (hj : JAt w ok v cs) (hf : fit maxLen v) :
    Calls Tryz.prog 37 #[.agg cs.toArray, .int .i64 deep] w (SmallPost v w) := by
  cases v with
  | mk x is t ns ks =>
  obtain ⟨a, nc, a', kc, rfl⟩ := hj.shape
  have htl : t.length ≤ maxLen := hf.1
  have hnl : ns.length ≤ maxLen := hf.2.1
  have hkl : ks.length ≤ maxLen := hf.2.2.2.1
  unfold maxLen at htl hnl hkl
  have HBX := Lib.hid (heap_alloc_new w (.cells #[.int .i64 x, .bool is, .string ⟨t.toArray⟩, .slice a ns.length nc, .slice a' ks.length kc] 26))
  have HB0 := Lib.hid ((Below.refl w.heap.size w).alloc (Nat.le_refl _) (.cells #[.int .i64 x, .bool is, .string ⟨t.toArray⟩, .slice a ns.length nc, .slice a' ks.length kc] 26))
  have IH := Lib.hid ih; have J := Lib.hid hj.all; have F := Lib.hid hf
  clear ih hj hf
  by_cases h1 : t.length ≤ 2000
  rotate_left
  · have d1 : (2000 : Int) < (t.length : Int) := by omega
    clear h1
    go_enter Tryz.func37, Tryz.ntmps37
    go_wp2_with fail
    go_ret
    exact ⟨false, rfl, (fun h => by cases h), HB0.out⟩
  have d1 : ¬ (2000 : Int) < (t.length : Int) := by omega
  by_cases h2 : ns.length ≤ 400
  rotate_left
  · have d2 : (400 : Int) < (ns.length : Int) := by omega
    clear h2
    go_enter Tryz.func37, Tryz.ntmps37
    go_wp2_with fail
    go_ret
    exact ⟨false, rfl, (fun h => by cases h), HB0.out⟩
  have d2 : ¬ (400 : Int) < (ns.length : Int) := by omega
  by_cases h3 : ks.length ≤ 400
  rotate_left
  · have d3 : (400 : Int) < (ks.length : Int) := by omega
    clear h3
    go_enter Tryz.func37, Tryz.ntmps37
    go_wp2_with fail
    go_ret
    exact ⟨false, rfl, (fun h => by cases h), HB0.out⟩
  have d3 : ¬ (400 : Int) < (ks.length : Int) := by omega
  by_cases h4 : deep ≤ 60
  rotate_left
  · have d4 : (60 : Int) < (deep : Int) := by omega
    clear h4
    go_enter Tryz.func37, Tryz.ntmps37
    go_wp2_with fail
    go_ret
    exact ⟨false, rfl, (fun h => by cases h), HB0.out⟩
  have d4 : ¬ (60 : Int) < (deep : Int) := by omega
  have IH2 := Lib.hid (IH.out (by omega))
  clear IH
  go_enter Tryz.func37, Tryz.ntmps37
  go_wp2_with fail
  go_loopg [5] (ns.length) (fun q z wr => ∃ (i : Nat), z = .int .i64 i ∧ q = ns.length - i ∧ i ≤ ns.length ∧ Hid (∀ n ∈ ns.take i, n.length ≤ 2000) ∧ Hid (Below w.heap.size w wr) ∧ Hid (wr.heap[w.heap.size]? = some (.cells #[.int .i64 x, .bool is, .string ⟨t.toArray⟩, .slice a ns.length nc, .slice a' ks.length kc] 26 (0, 0))))
  case atStart => exact ⟨0, rfl, rfl, Nat.zero_le _, Lib.hid (by simp), HB0, HBX⟩
  case round =>
    clear HBX HB0
    obtain ⟨i, rfl, hq, hi, hns, hb, HBX⟩ := hrel
    obtain ⟨q0, q1, q2, q3, q4, _⟩ := cells5 HBX.out
    have HQ := Lib.hid hq
    clear hq
    rcases Nat.lt_or_ge i ns.length with hlt | hge
    · obtain ⟨n, hn⟩ : ∃ n, ns[i]? = some n := ⟨ns[i], by simp [hlt]⟩
      obtain ⟨g, o, cap, hv, hgB, hgl, hnc⟩ := J.out.name' hn
      injection hv with ha _ hc
      subst ha hc
      have b0 := (hb.out.cell (p := ⟨g, o + i, none⟩) hgB).trans hnc
      have hnm : n.length ≤ maxLen := F.out.2.2.1 n (List.mem_of_getElem? hn)
      unfold maxLen at hnm
      have HN := Lib.hid hn
      clear hn hnc
      have hltI : decide ((i : Int) < (ns.length : Int)) = true := by simp; omega
      by_cases h5 : n.length ≤ 500
      · have d5 : ¬ (500 : Int) < (n.length : Int) := by omega
        have H5 := Lib.hid h5
        clear h5
        go_wp2_with fail
        go_roundg (ns.length - (i + 1))
        case measure => have := HQ.out; omega
        case rel =>
          refine ⟨i + 1, by go_num, rfl, by omega, Lib.hid ?_, hb, HBX⟩
          intro m hm
          rw [List.take_add_one, HN.out] at hm
          simp only [Option.toList_some, List.mem_append, List.mem_singleton] at hm
          rcases hm with hm | rfl
          · exact hns.out m hm
          · have := H5.out; omega
      · have d5 : (500 : Int) < (n.length : Int) := by omega
        clear h5
        go_wp2_with fail
        go_ret
        exact ⟨false, rfl, (fun h => by cases h), hb.out⟩
    · have hik : i = ns.length := by omega
      subst hik
      have hltI : decide ((ns.length : Int) < (ns.length : Int)) = false := by simp
      have HNS : Hid (∀ n ∈ ns, n.length ≤ 2000) := Lib.hid (by have := hns.out; rw [List.take_length] at this; exact this)
      go_wp2_with fail
      clear q0 q1 q2 q3 q4
      go_loopg [6] (ks.length) (fun q z wr => ∃ (i : Nat), z = .int .i64 i ∧ q = ks.length - i ∧ i ≤ ks.length ∧ Hid (∀ k ∈ ks.take i, fit 2000 k) ∧ Hid (Below w.heap.size w wr) ∧ Hid (wr.heap[w.heap.size]? = some (.cells #[.int .i64 x, .bool is, .string ⟨t.toArray⟩, .slice a ns.length nc, .slice a' ks.length kc] 26 (0, 0))))
      case atStart => exact ⟨0, rfl, rfl, Nat.zero_le _, Lib.hid (by simp), hb, HBX⟩
      case round =>
        clear HBX hb HQ hns hi hge hltI
        obtain ⟨i, rfl, hq, hi, hks, hb, HBX⟩ := hrel
        obtain ⟨q0, q1, q2, q3, q4, _⟩ := cells5 HBX.out
        have hsz := heap_lt HBX.out
        have HQ := Lib.hid hq
        clear hq
        rcases Nat.lt_or_ge i ks.length with hlt | hge
        · obtain ⟨k, hk⟩ : ∃ k, ks[i]? = some k := ⟨ks[i], by simp [hlt]⟩
          obtain ⟨g, o, cap, hv, _, hgl, kb0, kb1, kb2, kb3, hkj, e0, e1, e2, e3, e4⟩ := J.out.kid' hk
          injection hv with ha _ hc
          subst ha hc
          have b0 := (hb.out.cell (p := ⟨g, o + i * 5, none⟩) hgl).trans e0
          have b1 := (hb.out.cell (p := ⟨g, o + i * 5 + 1, none⟩) hgl).trans e1
          have b2 := (hb.out.cell (p := ⟨g, o + i * 5 + 2, none⟩) hgl).trans e2
          have b3 := (hb.out.cell (p := ⟨g, o + i * 5 + 3, none⟩) hgl).trans e3
          have b4 := (hb.out.cell (p := ⟨g, o + i * 5 + 4, none⟩) hgl).trans e4
          have KJ := Lib.hid hkj; have HK := Lib.hid hk
          have hltI : decide ((i : Int) < (ks.length : Int)) = true := by simp; omega
          clear hkj e0 e1 e2 e3 e4 hk
          go_wp2_with fail
          refine (IH2.out k [.int .i64 k.kind, .bool k.is, .string ⟨k.text.toArray⟩, .slice kb0 k.names.length kb1, .slice kb2 k.kids.length kb3] _ _ (KJ.out.below hb.out) (fitK_get F.out.2.2.2.2 HK.out)).mono ?_
          rintro e w5 ⟨r, rfl, hr, hb5⟩
          have HB5 := Lib.hid (hb.out.trans (hb5.mono hb.out.size))
          have HBX5 := Lib.hid ((hb5.block _ hsz).trans HBX.out)
          have HR := Lib.hid hr
          clear hb5 hr b0 b1 b2 b3 b4 q0 q1 q2 q3 q4
          cases r with
          | false =>
            go_wp2_with fail
            go_ret
            exact ⟨false, rfl, (fun h => by cases h), HB5.out⟩
          | true =>
            have HR2 := Lib.hid (HR.out rfl)
            clear HR
            go_wp2_with fail
            go_roundg (ks.length - (i + 1))
            case measure => have := HQ.out; omega
            case rel =>
              refine ⟨i + 1, by go_num, rfl, by omega, Lib.hid ?_, HB5, HBX5⟩
              intro m hm
              rw [List.take_add_one, HK.out] at hm
              simp only [Option.toList_some, List.mem_append, List.mem_singleton] at hm
              rcases hm with hm | rfl
              · exact hks.out m hm
              · exact HR2.out
        · have hik : i = ks.length := by omega
          subst hik
          have hltI : decide ((ks.length : Int) < (ks.length : Int)) = false := by simp
          go_wp2_with fail
          go_ret
          refine ⟨true, rfl, fun _ => ?_, hb.out⟩
          unfold fit Cx.fit
          refine ⟨by omega, by omega, HNS.out, by omega, fitK_all ?_⟩
          have := hks.out
          rw [List.take_length] at this
          exact this

theorem small_calls : ∀ (m deep : Nat), deep + m = 61 → ∀ (v : Cx.J) (cs : List Value) (w : World) (ok : Nat → Prop), JAt w ok v cs → fit maxLen v →
    Calls Tryz.prog 37 #[.agg cs.toArray, .int .i64 deep] w (SmallPost v w)
  | 0, d, hm, v, cs, w, ok, hj, hf => small_step d (by omega) (fun h => by omega) v cs w ok hj hf
  | m + 1, d, hm, v, cs, w, ok, hj, hf => small_step d (by omega) (fun _ v cs w ok hj hf => by
      have := small_calls m (d + 1) (by omega) v cs w ok hj hf
      rw [show ((d + 1 : Nat) : Int) = (d : Int) + 1 by omega] at this
      exact this) v cs w ok hj hf

/-- What 'light' answers: if it says yes, a value has at most 2000 nodes, and no text and no list is longer than 2000. -/
def LightPost (v : Cx.J) (w : World) (e : Ending) (w' : World) : Prop := ∃ r : Bool, e = .returned (.bool r) ∧ (r = true → fit 2000 v ∧ Cx.nodes v ≤ 2000) ∧ Below w.heap.size w w'

set_option maxRecDepth 100000 in
set_option maxHeartbeats 2000000 in
theorem light_calls (v : Cx.J) (cs : List Value) (w : World) (ok : Nat → Prop) (hj : JAt w ok v cs) (hf : fit maxLen v) :
    Calls Tryz.prog 13 #[.agg cs.toArray] w (LightPost v w) := by
  cases v with
  | mk x is t ns ks =>
  obtain ⟨a, nc, a', kc, rfl⟩ := hj.shape
  have HBX := Lib.hid (heap_alloc_new w (.cells #[.int .i64 x, .bool is, .string ⟨t.toArray⟩, .slice a ns.length nc, .slice a' ks.length kc] 26))
  have HB0 := Lib.hid ((Below.refl w.heap.size w).alloc (Nat.le_refl _) (.cells #[.int .i64 x, .bool is, .string ⟨t.toArray⟩, .slice a ns.length nc, .slice a' ks.length kc] 26))
  have J := Lib.hid hj.all; have F := Lib.hid hf
  clear hj hf
  go_enter Tryz.func13, Tryz.ntmps13
  go_wp2_with fail
  refine (count_calls _ (.mk x is t ns ks) [.int .i64 x, .bool is, .string ⟨t.toArray⟩, .slice a ns.length nc, .slice a' ks.length kc] 2000 _ _ (Nat.le_refl _) (J.out.below HB0.out) (by omega) F.out).mono ?_
  rintro e w5 ⟨rfl, hb5⟩
  have HB5 := Lib.hid (HB0.out.trans (hb5.mono HB0.out.size))
  have hbx5 := (hb5.block _ (by simp)).trans HBX.out
  obtain ⟨q0, q1, q2, q3, q4, _⟩ := cells5 hbx5
  have HBX5 := Lib.hid hbx5
  clear hb5 hbx5
  by_cases hn : Cx.nodes (.mk x is t ns ks) ≤ 2000
  · obtain ⟨N, hNe⟩ : ∃ N : Nat, N = min (Cx.nodes (.mk x is t ns ks)) (2000 + 1) := ⟨_, rfl⟩
    rw [← hNe]
    have hnl : (N : Int) ≤ 2000 := by omega
    have HN := Lib.hid hn
    clear hn hNe
    go_wp2_with fail
    refine (show Calls Tryz.prog 37 #[.agg #[.int .i64 x, .bool is, .string ⟨t.toArray⟩, .slice a ns.length nc, .slice a' ks.length kc], .int .i64 0] _ _ from small_calls 61 0 (by omega) (.mk x is t ns ks) [.int .i64 x, .bool is, .string ⟨t.toArray⟩, .slice a ns.length nc, .slice a' ks.length kc] _ _ (J.out.below HB5.out) F.out).mono ?_
    rintro e w6 ⟨r, rfl, hr, hb6⟩
    have HB6 := Lib.hid (HB5.out.trans (hb6.mono HB5.out.size))
    have HR := Lib.hid hr
    clear hb6 hr
    go_wp2
    go_ret
    exact ⟨r, rfl, fun h => ⟨HR.out h, HN.out⟩, HB6.out⟩
  · obtain ⟨N, hNe⟩ : ∃ N : Nat, N = min (Cx.nodes (.mk x is t ns ks)) (2000 + 1) := ⟨_, rfl⟩
    rw [← hNe]
    have hnl : ¬ (N : Int) ≤ 2000 := by omega
    clear hn hNe
    go_wp2_with fail
    go_ret
    exact ⟨false, rfl, (fun h => by cases h), HB5.out⟩
end Go.Proofs.YtbdmepilmoomeaaGreatDoor
