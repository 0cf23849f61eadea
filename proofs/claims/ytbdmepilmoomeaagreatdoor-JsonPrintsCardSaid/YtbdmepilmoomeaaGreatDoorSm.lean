/- WALKS: the law's helpers: same. -/
import Derived.Test.YtbdmepilmoomeaaGreatDoorLt
import Derived.StillTailTactics
namespace Go.Proofs.YtbdmepilmoomeaaGreatDoor
open Go.RowKit

/-- What 'same' answers. -/
def SamePost (a b : Cx.J) (w : World) (e : Ending) (w' : World) : Prop := ∃ r : Bool, e = .returned (.bool r) ∧ (r = true ↔ a = b) ∧ Below w.heap.size w w'

theorem below_dN {B : Nat} {w w' : World} (h : Below B w w') (n : Nat) : Below B w (w'.drewN n) := ⟨h.os, h.tape, h.output, h.size, h.block⟩
theorem take_eq {α : Type} {l m : List α} {i : Nat} {x y : α} (h : l.take i = m.take i) (hx : l[i]? = some x) (hy : m[i]? = some y) (e : x = y) : l.take (i + 1) = m.take (i + 1) := by
  rw [List.take_add_one, List.take_add_one, h, hx, hy, e]

set_option maxRecDepth 100000 in
set_option maxHeartbeats 4000000 in
theorem same_step (N : Nat) (ih : ∀ (u v : Cx.J) (cs ds : List Value) (w : World) (ok : Nat → Prop), Cx.nodes u ≤ N → JAt w ok u cs → JAt w ok v ds → fit maxLen u → fit maxLen v →
      Calls Tryz.prog 9 #[.agg cs.toArray, .agg ds.toArray] w (SamePost u v w))
    (u v : Cx.J) (cs ds : List Value) (w : World) (ok : Nat → Prop) (hN : Cx.nodes u ≤ N + 1) (hj : JAt w ok u cs) (hi : JAt w ok v ds) (hf : fit maxLen u) (hg : fit maxLen v) :
    Calls Tryz.prog 9 #[.agg cs.toArray, .agg ds.toArray] w (SamePost u v w) := by
  cases u with
  | mk x is t ns ks =>
  cases v with
  | mk qx qis qt qns qks =>
  obtain ⟨a, nc, a', kc, rfl⟩ := hj.shape
  obtain ⟨qa, qnc, qa', qkc, rfl⟩ := hi.shape
  have hnl : ns.length ≤ maxLen := hf.2.1
  have hkl : ks.length ≤ maxLen := hf.2.2.2.1
  have hqnl : qns.length ≤ maxLen := hg.2.1
  have hqkl : qks.length ≤ maxLen := hg.2.2.2.1
  unfold maxLen at hnl hkl hqnl hqkl
  have HBX := Lib.hid ((Below.heap_alloc _ (.cells #[.int .i64 qx, .bool qis, .string ⟨qt.toArray⟩, .slice qa qns.length qnc, .slice qa' qks.length qkc] 26) _ (by simp)).trans (heap_alloc_new w (.cells #[.int .i64 x, .bool is, .string ⟨t.toArray⟩, .slice a ns.length nc, .slice a' ks.length kc] 26)))
  have HBY := Lib.hid (show ((w.alloc (.cells #[.int .i64 x, .bool is, .string ⟨t.toArray⟩, .slice a ns.length nc, .slice a' ks.length kc] 26)).alloc (.cells #[.int .i64 qx, .bool qis, .string ⟨qt.toArray⟩, .slice qa qns.length qnc, .slice qa' qks.length qkc] 26)).heap[w.heap.size + 1]? = some (.cells #[.int .i64 qx, .bool qis, .string ⟨qt.toArray⟩, .slice qa qns.length qnc, .slice qa' qks.length qkc] 26 (0, 0)) from by have := heap_alloc_new (w.alloc (.cells #[.int .i64 x, .bool is, .string ⟨t.toArray⟩, .slice a ns.length nc, .slice a' ks.length kc] 26)) (.cells #[.int .i64 qx, .bool qis, .string ⟨qt.toArray⟩, .slice qa qns.length qnc, .slice qa' qks.length qkc] 26); simpa using this)
  have HB0 := Lib.hid (((Below.refl w.heap.size w).alloc (Nat.le_refl _) (.cells #[.int .i64 x, .bool is, .string ⟨t.toArray⟩, .slice a ns.length nc, .slice a' ks.length kc] 26)).alloc (by simp) (.cells #[.int .i64 qx, .bool qis, .string ⟨qt.toArray⟩, .slice qa qns.length qnc, .slice qa' qks.length qkc] 26))
  have IH := Lib.hid ih; have J := Lib.hid hj.all; have F := Lib.hid hf; have I := Lib.hid hi.all; have G := Lib.hid hg; have HN := Lib.hid hN
  clear ih hj hf hi hg hN
  by_cases hk : x = qx
  rotate_left
  · have NE := Lib.hid (show ¬ (Cx.J.mk x is t ns ks = .mk qx qis qt qns qks) from fun h => by injection h with h; exact hk h)
    go_enter Tryz.func9, Tryz.ntmps9
    go_wp2_with fail
    go_ret
    exact ⟨false, rfl, ⟨(fun h => by cases h), fun h => absurd h NE.out⟩, HB0.out⟩
  subst hk
  by_cases hs : is = qis
  rotate_left
  · have NE := Lib.hid (show ¬ (Cx.J.mk x is t ns ks = .mk x qis qt qns qks) from fun h => by injection h with _ h; exact hs h)
    go_enter Tryz.func9, Tryz.ntmps9
    go_wp2_with fail
    go_ret
    exact ⟨false, rfl, ⟨(fun h => by cases h), fun h => absurd h NE.out⟩, HB0.out⟩
  subst hs
  by_cases ht : t = qt
  rotate_left
  · have NE := Lib.hid (show ¬ (Cx.J.mk x is t ns ks = .mk x is qt qns qks) from fun h => by injection h with _ _ h; exact ht h)
    go_enter Tryz.func9, Tryz.ntmps9
    go_wp2_with fail
    go_ret
    exact ⟨false, rfl, ⟨(fun h => by cases h), fun h => absurd h NE.out⟩, HB0.out⟩
  subst ht
  by_cases hn : ns.length = qns.length
  rotate_left
  · have NE := Lib.hid (show ¬ (Cx.J.mk x is t ns ks = .mk x is t qns qks) from fun h => by injection h with _ _ _ h; exact hn (by rw [h]))
    have hne : ((ns.length : Int) != (qns.length : Int)) = true := by rw [bne_iff_ne]; omega
    go_enter Tryz.func9, Tryz.ntmps9
    go_wp2_with fail
    go_ret
    exact ⟨false, rfl, ⟨(fun h => by cases h), fun h => absurd h NE.out⟩, HB0.out⟩
  have hne : ((ns.length : Int) != (qns.length : Int)) = false := by rw [hn]; simp
  have HNN := Lib.hid hn
  clear hn
  by_cases hk : ks.length = qks.length
  rotate_left
  · have NE := Lib.hid (show ¬ (Cx.J.mk x is t ns ks = .mk x is t qns qks) from fun h => by injection h with _ _ _ _ h; exact hk (by rw [h]))
    have hke : ((ks.length : Int) != (qks.length : Int)) = true := by rw [bne_iff_ne]; omega
    go_enter Tryz.func9, Tryz.ntmps9
    go_wp2_with fail
    go_ret
    exact ⟨false, rfl, ⟨(fun h => by cases h), fun h => absurd h NE.out⟩, HB0.out⟩
  have hke : ((ks.length : Int) != (qks.length : Int)) = false := by rw [hk]; simp
  have HKK := Lib.hid hk
  clear hk
  go_enter Tryz.func9, Tryz.ntmps9
  go_wp2_with fail
  go_loopg [5] (ns.length) (fun q z wr => ∃ (i : Nat), z = .int .i64 i ∧ q = ns.length - i ∧ i ≤ ns.length ∧ Hid (ns.take i = qns.take i) ∧ Hid (Below w.heap.size w wr) ∧ Hid (wr.heap[w.heap.size]? = some (.cells #[.int .i64 x, .bool is, .string ⟨t.toArray⟩, .slice a ns.length nc, .slice a' ks.length kc] 26 (0, 0))) ∧ Hid (wr.heap[w.heap.size + 1]? = some (.cells #[.int .i64 x, .bool is, .string ⟨t.toArray⟩, .slice qa qns.length qnc, .slice qa' qks.length qkc] 26 (0, 0))))
  case atStart => exact ⟨0, rfl, rfl, Nat.zero_le _, Lib.hid rfl, HB0, HBX, HBY⟩
  case round =>
    clear HBX HB0 HBY
    obtain ⟨i, rfl, hq, hi, hns, hb, HBX, HBY⟩ := hrel
    obtain ⟨q0, q1, q2, q3, q4, _⟩ := cells5 HBX.out
    obtain ⟨p0, p1, p2, p3, p4, _⟩ := cells5 HBY.out
    have HQ := Lib.hid hq
    clear hq
    rcases Nat.lt_or_ge i ns.length with hlt | hge
    · have hlt2 : i < qns.length := by rw [← HNN.out]; exact hlt
      obtain ⟨n, hn⟩ : ∃ n, ns[i]? = some n := ⟨ns[i], by simp [hlt]⟩
      obtain ⟨n', hn'⟩ : ∃ n', qns[i]? = some n' := ⟨qns[i], by simp [hlt2]⟩
      obtain ⟨g, o, cap, hv, hgB, hgl, hnc⟩ := J.out.name' hn
      obtain ⟨g', o', cap', hv', hgB', hgl', hnc'⟩ := I.out.name' hn'
      injection hv with ha _ hc
      subst ha hc
      injection hv' with ha' _ hc'
      subst ha' hc'
      have b0 := (hb.out.cell (p := ⟨g, o + i, none⟩) hgB).trans hnc
      have b1 := (hb.out.cell (p := ⟨g', o' + i, none⟩) hgB').trans hnc'
      have HN1 := Lib.hid hn; have HN2 := Lib.hid hn'
      clear hn hnc hn' hnc'
      have hltI : decide ((i : Int) < (ns.length : Int)) = true := by simp; omega
      have hltA : (i : Int) < (ns.length : Int) := by omega
      have hltB : (i : Int) < (qns.length : Int) := by omega
      by_cases hnn : n = n'
      · subst hnn
        go_wp2_with fail
        go_quiet (fail)
        go_wp2_with fail
        go_roundg (ns.length - (i + 1))
        case measure => have := HQ.out; omega
        case rel => exact ⟨i + 1, by go_num, rfl, by omega, Lib.hid (take_eq hns.out HN1.out HN2.out rfl), Lib.hid (below_dN hb.out _), HBX, HBY⟩
      · have NE := Lib.hid (show ¬ (Cx.J.mk x is t ns ks = .mk x is t qns qks) from fun h => by
          injection h with _ _ _ h
          have h1 := HN1.out; have h2 := HN2.out
          rw [h, h2] at h1
          injection h1 with h1
          exact hnn h1.symm)
        have hnb : (n == n') = false := by simpa using hnn
        go_wp2_with fail
        go_quiet (fail)
        go_wp2_with fail
        go_ret
        exact ⟨false, rfl, ⟨(fun h => by cases h), fun h => absurd h NE.out⟩, below_dN hb.out _⟩
    · have hik : i = ns.length := by omega
      subst hik
      have hltI : decide ((ns.length : Int) < (ns.length : Int)) = false := by simp
      have HNS : Hid (ns = qns) := Lib.hid (by have := hns.out; rw [List.take_length, HNN.out, List.take_length] at this; exact this)
      go_wp2_with fail
      clear q0 q1 q2 q3 q4 p0 p1 p2 p3 p4
      go_loopg [6] (ks.length) (fun q z wr => ∃ (i : Nat), z = .int .i64 i ∧ q = ks.length - i ∧ i ≤ ks.length ∧ Hid (ks.take i = qks.take i) ∧ Hid (Below w.heap.size w wr) ∧ Hid (wr.heap[w.heap.size]? = some (.cells #[.int .i64 x, .bool is, .string ⟨t.toArray⟩, .slice a ns.length nc, .slice a' ks.length kc] 26 (0, 0))) ∧ Hid (wr.heap[w.heap.size + 1]? = some (.cells #[.int .i64 x, .bool is, .string ⟨t.toArray⟩, .slice qa qns.length qnc, .slice qa' qks.length qkc] 26 (0, 0))))
      case atStart => exact ⟨0, rfl, rfl, Nat.zero_le _, Lib.hid rfl, hb, HBX, HBY⟩
      case round =>
        clear HBX HBY hb HQ hns hi hge hltI
        obtain ⟨i, rfl, hq, hi, hks, hb, HBX, HBY⟩ := hrel
        obtain ⟨q0, q1, q2, q3, q4, _⟩ := cells5 HBX.out
        obtain ⟨p0, p1, p2, p3, p4, _⟩ := cells5 HBY.out
        have hsz := heap_lt HBX.out
        have HQ := Lib.hid hq
        clear hq
        rcases Nat.lt_or_ge i ks.length with hlt | hge
        · have hlt2 : i < qks.length := by rw [← HKK.out]; exact hlt
          obtain ⟨k, hk⟩ : ∃ k, ks[i]? = some k := ⟨ks[i], by simp [hlt]⟩
          obtain ⟨k', hk'⟩ : ∃ k', qks[i]? = some k' := ⟨qks[i], by simp [hlt2]⟩
          obtain ⟨g, o, cap, hv, _, hgl, kb0, kb1, kb2, kb3, hkj, e0, e1, e2, e3, e4⟩ := J.out.kid' hk
          obtain ⟨g', o', cap', hv', _, hgl', kc0, kc1, kc2, kc3, hkj', f0, f1, f2, f3, f4⟩ := I.out.kid' hk'
          injection hv with ha _ hc
          subst ha hc
          injection hv' with ha' _ hc'
          subst ha' hc'
          have b0 := (hb.out.cell (p := ⟨g, o + i * 5, none⟩) hgl).trans e0
          have b1 := (hb.out.cell (p := ⟨g, o + i * 5 + 1, none⟩) hgl).trans e1
          have b2 := (hb.out.cell (p := ⟨g, o + i * 5 + 2, none⟩) hgl).trans e2
          have b3 := (hb.out.cell (p := ⟨g, o + i * 5 + 3, none⟩) hgl).trans e3
          have b4 := (hb.out.cell (p := ⟨g, o + i * 5 + 4, none⟩) hgl).trans e4
          have c0 := (hb.out.cell (p := ⟨g', o' + i * 5, none⟩) hgl').trans f0
          have c1 := (hb.out.cell (p := ⟨g', o' + i * 5 + 1, none⟩) hgl').trans f1
          have c2 := (hb.out.cell (p := ⟨g', o' + i * 5 + 2, none⟩) hgl').trans f2
          have c3 := (hb.out.cell (p := ⟨g', o' + i * 5 + 3, none⟩) hgl').trans f3
          have c4 := (hb.out.cell (p := ⟨g', o' + i * 5 + 4, none⟩) hgl').trans f4
          have KJ := Lib.hid hkj; have HK := Lib.hid hk; have KI := Lib.hid hkj'; have HK2 := Lib.hid hk'
          have hltI : decide ((i : Int) < (ks.length : Int)) = true := by simp; omega
          have hltA : (i : Int) < (ks.length : Int) := by omega
          have hltB : (i : Int) < (qks.length : Int) := by omega
          clear hkj e0 e1 e2 e3 e4 hk hkj' hk' f0 f1 f2 f3 f4
          go_wp2_with fail
          go_still_tail 10, (by kernel_rfl)
          change wpList _ _ _ _ _ wr.drew
          go_wp2_with fail
          have hb2 : Below w.heap.size w wr.drew := hb.out.drew
          refine (IH.out k k' [.int .i64 k.kind, .bool k.is, .string ⟨k.text.toArray⟩, .slice kb0 k.names.length kb1, .slice kb2 k.kids.length kb3] [.int .i64 k'.kind, .bool k'.is, .string ⟨k'.text.toArray⟩, .slice kc0 k'.names.length kc1, .slice kc2 k'.kids.length kc3] _ _ (by have := HN.out; have := nodesK_get HK.out; simp only [Cx.nodes] at *; omega) (KJ.out.below hb2) (KI.out.below hb2) (fitK_get F.out.2.2.2.2 HK.out) (fitK_get G.out.2.2.2.2 HK2.out)).mono ?_
          rintro e w5 ⟨r, rfl, hr, hb5⟩
          have HB5 := Lib.hid (hb2.trans (hb5.mono hb2.size))
          have HBX5 := Lib.hid ((hb5.block _ hsz).trans HBX.out)
          have HBY5 := Lib.hid ((hb5.block _ (heap_lt HBY.out)).trans HBY.out)
          have HR := Lib.hid hr
          clear hb5 hb2 hr b0 b1 b2 b3 b4 c0 c1 c2 c3 c4 q0 q1 q2 q3 q4 p0 p1 p2 p3 p4
          cases r with
          | false =>
            have NE := Lib.hid (show ¬ (Cx.J.mk x is t ns ks = .mk x is t qns qks) from fun h => by
              injection h with _ _ _ _ h
              have h1 := HK.out; have h2 := HK2.out
              rw [h, h2] at h1
              injection h1 with h1
              have := HR.out.2 h1.symm
              cases this)
            clear HR
            go_wp2_with fail
            go_ret
            exact ⟨false, rfl, ⟨(fun h => by cases h), fun h => absurd h NE.out⟩, HB5.out⟩
          | true =>
            have HR2 := Lib.hid (HR.out.1 rfl)
            clear HR
            go_wp2_with fail
            go_roundg (ks.length - (i + 1))
            case measure => have := HQ.out; omega
            case rel => exact ⟨i + 1, by go_num, rfl, by omega, Lib.hid (take_eq hks.out HK.out HK2.out HR2.out), HB5, HBX5, HBY5⟩
        · have hik : i = ks.length := by omega
          subst hik
          have hltI : decide ((ks.length : Int) < (ks.length : Int)) = false := by simp
          have HKS : Hid (ks = qks) := Lib.hid (by have := hks.out; rw [List.take_length, HKK.out, List.take_length] at this; exact this)
          go_wp2_with fail
          go_ret
          exact ⟨true, rfl, ⟨fun _ => by rw [HNS.out, HKS.out], fun _ => rfl⟩, hb.out⟩

theorem same_calls : ∀ (N : Nat) (u v : Cx.J) (cs ds : List Value) (w : World) (ok : Nat → Prop), Cx.nodes u ≤ N → JAt w ok u cs → JAt w ok v ds → fit maxLen u → fit maxLen v →
    Calls Tryz.prog 9 #[.agg cs.toArray, .agg ds.toArray] w (SamePost u v w)
  | 0 => fun u _ _ _ _ _ h => by have := nodes_pos u; omega
  | N + 1 => fun u v cs ds w ok hN hj hi hf hg => same_step N (same_calls N) u v cs ds w ok hN hj hi hf hg
end Go.Proofs.YtbdmepilmoomeaaGreatDoor
