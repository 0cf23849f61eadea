/- WALKS: write. -/
import Derived.Test.YtbdmepilmoomeaaGreatDoorJt
import Derived.Test.YtbdmepilmoomeaaGreatDoorKid
namespace Go.Proofs.YtbdmepilmoomeaaGreatDoor
open Go.RowKit

/-- The cell of a name. -/
theorem JAt.name' {w : World} {ok : Nat → Prop} {x : Int} {is : Bool} {t : List UInt8} {ns : List (List UInt8)} {ks : List Cx.J} {x0 x1 x2 x3 x4 : Value} (h : JAt w ok (.mk x is t ns ks) [x0, x1, x2, x3, x4]) {i : Nat} {n : List UInt8} (hi : ns[i]? = some n) :
    ∃ g o cap, x3 = .slice (some ⟨g, o, none⟩) ns.length cap ∧ ok g ∧ g < w.heap.size ∧ w.cell? ⟨g, o + i, none⟩ = some (.string ⟨n.toArray⟩) := by
  unfold JAt at h
  obtain ⟨sn, sk, hcs, h1, _⟩ := h
  injection hcs with e0 hcs; injection hcs with e1 hcs; injection hcs with e2 hcs; injection hcs with e3 hcs
  subst e3
  rcases h1 with ⟨hz, _⟩ | ⟨_, g, o, cap, hv, _, hg, hl, hc⟩
  · rw [List.length_eq_zero_iff.1 hz] at hi; simp at hi
  · exact ⟨g, o, cap, hv, hg, hl, hc i (strV n) (by rw [List.getElem?_map, hi]; rfl)⟩

theorem rightK_get {d : Nat} : ∀ {ks : List Cx.J} {i : Nat} {k : Cx.J}, Cx.rightK d ks = true → ks[i]? = some k → Cx.right d k = true
  | [], _, _, _, h => by simp at h
  | a :: ks, i, k, hf, h => by
    unfold Cx.rightK at hf
    simp only [Bool.and_eq_true] at hf
    cases i with
    | zero => simp only [List.getElem?_cons_zero, Option.some.injEq] at h; subst h; exact hf.1
    | succ i => simp only [List.getElem?_cons_succ] at h; exact rightK_get hf.2 h

theorem drop_get {α : Type} {ks : List α} {i : Nat} {k : α} (hk : ks[i]? = some k) : ks.drop i = k :: ks.drop (i + 1) := by
  obtain ⟨hlt, he⟩ := List.getElem?_eq_some_iff.1 hk
  rw [List.drop_eq_getElem_cons hlt, he]

theorem formatBool_calls (b : Bool) (w : World) :
    Calls Tryz.prog 70 #[.bool b] w fun e w' => e = .returned (.string ⟨(if b then [116, 114, 117, 101] else [102, 97, 108, 115, 101] : List UInt8).toArray⟩) ∧ w = w' := by
  cases b
  · go_enter Tryz.func70, Tryz.ntmps70
    go_wp2
    go_ret
    exact ⟨rfl, rfl⟩
  · go_enter Tryz.func70, Tryz.ntmps70
    go_wp2
    go_ret
    exact ⟨rfl, rfl⟩

def WrPost (B c : Nat) (l : List UInt8) (w : World) (e : Ending) (w' : World) : Prop := e = .returned (.tuple #[]) ∧ Bld B c l w' ∧ Below B w w' ∧ Lib.OthersKept 5 (some c) w w'
/-- What 'write' does with values of at most so many nodes. -/
def WrIH (B c N : Nat) : Prop := ∀ (v : Cx.J) (cs : List Value) (d : Nat) (l : List UInt8) (w : World), Cx.nodes v ≤ N → Cx.right d v = true → fit 100000 v → JAt w (fun g => g < B) v cs → Bld B c l w → B ≤ w.heap.size → l.length + (Cx.pr v).length ≤ 140737488355328 →
    Calls Tryz.prog 34 #[.pointer (some ⟨c, 0, none⟩), .agg cs.toArray] w (WrPost B c (l ++ Cx.pr v) w)

theorem Bld.alloc {B c : Nat} {l : List UInt8} {w : World} (h : Bld B c l w) (o : Obj) : Bld B c l (w.alloc o) := h.below ((Below.refl _ _).alloc (Nat.le_refl _) _)

set_option maxRecDepth 100000 in
set_option maxHeartbeats 2000000 in
theorem write_leaf (B c : Nat) (k : Int) (is : Bool) (t : List UInt8) (ns : List (List UInt8)) (ks : List Cx.J) (a : Option Addr) (nc : Nat) (a' : Option Addr) (kc : Nat) (_d : Nat) (l : List UInt8) (w : World) (hk : k = 1 ∨ k = 2 ∨ k = 3 ∨ k = 4)
    (hf : fit 100000 (.mk k is t ns ks)) (hb : Bld B c l w) (hB : B ≤ w.heap.size) (hlen : l.length + (Cx.pr (.mk k is t ns ks)).length ≤ 140737488355328) :
    Calls Tryz.prog 34 #[.pointer (some ⟨c, 0, none⟩), .agg #[.int .i64 k, .bool is, .string ⟨t.toArray⟩, .slice a ns.length nc, .slice a' ks.length kc]] w (WrPost B c (l ++ Cx.pr (.mk k is t ns ks)) w) := by
  have hb1 := hb.alloc (.cells #[.int .i64 k, .bool is, .string ⟨t.toArray⟩, .slice a ns.length nc, .slice a' ks.length kc] 26)
  have hbb := (Below.refl B w).alloc hB (.cells #[.int .i64 k, .bool is, .string ⟨t.toArray⟩, .slice a ns.length nc, .slice a' ks.length kc] 26)
  have hok := (Lib.OthersKept.refl 5 (some c) w).alloc (.cells #[.int .i64 k, .bool is, .string ⟨t.toArray⟩, .slice a ns.length nc, .slice a' ks.length kc] 26)
  have hcl := hb.lt
  have htl : t.length ≤ 100000 := hf.1
  have H1 := Lib.hid hb1; have HBB := Lib.hid hbb; have HOK := Lib.hid hok; have HL := Lib.hid hlen; have HBs := Lib.hid hB
  clear hb hb1 hbb hok hlen hf
  rcases hk with rfl | rfl | rfl | rfl
  · have hp : Cx.pr (.mk 1 is t ns ks) = [110, 117, 108, 108] := by unfold Cx.pr; simp
    have hl := HL.out
    rw [hp] at hl ⊢
    have HL2 := Lib.hid hl
    clear hl hp HL
    go_enter Tryz.func34, Tryz.ntmps34
    go_wp2_with fail
    refine (writeString_calls B c l ⟨#[110, 117, 108, 108]⟩ _ H1.out (by have := HL2.out; simp at this; simp [ByteArray.size]; omega) (Nat.le_trans HBs.out HBB.out.size)).mono ?_
    rintro e w5 ⟨⟨v5, rfl⟩, k1, k2, k3⟩
    have K1 := Lib.hid k1; have K2 := Lib.hid (HBB.out.trans k2); have K3 := Lib.hid (HOK.out.trans k3)
    clear k1 k2 k3
    go_wp2
    go_end0
    exact ⟨rfl, K1.out, K2.out, K3.out⟩
  · have hp : Cx.pr (.mk 2 is t ns ks) = (if is then [116, 114, 117, 101] else [102, 97, 108, 115, 101]) := by unfold Cx.pr; simp
    have hl := HL.out
    rw [hp] at hl ⊢
    have HL2 := Lib.hid hl
    clear hl hp HL
    obtain ⟨x, hx⟩ : ∃ x : List UInt8, x = (if is then [116, 114, 117, 101] else [102, 97, 108, 115, 101]) := ⟨_, rfl⟩
    have hfb := formatBool_calls is
    rw [← hx] at hfb ⊢
    have HL3 : Hid (l.length + x.length ≤ 140737488355328) := by rw [hx]; exact HL2.out
    have HFB := Lib.hid hfb
    clear hx hfb HL2
    go_enter Tryz.func34, Tryz.ntmps34
    go_wp2_with fail
    refine (HFB.out _).mono ?_
    rintro e w4 ⟨rfl, rfl⟩
    go_wp2_with fail
    refine (writeString_calls B c l ⟨x.toArray⟩ _ H1.out (by have := HL3.out; rw [show (⟨x.toArray⟩ : ByteArray).size = x.length by simp [ByteArray.size]]; exact this) (Nat.le_trans HBs.out HBB.out.size)).mono ?_
    rintro e w5 ⟨⟨v5, rfl⟩, k1, k2, k3⟩
    have K1 := Lib.hid k1; have K2 := Lib.hid (HBB.out.trans k2); have K3 := Lib.hid (HOK.out.trans k3)
    clear k1 k2 k3
    go_wp2
    go_end0
    exact ⟨rfl, by simpa using K1.out, K2.out, K3.out⟩
  · have hp : Cx.pr (.mk 3 is t ns ks) = t := by unfold Cx.pr; simp
    have hl := HL.out
    rw [hp] at hl ⊢
    have HL2 := Lib.hid hl
    clear hl hp HL
    go_enter Tryz.func34, Tryz.ntmps34
    go_wp2_with fail
    refine (writeString_calls B c l ⟨t.toArray⟩ _ H1.out (by have := HL2.out; rw [show (⟨t.toArray⟩ : ByteArray).size = t.length by simp [ByteArray.size]]; exact this) (Nat.le_trans HBs.out HBB.out.size)).mono ?_
    rintro e w5 ⟨⟨v5, rfl⟩, k1, k2, k3⟩
    have K1 := Lib.hid k1; have K2 := Lib.hid (HBB.out.trans k2); have K3 := Lib.hid (HOK.out.trans k3)
    clear k1 k2 k3
    go_wp2
    go_end0
    exact ⟨rfl, by simpa using K1.out, K2.out, K3.out⟩
  · have hp : Cx.pr (.mk 4 is t ns ks) = Cx.jtext t := by unfold Cx.pr; simp
    have hl := HL.out
    rw [hp] at hl ⊢
    have HL2 := Lib.hid hl
    clear hl hp HL
    go_enter Tryz.func34, Tryz.ntmps34
    go_wp2_with fail
    refine (jtext_calls ⟨t.toArray⟩ _ (by rw [show (⟨t.toArray⟩ : ByteArray).size = t.length by simp [ByteArray.size]]; omega)).mono ?_
    rintro e w4 ⟨rfl, hb4⟩
    rw [show (⟨t.toArray⟩ : ByteArray).data.toList = t by simp]
    obtain ⟨x, hx⟩ : ∃ x : List UInt8, x = Cx.jtext t := ⟨_, rfl⟩
    rw [← hx]
    have HL3 : Hid (l.length + x.length ≤ 140737488355328) := by rw [hx]; exact HL2.out
    have H4 := Lib.hid (H1.out.below hb4); have HBB4 := Lib.hid (HBB.out.trans (hb4.mono (Nat.le_trans HBs.out HBB.out.size)))
    have HOK4 := Lib.hid (HOK.out.trans (fun i o hi _ _ => (hb4.block i (heap_lt hi)).trans hi))
    have HX := Lib.hid hx
    clear hx HL2 hb4
    go_wp2_with fail
    refine (writeString_calls B c l ⟨x.toArray⟩ _ H4.out (by have := HL3.out; rw [show (⟨x.toArray⟩ : ByteArray).size = x.length by simp [ByteArray.size]]; exact this) (Nat.le_trans HBs.out HBB4.out.size)).mono ?_
    rintro e w5 ⟨⟨v5, rfl⟩, k1, k2, k3⟩
    have K1 := Lib.hid k1; have K2 := Lib.hid (HBB4.out.trans k2); have K3 := Lib.hid (HOK4.out.trans k3)
    clear k1 k2 k3
    go_wp2
    go_end0
    exact ⟨rfl, by rw [← HX.out]; simpa using K1.out, K2.out, K3.out⟩

set_option maxRecDepth 100000 in
set_option maxHeartbeats 2000000 in
theorem write_list (B c N : Nat) (ih : WrIH B c N) (is : Bool) (t : List UInt8) (ns : List (List UInt8)) (ks : List Cx.J) (a : Option Addr) (nc : Nat) (a' : Option Addr) (kc : Nat) (d : Nat) (l : List UInt8) (w : World)
    (hN : Cx.nodes (.mk 5 is t ns ks) ≤ N + 1) (hr : Cx.right d (.mk 5 is t ns ks) = true) (hf : fit 100000 (.mk 5 is t ns ks)) (hj : JAt w (fun g => g < B) (.mk 5 is t ns ks) [.int .i64 5, .bool is, .string ⟨t.toArray⟩, .slice a ns.length nc, .slice a' ks.length kc])
    (hb : Bld B c l w) (hB : B ≤ w.heap.size) (hlen : l.length + (Cx.pr (.mk 5 is t ns ks)).length ≤ 140737488355328) :
    Calls Tryz.prog 34 #[.pointer (some ⟨c, 0, none⟩), .agg #[.int .i64 5, .bool is, .string ⟨t.toArray⟩, .slice a ns.length nc, .slice a' ks.length kc]] w (WrPost B c (l ++ Cx.pr (.mk 5 is t ns ks)) w) := by
  have hrk : Cx.rightK (d + 1) ks = true := by
    unfold Cx.right at hr
    simp at hr
    exact hr.2
  have hp : Cx.pr (.mk 5 is t ns ks) = 91 :: (Cx.prK false true ns ks ++ [93]) := by unfold Cx.pr; simp
  rw [hp] at hlen ⊢
  obtain ⟨TOT, hTOT⟩ : ∃ TOT, TOT = l ++ 91 :: (Cx.prK false true ns ks ++ [93]) := ⟨_, rfl⟩
  have hTL : TOT.length ≤ 140737488355328 := by rw [hTOT, List.length_append]; exact hlen
  rw [← hTOT]
  have hb1 := hb.alloc (.cells #[.int .i64 5, .bool is, .string ⟨t.toArray⟩, .slice a ns.length nc, .slice a' ks.length kc] 26)
  have hbb := (Below.refl B w).alloc hB (.cells #[.int .i64 5, .bool is, .string ⟨t.toArray⟩, .slice a ns.length nc, .slice a' ks.length kc] 26)
  have hok := (Lib.OthersKept.refl 5 (some c) w).alloc (.cells #[.int .i64 5, .bool is, .string ⟨t.toArray⟩, .slice a ns.length nc, .slice a' ks.length kc] 26)
  have hbox := heap_alloc_new w (.cells #[.int .i64 5, .bool is, .string ⟨t.toArray⟩, .slice a ns.length nc, .slice a' ks.length kc] 26)
  have hcl := hb.lt
  have hne : w.heap.size ≠ c := by omega
  have hkl : ks.length ≤ 100000 := hf.2.2.2.1
  have H1 := Lib.hid hb1; have HBB := Lib.hid hbb; have HOK := Lib.hid hok; have HBs := Lib.hid hB; have HBX := Lib.hid hbox; have HRK := Lib.hid hrk; have HTOT := Lib.hid hTOT; have HTL := Lib.hid hTL
  have IH := Lib.hid ih; have HN := Lib.hid hN; have F := Lib.hid hf; have J := Lib.hid hj; have HNE := Lib.hid hne
  clear hb hb1 hbb hok hlen hf hbox hrk hp hTOT hTL ih hN hr hj hne hB
  go_enter Tryz.func34, Tryz.ntmps34
  go_wp2_with fail
  refine (writeString_calls B c l ⟨#[91]⟩ _ H1.out (by have := HTL.out; rw [HTOT.out] at this; simp at this; simp [ByteArray.size]; omega) (Nat.le_trans HBs.out HBB.out.size)).mono ?_
  rintro e w1 ⟨⟨v1, rfl⟩, k1, k2, k3⟩
  have K1 := Lib.hid k1; have K2 := Lib.hid (HBB.out.trans k2); have K3 := Lib.hid (HOK.out.trans k3)
  have K4 := Lib.hid (k3 _ _ HBX.out (by intro e; exact HNE.out (Option.some.inj e)) (by intro _ _ e; injection e with _ e _; cases e))
  clear k1 k2 k3 H1 HBB HOK HBX
  obtain ⟨q0, q1, q2, q3, q4, qf⟩ := cells5 K4.out
  go_wp2_with fail
  go_loopg [19] (ks.length) (fun q z wr => ∃ (i : Nat) (acc : List UInt8), z = .int .i64 i ∧ q = ks.length - i ∧ i ≤ ks.length ∧ Hid (acc ++ (Cx.prK false (decide (i = 0)) (ns.drop i) (ks.drop i) ++ [93]) = TOT) ∧ Hid (Bld B c acc wr) ∧ Hid (Below B w wr) ∧ Hid (Lib.OthersKept 5 (some c) w wr) ∧ Hid (wr.heap[w.heap.size]? = some (.cells #[.int .i64 5, .bool is, .string ⟨t.toArray⟩, .slice a ns.length nc, .slice a' ks.length kc] 26 (0, 0))))
  case atStart => exact ⟨0, l ++ [91], rfl, rfl, Nat.zero_le _, Lib.hid (by rw [HTOT.out]; simp), K1, K2, K3, K4⟩
  case round =>
    clear K1 K2 K3 K4 q0 q1 q2 q3 q4 qf
    obtain ⟨i, acc, rfl, hq, hi, HACC, HBL, HBW, HOK, HBX⟩ := hrel
    have HQ := Lib.hid hq
    clear hq
    obtain ⟨q0, q1, q2, q3, q4, qf⟩ := cells5 HBX.out
    have hsz : w.heap.size < wr.heap.size := heap_lt HBX.out
    rcases Nat.lt_or_ge i ks.length with hlt | hge
    · obtain ⟨k, hk⟩ : ∃ k, ks[i]? = some k := ⟨ks[i], by simp [hlt]⟩
      have hdr := drop_get hk
      obtain ⟨g, o, cap, hv, hgB, hgl, kb0, kb1, kb2, kb3, hkj, d0, d1, d2, d3, d4⟩ := J.out.kid' hk
      injection hv with ha _ hc
      subst ha hc
      have hacc := HACC.out
      rw [hdr] at hacc
      unfold Cx.prK at hacc
      rw [if_neg (show ¬ (false = true) by decide), List.nil_append] at hacc
      have KJ := Lib.hid hkj; have HK := Lib.hid hk
      have HRK1 := Lib.hid (rightK_get HRK.out hk)
      have HF1 := Lib.hid (fitK_get F.out.2.2.2.2 hk)
      have HN1 : Hid (Cx.nodes k ≤ N) := Lib.hid (by have h1 := HN.out; have h2 := (nodesK_get hk).2; simp only [Cx.nodes] at h1; omega)
      by_cases h0 : i = 0
      · have hz : ¬ ((0 : Int) < (i : Int)) := by omega
        have hacc2 : acc ++ (Cx.pr k ++ (Cx.prK false false (ns.drop i).tail (ks.drop (i + 1)) ++ [93])) = TOT := by
          rw [← hacc]; simp [h0]
        have b0 := (HBW.out.cell (p := ⟨g, o + i * 5, none⟩) hgB).trans d0
        have b1 := (HBW.out.cell (p := ⟨g, o + i * 5 + 1, none⟩) hgB).trans d1
        have b2 := (HBW.out.cell (p := ⟨g, o + i * 5 + 2, none⟩) hgB).trans d2
        have b3 := (HBW.out.cell (p := ⟨g, o + i * 5 + 3, none⟩) hgB).trans d3
        have b4 := (HBW.out.cell (p := ⟨g, o + i * 5 + 4, none⟩) hgB).trans d4
        have HACC2 := Lib.hid hacc2
        have hal : acc.length + (Cx.pr k).length ≤ 140737488355328 := by
          have := congrArg List.length hacc2; have := HTL.out
          simp only [List.length_append] at *; omega
        have HAL := Lib.hid hal
        clear hacc hacc2 hal HACC hkj hk hdr d0 d1 d2 d3 d4 h0
        go_wp2_with fail
        have hb0 : Below B w (wr.alloc (.cells #[.int .i64 k.kind, .bool k.is, .string ⟨k.text.toArray⟩, .slice kb0 k.names.length kb1, .slice kb2 k.kids.length kb3] 26)) := HBW.out.alloc (Nat.le_trans HBs.out HBW.out.size) _
        refine (IH.out k [.int .i64 k.kind, .bool k.is, .string ⟨k.text.toArray⟩, .slice kb0 k.names.length kb1, .slice kb2 k.kids.length kb3] (d + 1) acc _ HN1.out HRK1.out HF1.out (KJ.out.below hb0) (HBL.out.alloc _) (Nat.le_trans HBs.out hb0.size) HAL.out).mono ?_
        rintro e w5 ⟨rfl, c1, c2, c3⟩
        have C1 := Lib.hid c1; have C2 := Lib.hid (hb0.trans c2); have C3 := Lib.hid ((HOK.out.alloc _).trans c3)
        have C4 := Lib.hid (c3 _ _ ((Below.heap_alloc _ _ _ hsz).trans HBX.out) (by intro e; exact HNE.out (Option.some.inj e)) (by intro _ _ e; injection e with _ e _; cases e))
        clear c1 c2 c3 hb0 b0 b1 b2 b3 b4
        go_wp2
        go_roundg (ks.length - (i + 1))
        case measure => have := HQ.out; omega
        case rel =>
          refine ⟨i + 1, acc ++ Cx.pr k, by go_num, rfl, by omega, Lib.hid ?_, C1, C2, C3, C4⟩
          rw [← HACC2.out, decide_eq_false (by omega), ← List.tail_drop]
          simp
      · have hz : (0 : Int) < (i : Int) := by omega
        have hacc2 : (acc ++ [44]) ++ (Cx.pr k ++ (Cx.prK false false (ns.drop i).tail (ks.drop (i + 1)) ++ [93])) = TOT := by
          rw [← hacc, decide_eq_false h0]; simp
        have HACC2 := Lib.hid hacc2
        have hal : (acc ++ [44]).length + (Cx.pr k).length ≤ 140737488355328 := by
          have := congrArg List.length hacc2; have := HTL.out
          simp only [List.length_append] at *; omega
        have HAL := Lib.hid hal
        have b0 := (HBW.out.cell (p := ⟨g, o + i * 5, none⟩) hgB).trans d0
        have b1 := (HBW.out.cell (p := ⟨g, o + i * 5 + 1, none⟩) hgB).trans d1
        have b2 := (HBW.out.cell (p := ⟨g, o + i * 5 + 2, none⟩) hgB).trans d2
        have b3 := (HBW.out.cell (p := ⟨g, o + i * 5 + 3, none⟩) hgB).trans d3
        have b4 := (HBW.out.cell (p := ⟨g, o + i * 5 + 4, none⟩) hgB).trans d4
        have hal1 : acc.length + 1 ≤ 140737488355328 := by simp only [List.length_append, List.length_singleton] at hal; omega
        have HAL1 := Lib.hid hal1
        clear hacc hacc2 hal hal1 HACC hkj hk hdr d0 d1 d2 d3 d4 h0
        go_wp2_with fail
        have hb0 : Below B w (wr.alloc (.cells #[.int .i64 k.kind, .bool k.is, .string ⟨k.text.toArray⟩, .slice kb0 k.names.length kb1, .slice kb2 k.kids.length kb3] 26)) := HBW.out.alloc (Nat.le_trans HBs.out HBW.out.size) _
        have hx0 := (Below.heap_alloc _ (.cells #[.int .i64 k.kind, .bool k.is, .string ⟨k.text.toArray⟩, .slice kb0 k.names.length kb1, .slice kb2 k.kids.length kb3] 26) _ hsz).trans HBX.out
        have hy0 := heap_alloc_new wr (.cells #[.int .i64 k.kind, .bool k.is, .string ⟨k.text.toArray⟩, .slice kb0 k.names.length kb1, .slice kb2 k.kids.length kb3] 26)
        refine (writeByte_calls B c acc 44 _ (HBL.out.alloc _) HAL1.out (Nat.le_trans HBs.out hb0.size)).mono ?_
        rintro e w4 ⟨rfl, c1, c2, c3⟩
        have C1 := Lib.hid c1; have C2 := Lib.hid (hb0.trans c2); have C3 := Lib.hid ((HOK.out.alloc _).trans c3)
        have C4 := Lib.hid (c3 _ _ hx0 (by intro e; exact HNE.out (Option.some.inj e)) (by intro _ _ e; injection e with _ e _; cases e))
        have hcw : wr.heap.size ≠ c := by have := HBL.out.lt; omega
        have C5 := Lib.hid (c3 _ _ hy0 (by intro e; exact hcw (Option.some.inj e)) (by intro _ _ e; injection e with _ e _; cases e))
        clear c1 c2 c3 hb0 hx0 hy0 hcw b0 b1 b2 b3 b4 q0 q1 q2 q3 q4 qf
        obtain ⟨q0, q1, q2, q3, q4, qf⟩ := cells5 C4.out
        obtain ⟨p0, p1, p2, p3, p4, pf⟩ := cells5 C5.out
        go_wp2_with fail
        refine (IH.out k [.int .i64 k.kind, .bool k.is, .string ⟨k.text.toArray⟩, .slice kb0 k.names.length kb1, .slice kb2 k.kids.length kb3] (d + 1) (acc ++ [44]) _ HN1.out HRK1.out HF1.out (KJ.out.below C2.out) C1.out (Nat.le_trans HBs.out C2.out.size) HAL.out).mono ?_
        rintro e w5 ⟨rfl, e1, e2, e3⟩
        have E1 := Lib.hid e1; have E2 := Lib.hid (C2.out.trans e2); have E3 := Lib.hid (C3.out.trans e3)
        have E4 := Lib.hid (e3 _ _ C4.out (by intro e; exact HNE.out (Option.some.inj e)) (by intro _ _ e; injection e with _ e _; cases e))
        clear e1 e2 e3 p0 p1 p2 p3 p4 pf q0 q1 q2 q3 q4 qf
        go_wp2
        go_roundg (ks.length - (i + 1))
        case measure => have := HQ.out; omega
        case rel =>
          refine ⟨i + 1, (acc ++ [44]) ++ Cx.pr k, by go_num, rfl, by omega, Lib.hid ?_, E1, E2, E3, E4⟩
          rw [← HACC2.out, decide_eq_false (by omega), ← List.tail_drop]
          simp
    · have hik : i = ks.length := by omega
      subst hik
      have hacc := HACC.out
      rw [List.drop_length] at hacc
      unfold Cx.prK at hacc
      rw [List.nil_append] at hacc
      have HACC2 := Lib.hid hacc
      have hal : acc.length + 1 ≤ 140737488355328 := by
        have := congrArg List.length hacc; have := HTL.out
        simp only [List.length_append, List.length_singleton] at *; omega
      have HAL := Lib.hid hal
      clear hacc hal
      go_wp2_with fail
      refine (writeString_calls B c acc ⟨#[93]⟩ _ HBL.out HAL.out (Nat.le_trans HBs.out HBW.out.size)).mono ?_
      rintro e w5 ⟨⟨v5, rfl⟩, e1, e2, e3⟩
      have E1 := Lib.hid e1; have E2 := Lib.hid (HBW.out.trans e2); have E3 := Lib.hid (HOK.out.trans e3)
      clear e1 e2 e3
      go_wp2
      go_end0
      exact ⟨rfl, by rw [← HACC2.out]; exact E1.out, E2.out, E3.out⟩
set_option maxRecDepth 100000 in
set_option maxHeartbeats 2000000 in
theorem write_object (B c N : Nat) (ih : WrIH B c N) (is : Bool) (t : List UInt8) (ns : List (List UInt8)) (ks : List Cx.J) (a : Option Addr) (nc : Nat) (a' : Option Addr) (kc : Nat) (d : Nat) (l : List UInt8) (w : World)
    (hN : Cx.nodes (.mk 6 is t ns ks) ≤ N + 1) (hr : Cx.right d (.mk 6 is t ns ks) = true) (hf : fit 100000 (.mk 6 is t ns ks)) (hj : JAt w (fun g => g < B) (.mk 6 is t ns ks) [.int .i64 6, .bool is, .string ⟨t.toArray⟩, .slice a ns.length nc, .slice a' ks.length kc])
    (hb : Bld B c l w) (hB : B ≤ w.heap.size) (hlen : l.length + (Cx.pr (.mk 6 is t ns ks)).length ≤ 140737488355328) :
    Calls Tryz.prog 34 #[.pointer (some ⟨c, 0, none⟩), .agg #[.int .i64 6, .bool is, .string ⟨t.toArray⟩, .slice a ns.length nc, .slice a' ks.length kc]] w (WrPost B c (l ++ Cx.pr (.mk 6 is t ns ks)) w) := by
  have hrk : Cx.rightK (d + 1) ks = true := by
    unfold Cx.right at hr
    simp at hr
    exact hr.2
  have hnk : ns.length = ks.length := by
    unfold Cx.right at hr
    simp at hr
    exact hr.1.1.1.1.1
  have hp : Cx.pr (.mk 6 is t ns ks) = 123 :: (Cx.prK true true ns ks ++ [125]) := by unfold Cx.pr; simp
  rw [hp] at hlen ⊢
  obtain ⟨TOT, hTOT⟩ : ∃ TOT, TOT = l ++ 123 :: (Cx.prK true true ns ks ++ [125]) := ⟨_, rfl⟩
  have hTL : TOT.length ≤ 140737488355328 := by rw [hTOT, List.length_append]; exact hlen
  rw [← hTOT]
  have hb1 := hb.alloc (.cells #[.int .i64 6, .bool is, .string ⟨t.toArray⟩, .slice a ns.length nc, .slice a' ks.length kc] 26)
  have hbb := (Below.refl B w).alloc hB (.cells #[.int .i64 6, .bool is, .string ⟨t.toArray⟩, .slice a ns.length nc, .slice a' ks.length kc] 26)
  have hok := (Lib.OthersKept.refl 5 (some c) w).alloc (.cells #[.int .i64 6, .bool is, .string ⟨t.toArray⟩, .slice a ns.length nc, .slice a' ks.length kc] 26)
  have hbox := heap_alloc_new w (.cells #[.int .i64 6, .bool is, .string ⟨t.toArray⟩, .slice a ns.length nc, .slice a' ks.length kc] 26)
  have hcl := hb.lt
  have hne : w.heap.size ≠ c := by omega
  have hkl : ks.length ≤ 100000 := hf.2.2.2.1
  have H1 := Lib.hid hb1; have HBB := Lib.hid hbb; have HOK := Lib.hid hok; have HBs := Lib.hid hB; have HBX := Lib.hid hbox; have HRK := Lib.hid hrk; have HTOT := Lib.hid hTOT; have HTL := Lib.hid hTL
  have IH := Lib.hid ih; have HN := Lib.hid hN; have F := Lib.hid hf; have J := Lib.hid hj; have HNE := Lib.hid hne; have HNK := Lib.hid hnk
  clear hb hb1 hbb hok hlen hf hbox hrk hp hTOT hTL ih hN hr hj hne hB hnk
  go_enter Tryz.func34, Tryz.ntmps34
  go_wp2_with fail
  refine (writeString_calls B c l ⟨#[123]⟩ _ H1.out (by have := HTL.out; rw [HTOT.out] at this; simp at this; simp [ByteArray.size]; omega) (Nat.le_trans HBs.out HBB.out.size)).mono ?_
  rintro e w1 ⟨⟨v1, rfl⟩, k1, k2, k3⟩
  have K1 := Lib.hid k1; have K2 := Lib.hid (HBB.out.trans k2); have K3 := Lib.hid (HOK.out.trans k3)
  have K4 := Lib.hid (k3 _ _ HBX.out (by intro e; exact HNE.out (Option.some.inj e)) (by intro _ _ e; injection e with _ e _; cases e))
  clear k1 k2 k3 H1 HBB HOK HBX
  obtain ⟨q0, q1, q2, q3, q4, qf⟩ := cells5 K4.out
  go_wp2_with fail
  go_loopg [19] (ks.length) (fun q z wr => ∃ (i : Nat) (acc : List UInt8), z = .int .i64 i ∧ q = ks.length - i ∧ i ≤ ks.length ∧ Hid (acc ++ (Cx.prK true (decide (i = 0)) (ns.drop i) (ks.drop i) ++ [125]) = TOT) ∧ Hid (Bld B c acc wr) ∧ Hid (Below B w wr) ∧ Hid (Lib.OthersKept 5 (some c) w wr) ∧ Hid (wr.heap[w.heap.size]? = some (.cells #[.int .i64 6, .bool is, .string ⟨t.toArray⟩, .slice a ns.length nc, .slice a' ks.length kc] 26 (0, 0))))
  case atStart => exact ⟨0, l ++ [123], rfl, rfl, Nat.zero_le _, Lib.hid (by rw [HTOT.out]; simp), K1, K2, K3, K4⟩
  case round =>
    clear K1 K2 K3 K4 q0 q1 q2 q3 q4 qf
    obtain ⟨i, acc, rfl, hq, hi, HACC, HBL, HBW, HOK, HBX⟩ := hrel
    have HQ := Lib.hid hq
    clear hq
    obtain ⟨q0, q1, q2, q3, q4, qf⟩ := cells5 HBX.out
    have hsz : w.heap.size < wr.heap.size := heap_lt HBX.out
    rcases Nat.lt_or_ge i ks.length with hlt | hge
    · obtain ⟨k, hk⟩ : ∃ k, ks[i]? = some k := ⟨ks[i], by simp [hlt]⟩
      have hdr := drop_get hk
      obtain ⟨g, o, cap, hv, hgB, hgl, kb0, kb1, kb2, kb3, hkj, d0, d1, d2, d3, d4⟩ := J.out.kid' hk
      injection hv with ha _ hc
      subst ha hc
      obtain ⟨n, hn⟩ : ∃ n, ns[i]? = some n := ⟨ns[i]'(by have := HNK.out; omega), List.getElem?_eq_getElem _⟩
      obtain ⟨g', o', cap', hv', hgB', hgl', hnc⟩ := J.out.name' hn
      injection hv' with ha' _ hc'
      subst ha' hc'
      have hdn := drop_get hn
      have hacc := HACC.out
      rw [hdr, hdn] at hacc
      unfold Cx.prK at hacc
      rw [if_pos rfl, List.headD_cons, List.tail_cons] at hacc
      have hnl : n.length ≤ 100000 := F.out.2.2.1 n (List.mem_of_getElem? hn)
      have hjl : (Cx.jtext n).length ≤ 600002 := by have := Cx.jtext_length n; omega
      have hgs : g' < wr.heap.size := by omega
      have b5 := (HBW.out.cell (p := ⟨g', o' + i, none⟩) hgB').trans hnc
      have B5 := Lib.hid b5
      have hin : (i : Int) < (ns.length : Int) := by have := HNK.out; omega
      have KJ := Lib.hid hkj; have HK := Lib.hid hk
      have HRK1 := Lib.hid (rightK_get HRK.out hk)
      have HF1 := Lib.hid (fitK_get F.out.2.2.2.2 hk)
      have HN1 : Hid (Cx.nodes k ≤ N) := Lib.hid (by have h1 := HN.out; have h2 := (nodesK_get hk).2; simp only [Cx.nodes] at h1; omega)
      by_cases h0 : i = 0
      · have hz : ¬ ((0 : Int) < (i : Int)) := by omega
        have hacc2 : (acc ++ (Cx.jtext n ++ [58])) ++ (Cx.pr k ++ (Cx.prK true false (ns.drop (i + 1)) (ks.drop (i + 1)) ++ [125])) = TOT := by
          rw [← hacc]; simp [h0]
        have HACC2 := Lib.hid hacc2
        have hal : (acc ++ (Cx.jtext n ++ [58])).length + (Cx.pr k).length ≤ 140737488355328 := by
          have := congrArg List.length hacc2; have := HTL.out
          simp only [List.length_append] at *; omega
        have halt : acc.length + ((Cx.jtext n).length + 1) ≤ 140737488355328 := by
          simp only [List.length_append, List.length_singleton] at hal; omega
        have HAL := Lib.hid hal; have HALT := Lib.hid halt
        have b0 := (HBW.out.cell (p := ⟨g, o + i * 5, none⟩) hgB).trans d0
        have b1 := (HBW.out.cell (p := ⟨g, o + i * 5 + 1, none⟩) hgB).trans d1
        have b2 := (HBW.out.cell (p := ⟨g, o + i * 5 + 2, none⟩) hgB).trans d2
        have b3 := (HBW.out.cell (p := ⟨g, o + i * 5 + 3, none⟩) hgB).trans d3
        have b4 := (HBW.out.cell (p := ⟨g, o + i * 5 + 4, none⟩) hgB).trans d4
        clear hacc hacc2 hal halt HACC hkj hk hdr hn hnc hdn d0 d1 d2 d3 d4 h0
        go_wp2_with fail
        have hb0 : Below B w (wr.alloc (.cells #[.int .i64 k.kind, .bool k.is, .string ⟨k.text.toArray⟩, .slice kb0 k.names.length kb1, .slice kb2 k.kids.length kb3] 26)) := HBW.out.alloc (Nat.le_trans HBs.out HBW.out.size) _
        have hx0 := (Below.heap_alloc _ (.cells #[.int .i64 k.kind, .bool k.is, .string ⟨k.text.toArray⟩, .slice kb0 k.names.length kb1, .slice kb2 k.kids.length kb3] 26) _ hsz).trans HBX.out
        have hy0 := heap_alloc_new wr (.cells #[.int .i64 k.kind, .bool k.is, .string ⟨k.text.toArray⟩, .slice kb0 k.names.length kb1, .slice kb2 k.kids.length kb3] 26)

        refine (jtext_calls ⟨n.toArray⟩ _ (by rw [show (⟨n.toArray⟩ : ByteArray).size = n.length by simp [ByteArray.size]]; omega)).mono ?_
        rintro e w6 ⟨rfl, hb6⟩
        rw [show (⟨n.toArray⟩ : ByteArray).data.toList = n by simp]
        have D1 := Lib.hid ((HBL.out.alloc _).below hb6); have D2 := Lib.hid (hb0.trans (hb6.mono (Nat.le_trans HBs.out hb0.size)))
        have D3 := Lib.hid ((HOK.out.alloc _).trans (fun i o hi _ _ => (hb6.block i (heap_lt hi)).trans hi))
        have D4 := Lib.hid ((hb6.block _ (heap_lt hx0)).trans hx0)
        have D5 := Lib.hid ((hb6.block _ (heap_lt hy0)).trans hy0)
        clear hb6 hb0 hx0 hy0 b0 b1 b2 b3 b4 b5 q0 q1 q2 q3 q4 qf
        go_wp2_with fail
        have hl2 : (acc).length + ((⟨(Cx.jtext n).toArray⟩ : ByteArray) ++ ⟨#[58]⟩).size ≤ 140737488355328 := by
          rw [ByteArray.size_append, show (⟨(Cx.jtext n).toArray⟩ : ByteArray).size = (Cx.jtext n).length by simp [ByteArray.size], show (⟨#[58]⟩ : ByteArray).size = 1 from rfl]; exact HALT.out
        refine (writeString_calls B c _ _ _ D1.out hl2 (Nat.le_trans HBs.out D2.out.size)).mono ?_
        clear hl2
        rintro e w7 ⟨⟨v7, rfl⟩, c1, c2, c3⟩
        rw [show ((⟨(Cx.jtext n).toArray⟩ : ByteArray) ++ ⟨#[58]⟩).data.toList = Cx.jtext n ++ [58] by simp] at c1
        have hcw : wr.heap.size ≠ c := by have := HBL.out.lt; omega
        have G1 := Lib.hid c1; have G2 := Lib.hid (D2.out.trans c2); have G3 := Lib.hid (D3.out.trans c3)
        have G4 := Lib.hid (c3 _ _ D4.out (by intro e; exact HNE.out (Option.some.inj e)) (by intro _ _ e; injection e with _ e _; cases e))
        have G5 := Lib.hid (c3 _ _ D5.out (by intro e; exact hcw (Option.some.inj e)) (by intro _ _ e; injection e with _ e _; cases e))
        clear c1 c2 c3 hcw
        obtain ⟨p0, p1, p2, p3, p4, pf⟩ := cells5 G5.out
        go_wp2_with fail
        refine (IH.out k [.int .i64 k.kind, .bool k.is, .string ⟨k.text.toArray⟩, .slice kb0 k.names.length kb1, .slice kb2 k.kids.length kb3] (d + 1) (acc ++ (Cx.jtext n ++ [58])) _ HN1.out HRK1.out HF1.out (KJ.out.below G2.out) G1.out (Nat.le_trans HBs.out G2.out.size) HAL.out).mono ?_
        rintro e w5 ⟨rfl, e1, e2, e3⟩
        have E1 := Lib.hid e1; have E2 := Lib.hid (G2.out.trans e2); have E3 := Lib.hid (G3.out.trans e3)
        have E4 := Lib.hid (e3 _ _ G4.out (by intro e; exact HNE.out (Option.some.inj e)) (by intro _ _ e; injection e with _ e _; cases e))
        clear e1 e2 e3 p0 p1 p2 p3 p4 pf
        go_wp2
        go_roundg (ks.length - (i + 1))
        case measure => have := HQ.out; omega
        case rel =>
          refine ⟨i + 1, (acc ++ (Cx.jtext n ++ [58])) ++ Cx.pr k, by go_num, rfl, by omega, Lib.hid ?_, E1, E2, E3, E4⟩
          rw [← HACC2.out, decide_eq_false (by omega)]
          simp
      · have hz : (0 : Int) < (i : Int) := by omega
        have hacc2 : ((acc ++ [44]) ++ (Cx.jtext n ++ [58])) ++ (Cx.pr k ++ (Cx.prK true false (ns.drop (i + 1)) (ks.drop (i + 1)) ++ [125])) = TOT := by
          rw [← hacc, decide_eq_false h0]; simp
        have HACC2 := Lib.hid hacc2
        have hal : ((acc ++ [44]) ++ (Cx.jtext n ++ [58])).length + (Cx.pr k).length ≤ 140737488355328 := by
          have := congrArg List.length hacc2; have := HTL.out
          simp only [List.length_append] at *; omega
        have halt : (acc ++ [44]).length + ((Cx.jtext n).length + 1) ≤ 140737488355328 := by
          simp only [List.length_append, List.length_singleton] at hal ⊢; omega
        have HAL := Lib.hid hal; have HALT := Lib.hid halt
        have hal1 : acc.length + 1 ≤ 140737488355328 := by simp only [List.length_append, List.length_singleton] at hal; omega
        have HAL1 := Lib.hid hal1
        have b0 := (HBW.out.cell (p := ⟨g, o + i * 5, none⟩) hgB).trans d0
        have b1 := (HBW.out.cell (p := ⟨g, o + i * 5 + 1, none⟩) hgB).trans d1
        have b2 := (HBW.out.cell (p := ⟨g, o + i * 5 + 2, none⟩) hgB).trans d2
        have b3 := (HBW.out.cell (p := ⟨g, o + i * 5 + 3, none⟩) hgB).trans d3
        have b4 := (HBW.out.cell (p := ⟨g, o + i * 5 + 4, none⟩) hgB).trans d4
        clear hacc hacc2 hal hal1 halt HACC hkj hk hdr hn hnc hdn d0 d1 d2 d3 d4 h0
        go_wp2_with fail
        have hb0 : Below B w (wr.alloc (.cells #[.int .i64 k.kind, .bool k.is, .string ⟨k.text.toArray⟩, .slice kb0 k.names.length kb1, .slice kb2 k.kids.length kb3] 26)) := HBW.out.alloc (Nat.le_trans HBs.out HBW.out.size) _
        have hx0 := (Below.heap_alloc _ (.cells #[.int .i64 k.kind, .bool k.is, .string ⟨k.text.toArray⟩, .slice kb0 k.names.length kb1, .slice kb2 k.kids.length kb3] 26) _ hsz).trans HBX.out
        have hy0 := heap_alloc_new wr (.cells #[.int .i64 k.kind, .bool k.is, .string ⟨k.text.toArray⟩, .slice kb0 k.names.length kb1, .slice kb2 k.kids.length kb3] 26)
        refine (writeByte_calls B c acc 44 _ (HBL.out.alloc _) HAL1.out (Nat.le_trans HBs.out hb0.size)).mono ?_
        rintro e w4 ⟨rfl, c1, c2, c3⟩
        have C1 := Lib.hid c1; have C2 := Lib.hid (hb0.trans c2); have C3 := Lib.hid ((HOK.out.alloc _).trans c3)
        have C4 := Lib.hid (c3 _ _ hx0 (by intro e; exact HNE.out (Option.some.inj e)) (by intro _ _ e; injection e with _ e _; cases e))
        have hcw : wr.heap.size ≠ c := by have := HBL.out.lt; omega
        have C5 := Lib.hid (c3 _ _ hy0 (by intro e; exact hcw (Option.some.inj e)) (by intro _ _ e; injection e with _ e _; cases e))
        have hb5 := c2.cell (p := ⟨g', o' + i, none⟩) hgB'
        have b6 := hb5.trans ((World.cell?_alloc_lt wr (.cells #[.int .i64 k.kind, .bool k.is, .string ⟨k.text.toArray⟩, .slice kb0 k.names.length kb1, .slice kb2 k.kids.length kb3] 26) ⟨g', o' + i, none⟩ (World.block_lt_of_cell? wr _ B5.out)).trans B5.out)
        clear c1 c2 c3 hb0 hx0 hy0 hcw b0 b1 b2 b3 b4 b5 q0 q1 q2 q3 q4 qf hb5
        obtain ⟨q0, q1, q2, q3, q4, qf⟩ := cells5 C4.out
        go_wp2_with fail

        refine (jtext_calls ⟨n.toArray⟩ _ (by rw [show (⟨n.toArray⟩ : ByteArray).size = n.length by simp [ByteArray.size]]; omega)).mono ?_
        rintro e w6 ⟨rfl, hb6⟩
        rw [show (⟨n.toArray⟩ : ByteArray).data.toList = n by simp]
        have D1 := Lib.hid (C1.out.below hb6); have D2 := Lib.hid (C2.out.trans (hb6.mono (Nat.le_trans HBs.out C2.out.size)))
        have D3 := Lib.hid (C3.out.trans (fun i o hi _ _ => (hb6.block i (heap_lt hi)).trans hi))
        have D4 := Lib.hid ((hb6.block _ (heap_lt C4.out)).trans C4.out)
        have D5 := Lib.hid ((hb6.block _ (heap_lt C5.out)).trans C5.out)
        clear hb6 b6 q0 q1 q2 q3 q4 qf
        go_wp2_with fail
        have hl2 : ((acc ++ [44])).length + ((⟨(Cx.jtext n).toArray⟩ : ByteArray) ++ ⟨#[58]⟩).size ≤ 140737488355328 := by
          rw [ByteArray.size_append, show (⟨(Cx.jtext n).toArray⟩ : ByteArray).size = (Cx.jtext n).length by simp [ByteArray.size], show (⟨#[58]⟩ : ByteArray).size = 1 from rfl]; exact HALT.out
        refine (writeString_calls B c _ _ _ D1.out hl2 (Nat.le_trans HBs.out D2.out.size)).mono ?_
        clear hl2
        rintro e w7 ⟨⟨v7, rfl⟩, c1, c2, c3⟩
        rw [show ((⟨(Cx.jtext n).toArray⟩ : ByteArray) ++ ⟨#[58]⟩).data.toList = Cx.jtext n ++ [58] by simp] at c1
        have hcw : wr.heap.size ≠ c := by have := HBL.out.lt; omega
        have G1 := Lib.hid c1; have G2 := Lib.hid (D2.out.trans c2); have G3 := Lib.hid (D3.out.trans c3)
        have G4 := Lib.hid (c3 _ _ D4.out (by intro e; exact HNE.out (Option.some.inj e)) (by intro _ _ e; injection e with _ e _; cases e))
        have G5 := Lib.hid (c3 _ _ D5.out (by intro e; exact hcw (Option.some.inj e)) (by intro _ _ e; injection e with _ e _; cases e))
        clear c1 c2 c3 hcw
        obtain ⟨p0, p1, p2, p3, p4, pf⟩ := cells5 G5.out
        go_wp2_with fail
        refine (IH.out k [.int .i64 k.kind, .bool k.is, .string ⟨k.text.toArray⟩, .slice kb0 k.names.length kb1, .slice kb2 k.kids.length kb3] (d + 1) ((acc ++ [44]) ++ (Cx.jtext n ++ [58])) _ HN1.out HRK1.out HF1.out (KJ.out.below G2.out) G1.out (Nat.le_trans HBs.out G2.out.size) HAL.out).mono ?_
        rintro e w5 ⟨rfl, e1, e2, e3⟩
        have E1 := Lib.hid e1; have E2 := Lib.hid (G2.out.trans e2); have E3 := Lib.hid (G3.out.trans e3)
        have E4 := Lib.hid (e3 _ _ G4.out (by intro e; exact HNE.out (Option.some.inj e)) (by intro _ _ e; injection e with _ e _; cases e))
        clear e1 e2 e3 p0 p1 p2 p3 p4 pf
        go_wp2
        go_roundg (ks.length - (i + 1))
        case measure => have := HQ.out; omega
        case rel =>
          refine ⟨i + 1, ((acc ++ [44]) ++ (Cx.jtext n ++ [58])) ++ Cx.pr k, by go_num, rfl, by omega, Lib.hid ?_, E1, E2, E3, E4⟩
          rw [← HACC2.out, decide_eq_false (by omega)]
          simp
    · have hik : i = ks.length := by omega
      subst hik
      have hacc := HACC.out
      rw [List.drop_length] at hacc
      unfold Cx.prK at hacc
      rw [List.nil_append] at hacc
      have HACC2 := Lib.hid hacc
      have hal : acc.length + 1 ≤ 140737488355328 := by
        have := congrArg List.length hacc; have := HTL.out
        simp only [List.length_append, List.length_singleton] at *; omega
      have HAL := Lib.hid hal
      clear hacc hal
      go_wp2_with fail
      refine (writeString_calls B c acc ⟨#[125]⟩ _ HBL.out HAL.out (Nat.le_trans HBs.out HBW.out.size)).mono ?_
      rintro e w5 ⟨⟨v5, rfl⟩, e1, e2, e3⟩
      have E1 := Lib.hid e1; have E2 := Lib.hid (HBW.out.trans e2); have E3 := Lib.hid (HOK.out.trans e3)
      clear e1 e2 e3
      go_wp2
      go_end0
      exact ⟨rfl, by rw [← HACC2.out]; exact E1.out, E2.out, E3.out⟩
end Go.Proofs.YtbdmepilmoomeaaGreatDoor
