/- WALKS: codexref21's lists. -/
import Derived.Test.YtejlddimokmgjaaGreatDoorYDec
import Derived.Test.YtejlddimokmgjaaGreatDoorKj
namespace Go.Proofs.YtejlddimokmgjaaGreatDoor
open Go.RowKit

/-- What is handed back: a query in new memory with short texts, and whether it is one. -/
def RNPost (r : Option Dx.Qy) (w : World) (e : Ending) (w' : World) : Prop :=
  ∃ (q : Dx.Qy) (cs : List Value), e = .returned (.tuple #[.agg cs.toArray, .bool r.isSome]) ∧ QyAt w' (fun g => w.heap.size ≤ g) q cs ∧ (∀ p, r = some p → q = p) ∧ Dx.qfit maxLen q ∧ Below w.heap.size w w'
/-- At the end: what is laid into the result's box. -/
theorem rnode_fin {r : Option Dx.Qy} {w wX : World} {Q : Dx.Qy} {x0 x1 x2 x3 x4 y0 y1 y2 y3 y4 : Value} (hb : Below w.heap.size w wX) (hr : wX.heap[w.heap.size + 1]? = some (.cells #[x0, x1, x2, x3, x4] 26 (0, 0))) (hq : QyAt wX (fun g => w.heap.size + 2 ≤ g) Q [y0, y1, y2, y3, y4]) (hp : ∀ p, r = some p → Q = p) (hm : Dx.qfit maxLen Q) {f : Bool} (hf : r.isSome = f) :
    RNPost r w (.returned (.tuple #[.agg #[y0, y1, y2, y3, y4], .bool f])) (put5 wX (w.heap.size + 1) y0 y1 y2 y3 y4) ∧ (put5 wX (w.heap.size + 1) y0 y1 y2 y3 y4).heap[w.heap.size + 1]? = some (.cells #[y0, y1, y2, y3, y4] 26 (0, 0)) := by
  have hB : w.heap.size ≤ w.heap.size + 1 := Nat.le_succ _
  refine ⟨⟨Q, _, by rw [hf], QyAt.kept (by rw [put5_size]; exact Nat.le_refl _) (fun g hg hl => ⟨put5_other (by omega), by omega⟩) _ _ hq, hp, hm, ?_⟩, put5_heap hr⟩
  exact ((((hb.setCell (p := ⟨w.heap.size + 1, 0, none⟩) hB _).setCell (p := ⟨w.heap.size + 1, 1, none⟩) hB _).setCell (p := ⟨w.heap.size + 1, 2, none⟩) hB _).setCell (p := ⟨w.heap.size + 1, 3, none⟩) hB _).setCell (p := ⟨w.heap.size + 1, 4, none⟩) hB _
def rlistsQ (v : Cx.J) : Option Dx.Qy := if Dx.only v [Dx.tMust, Dx.tShould, Dx.tNot] = true then Dx.listsQ Dx.nodeQ v else none
theorem qfit_plain {k : Int} {t : List UInt8} (h : t.length ≤ maxLen) : Dx.qfit maxLen (.mk k t [] [] []) := by
  unfold Dx.qfit
  exact ⟨h, by simp [Dx.qfitK], by simp [Dx.qfitK], by simp [Dx.qfitK]⟩

set_option maxRecDepth 100000 in
set_option maxHeartbeats 4000000 in
theorem rlists_calls (v : Cx.J) (cs : List Value) (w : World) (ok : Nat → Prop) (hj : JAt w ok v cs) (hf : fit 100000 v)
    (ih : ∀ n k, Cx.get v n = some k → ∀ x ∈ k.kids, ∀ (cs : List Value) (wr : World) (ok : Nat → Prop), JAt wr ok x cs → Calls Tryz.prog 41 #[.agg cs.toArray] wr (RQPost x wr)) :
    Calls Tryz.prog 81 #[.agg cs.toArray] w (RNPost (rlistsQ v) w) := by
  cases v with
  | mk k is t ns ks =>
  have hj := hj.all
  obtain ⟨a, nc, a', kc, rfl⟩ := hj.shape
  obtain ⟨V, hV⟩ : ∃ V, V = Cx.J.mk k is t ns ks := ⟨_, rfl⟩
  rw [← hV] at hj hf ih ⊢
  have J := Lib.hid hj; have F := Lib.hid hf; have IH := Lib.hid ih
  obtain ⟨W, hW⟩ : ∃ W, W = (w.alloc (.cells #[.int .i64 k, .bool is, .string ⟨t.toArray⟩, .slice a ns.length nc, .slice a' ks.length kc] 48)).alloc (.cells #[.int .i64 0, .string ⟨#[]⟩, .slice none 0 0, .slice none 0 0, .slice none 0 0] 26) := ⟨_, rfl⟩
  have HB0 := Lib.hid (show Below w.heap.size w W by rw [hW]; exact ((Below.refl w.heap.size w).alloc (Nat.le_refl _) _).alloc (by simp) _)
  have hWs : W.heap.size = w.heap.size + 2 := by rw [hW]; simp
  have BV0 := Lib.hid (show W.heap[w.heap.size]? = some (.cells #[.int .i64 k, .bool is, .string ⟨t.toArray⟩, .slice a ns.length nc, .slice a' ks.length kc] 48 (0, 0)) by
    rw [hW, Below.heap_alloc _ _ _ (by simp)]; exact heap_alloc_new w _)
  have BR0 := Lib.hid (show W.heap[w.heap.size + 1]? = some (.cells #[.int .i64 0, .string ⟨#[]⟩, .slice none 0 0, .slice none 0 0, .slice none 0 0] 26 (0, 0)) by
    rw [hW]
    have := heap_alloc_new (w.alloc (.cells #[.int .i64 k, .bool is, .string ⟨t.toArray⟩, .slice a ns.length nc, .slice a' ks.length kc] 48)) (.cells #[.int .i64 0, .string ⟨#[]⟩, .slice none 0 0, .slice none 0 0, .slice none 0 0] 26)
    simpa using this)
  have HW := Lib.hid hW
  obtain ⟨O, hO⟩ : ∃ O, O = Dx.only V [Dx.tMust, Dx.tShould, Dx.tNot] := ⟨_, rfl⟩
  have HO := Lib.hid hO
  have ROWN := Lib.hid (Row.laid (l := [Dx.tMust, Dx.tShould, Dx.tNot]) (heap_alloc_new W (.cells #[.string ⟨#[109, 117, 115, 116]⟩, .string ⟨#[115, 104, 111, 117, 108, 100]⟩, .string ⟨#[109, 117, 115, 116, 95, 110, 111, 116]⟩] 9)) rfl (by decide))
  have CW := Lib.hid (show Below W.heap.size W (W.alloc (.cells #[.string ⟨#[109, 117, 115, 116]⟩, .string ⟨#[115, 104, 111, 117, 108, 100]⟩, .string ⟨#[109, 117, 115, 116, 95, 110, 111, 116]⟩] 9)) from (Below.refl _ _).alloc (Nat.le_refl _) _)
  have HWS := Lib.hid hWs
  clear hj hf hV ih hW hO hWs
  go_enter Tryz.func81, Tryz.ntmps81
  go_upto_region 1 with fail
  rw [← HW.out]
  clear HW
  obtain ⟨q0, q1, q2, q3, q4, _⟩ := cells5 BV0.out
  go_wp2_with fail
  refine (show Calls Tryz.prog 40 #[.agg #[.int .i64 k, .bool is, .string ⟨t.toArray⟩, .slice a ns.length nc, .slice a' ks.length kc], .slice (some ⟨W.heap.size, 0, none⟩) 3 3] _ _ from rOnly_calls V [.int .i64 k, .bool is, .string ⟨t.toArray⟩, .slice a ns.length nc, .slice a' ks.length kc] (.slice (some ⟨W.heap.size, 0, none⟩) 3 3) [Dx.tMust, Dx.tShould, Dx.tNot] _ _ _ (J.out.below (HB0.out.trans (CW.out.mono HB0.out.size))) (to_maxLen F.out) ROWN.out (by decide)).mono ?_
  rw [← HO.out]
  rintro e x1 ⟨rfl, kb⟩
  have kb2 := CW.out.trans (kb.mono CW.out.size)
  have HB1 := Lib.hid (HB0.out.trans (kb2.mono HB0.out.size))
  have BV1 := Lib.hid ((kb2.block _ (heap_lt BV0.out)).trans BV0.out)
  have BR1 := Lib.hid ((kb2.block _ (heap_lt BR0.out)).trans BR0.out)
  have hz1 : w.heap.size + 2 ≤ x1.heap.size := by have h1 := kb2.size; have h2 := HWS.out; omega
  clear kb kb2 CW ROWN BV0 BR0 HB0 q0 q1 q2 q3 q4
  obtain ⟨q0, q1, q2, q3, q4, _⟩ := cells5 BV1.out
  cases O with
  | false =>
    have NO := Lib.hid (show rlistsQ V = none by unfold rlistsQ; rw [← HO.out]; rfl)
    obtain ⟨p0, p1, p2, p3, p4, pf⟩ := cells5 BR1.out
    have pf0 := pf 0; have pf1 := pf 1; have pf2 := pf 2; have pf3 := pf 3; have pf4 := pf 4
    clear pf
    have FIN := Lib.hid (rnode_fin (r := rlistsQ V) (Q := .mk 0 [] [] [] []) (f := false) HB1.out BR1.out QyAt.plain (fun q hq => by rw [NO.out] at hq; cases hq) (qfit_plain (Nat.zero_le _)) (by rw [NO.out]; rfl))
    go_wp2_with fail
    obtain ⟨fin, zb⟩ := FIN.out
    obtain ⟨z0, z1, z2, z3, z4, _⟩ := cells5 zb
    exact bodyPost_ret (v := .tuple #[.agg #[.int .i64 0, .string ⟨#[]⟩, .slice none 0 0, .slice none 0 0, .slice none 0 0], .bool false]) (by simp [results, Tryz.results81, go_sem, z0, z1, z2, z3, z4]) rfl fin
  | true =>
  go_wp2_with fail
  refine (show Calls Tryz.prog 130 #[.agg #[.int .i64 k, .bool is, .string ⟨t.toArray⟩, .slice a ns.length nc, .slice a' ks.length kc], .string ⟨#[109, 117, 115, 116]⟩] _ _ from rlist_calls V [.int .i64 k, .bool is, .string ⟨t.toArray⟩, .slice a ns.length nc, .slice a' ks.length kc] Dx.tMust x1 _ (J.out.below HB1.out) F.out (IH.out Dx.tMust)).mono ?_
  rintro e x2 ⟨sv1, qs1, rfl, hr1, hq1, hf1, hb1⟩
  obtain ⟨sa1, sc1, rfl⟩ := hr1.shape
  have HQ1 := Lib.hid hq1; have HF1 := Lib.hid hf1
  have HB2 := Lib.hid (HB1.out.trans (hb1.mono HB1.out.size))
  have BV2 := Lib.hid ((hb1.block _ (heap_lt BV1.out)).trans BV1.out)
  have BR2 := Lib.hid ((hb1.block _ (heap_lt BR1.out)).trans BR1.out)
  have R1 := Lib.hid hr1
  obtain ⟨s1, hs1⟩ : ∃ s, s = (Dx.listQ Dx.nodeQ V Dx.tMust).isSome := ⟨_, rfl⟩
  rw [← hs1]
  have HS1 := Lib.hid hs1
  have hz2 : w.heap.size + 2 ≤ x2.heap.size := by have h1 := hb1.size; omega
  clear hr1 hq1 hf1 hb1 hs1 BV1 BR1 q0 q1 q2 q3 q4
  obtain ⟨q0, q1, q2, q3, q4, _⟩ := cells5 BV2.out
  go_wp2_with fail
  refine (show Calls Tryz.prog 130 #[.agg #[.int .i64 k, .bool is, .string ⟨t.toArray⟩, .slice a ns.length nc, .slice a' ks.length kc], .string ⟨#[115, 104, 111, 117, 108, 100]⟩] _ _ from rlist_calls V [.int .i64 k, .bool is, .string ⟨t.toArray⟩, .slice a ns.length nc, .slice a' ks.length kc] Dx.tShould x2 _ (J.out.below HB2.out) F.out (IH.out Dx.tShould)).mono ?_
  rintro e x3 ⟨sv2, qs2, rfl, hr2, hq2, hf2, hb2⟩
  obtain ⟨sa2, sc2, rfl⟩ := hr2.shape
  have HQ2 := Lib.hid hq2; have HF2 := Lib.hid hf2
  have HB3 := Lib.hid (HB2.out.trans (hb2.mono HB2.out.size))
  have BV3 := Lib.hid ((hb2.block _ (heap_lt BV2.out)).trans BV2.out)
  have BR3 := Lib.hid ((hb2.block _ (heap_lt BR2.out)).trans BR2.out)
  have R2 := Lib.hid hr2
  have R1 := Lib.hid (show QRow x3 (fun g => x1.heap.size ≤ g) _ qs1 from R1.out.kept hb2.size (fun g hg hl => ⟨hb2.block g hl, hg⟩))
  obtain ⟨s2, hs2⟩ : ∃ s, s = (Dx.listQ Dx.nodeQ V Dx.tShould).isSome := ⟨_, rfl⟩
  rw [← hs2]
  have HS2 := Lib.hid hs2
  have hz3 : w.heap.size + 2 ≤ x3.heap.size := by have h1 := hb2.size; omega
  clear hr2 hq2 hf2 hb2 hs2 BV2 BR2 q0 q1 q2 q3 q4
  obtain ⟨q0, q1, q2, q3, q4, _⟩ := cells5 BV3.out
  go_wp2_with fail
  refine (show Calls Tryz.prog 130 #[.agg #[.int .i64 k, .bool is, .string ⟨t.toArray⟩, .slice a ns.length nc, .slice a' ks.length kc], .string ⟨#[109, 117, 115, 116, 95, 110, 111, 116]⟩] _ _ from rlist_calls V [.int .i64 k, .bool is, .string ⟨t.toArray⟩, .slice a ns.length nc, .slice a' ks.length kc] Dx.tNot x3 _ (J.out.below HB3.out) F.out (IH.out Dx.tNot)).mono ?_
  rintro e x4 ⟨sv3, qs3, rfl, hr3, hq3, hf3, hb3⟩
  obtain ⟨sa3, sc3, rfl⟩ := hr3.shape
  have HQ3 := Lib.hid hq3; have HF3 := Lib.hid hf3
  have HB4 := Lib.hid (HB3.out.trans (hb3.mono HB3.out.size))
  have BV4 := Lib.hid ((hb3.block _ (heap_lt BV3.out)).trans BV3.out)
  have BR4 := Lib.hid ((hb3.block _ (heap_lt BR3.out)).trans BR3.out)
  have R3 := Lib.hid hr3
  have R1 := Lib.hid (show QRow x4 (fun g => x1.heap.size ≤ g) _ qs1 from R1.out.kept hb3.size (fun g hg hl => ⟨hb3.block g hl, hg⟩))
  have R2 := Lib.hid (show QRow x4 (fun g => x2.heap.size ≤ g) _ qs2 from R2.out.kept hb3.size (fun g hg hl => ⟨hb3.block g hl, hg⟩))
  obtain ⟨s3, hs3⟩ : ∃ s, s = (Dx.listQ Dx.nodeQ V Dx.tNot).isSome := ⟨_, rfl⟩
  rw [← hs3]
  have HS3 := Lib.hid hs3
  have hz4 : w.heap.size + 2 ≤ x4.heap.size := by have h1 := hb3.size; omega
  clear hr3 hq3 hf3 hb3 hs3 BV3 BR3 q0 q1 q2 q3 q4
  obtain ⟨q0, q1, q2, q3, q4, _⟩ := cells5 BV4.out
  have QE := Lib.hid (listsQ_eq (v := V) HQ1.out HQ2.out HQ3.out)
  obtain ⟨f, hf⟩ : ∃ f, f = ((s1 && s2) && s3) := ⟨_, rfl⟩
  have YES := Lib.hid (show rlistsQ V = Dx.listsQ Dx.nodeQ V by unfold rlistsQ; rw [← HO.out]; rfl)
  have SOME := Lib.hid (show (rlistsQ V).isSome = f by rw [YES.out, listsQ_some, ← HS1.out, ← HS2.out, ← HS3.out, hf])
  have HFF := Lib.hid hf
  obtain ⟨p0, p1, p2, p3, p4, pf⟩ := cells5 BR4.out
  have pf0 := pf 0; have pf1 := pf 1; have pf2 := pf 2; have pf3 := pf 3; have pf4 := pf 4
  clear pf hf
  have FIN := Lib.hid (rnode_fin (r := rlistsQ V) (Q := .mk 5 [] qs1 qs2 qs3) (f := f) HB4.out BR4.out (QyAt.of_rows (k := 5) (t := []) (R1.out.le hz1) (R2.out.le hz2) (R3.out.le hz3)) (fun q hq => QE.out q (by rw [← YES.out]; exact hq)) (by unfold Dx.qfit; exact ⟨by simp, HF1.out, HF2.out, HF3.out⟩) SOME.out)
  cases s1 <;> cases s2 <;> cases s3
  all_goals
    have hf := HFF.out
    simp only [Bool.and_true, Bool.and_false] at hf
    subst hf
    go_wp2_with fail
    obtain ⟨fin, zb⟩ := FIN.out
    obtain ⟨z0, z1, z2, z3, z4, _⟩ := cells5 zb
    exact bodyPost_ret (v := .tuple #[.agg #[.int .i64 5, .string ⟨#[]⟩, .slice sa1 qs1.length sc1, .slice sa2 qs2.length sc2, .slice sa3 qs3.length sc3], .bool _]) (by simp [results, Tryz.results81, go_sem, z0, z1, z2, z3, z4]) rfl fin
end Go.Proofs.YtejlddimokmgjaaGreatDoor
