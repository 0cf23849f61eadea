/- WALKS: the law JsonNests. -/
import Derived.Test.YtbdmepilmoomeaaDoorGet
import Derived.Deep.RegionHeld3
namespace Go.Proofs.YtbdmepilmoomeaaDoor
open Go.RowKit

theorem alloc5 (w : World) (o0 o1 o2 o3 o4 : Obj) : (((((w.alloc o0).alloc o1).alloc o2).alloc o3).alloc o4).heap[w.heap.size]? = some o0 ∧ (((((w.alloc o0).alloc o1).alloc o2).alloc o3).alloc o4).heap[w.heap.size + 1]? = some o1 ∧
    (((((w.alloc o0).alloc o1).alloc o2).alloc o3).alloc o4).heap[w.heap.size + 1 + 1]? = some o2 ∧ (((((w.alloc o0).alloc o1).alloc o2).alloc o3).alloc o4).heap[w.heap.size + 1 + 1 + 1]? = some o3 ∧
    (((((w.alloc o0).alloc o1).alloc o2).alloc o3).alloc o4).heap[w.heap.size + 1 + 1 + 1 + 1]? = some o4 ∧ Below w.heap.size w (((((w.alloc o0).alloc o1).alloc o2).alloc o3).alloc o4) := by
  have e0 := heap_alloc_new w o0
  have e1 : ((w.alloc o0).alloc o1).heap[w.heap.size + 1]? = some o1 := by have := heap_alloc_new (w.alloc o0) o1; simpa using this
  have e2 : (((w.alloc o0).alloc o1).alloc o2).heap[w.heap.size + 1 + 1]? = some o2 := by have := heap_alloc_new ((w.alloc o0).alloc o1) o2; simpa using this
  have e3 : ((((w.alloc o0).alloc o1).alloc o2).alloc o3).heap[w.heap.size + 1 + 1 + 1]? = some o3 := by have := heap_alloc_new (((w.alloc o0).alloc o1).alloc o2) o3; simpa using this
  have e4 : (((((w.alloc o0).alloc o1).alloc o2).alloc o3).alloc o4).heap[w.heap.size + 1 + 1 + 1 + 1]? = some o4 := by have := heap_alloc_new ((((w.alloc o0).alloc o1).alloc o2).alloc o3) o4; simpa using this
  refine ⟨?_, ?_, ?_, ?_, e4, ?_⟩
  · rw [Below.heap_alloc _ _ _ (by simp; try omega), Below.heap_alloc _ _ _ (by simp; try omega), Below.heap_alloc _ _ _ (by simp; try omega), Below.heap_alloc _ _ _ (by simp)]; exact e0
  · rw [Below.heap_alloc _ _ _ (by simp; try omega), Below.heap_alloc _ _ _ (by simp; try omega), Below.heap_alloc _ _ _ (by simp)]; exact e1
  · rw [Below.heap_alloc _ _ _ (by simp; try omega), Below.heap_alloc _ _ _ (by simp)]; exact e2
  · rw [Below.heap_alloc _ _ _ (by simp)]; exact e3
  · exact (((((Below.refl w.heap.size w).alloc (Nat.le_refl _) _).alloc (by simp) _).alloc (by simp; omega) _).alloc (by simp; omega) _).alloc (by simp; omega) _

theorem cell_at {w : World} {g j : Nat} {cs : List Value} {T : TypeId} {u : Value} (h : w.heap[g]? = some (.cells cs.toArray T (0, 0))) (hu : cs[j]? = some u) : w.cell? ⟨g, 0 + j, none⟩ = some u := by
  simp [World.cell?, h, hu]
/-- Two values side by side in a block: a list, an object. -/
theorem jat_kids {w : World} {ok : Nat → Prop} {u v : Cx.J} {cs ds : List Value} {g : Nat} {T : TypeId} (hu : JAt w ok u cs) (hv : JAt w ok v ds) (hg : w.heap[g]? = some (.cells (cs ++ ds).toArray T (0, 0))) (hok : ok g) :
    ∃ css, JsAt w ok [u, v] css ∧ Row w ok (.slice (some ⟨g, 0, none⟩) 2 2) 2 css.flatten := by
  refine ⟨[cs, ds], ?_, .inr ⟨by omega, g, 0, 2, rfl, by omega, hok, heap_lt hg, fun j x hx => cell_at hg (by simpa using hx)⟩⟩
  unfold JsAt
  refine ⟨cs, [ds], rfl, hu, ?_⟩
  unfold JsAt
  exact ⟨ds, [], rfl, hv, by unfold JsAt; rfl⟩
theorem jat_list2 {w : World} {ok : Nat → Prop} {u v : Cx.J} {cs ds : List Value} {g : Nat} {T : TypeId} (hu : JAt w ok u cs) (hv : JAt w ok v ds) (hg : w.heap[g]? = some (.cells (cs ++ ds).toArray T (0, 0))) (hok : ok g) :
    JAt w ok (Cx.list2 u v) [.int .i64 5, .bool false, .string ⟨#[]⟩, .slice none 0 0, .slice (some ⟨g, 0, none⟩) 2 2] := by
  obtain ⟨css, h1, h2⟩ := jat_kids hu hv hg hok
  unfold Cx.list2 JAt
  exact ⟨_, _, rfl, .inl ⟨rfl, rfl, _, _, rfl⟩, css, h1, h2⟩
theorem jat_obj2 {w : World} {ok : Nat → Prop} {u v : Cx.J} {cs ds : List Value} {n m : List UInt8} {g h : Nat} {T T2 : TypeId} (hu : JAt w ok u cs) (hv : JAt w ok v ds) (hg : w.heap[g]? = some (.cells (cs ++ ds).toArray T (0, 0))) (hok : ok g)
    (hh : w.heap[h]? = some (.cells #[.string ⟨n.toArray⟩, .string ⟨m.toArray⟩] T2 (0, 0))) (hokh : ok h) :
    JAt w ok (Cx.obj2 n m u v) [.int .i64 6, .bool false, .string ⟨#[]⟩, .slice (some ⟨h, 0, none⟩) 2 2, .slice (some ⟨g, 0, none⟩) 2 2] := by
  obtain ⟨css, h1, h2⟩ := jat_kids hu hv hg hok
  unfold Cx.obj2 JAt
  refine ⟨_, _, rfl, .inr ⟨by simp, h, 0, 2, rfl, by simp, hokh, heap_lt hh, fun j x hx => ?_⟩, css, h1, h2⟩
  exact cell_at (cs := [.string ⟨n.toArray⟩, .string ⟨m.toArray⟩]) hh hx
theorem fit_list2 {L : Nat} {u v : Cx.J} (hL : 2 ≤ L) (hu : fit L u) (hv : fit L v) : fit L (Cx.list2 u v) := by
  unfold fit Cx.list2 Cx.fit
  exact ⟨by simp, by simp, by simp, by simpa using hL, by simp [Cx.fitK]; exact ⟨hu, hv⟩⟩
theorem fit_obj2 {L : Nat} {n m : List UInt8} {u v : Cx.J} (hL : 2 ≤ L) (hn : n.length ≤ L) (hm : m.length ≤ L) (hu : fit L u) (hv : fit L v) : fit L (Cx.obj2 n m u v) := by
  unfold fit Cx.obj2 Cx.fit
  exact ⟨by simp, by simpa using hL, by simp [hn, hm], by simpa using hL, by simp [Cx.fitK]; exact ⟨hu, hv⟩⟩

/-- Two boxes of the caller's stand as they stood. -/
structure Two (w v : World) (x0 x1 x2 x3 x4 y0 y1 y2 y3 y4 : Value) (w' : World) : Prop where
  b : Below w.heap.size w w'
  l : Below v.heap.size v w'
  x : w'.heap[w.heap.size]? = some (.cells #[x0, x1, x2, x3, x4] 25 (0, 0))
  y : w'.heap[w.heap.size + 1]? = some (.cells #[y0, y1, y2, y3, y4] 25 (0, 0))
theorem Two.drew {w v w' : World} {x0 x1 x2 x3 x4 y0 y1 y2 y3 y4 : Value} (h : Two w v x0 x1 x2 x3 x4 y0 y1 y2 y3 y4 w') : Two w v x0 x1 x2 x3 x4 y0 y1 y2 y3 y4 w'.drew := ⟨h.b.drew, h.l.drew, h.x, h.y⟩
theorem Two.next {w v w' w2 : World} {x0 x1 x2 x3 x4 y0 y1 y2 y3 y4 : Value} (h : Two w v x0 x1 x2 x3 x4 y0 y1 y2 y3 y4 w') (hb : Below w'.heap.size w' w2) : Two w v x0 x1 x2 x3 x4 y0 y1 y2 y3 y4 w2 :=
  ⟨h.b.trans (hb.mono h.b.size), h.l.trans (hb.mono h.l.size), (hb.block _ (heap_lt h.x)).trans h.x, (hb.block _ (heap_lt h.y)).trans h.y⟩
theorem Two.alloc {w v w' : World} {x0 x1 x2 x3 x4 y0 y1 y2 y3 y4 : Value} (h : Two w v x0 x1 x2 x3 x4 y0 y1 y2 y3 y4 w') (o : Obj) : Two w v x0 x1 x2 x3 x4 y0 y1 y2 y3 y4 (w'.alloc o) :=
  ⟨h.b.alloc h.b.size o, h.l.alloc h.l.size o, (Below.heap_alloc _ _ _ (heap_lt h.x)).trans h.x, (Below.heap_alloc _ _ _ (heap_lt h.y)).trans h.y⟩
theorem Two.at {w v : World} {x0 x1 x2 x3 x4 y0 y1 y2 y3 y4 : Value} {g : Nat} {o : Obj} {w' : World} (h : Two w v x0 x1 x2 x3 x4 y0 y1 y2 y3 y4 w') (hx : v.heap[g]? = some o) : w'.heap[g]? = some o := (h.l.block _ (heap_lt hx)).trans hx
theorem Two.cells {w v w' : World} {x0 x1 x2 x3 x4 y0 y1 y2 y3 y4 : Value} (h : Two w v x0 x1 x2 x3 x4 y0 y1 y2 y3 y4 w') :
    w'.cell? ⟨w.heap.size, 0, none⟩ = some x0 ∧ w'.cell? ⟨w.heap.size, 1, none⟩ = some x1 ∧ w'.cell? ⟨w.heap.size, 2, none⟩ = some x2 ∧ w'.cell? ⟨w.heap.size, 3, none⟩ = some x3 ∧ w'.cell? ⟨w.heap.size, 4, none⟩ = some x4 ∧
    w'.cell? ⟨w.heap.size + 1, 0, none⟩ = some y0 ∧ w'.cell? ⟨w.heap.size + 1, 1, none⟩ = some y1 ∧ w'.cell? ⟨w.heap.size + 1, 2, none⟩ = some y2 ∧ w'.cell? ⟨w.heap.size + 1, 3, none⟩ = some y3 ∧ w'.cell? ⟨w.heap.size + 1, 4, none⟩ = some y4 := by
  obtain ⟨a0, a1, a2, a3, a4, _⟩ := cells5 h.x
  obtain ⟨b0, b1, b2, b3, b4, _⟩ := cells5 h.y
  exact ⟨a0, a1, a2, a3, a4, b0, b1, b2, b3, b4⟩

set_option maxRecDepth 100000 in
set_option maxHeartbeats 8000000 in
theorem nests_calls (u v : Cx.J) (cs ds : List Value) (n : List UInt8) (w : World) (ok : Nat → Prop) (hj : JAt w ok u cs) (hi : JAt w ok v ds) (hf : fit maxLen u) (hh : fit maxLen v) (hn : n.length ≤ maxLen) (hg : Glb w) (h8 : 8 ≤ w.heap.size) :
    Calls Tryd.prog 7 #[.agg cs.toArray, .agg ds.toArray, .string ⟨n.toArray⟩] w fun e w' => e = .returned (.bool true) ∧ Below w.heap.size w w' := by
  unfold maxLen at hn
  cases u with
  | mk k is t ns ks =>
  cases v with
  | mk qk qis qt qns qks =>
  obtain ⟨a, nc, a', kc, rfl⟩ := hj.shape
  obtain ⟨qa, qnc, qa', qkc, rfl⟩ := hi.shape
  have X0 := Lib.hid ((Below.heap_alloc _ (.cells #[.int .i64 qk, .bool qis, .string ⟨qt.toArray⟩, .slice qa qns.length qnc, .slice qa' qks.length qkc] 25) _ (by simp)).trans (heap_alloc_new w (.cells #[.int .i64 k, .bool is, .string ⟨t.toArray⟩, .slice a ns.length nc, .slice a' ks.length kc] 25)))
  have Y0 := Lib.hid (show ((w.alloc (.cells #[.int .i64 k, .bool is, .string ⟨t.toArray⟩, .slice a ns.length nc, .slice a' ks.length kc] 25)).alloc (.cells #[.int .i64 qk, .bool qis, .string ⟨qt.toArray⟩, .slice qa qns.length qnc, .slice qa' qks.length qkc] 25)).heap[w.heap.size + 1]? = some (.cells #[.int .i64 qk, .bool qis, .string ⟨qt.toArray⟩, .slice qa qns.length qnc, .slice qa' qks.length qkc] 25 (0, 0)) from by have := heap_alloc_new (w.alloc (.cells #[.int .i64 k, .bool is, .string ⟨t.toArray⟩, .slice a ns.length nc, .slice a' ks.length kc] 25)) (.cells #[.int .i64 qk, .bool qis, .string ⟨qt.toArray⟩, .slice qa qns.length qnc, .slice qa' qks.length qkc] 25); simpa using this)
  have HB0 := Lib.hid (((Below.refl w.heap.size w).alloc (Nat.le_refl _) (.cells #[.int .i64 k, .bool is, .string ⟨t.toArray⟩, .slice a ns.length nc, .slice a' ks.length kc] 25)).alloc (by simp) (.cells #[.int .i64 qk, .bool qis, .string ⟨qt.toArray⟩, .slice qa qns.length qnc, .slice qa' qks.length qkc] 25))
  have J := Lib.hid hj.all; have F := Lib.hid hf; have I := Lib.hid hi.all; have H := Lib.hid hh; have HG := Lib.hid hg
  clear hj hf hi hh hg
  go_enter Tryd.func7, Tryd.ntmps7
  go_wp2_with fail
  refine (shown_calls _ (HG.out.below HB0.out) (Nat.le_trans h8 HB0.out.size)).mono ?_
  rintro e w1 ⟨rfl, hb⟩
  have B1 := Lib.hid (HB0.out.trans (hb.mono HB0.out.size))
  have X1 := Lib.hid ((hb.block _ (heap_lt X0.out)).trans X0.out)
  have Y1 := Lib.hid ((hb.block _ (heap_lt Y0.out)).trans Y0.out)
  obtain ⟨q0, q1, q2, q3, q4, _⟩ := cells5 X1.out
  obtain ⟨p0, p1, p2, p3, p4, _⟩ := cells5 Y1.out
  clear hb X0 Y0 HB0
  go_wp2_with fail
  refine (light_calls (.mk k is t ns ks) [.int .i64 k, .bool is, .string ⟨t.toArray⟩, .slice a ns.length nc, .slice a' ks.length kc] _ _ (J.out.below B1.out) F.out).mono ?_
  rintro e w2 ⟨r, rfl, hr, hb⟩
  have B2 := Lib.hid (B1.out.trans (hb.mono B1.out.size))
  have X2 := Lib.hid ((hb.block _ (heap_lt X1.out)).trans X1.out)
  have Y2 := Lib.hid ((hb.block _ (heap_lt Y1.out)).trans Y1.out)
  have HR := Lib.hid hr
  clear hb hr B1 X1 Y1 q0 q1 q2 q3 q4 p0 p1 p2 p3 p4
  obtain ⟨q0, q1, q2, q3, q4, _⟩ := cells5 X2.out
  obtain ⟨p0, p1, p2, p3, p4, _⟩ := cells5 Y2.out
  go_wp2_with fail
  refine (light_calls (.mk qk qis qt qns qks) [.int .i64 qk, .bool qis, .string ⟨qt.toArray⟩, .slice qa qns.length qnc, .slice qa' qks.length qkc] _ _ (I.out.below B2.out) H.out).mono ?_
  rintro e w3 ⟨r2, rfl, hr, hb⟩
  have B3 := Lib.hid (B2.out.trans (hb.mono B2.out.size))
  have X3 := Lib.hid ((hb.block _ (heap_lt X2.out)).trans X2.out)
  have Y3 := Lib.hid ((hb.block _ (heap_lt Y2.out)).trans Y2.out)
  have HR2 := Lib.hid hr
  clear hb hr B2 X2 Y2 q0 q1 q2 q3 q4 p0 p1 p2 p3 p4
  obtain ⟨q0, q1, q2, q3, q4, _⟩ := cells5 X3.out
  obtain ⟨p0, p1, p2, p3, p4, _⟩ := cells5 Y3.out
  cases r with
  | false =>
    clear HR HR2
    go_wp2_with fail
    go_ret
    exact ⟨rfl, B3.out⟩
  | true =>
  cases r2 with
  | false =>
    clear HR HR2
    go_wp2_with fail
    go_ret
    exact ⟨rfl, B3.out⟩
  | true =>
  have L1 := Lib.hid (HR.out rfl); have L2 := Lib.hid (HR2.out rfl)
  clear HR HR2
  by_cases hl : n.length ≤ 500
  rotate_left
  · have hl1 : (500 : Int) < (n.length : Int) := by omega
    clear hl
    go_wp2_with fail
    go_ret
    exact ⟨rfl, B3.out⟩
  have hl1 : ¬ (500 : Int) < (n.length : Int) := by omega
  go_wp2_with fail
  refine (Right_calls (.mk k is t ns ks) [.int .i64 k, .bool is, .string ⟨t.toArray⟩, .slice a ns.length nc, .slice a' ks.length kc] _ _ (J.out.below B3.out) F.out (HG.out.below B3.out) (Nat.le_trans h8 B3.out.size)).mono ?_
  rintro e w4 ⟨rfl, hb⟩
  have B4 := Lib.hid (B3.out.trans (hb.mono B3.out.size))
  have X4 := Lib.hid ((hb.block _ (heap_lt X3.out)).trans X3.out)
  have Y4 := Lib.hid ((hb.block _ (heap_lt Y3.out)).trans Y3.out)
  clear hb B3 X3 Y3 q0 q1 q2 q3 q4 p0 p1 p2 p3 p4
  obtain ⟨q0, q1, q2, q3, q4, _⟩ := cells5 X4.out
  obtain ⟨p0, p1, p2, p3, p4, _⟩ := cells5 Y4.out
  go_wp2_with fail
  refine (Right_calls (.mk qk qis qt qns qks) [.int .i64 qk, .bool qis, .string ⟨qt.toArray⟩, .slice qa qns.length qnc, .slice qa' qks.length qkc] _ _ (I.out.below B4.out) H.out (HG.out.below B4.out) (Nat.le_trans h8 B4.out.size)).mono ?_
  rintro e w5 ⟨rfl, hb⟩
  have B5 := Lib.hid (B4.out.trans (hb.mono B4.out.size))
  have X5 := Lib.hid ((hb.block _ (heap_lt X4.out)).trans X4.out)
  have Y5 := Lib.hid ((hb.block _ (heap_lt Y4.out)).trans Y4.out)
  clear hb B4 X4 Y4 q0 q1 q2 q3 q4 p0 p1 p2 p3 p4
  obtain ⟨q0, q1, q2, q3, q4, _⟩ := cells5 X5.out
  obtain ⟨p0, p1, p2, p3, p4, _⟩ := cells5 Y5.out
  have hs5 : w.heap.size + 1 < w5.heap.size := heap_lt Y5.out
  have hs5' : w.heap.size < w5.heap.size := by omega
  have hsa1 : w.heap.size < w5.heap.size + 1 := by omega
  have hsb1 : w.heap.size + 1 < w5.heap.size + 1 := by omega
  have hsa2 : w.heap.size < w5.heap.size + 1 + 1 := by omega
  have hsb2 : w.heap.size + 1 < w5.heap.size + 1 + 1 := by omega
  have hsc2 : w.heap.size < w5.heap.size + 2 := by omega
  have hsd2 : w.heap.size + 1 < w5.heap.size + 2 := by omega
  have hsa3 : w.heap.size < w5.heap.size + 1 + 1 + 1 := by omega
  have hsb3 : w.heap.size + 1 < w5.heap.size + 1 + 1 + 1 := by omega
  have hsc3 : w.heap.size < w5.heap.size + 3 := by omega
  have hsd3 : w.heap.size + 1 < w5.heap.size + 3 := by omega
  have hsa4 : w.heap.size < w5.heap.size + 1 + 1 + 1 + 1 := by omega
  have hsb4 : w.heap.size + 1 < w5.heap.size + 1 + 1 + 1 + 1 := by omega
  have hsc4 : w.heap.size < w5.heap.size + 4 := by omega
  have hsd4 : w.heap.size + 1 < w5.heap.size + 4 := by omega
  have hsa5 : w.heap.size < w5.heap.size + 1 + 1 + 1 + 1 + 1 := by omega
  have hsb5 : w.heap.size + 1 < w5.heap.size + 1 + 1 + 1 + 1 + 1 := by omega
  have hsc5 : w.heap.size < w5.heap.size + 5 := by omega
  have hsd5 : w.heap.size + 1 < w5.heap.size + 5 := by omega
  have hra := Cx.right_of_light L1.out.2
  have hrb := Cx.right_of_light L2.out.2
  rw [hra, hrb]
  have HRA := Lib.hid hra; have HRB := Lib.hid hrb
  clear hra hrb
  obtain ⟨ra, hra⟩ : ∃ ra, ra = Cx.right 0 (.mk k is t ns ks) := ⟨_, rfl⟩
  obtain ⟨rb, hrb⟩ : ∃ rb, rb = Cx.right 0 (.mk qk qis qt qns qks) := ⟨_, rfl⟩
  rw [← hra, ← hrb]
  have RA := Lib.hid hra; have RB := Lib.hid hrb
  clear hra hrb
  have hnx : ((⟨n.toArray⟩ : ByteArray) ++ ⟨#[120]⟩) = ⟨(n ++ [120]).toArray⟩ := by apply ByteArray.ext; simp
  obtain ⟨w6, hw6⟩ : ∃ w6 : World, w6 = (((((w5.alloc (.cells #[.int .i64 k, .bool is, .string ⟨t.toArray⟩, .slice a ns.length nc, .slice a' ks.length kc, .int .i64 qk, .bool qis, .string ⟨qt.toArray⟩, .slice qa qns.length qnc, .slice qa' qks.length qkc] 25)).alloc (.cells #[.int .i64 5, .bool false, .string ⟨#[]⟩, .slice none 0 0, .slice (some ⟨w5.heap.size, 0, none⟩) 2 2] 25)).alloc (.cells #[.string ⟨n.toArray⟩, .string ⟨(n ++ [120]).toArray⟩] 9)).alloc (.cells #[.int .i64 k, .bool is, .string ⟨t.toArray⟩, .slice a ns.length nc, .slice a' ks.length kc, .int .i64 qk, .bool qis, .string ⟨qt.toArray⟩, .slice qa qns.length qnc, .slice qa' qks.length qkc] 25)).alloc (.cells #[.int .i64 6, .bool false, .string ⟨#[]⟩, .slice (some ⟨w5.heap.size + 1 + 1, 0, none⟩) 2 2, .slice (some ⟨w5.heap.size + 1 + 1 + 1, 0, none⟩) 2 2] 25)) := ⟨_, rfl⟩
  have h5 := alloc5 w5 (.cells #[.int .i64 k, .bool is, .string ⟨t.toArray⟩, .slice a ns.length nc, .slice a' ks.length kc, .int .i64 qk, .bool qis, .string ⟨qt.toArray⟩, .slice qa qns.length qnc, .slice qa' qks.length qkc] 25) (.cells #[.int .i64 5, .bool false, .string ⟨#[]⟩, .slice none 0 0, .slice (some ⟨w5.heap.size, 0, none⟩) 2 2] 25) (.cells #[.string ⟨n.toArray⟩, .string ⟨(n ++ [120]).toArray⟩] 9) (.cells #[.int .i64 k, .bool is, .string ⟨t.toArray⟩, .slice a ns.length nc, .slice a' ks.length kc, .int .i64 qk, .bool qis, .string ⟨qt.toArray⟩, .slice qa qns.length qnc, .slice qa' qks.length qkc] 25) (.cells #[.int .i64 6, .bool false, .string ⟨#[]⟩, .slice (some ⟨w5.heap.size + 1 + 1, 0, none⟩) 2 2, .slice (some ⟨w5.heap.size + 1 + 1 + 1, 0, none⟩) 2 2] 25)
  rw [← hw6] at h5
  obtain ⟨k1, k2, k3, k4, k5, hb⟩ := h5
  have B6 := Lib.hid (B5.out.trans (hb.mono B5.out.size))
  have X6 := Lib.hid ((hb.block _ (heap_lt X5.out)).trans X5.out)
  have Y6 := Lib.hid ((hb.block _ (heap_lt Y5.out)).trans Y5.out)
  have U6 := Lib.hid k2; have V6 := Lib.hid k5
  have JL := Lib.hid (jat_list2 (ok := fun g => g < w6.heap.size) (J.out.below B6.out).all (I.out.below B6.out).all k1 (heap_lt k1))
  have JO := Lib.hid (jat_obj2 (ok := fun g => g < w6.heap.size) (J.out.below B6.out).all (I.out.below B6.out).all k4 (heap_lt k4) k3 (heap_lt k3))
  have FL := Lib.hid (fit_list2 (L := 100000) (by omega) (fit_le (by omega) _ L1.out.1) (fit_le (by omega) _ L2.out.1))
  have FO := Lib.hid (fit_obj2 (L := 100000) (n := n) (m := n ++ [120]) (by omega) (by omega) (by simp; omega) (fit_le (by omega) _ L1.out.1) (fit_le (by omega) _ L2.out.1))
  clear k1 k2 k3 k4 k5 hb
  cases ra with
  | false =>
    have RW := Lib.hid (show Cx.right 0 (.mk k is t ns ks) = false ∨ Cx.right 0 (.mk qk qis qt qns qks) = false from .inl RA.out.symm)
    go_wp2_with fail
    rw [← hw6]
    clear q0 q1 q2 q3 q4 p0 p1 p2 p3 p4 hw6 hnx
    refine (print_calls _ _ _ _ JL.out FL.out (HG.out.below B6.out) (Nat.le_trans h8 B6.out.size)).mono ?_
    rintro e w7 ⟨rfl, hb⟩
    rw [Cx.list2_wrong RW.out]
    have B7 := Lib.hid (B6.out.trans (hb.mono B6.out.size))
    have JO7 := Lib.hid (JO.out.below hb)
    have V7 := Lib.hid ((hb.block _ (heap_lt V6.out)).trans V6.out)
    obtain ⟨q0, q1, q2, q3, q4, _⟩ := cells5 V7.out
    clear hb
    go_wp2_with fail
    refine (print_calls _ _ _ _ JO7.out FO.out (HG.out.below B7.out) (Nat.le_trans h8 B7.out.size)).mono ?_
    rintro e w8 ⟨rfl, hb⟩
    rw [Cx.obj2_wrong RW.out]
    have B8 := Lib.hid (B7.out.trans (hb.mono B7.out.size))
    clear hb
    go_wp2_with fail
    go_ret
    exact ⟨rfl, B8.out⟩
  | true =>
  cases rb with
  | false =>
    have RW := Lib.hid (show Cx.right 0 (.mk k is t ns ks) = false ∨ Cx.right 0 (.mk qk qis qt qns qks) = false from .inr RB.out.symm)
    go_wp2_with fail
    rw [← hw6]
    clear q0 q1 q2 q3 q4 p0 p1 p2 p3 p4 hw6 hnx
    refine (print_calls _ _ _ _ JL.out FL.out (HG.out.below B6.out) (Nat.le_trans h8 B6.out.size)).mono ?_
    rintro e w7 ⟨rfl, hb⟩
    rw [Cx.list2_wrong RW.out]
    have B7 := Lib.hid (B6.out.trans (hb.mono B6.out.size))
    have JO7 := Lib.hid (JO.out.below hb)
    have V7 := Lib.hid ((hb.block _ (heap_lt V6.out)).trans V6.out)
    obtain ⟨q0, q1, q2, q3, q4, _⟩ := cells5 V7.out
    clear hb
    go_wp2_with fail
    refine (print_calls _ _ _ _ JO7.out FO.out (HG.out.below B7.out) (Nat.le_trans h8 B7.out.size)).mono ?_
    rintro e w8 ⟨rfl, hb⟩
    rw [Cx.obj2_wrong RW.out]
    have B8 := Lib.hid (B7.out.trans (hb.mono B7.out.size))
    clear hb
    go_wp2_with fail
    go_ret
    exact ⟨rfl, B8.out⟩
  | true =>
  have FA := Lib.hid (fit_le (show 2000 ≤ 100000 by omega) _ L1.out.1); have FB := Lib.hid (fit_le (show 2000 ≤ 100000 by omega) _ L2.out.1)
  obtain ⟨PA, hPA⟩ : ∃ P : ByteArray, P = ⟨(Cx.print (.mk k is t ns ks)).toArray⟩ := ⟨_, rfl⟩
  obtain ⟨PB, hPB⟩ : ∃ P : ByteArray, P = ⟨(Cx.print (.mk qk qis qt qns qks)).toArray⟩ := ⟨_, rfl⟩
  have hLA : Cx.print (.mk k is t ns ks) = Cx.pr (.mk k is t ns ks) := by unfold Cx.print; rw [HRA.out, ← RA.out]; rfl
  have hLB : Cx.print (.mk qk qis qt qns qks) = Cx.pr (.mk qk qis qt qns qks) := by unfold Cx.print; rw [HRB.out, ← RB.out]; rfl
  have hza : PA.size ≤ 48040000 := by
    have h1 := Cx.pr_length 2000 _ L1.out.1
    have h2 := Nat.mul_le_mul_left (12 * 2000 + 20) L1.out.2
    have h3 : PA.size = (Cx.pr (.mk k is t ns ks)).length := by rw [hPA, hLA]; simp [ByteArray.size]
    omega
  have hzb : PB.size ≤ 48040000 := by
    have h1 := Cx.pr_length 2000 _ L2.out.1
    have h2 := Nat.mul_le_mul_left (12 * 2000 + 20) L2.out.2
    have h3 : PB.size = (Cx.pr (.mk qk qis qt qns qks)).length := by rw [hPB, hLB]; simp [ByteArray.size]
    omega
  have HPA := Lib.hid hPA; have HPB := Lib.hid hPB; have HLA := Lib.hid hLA; have HLB := Lib.hid hLB
  clear hPA hPB hLA hLB
  go_wp2_with fail
  rw [← hw6]
  clear q0 q1 q2 q3 q4 p0 p1 p2 p3 p4 hw6 hnx
  refine (print_calls _ _ _ _ JL.out FL.out (HG.out.below B6.out) (Nat.le_trans h8 B6.out.size)).mono ?_
  rintro e w7 ⟨rfl, hb⟩
  have T7 := Lib.hid ((show Two w w6 (.int .i64 k) (.bool is) (.string ⟨t.toArray⟩) (.slice a ns.length nc) (.slice a' ks.length kc) (.int .i64 qk) (.bool qis) (.string ⟨qt.toArray⟩) (.slice qa qns.length qnc) (.slice qa' qks.length qkc) w6 from ⟨B6.out, Below.refl _ _, X6.out, Y6.out⟩).next hb)
  clear hb X6 Y6 B6
  obtain ⟨q0, q1, q2, q3, q4, _⟩ := cells5 (T7.out.at U6.out)
  cases hR : Cx.Right (Cx.list2 (.mk k is t ns ks) (.mk qk qis qt qns qks)) with
  | false =>
    rw [(Cx.print_nil_iff _).2 hR]
    have HRT := Lib.hid hR
    clear hR
    go_wp2_with fail
    refine (Right_calls _ _ _ _ (JL.out.below T7.out.l) (fit_le (by unfold maxLen; omega) _ FL.out) (HG.out.below T7.out.b) (Nat.le_trans h8 T7.out.b.size)).mono ?_
    rintro e w8 ⟨rfl, hb⟩
    have T8 := Lib.hid (T7.out.next hb)
    rw [HRT.out]
    clear hb
    go_wp2_with fail
    go_ret
    exact ⟨rfl, T8.out.b⟩
  | true =>
  have hp := Cx.print_list2 hR
  obtain ⟨P, hP⟩ : ∃ P : ByteArray, P = ⟨(Cx.print (Cx.list2 (.mk k is t ns ks) (.mk qk qis qt qns qks))).toArray⟩ := ⟨_, rfl⟩
  rw [← hP]
  rw [hp] at hP
  have hPe : P.toList.isEmpty = false := by rw [ByteArray.toList_eq, hP]; rfl
  have hPE : (P.toList == ((⟨#[91]⟩ : ByteArray) ++ PA ++ ⟨#[44]⟩ ++ PB ++ ⟨#[93]⟩).toList) = true := by
    rw [beq_iff_eq, ByteArray.toList_eq, ByteArray.toList_eq, hP, HPA.out, HPB.out, HLA.out, HLB.out]
    simp [ByteArray.data_append]
  have HPE := Lib.hid hPE
  clear hp hP hR hPE
  go_wp2_with fail
  clear q0 q1 q2 q3 q4
  have z1 : ¬ 9223372036854775807 < 1 + PA.size := by omega
  have z2 : ¬ 9223372036854775807 < 1 + PA.size + 1 := by omega
  have z3 : ¬ 9223372036854775807 < 1 + PA.size + 1 + PB.size := by omega
  have z4 : ¬ 9223372036854775807 < 1 + PA.size + 1 + PB.size + 1 := by omega
  have TW := T7.out.drew
  go_region_held3 (fun w' => w'.cell? ⟨w.heap.size, 0, none⟩ = some (.int .i64 k) ∧ w'.cell? ⟨w.heap.size, 1, none⟩ = some (.bool is) ∧ w'.cell? ⟨w.heap.size, 2, none⟩ = some (.string ⟨t.toArray⟩) ∧ w'.cell? ⟨w.heap.size, 3, none⟩ = some (.slice a ns.length nc) ∧ w'.cell? ⟨w.heap.size, 4, none⟩ = some (.slice a' ks.length kc) ∧ w'.cell? ⟨w.heap.size + 1, 0, none⟩ = some (.int .i64 qk) ∧ w'.cell? ⟨w.heap.size + 1, 1, none⟩ = some (.bool qis) ∧ w'.cell? ⟨w.heap.size + 1, 2, none⟩ = some (.string ⟨qt.toArray⟩) ∧ w'.cell? ⟨w.heap.size + 1, 3, none⟩ = some (.slice qa qns.length qnc) ∧ w'.cell? ⟨w.heap.size + 1, 4, none⟩ = some (.slice qa' qks.length qkc)) (exact Two.cells ‹Two w w6 (.int .i64 k) (.bool is) (.string ⟨t.toArray⟩) (.slice a ns.length nc) (.slice a' ks.length kc) (.int .i64 qk) (.bool qis) (.string ⟨qt.toArray⟩) (.slice qa qns.length qnc) (.slice qa' qks.length qkc) _›)
    (first
      | (go_at_call 11; refine (print_calls (.mk k is t ns ks) [.int .i64 k, .bool is, .string ⟨t.toArray⟩, .slice a ns.length nc, .slice a' ks.length kc] _ _ (J.out.below (Two.b ‹Two w w6 (.int .i64 k) (.bool is) (.string ⟨t.toArray⟩) (.slice a ns.length nc) (.slice a' ks.length kc) (.int .i64 qk) (.bool qis) (.string ⟨qt.toArray⟩) (.slice qa qns.length qnc) (.slice qa' qks.length qkc) _›)) FA.out (HG.out.below (Two.b ‹Two w w6 (.int .i64 k) (.bool is) (.string ⟨t.toArray⟩) (.slice a ns.length nc) (.slice a' ks.length kc) (.int .i64 qk) (.bool qis) (.string ⟨qt.toArray⟩) (.slice qa qns.length qnc) (.slice qa' qks.length qkc) _›)) (Nat.le_trans h8 (Two.b ‹Two w w6 (.int .i64 k) (.bool is) (.string ⟨t.toArray⟩) (.slice a ns.length nc) (.slice a' ks.length kc) (.int .i64 qk) (.bool qis) (.string ⟨qt.toArray⟩) (.slice qa qns.length qnc) (.slice qa' qks.length qkc) _›).size)).mono ?_; rintro e w8 ⟨rfl, hb⟩; have TW8 := Two.next ‹Two w w6 (.int .i64 k) (.bool is) (.string ⟨t.toArray⟩) (.slice a ns.length nc) (.slice a' ks.length kc) (.int .i64 qk) (.bool qis) (.string ⟨qt.toArray⟩) (.slice qa qns.length qnc) (.slice qa' qks.length qkc) _› hb; rw [← HPA.out])
      | (go_at_call 11; refine (print_calls (.mk qk qis qt qns qks) [.int .i64 qk, .bool qis, .string ⟨qt.toArray⟩, .slice qa qns.length qnc, .slice qa' qks.length qkc] _ _ (I.out.below (Two.b ‹Two w w6 (.int .i64 k) (.bool is) (.string ⟨t.toArray⟩) (.slice a ns.length nc) (.slice a' ks.length kc) (.int .i64 qk) (.bool qis) (.string ⟨qt.toArray⟩) (.slice qa qns.length qnc) (.slice qa' qks.length qkc) _›)) FB.out (HG.out.below (Two.b ‹Two w w6 (.int .i64 k) (.bool is) (.string ⟨t.toArray⟩) (.slice a ns.length nc) (.slice a' ks.length kc) (.int .i64 qk) (.bool qis) (.string ⟨qt.toArray⟩) (.slice qa qns.length qnc) (.slice qa' qks.length qkc) _›)) (Nat.le_trans h8 (Two.b ‹Two w w6 (.int .i64 k) (.bool is) (.string ⟨t.toArray⟩) (.slice a ns.length nc) (.slice a' ks.length kc) (.int .i64 qk) (.bool qis) (.string ⟨qt.toArray⟩) (.slice qa qns.length qnc) (.slice qa' qks.length qkc) _›).size)).mono ?_; rintro e w8 ⟨rfl, hb⟩; have TW8 := Two.next ‹Two w w6 (.int .i64 k) (.bool is) (.string ⟨t.toArray⟩) (.slice a ns.length nc) (.slice a' ks.length kc) (.int .i64 qk) (.bool qis) (.string ⟨qt.toArray⟩) (.slice qa qns.length qnc) (.slice qa' qks.length qkc) _› hb; rw [← HPB.out]))
  have T8 := Lib.hid TW8
  clear TW TW8 z1 z2 z3 z4
  obtain ⟨q0, q1, q2, q3, q4, _⟩ := cells5 (T8.out.at V6.out)
  rw [show (!P.toList == ((⟨#[91]⟩ : ByteArray) ++ PA ++ ⟨#[44]⟩ ++ PB ++ ⟨#[93]⟩).toList) = false from by rw [HPE.out]; rfl]
  go_wp2_with fail
  clear HPE
  refine (print_calls _ _ _ _ (JO.out.below T8.out.l) FO.out (HG.out.below T8.out.b) (Nat.le_trans h8 T8.out.b.size)).mono ?_
  rintro e w9 ⟨rfl, hb⟩
  have T9 := Lib.hid (T8.out.next hb)
  clear hb q0 q1 q2 q3 q4
  obtain ⟨q0, q1, q2, q3, q4, _⟩ := cells5 (T9.out.at V6.out)
  cases hR : Cx.Right (Cx.obj2 n (n ++ [120]) (.mk k is t ns ks) (.mk qk qis qt qns qks)) with
  | false =>
    rw [(Cx.print_nil_iff _).2 hR]
    have HRT := Lib.hid hR
    clear hR
    go_wp2_with fail
    refine (Right_calls _ _ _ _ (JO.out.below T9.out.l) (fit_le (by unfold maxLen; omega) _ FO.out) (HG.out.below T9.out.b) (Nat.le_trans h8 T9.out.b.size)).mono ?_
    rintro e w10 ⟨rfl, hb⟩
    have T10 := Lib.hid (T9.out.next hb)
    rw [HRT.out]
    clear hb
    go_wp2_with fail
    go_ret
    exact ⟨rfl, T10.out.b⟩
  | true =>
  have hp := Cx.print_obj2 hR
  obtain ⟨Q, hQ⟩ : ∃ P : ByteArray, P = ⟨(Cx.print (Cx.obj2 n (n ++ [120]) (.mk k is t ns ks) (.mk qk qis qt qns qks))).toArray⟩ := ⟨_, rfl⟩
  rw [← hQ]
  rw [hp] at hQ
  have hQe : Q.toList.isEmpty = false := by rw [ByteArray.toList_eq, hQ]; rfl
  obtain ⟨TN, hTN⟩ : ∃ P : ByteArray, P = ⟨(Cx.jtext (⟨n.toArray⟩ : ByteArray).data.toList).toArray⟩ := ⟨_, rfl⟩
  obtain ⟨TM, hTM⟩ : ∃ P : ByteArray, P = ⟨(Cx.jtext ((⟨n.toArray⟩ : ByteArray) ++ ⟨#[120]⟩).data.toList).toArray⟩ := ⟨_, rfl⟩
  have hQE : (Q.toList == ((⟨#[123]⟩ : ByteArray) ++ TN ++ ⟨#[58]⟩ ++ PA ++ ⟨#[44]⟩ ++ TM ++ ⟨#[58]⟩ ++ PB ++ ⟨#[125]⟩).toList) = true := by
    rw [beq_iff_eq, ByteArray.toList_eq, ByteArray.toList_eq, hQ, HPA.out, HPB.out, HLA.out, HLB.out, hTN, hTM]
    simp [ByteArray.data_append]
  have hzn : TN.size ≤ 3002 := by
    have h1 := Cx.jtext_length n
    have h3 : TN.size = (Cx.jtext n).length := by rw [hTN]; simp [ByteArray.size]
    omega
  have hzm : TM.size ≤ 3008 := by
    have h1 := Cx.jtext_length (n ++ [120])
    have h3 : TM.size = (Cx.jtext (n ++ [120])).length := by rw [hTM]; simp [ByteArray.size]
    rw [List.length_append, List.length_singleton] at h1
    omega
  have HQE := Lib.hid hQE; have HTN := Lib.hid hTN; have HTM := Lib.hid hTM
  clear hp hQ hR hQE hTN hTM
  go_wp2_with fail
  have FM := Lib.hid (fit_le (show 100000 ≤ maxLen by unfold maxLen; omega) _ FO.out); have FN := Lib.hid (fit_le (show 100000 ≤ maxLen by unfold maxLen; omega) _ FL.out)
  refine (get_calls _ _ n _ _ (JO.out.below T9.out.l) FM.out).mono ?_
  rintro e w10 ⟨c1, rfl, hj1, hb⟩
  rw [Cx.get_first] at hj1 ⊢
  have hj1 : JAt w10 (fun g => g < w10.heap.size) (.mk k is t ns ks) c1 := hj1
  obtain ⟨pa, pnc, pa', pkc, rfl⟩ := hj1.shape
  have T10 := Lib.hid ((T9.out.next hb).alloc (.cells #[.int .i64 k, .bool is, .string ⟨t.toArray⟩, .slice pa ns.length pnc, .slice pa' ks.length pkc] 25))
  have G1 := Lib.hid (hj1.below ((Below.refl w10.heap.size w10).alloc (Nat.le_refl _) (.cells #[.int .i64 k, .bool is, .string ⟨t.toArray⟩, .slice pa ns.length pnc, .slice pa' ks.length pkc] 25))).all
  have PX1 := Lib.hid (heap_alloc_new w10 (.cells #[.int .i64 k, .bool is, .string ⟨t.toArray⟩, .slice pa ns.length pnc, .slice pa' ks.length pkc] 25))
  have hv := heap_lt ((T9.out.next hb).at V6.out)
  have hv1 : w5.heap.size + 1 + 1 + 1 + 1 < w10.heap.size + 1 := by omega
  clear hb hj1 q0 q1 q2 q3 q4
  obtain ⟨q0, q1, q2, q3, q4, _⟩ := cells5 (T10.out.at V6.out)
  have hnx : ((⟨n.toArray⟩ : ByteArray) ++ ⟨#[120]⟩) = ⟨(n ++ [120]).toArray⟩ := by apply ByteArray.ext; simp
  go_wp2_with fail
  clear hnx
  refine (get_calls _ _ (n ++ [120]) _ _ (JO.out.below T10.out.l) FM.out).mono ?_
  rintro e w11 ⟨c2, rfl, hj2, hb⟩
  rw [Cx.get_second (show n ≠ n ++ [120] from fun h => by have := congrArg List.length h; simp at this)] at hj2 ⊢
  have hj2 : JAt w11 (fun g => g < w11.heap.size) (.mk qk qis qt qns qks) c2 := hj2
  obtain ⟨sa, snc, sa', skc, rfl⟩ := hj2.shape
  have T11 := Lib.hid ((T10.out.next hb).alloc (.cells #[.int .i64 qk, .bool qis, .string ⟨qt.toArray⟩, .slice sa qns.length snc, .slice sa' qks.length skc] 25))
  have G1b := Lib.hid ((G1.out.below hb).all.below ((Below.refl w11.heap.size w11).alloc (Nat.le_refl _) (.cells #[.int .i64 qk, .bool qis, .string ⟨qt.toArray⟩, .slice sa qns.length snc, .slice sa' qks.length skc] 25))).all
  have G2 := Lib.hid (hj2.below ((Below.refl w11.heap.size w11).alloc (Nat.le_refl _) (.cells #[.int .i64 qk, .bool qis, .string ⟨qt.toArray⟩, .slice sa qns.length snc, .slice sa' qks.length skc] 25))).all
  have QX1 := Lib.hid (heap_alloc_new w11 (.cells #[.int .i64 qk, .bool qis, .string ⟨qt.toArray⟩, .slice sa qns.length snc, .slice sa' qks.length skc] 25))
  have hp11 := (hb.block _ (heap_lt PX1.out)).trans PX1.out
  have PX2 := Lib.hid ((Below.heap_alloc _ (.cells #[.int .i64 qk, .bool qis, .string ⟨qt.toArray⟩, .slice sa qns.length snc, .slice sa' qks.length skc] 25) _ (heap_lt hp11)).trans hp11)
  have hu := heap_lt ((T10.out.next hb).at U6.out)
  have hu1 : w5.heap.size + 1 < w11.heap.size + 1 := by omega
  clear hb hj2 q0 q1 q2 q3 q4 G1 hv hv1 hp11 PX1
  obtain ⟨q0, q1, q2, q3, q4, _⟩ := cells5 (T11.out.at U6.out)
  go_wp2_with fail
  refine (get_calls _ _ n _ _ (JL.out.below T11.out.l) FN.out).mono ?_
  rintro e w12 ⟨c3, rfl, hj3, hb⟩
  rw [Cx.get_list] at hj3 ⊢
  have hj3 : JAt w12 (fun g => g < w12.heap.size) (.mk 0 false [] [] []) c3 := hj3
  obtain ⟨ea, enc, ea', ekc, rfl⟩ := hj3.shape
  have hb0 := (Below.refl w12.heap.size w12).alloc (Nat.le_refl _) (.cells #[.int .i64 0, .bool false, .string ⟨#[]⟩, .slice ea 0 enc, .slice ea' 0 ekc] 25)
  have hb := hb.trans (hb0.mono hb.size)
  have T12 := Lib.hid (T11.out.next hb)
  have G1 := Lib.hid ((G1b.out.below hb).all); have G2b := Lib.hid ((G2.out.below hb).all)
  have PX3 := Lib.hid ((hb.block _ (heap_lt PX2.out)).trans PX2.out); have QX3 := Lib.hid ((hb.block _ (heap_lt QX1.out)).trans QX1.out)
  have hv : w5.heap.size + 1 + 1 + 1 + 1 < w12.heap.size + 1 := by have := heap_lt (T12.out.at V6.out); simp at this; omega
  clear hb0
  clear hb hj3 q0 q1 q2 q3 q4 G1b G2 PX2 QX1 hu hu1
  obtain ⟨q0, q1, q2, q3, q4, _⟩ := cells5 (T12.out.at V6.out)
  have hny : ((⟨n.toArray⟩ : ByteArray) ++ ⟨#[121]⟩) = ⟨(n ++ [121]).toArray⟩ := by apply ByteArray.ext; simp
  go_wp2_with fail
  clear hny
  refine (get_calls _ _ (n ++ [121]) _ _ (JO.out.below T12.out.l) FM.out).mono ?_
  rintro e w13 ⟨c4, rfl, hj4, hb⟩
  rw [Cx.get_none (show n ++ [121] ≠ n from fun h => by have := congrArg List.length h; simp at this) (show n ++ [121] ≠ n ++ [120] from fun h => by simp at h)]
  rw [Cx.get_none (show n ++ [121] ≠ n from fun h => by have := congrArg List.length h; simp at this) (show n ++ [121] ≠ n ++ [120] from fun h => by simp at h)] at hj4
  have hj4 : JAt w13 (fun g => g < w13.heap.size) (.mk 0 false [] [] []) c4 := hj4
  obtain ⟨fa, fnc, fa', fkc, rfl⟩ := hj4.shape
  have hb0 := (Below.refl w13.heap.size w13).alloc (Nat.le_refl _) (.cells #[.int .i64 0, .bool false, .string ⟨#[]⟩, .slice fa 0 fnc, .slice fa' 0 fkc] 25)
  have hb := hb.trans (hb0.mono hb.size)
  have T13 := Lib.hid (T12.out.next hb)
  have G1b := Lib.hid ((G1.out.below hb).all); have G2 := Lib.hid ((G2b.out.below hb).all)
  have PX4 := Lib.hid ((hb.block _ (heap_lt PX3.out)).trans PX3.out); have QX4 := Lib.hid ((hb.block _ (heap_lt QX3.out)).trans QX3.out)
  have hv2 : w.heap.size < w13.heap.size + 1 := by have := heap_lt T13.out.x; simp at this; omega
  have hv3 : w.heap.size + 1 < w13.heap.size + 1 := by have := heap_lt T13.out.y; simp at this; omega
  have hv4 : w10.heap.size < w13.heap.size + 1 := by have := heap_lt PX4.out; simp at this; omega
  clear hb0 hv
  clear hb hj4 q0 q1 q2 q3 q4 G1 G2b PX3 QX3
  obtain ⟨q0, q1, q2, q3, q4, _⟩ := cells5 T13.out.x
  obtain ⟨p0, p1, p2, p3, p4, _⟩ := cells5 PX4.out
  go_wp2_with fail
  refine (same_calls _ (.mk k is t ns ks) (.mk k is t ns ks) _ [.int .i64 k, .bool is, .string ⟨t.toArray⟩, .slice a ns.length nc, .slice a' ks.length kc] _ _ (Nat.le_refl _) G1b.out (J.out.below T13.out.b).all F.out F.out).mono ?_
  rintro e w14 ⟨r1, rfl, hr, hb⟩
  obtain rfl := hr.2 rfl
  have T14 := Lib.hid (T13.out.next hb)
  have G2b := Lib.hid ((G2.out.below hb).all)
  have QX5 := Lib.hid ((hb.block _ (heap_lt QX4.out)).trans QX4.out)
  clear hb q0 q1 q2 q3 q4 p0 p1 p2 p3 p4 G1b G2 hr QX4 PX4
  obtain ⟨q0, q1, q2, q3, q4, _⟩ := cells5 T14.out.y
  obtain ⟨p0, p1, p2, p3, p4, _⟩ := cells5 QX5.out
  go_wp2_with fail
  refine (same_calls _ (.mk qk qis qt qns qks) (.mk qk qis qt qns qks) _ [.int .i64 qk, .bool qis, .string ⟨qt.toArray⟩, .slice qa qns.length qnc, .slice qa' qks.length qkc] _ _ (Nat.le_refl _) G2b.out (I.out.below T14.out.b).all H.out H.out).mono ?_
  rintro e w15 ⟨r2, rfl, hr, hb⟩
  obtain rfl := hr.2 rfl
  have T15 := Lib.hid (T14.out.next hb)
  clear hb q0 q1 q2 q3 q4 p0 p1 p2 p3 p4 G2b hr QX5
  go_wp2_with fail
  have z1 : ¬ 9223372036854775807 < 1 + TN.size := by omega
  have z2 : ¬ 9223372036854775807 < 1 + TN.size + 1 := by omega
  have z3 : ¬ 9223372036854775807 < 1 + TN.size + 1 + PA.size := by omega
  have z4 : ¬ 9223372036854775807 < 1 + TN.size + 1 + PA.size + 1 := by omega
  have z5 : ¬ 9223372036854775807 < 1 + TN.size + 1 + PA.size + 1 + TM.size := by omega
  have z6 : ¬ 9223372036854775807 < 1 + TN.size + 1 + PA.size + 1 + TM.size + 1 := by omega
  have z7 : ¬ 9223372036854775807 < 1 + TN.size + 1 + PA.size + 1 + TM.size + 1 + PB.size := by omega
  have z8 : ¬ 9223372036854775807 < 1 + TN.size + 1 + PA.size + 1 + TM.size + 1 + PB.size + 1 := by omega
  have z9 : ¬ 9223372036854775807 < n.length + 1 := by omega
  have hQE := HQE.out
  have TW := T15.out.drew
  go_region_held3 (fun w' => w'.cell? ⟨w.heap.size, 0, none⟩ = some (.int .i64 k) ∧ w'.cell? ⟨w.heap.size, 1, none⟩ = some (.bool is) ∧ w'.cell? ⟨w.heap.size, 2, none⟩ = some (.string ⟨t.toArray⟩) ∧ w'.cell? ⟨w.heap.size, 3, none⟩ = some (.slice a ns.length nc) ∧ w'.cell? ⟨w.heap.size, 4, none⟩ = some (.slice a' ks.length kc) ∧ w'.cell? ⟨w.heap.size + 1, 0, none⟩ = some (.int .i64 qk) ∧ w'.cell? ⟨w.heap.size + 1, 1, none⟩ = some (.bool qis) ∧ w'.cell? ⟨w.heap.size + 1, 2, none⟩ = some (.string ⟨qt.toArray⟩) ∧ w'.cell? ⟨w.heap.size + 1, 3, none⟩ = some (.slice qa qns.length qnc) ∧ w'.cell? ⟨w.heap.size + 1, 4, none⟩ = some (.slice qa' qks.length qkc)) (exact Two.cells ‹Two w w6 (.int .i64 k) (.bool is) (.string ⟨t.toArray⟩) (.slice a ns.length nc) (.slice a' ks.length kc) (.int .i64 qk) (.bool qis) (.string ⟨qt.toArray⟩) (.slice qa qns.length qnc) (.slice qa' qks.length qkc) _›)
    (first
      | (go_at_call 11; refine (print_calls (.mk k is t ns ks) [.int .i64 k, .bool is, .string ⟨t.toArray⟩, .slice a ns.length nc, .slice a' ks.length kc] _ _ (J.out.below (Two.b ‹Two w w6 (.int .i64 k) (.bool is) (.string ⟨t.toArray⟩) (.slice a ns.length nc) (.slice a' ks.length kc) (.int .i64 qk) (.bool qis) (.string ⟨qt.toArray⟩) (.slice qa qns.length qnc) (.slice qa' qks.length qkc) _›)) FA.out (HG.out.below (Two.b ‹Two w w6 (.int .i64 k) (.bool is) (.string ⟨t.toArray⟩) (.slice a ns.length nc) (.slice a' ks.length kc) (.int .i64 qk) (.bool qis) (.string ⟨qt.toArray⟩) (.slice qa qns.length qnc) (.slice qa' qks.length qkc) _›)) (Nat.le_trans h8 (Two.b ‹Two w w6 (.int .i64 k) (.bool is) (.string ⟨t.toArray⟩) (.slice a ns.length nc) (.slice a' ks.length kc) (.int .i64 qk) (.bool qis) (.string ⟨qt.toArray⟩) (.slice qa qns.length qnc) (.slice qa' qks.length qkc) _›).size)).mono ?_; rintro e w8 ⟨rfl, hb⟩; have TW8 := Two.next ‹Two w w6 (.int .i64 k) (.bool is) (.string ⟨t.toArray⟩) (.slice a ns.length nc) (.slice a' ks.length kc) (.int .i64 qk) (.bool qis) (.string ⟨qt.toArray⟩) (.slice qa qns.length qnc) (.slice qa' qks.length qkc) _› hb; rw [← HPA.out])
      | (go_at_call 11; refine (print_calls (.mk qk qis qt qns qks) [.int .i64 qk, .bool qis, .string ⟨qt.toArray⟩, .slice qa qns.length qnc, .slice qa' qks.length qkc] _ _ (I.out.below (Two.b ‹Two w w6 (.int .i64 k) (.bool is) (.string ⟨t.toArray⟩) (.slice a ns.length nc) (.slice a' ks.length kc) (.int .i64 qk) (.bool qis) (.string ⟨qt.toArray⟩) (.slice qa qns.length qnc) (.slice qa' qks.length qkc) _›)) FB.out (HG.out.below (Two.b ‹Two w w6 (.int .i64 k) (.bool is) (.string ⟨t.toArray⟩) (.slice a ns.length nc) (.slice a' ks.length kc) (.int .i64 qk) (.bool qis) (.string ⟨qt.toArray⟩) (.slice qa qns.length qnc) (.slice qa' qks.length qkc) _›)) (Nat.le_trans h8 (Two.b ‹Two w w6 (.int .i64 k) (.bool is) (.string ⟨t.toArray⟩) (.slice a ns.length nc) (.slice a' ks.length kc) (.int .i64 qk) (.bool qis) (.string ⟨qt.toArray⟩) (.slice qa qns.length qnc) (.slice qa' qks.length qkc) _›).size)).mono ?_; rintro e w8 ⟨rfl, hb⟩; have TW8 := Two.next ‹Two w w6 (.int .i64 k) (.bool is) (.string ⟨t.toArray⟩) (.slice a ns.length nc) (.slice a' ks.length kc) (.int .i64 qk) (.bool qis) (.string ⟨qt.toArray⟩) (.slice qa qns.length qnc) (.slice qa' qks.length qkc) _› hb; rw [← HPB.out])
      | (go_at_call 14; with_reducible refine (jtext_calls ⟨n.toArray⟩ _ (by simp [ByteArray.size]; omega)).mono ?_; rintro e w8 ⟨rfl, hb⟩; have TW8 := Two.next ‹Two w w6 (.int .i64 k) (.bool is) (.string ⟨t.toArray⟩) (.slice a ns.length nc) (.slice a' ks.length kc) (.int .i64 qk) (.bool qis) (.string ⟨qt.toArray⟩) (.slice qa qns.length qnc) (.slice qa' qks.length qkc) _› hb; rw [← HTN.out])
      | (go_at_call 14; with_reducible refine (jtext_calls (⟨n.toArray⟩ ++ ⟨#[120]⟩) _ (by simp [ByteArray.size]; omega)).mono ?_; rintro e w8 ⟨rfl, hb⟩; have TW8 := Two.next ‹Two w w6 (.int .i64 k) (.bool is) (.string ⟨t.toArray⟩) (.slice a ns.length nc) (.slice a' ks.length kc) (.int .i64 qk) (.bool qis) (.string ⟨qt.toArray⟩) (.slice qa qns.length qnc) (.slice qa' qks.length qkc) _› hb; rw [← HTM.out]))
  have T16 := Lib.hid TW8
  clear TW TW8 z1 z2 z3 z4 z5 z6 z7 z8
  go_wp2_with fail
  go_ret
  exact ⟨rfl, T16.out.b⟩
end Go.Proofs.YtbdmepilmoomeaaDoor
