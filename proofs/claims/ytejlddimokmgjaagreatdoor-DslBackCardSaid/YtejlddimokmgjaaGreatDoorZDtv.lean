/- WALKS: tree, Query: a query's JSON. -/
import Derived.Test.YtejlddimokmgjaaGreatDoorZDtu
import Derived.Test.YtejlddimokmgjaaGreatDoorGk
namespace Go.Proofs.YtejlddimokmgjaaGreatDoor
open Go.RowKit

theorem add_calls (n : List UInt8) (L : List Dx.Qy) (al : Option Addr) (cl B K : Nat) (ns : List (List UInt8)) (ks : List Cx.J) (sn sk : Value) (css : List (List Value)) (w : World) (hL : L.length ≤ 1000000) (hns : ns.length ≤ 10) (hks : ks.length ≤ 10)
    (hrow : QRow w (fun g => g < K) (.slice al L.length cl) L) (ht : TB B K 6 ns ks sn sk css w)
    (htree : ∀ x ∈ L, ∀ (cs : List Value) (wr : World), QyAt wr (fun g => g < wr.heap.size) x cs → Calls Tryz.prog 65 #[.agg cs.toArray] wr (MadeJ (Dx.tree x) wr)) :
    Calls Tryz.prog 109 #[.string ⟨n.toArray⟩, .slice al L.length cl, .pointer (some ⟨K, 0, none⟩)] w (AddPost B K ns ks n (Dx.treeL L) w) := by
  cases L with
  | nil => exact add_none n al cl B K ns ks sn sk css w ht
  | cons q L => exact add_some n (q :: L) al cl B K ns ks sn sk css w (by simp) hL hns hks hrow ht htree
theorem FrB.qrow {B K A : Nat} {w w' : World} {v : Value} {qs : List Dx.Qy} (h : FrB B K w w') (hA : A ≤ K) (hB : A ≤ B) (hr : QRow w (fun g => g < A) v qs) : QRow w' (fun g => g < A) v qs :=
  hr.kept h.size fun g hg _ => ⟨h.block g (by omega) (by omega), hg⟩
theorem QRow.under {A C : Nat} {w : World} {v : Value} {qs : List Dx.Qy} (h : QRow w (fun g => g < A) v qs) (hC : A ≤ C) : QRow w (fun g => g < C) v qs :=
  h.kept (Nat.le_refl _) fun _ hg _ => ⟨rfl, Nat.lt_of_lt_of_le hg hC⟩
theorem addN_len (n : List UInt8) (l : List Cx.J) : (Dx.addN n l).length ≤ 1 := by unfold Dx.addN; split <;> simp
theorem addK_len (l : List Cx.J) : (Dx.addK l).length ≤ 1 := by unfold Dx.addK; split <;> simp

/-- At the end of tree: what is laid into the result's box. -/
theorem tree_fin {w w3 : World} {V : Cx.J} {x0 x1 x2 x3 x4 c0 c1 c2 c3 c4 : Value} (hb : Below w.heap.size w w3) (hr : w3.heap[w.heap.size + 1]? = some (.cells #[x0, x1, x2, x3, x4] 48 (0, 0))) (hj : JAt w3 (fun g => w.heap.size + 2 ≤ g) V [c0, c1, c2, c3, c4]) :
    MadeJ V w (.returned (.agg #[c0, c1, c2, c3, c4])) (put5 w3 (w.heap.size + 1) c0 c1 c2 c3 c4) ∧ (put5 w3 (w.heap.size + 1) c0 c1 c2 c3 c4).heap[w.heap.size + 1]? = some (.cells #[c0, c1, c2, c3, c4] 48 (0, 0)) := by
  have hB : w.heap.size ≤ w.heap.size + 1 := Nat.le_succ _
  refine ⟨⟨_, rfl, JAt.kept (by rw [put5_size]; exact Nat.le_refl _) (fun g hg hl => ⟨put5_other (by omega), by omega⟩) _ _ hj, ?_⟩, put5_heap hr⟩
  exact ((((hb.setCell (p := ⟨w.heap.size + 1, 0, none⟩) hB _).setCell (p := ⟨w.heap.size + 1, 1, none⟩) hB _).setCell (p := ⟨w.heap.size + 1, 2, none⟩) hB _).setCell (p := ⟨w.heap.size + 1, 3, none⟩) hB _).setCell (p := ⟨w.heap.size + 1, 4, none⟩) hB _

set_option maxRecDepth 100000 in
set_option maxHeartbeats 4000000 in
theorem tree_all (t : List UInt8) (aa ab ac : Option Addr) (na nb nc ca cb cc : Nat) (w : World) :
    Calls Tryz.prog 65 #[.agg #[.int .i64 1, .string ⟨t.toArray⟩, .slice aa na ca, .slice ab nb cb, .slice ac nc cc]] w (MadeJ (Dx.objJ Dx.tAll (.mk 6 false [] [] [])) w) := by
  obtain ⟨W, hW⟩ : ∃ W, W = (w.alloc (.cells #[.int .i64 1, .string ⟨t.toArray⟩, .slice aa na ca, .slice ab nb cb, .slice ac nc cc] 26)).alloc (.cells #[.int .i64 0, .bool false, .string ⟨#[]⟩, .slice none 0 0, .slice none 0 0] 48) := ⟨_, rfl⟩
  have HB0 := Lib.hid (show Below w.heap.size w W by rw [hW]; exact ((Below.refl w.heap.size w).alloc (Nat.le_refl _) _).alloc (by simp) _)
  have BQ := Lib.hid (show W.heap[w.heap.size]? = some (.cells #[.int .i64 1, .string ⟨t.toArray⟩, .slice aa na ca, .slice ab nb cb, .slice ac nc cc] 26 (0, 0)) by rw [hW, Below.heap_alloc _ _ _ (by simp)]; exact heap_alloc_new w _)
  have BR := Lib.hid (show W.heap[w.heap.size + 1]? = some (.cells #[.int .i64 0, .bool false, .string ⟨#[]⟩, .slice none 0 0, .slice none 0 0] 48 (0, 0)) by
    rw [hW]
    have := heap_alloc_new (w.alloc (.cells #[.int .i64 1, .string ⟨t.toArray⟩, .slice aa na ca, .slice ab nb cb, .slice ac nc cc] 26)) (.cells #[.int .i64 0, .bool false, .string ⟨#[]⟩, .slice none 0 0, .slice none 0 0] 48)
    simpa using this)
  have hWs : W.heap.size = w.heap.size + 2 := by rw [hW]; simp
  have hWs2 : w.heap.size + 2 ≤ W.heap.size := by omega
  have HW := Lib.hid hW
  clear hW hWs
  go_enter Tryz.func65, Tryz.ntmps65
  go_wp2_with fail
  rw [← HW.out]
  refine (show Calls Tryz.prog 107 #[.string ⟨#[109, 97, 116, 99, 104, 95, 97, 108, 108]⟩, .agg #[.int .i64 6, .bool false, .string ⟨#[]⟩, .slice none 0 0, .slice none 0 0]] _ _ from object_calls Dx.tAll (.mk 6 false [] [] []) [.int .i64 6, .bool false, .string ⟨#[]⟩, .slice none 0 0, .slice none 0 0] (w.heap.size + 2) W hWs2 JAt.plain).mono ?_
  rintro e w3 ⟨cs, rfl, kj, km⟩
  obtain ⟨b1, m1, b2, m2, rfl⟩ := kj.shape
  have HB3 := Lib.hid (HB0.out.trans (km.mono HB0.out.size))
  have BR3 := Lib.hid ((km.block _ (by omega)).trans BR.out)
  have KJ := Lib.hid kj
  clear kj km
  simp only [List.length_cons, List.length_nil, Nat.zero_add] at KJ ⊢
  obtain ⟨p0, p1, p2, p3, p4, pf⟩ := cells5 BR3.out
  have pf0 := pf 0; have pf1 := pf 1; have pf2 := pf 2; have pf3 := pf 3; have pf4 := pf 4
  clear pf
  have FIN := Lib.hid (tree_fin HB3.out BR3.out KJ.out)
  go_wp2_with fail
  obtain ⟨fin, zb⟩ := FIN.out
  obtain ⟨z0, z1, z2, z3, z4, _⟩ := cells5 zb
  exact bodyPost_ret (v := .agg #[.int .i64 6, .bool false, .string ⟨#[]⟩, .slice b1 1 m1, .slice b2 1 m2]) (by simp [results, Tryz.results65, go_sem, z0, z1, z2, z3, z4]) rfl fin

set_option maxRecDepth 100000 in
set_option maxHeartbeats 4000000 in
theorem tree_term (t : List UInt8) (aa ab ac : Option Addr) (na nb nc ca cb cc : Nat) (w : World) :
    Calls Tryz.prog 65 #[.agg #[.int .i64 2, .string ⟨t.toArray⟩, .slice aa na ca, .slice ab nb cb, .slice ac nc cc]] w (MadeJ (Dx.objJ Dx.tTerm (Dx.wordJ t)) w) := by
  obtain ⟨W, hW⟩ : ∃ W, W = (w.alloc (.cells #[.int .i64 2, .string ⟨t.toArray⟩, .slice aa na ca, .slice ab nb cb, .slice ac nc cc] 26)).alloc (.cells #[.int .i64 0, .bool false, .string ⟨#[]⟩, .slice none 0 0, .slice none 0 0] 48) := ⟨_, rfl⟩
  have HB0 := Lib.hid (show Below w.heap.size w W by rw [hW]; exact ((Below.refl w.heap.size w).alloc (Nat.le_refl _) _).alloc (by simp) _)
  have BQ := Lib.hid (show W.heap[w.heap.size]? = some (.cells #[.int .i64 2, .string ⟨t.toArray⟩, .slice aa na ca, .slice ab nb cb, .slice ac nc cc] 26 (0, 0)) by rw [hW, Below.heap_alloc _ _ _ (by simp)]; exact heap_alloc_new w _)
  have BR := Lib.hid (show W.heap[w.heap.size + 1]? = some (.cells #[.int .i64 0, .bool false, .string ⟨#[]⟩, .slice none 0 0, .slice none 0 0] 48 (0, 0)) by
    rw [hW]
    have := heap_alloc_new (w.alloc (.cells #[.int .i64 2, .string ⟨t.toArray⟩, .slice aa na ca, .slice ab nb cb, .slice ac nc cc] 26)) (.cells #[.int .i64 0, .bool false, .string ⟨#[]⟩, .slice none 0 0, .slice none 0 0] 48)
    simpa using this)
  have hWs : W.heap.size = w.heap.size + 2 := by rw [hW]; simp
  have hWs2 : w.heap.size + 2 ≤ W.heap.size := by omega
  have HW := Lib.hid hW
  clear hW hWs
  go_enter Tryz.func65, Tryz.ntmps65
  go_upto_region 5 with fail
  rw [← HW.out]
  clear HW
  obtain ⟨q0, q1, q2, q3, q4, _⟩ := cells5 BQ.out
  go_wp2_with fail
  refine (dword_calls t W).mono ?_
  rintro e wq ⟨cs, rfl, kj, km⟩
  obtain ⟨b1, m1, b2, m2, rfl⟩ := kj.shape
  have KJ0 := Lib.hid (JAt.kept (ok' := fun g => w.heap.size + 2 ≤ g) (Nat.le_refl _) (fun g hg _ => ⟨rfl, by omega⟩) _ _ kj)
  have HB1 := Lib.hid (HB0.out.trans (km.mono HB0.out.size))
  have BR1 := Lib.hid ((km.block _ (by omega)).trans BR.out)
  have hq2 : w.heap.size + 2 ≤ wq.heap.size := Nat.le_trans hWs2 km.size
  clear kj km HB0 BR q0 q1 q2 q3 q4
  go_wp2_with fail
  refine (show Calls Tryz.prog 107 #[.string ⟨#[116, 101, 114, 109]⟩, .agg #[.int .i64 4, .bool false, .string ⟨t.toArray⟩, .slice b1 0 m1, .slice b2 0 m2]] _ _ from object_calls Dx.tTerm (Dx.wordJ t) [.int .i64 4, .bool false, .string ⟨t.toArray⟩, .slice b1 0 m1, .slice b2 0 m2] (w.heap.size + 2) wq hq2 KJ0.out).mono ?_
  clear KJ0
  rintro e w3 ⟨cs, rfl, kj, km⟩
  obtain ⟨b1, m1, b2, m2, rfl⟩ := kj.shape
  have HB3 := Lib.hid (HB1.out.trans (km.mono HB1.out.size))
  have BR3 := Lib.hid ((km.block _ (by omega)).trans BR1.out)
  have KJ := Lib.hid kj
  clear kj km
  simp only [List.length_cons, List.length_nil, Nat.zero_add] at KJ ⊢
  obtain ⟨p0, p1, p2, p3, p4, pf⟩ := cells5 BR3.out
  have pf0 := pf 0; have pf1 := pf 1; have pf2 := pf 2; have pf3 := pf 3; have pf4 := pf 4
  clear pf
  have FIN := Lib.hid (tree_fin HB3.out BR3.out KJ.out)
  go_wp2_with fail
  obtain ⟨fin, zb⟩ := FIN.out
  obtain ⟨z0, z1, z2, z3, z4, _⟩ := cells5 zb
  exact bodyPost_ret (v := .agg #[.int .i64 6, .bool false, .string ⟨#[]⟩, .slice b1 1 m1, .slice b2 1 m2]) (by simp [results, Tryz.results65, go_sem, z0, z1, z2, z3, z4]) rfl fin

set_option maxRecDepth 100000 in
set_option maxHeartbeats 4000000 in
theorem tree_phrase (t : List UInt8) (aa ab ac : Option Addr) (na nb nc ca cb cc : Nat) (w : World) :
    Calls Tryz.prog 65 #[.agg #[.int .i64 3, .string ⟨t.toArray⟩, .slice aa na ca, .slice ab nb cb, .slice ac nc cc]] w (MadeJ (Dx.objJ Dx.tPhrase (Dx.wordJ t)) w) := by
  obtain ⟨W, hW⟩ : ∃ W, W = (w.alloc (.cells #[.int .i64 3, .string ⟨t.toArray⟩, .slice aa na ca, .slice ab nb cb, .slice ac nc cc] 26)).alloc (.cells #[.int .i64 0, .bool false, .string ⟨#[]⟩, .slice none 0 0, .slice none 0 0] 48) := ⟨_, rfl⟩
  have HB0 := Lib.hid (show Below w.heap.size w W by rw [hW]; exact ((Below.refl w.heap.size w).alloc (Nat.le_refl _) _).alloc (by simp) _)
  have BQ := Lib.hid (show W.heap[w.heap.size]? = some (.cells #[.int .i64 3, .string ⟨t.toArray⟩, .slice aa na ca, .slice ab nb cb, .slice ac nc cc] 26 (0, 0)) by rw [hW, Below.heap_alloc _ _ _ (by simp)]; exact heap_alloc_new w _)
  have BR := Lib.hid (show W.heap[w.heap.size + 1]? = some (.cells #[.int .i64 0, .bool false, .string ⟨#[]⟩, .slice none 0 0, .slice none 0 0] 48 (0, 0)) by
    rw [hW]
    have := heap_alloc_new (w.alloc (.cells #[.int .i64 3, .string ⟨t.toArray⟩, .slice aa na ca, .slice ab nb cb, .slice ac nc cc] 26)) (.cells #[.int .i64 0, .bool false, .string ⟨#[]⟩, .slice none 0 0, .slice none 0 0] 48)
    simpa using this)
  have hWs : W.heap.size = w.heap.size + 2 := by rw [hW]; simp
  have hWs2 : w.heap.size + 2 ≤ W.heap.size := by omega
  have HW := Lib.hid hW
  clear hW hWs
  go_enter Tryz.func65, Tryz.ntmps65
  go_upto_region 7 with fail
  rw [← HW.out]
  clear HW
  obtain ⟨q0, q1, q2, q3, q4, _⟩ := cells5 BQ.out
  go_wp2_with fail
  refine (dword_calls t W).mono ?_
  rintro e wq ⟨cs, rfl, kj, km⟩
  obtain ⟨b1, m1, b2, m2, rfl⟩ := kj.shape
  have KJ0 := Lib.hid (JAt.kept (ok' := fun g => w.heap.size + 2 ≤ g) (Nat.le_refl _) (fun g hg _ => ⟨rfl, by omega⟩) _ _ kj)
  have HB1 := Lib.hid (HB0.out.trans (km.mono HB0.out.size))
  have BR1 := Lib.hid ((km.block _ (by omega)).trans BR.out)
  have hq2 : w.heap.size + 2 ≤ wq.heap.size := Nat.le_trans hWs2 km.size
  clear kj km HB0 BR q0 q1 q2 q3 q4
  go_wp2_with fail
  refine (show Calls Tryz.prog 107 #[.string ⟨#[112, 104, 114, 97, 115, 101]⟩, .agg #[.int .i64 4, .bool false, .string ⟨t.toArray⟩, .slice b1 0 m1, .slice b2 0 m2]] _ _ from object_calls Dx.tPhrase (Dx.wordJ t) [.int .i64 4, .bool false, .string ⟨t.toArray⟩, .slice b1 0 m1, .slice b2 0 m2] (w.heap.size + 2) wq hq2 KJ0.out).mono ?_
  clear KJ0
  rintro e w3 ⟨cs, rfl, kj, km⟩
  obtain ⟨b1, m1, b2, m2, rfl⟩ := kj.shape
  have HB3 := Lib.hid (HB1.out.trans (km.mono HB1.out.size))
  have BR3 := Lib.hid ((km.block _ (by omega)).trans BR1.out)
  have KJ := Lib.hid kj
  clear kj km
  simp only [List.length_cons, List.length_nil, Nat.zero_add] at KJ ⊢
  obtain ⟨p0, p1, p2, p3, p4, pf⟩ := cells5 BR3.out
  have pf0 := pf 0; have pf1 := pf 1; have pf2 := pf 2; have pf3 := pf 3; have pf4 := pf 4
  clear pf
  have FIN := Lib.hid (tree_fin HB3.out BR3.out KJ.out)
  go_wp2_with fail
  obtain ⟨fin, zb⟩ := FIN.out
  obtain ⟨z0, z1, z2, z3, z4, _⟩ := cells5 zb
  exact bodyPost_ret (v := .agg #[.int .i64 6, .bool false, .string ⟨#[]⟩, .slice b1 1 m1, .slice b2 1 m2]) (by simp [results, Tryz.results65, go_sem, z0, z1, z2, z3, z4]) rfl fin

set_option maxRecDepth 100000 in
set_option maxHeartbeats 4000000 in
theorem tree_prefix (t : List UInt8) (aa ab ac : Option Addr) (na nb nc ca cb cc : Nat) (w : World) :
    Calls Tryz.prog 65 #[.agg #[.int .i64 4, .string ⟨t.toArray⟩, .slice aa na ca, .slice ab nb cb, .slice ac nc cc]] w (MadeJ (Dx.objJ Dx.tPrefix (Dx.wordJ t)) w) := by
  obtain ⟨W, hW⟩ : ∃ W, W = (w.alloc (.cells #[.int .i64 4, .string ⟨t.toArray⟩, .slice aa na ca, .slice ab nb cb, .slice ac nc cc] 26)).alloc (.cells #[.int .i64 0, .bool false, .string ⟨#[]⟩, .slice none 0 0, .slice none 0 0] 48) := ⟨_, rfl⟩
  have HB0 := Lib.hid (show Below w.heap.size w W by rw [hW]; exact ((Below.refl w.heap.size w).alloc (Nat.le_refl _) _).alloc (by simp) _)
  have BQ := Lib.hid (show W.heap[w.heap.size]? = some (.cells #[.int .i64 4, .string ⟨t.toArray⟩, .slice aa na ca, .slice ab nb cb, .slice ac nc cc] 26 (0, 0)) by rw [hW, Below.heap_alloc _ _ _ (by simp)]; exact heap_alloc_new w _)
  have BR := Lib.hid (show W.heap[w.heap.size + 1]? = some (.cells #[.int .i64 0, .bool false, .string ⟨#[]⟩, .slice none 0 0, .slice none 0 0] 48 (0, 0)) by
    rw [hW]
    have := heap_alloc_new (w.alloc (.cells #[.int .i64 4, .string ⟨t.toArray⟩, .slice aa na ca, .slice ab nb cb, .slice ac nc cc] 26)) (.cells #[.int .i64 0, .bool false, .string ⟨#[]⟩, .slice none 0 0, .slice none 0 0] 48)
    simpa using this)
  have hWs : W.heap.size = w.heap.size + 2 := by rw [hW]; simp
  have hWs2 : w.heap.size + 2 ≤ W.heap.size := by omega
  have HW := Lib.hid hW
  clear hW hWs
  go_enter Tryz.func65, Tryz.ntmps65
  go_upto_region 9 with fail
  rw [← HW.out]
  clear HW
  obtain ⟨q0, q1, q2, q3, q4, _⟩ := cells5 BQ.out
  go_wp2_with fail
  refine (dword_calls t W).mono ?_
  rintro e wq ⟨cs, rfl, kj, km⟩
  obtain ⟨b1, m1, b2, m2, rfl⟩ := kj.shape
  have KJ0 := Lib.hid (JAt.kept (ok' := fun g => w.heap.size + 2 ≤ g) (Nat.le_refl _) (fun g hg _ => ⟨rfl, by omega⟩) _ _ kj)
  have HB1 := Lib.hid (HB0.out.trans (km.mono HB0.out.size))
  have BR1 := Lib.hid ((km.block _ (by omega)).trans BR.out)
  have hq2 : w.heap.size + 2 ≤ wq.heap.size := Nat.le_trans hWs2 km.size
  clear kj km HB0 BR q0 q1 q2 q3 q4
  go_wp2_with fail
  refine (show Calls Tryz.prog 107 #[.string ⟨#[112, 114, 101, 102, 105, 120]⟩, .agg #[.int .i64 4, .bool false, .string ⟨t.toArray⟩, .slice b1 0 m1, .slice b2 0 m2]] _ _ from object_calls Dx.tPrefix (Dx.wordJ t) [.int .i64 4, .bool false, .string ⟨t.toArray⟩, .slice b1 0 m1, .slice b2 0 m2] (w.heap.size + 2) wq hq2 KJ0.out).mono ?_
  clear KJ0
  rintro e w3 ⟨cs, rfl, kj, km⟩
  obtain ⟨b1, m1, b2, m2, rfl⟩ := kj.shape
  have HB3 := Lib.hid (HB1.out.trans (km.mono HB1.out.size))
  have BR3 := Lib.hid ((km.block _ (by omega)).trans BR1.out)
  have KJ := Lib.hid kj
  clear kj km
  simp only [List.length_cons, List.length_nil, Nat.zero_add] at KJ ⊢
  obtain ⟨p0, p1, p2, p3, p4, pf⟩ := cells5 BR3.out
  have pf0 := pf 0; have pf1 := pf 1; have pf2 := pf 2; have pf3 := pf 3; have pf4 := pf 4
  clear pf
  have FIN := Lib.hid (tree_fin HB3.out BR3.out KJ.out)
  go_wp2_with fail
  obtain ⟨fin, zb⟩ := FIN.out
  obtain ⟨z0, z1, z2, z3, z4, _⟩ := cells5 zb
  exact bodyPost_ret (v := .agg #[.int .i64 6, .bool false, .string ⟨#[]⟩, .slice b1 1 m1, .slice b2 1 m2]) (by simp [results, Tryz.results65, go_sem, z0, z1, z2, z3, z4]) rfl fin

set_option maxRecDepth 100000 in
set_option maxHeartbeats 4000000 in
theorem tree_bool (k : Int) (t : List UInt8) (A Bq C : List Dx.Qy) (aa ab ac : Option Addr) (ca cb cc : Nat) (w : World) (k1 : k ≠ 1) (k2 : k ≠ 2) (k3 : k ≠ 3) (k4 : k ≠ 4) (hM : Dx.count (.mk k t A Bq C) ≤ 1000000) (ra : QRow w (fun g => g < w.heap.size) (.slice aa A.length ca) A) (rb : QRow w (fun g => g < w.heap.size) (.slice ab Bq.length cb) Bq) (rc : QRow w (fun g => g < w.heap.size) (.slice ac C.length cc) C)
    (htree : ∀ x, (x ∈ A ∨ x ∈ Bq ∨ x ∈ C) → ∀ (cs : List Value) (wr : World), QyAt wr (fun g => g < wr.heap.size) x cs → Calls Tryz.prog 65 #[.agg cs.toArray] wr (MadeJ (Dx.tree x) wr)) :
    Calls Tryz.prog 65 #[.agg #[.int .i64 k, .string ⟨t.toArray⟩, .slice aa A.length ca, .slice ab Bq.length cb, .slice ac C.length cc]] w (MadeJ (Dx.tree (.mk k t A Bq C)) w) := by
  have HCO := Lib.hid (show Dx.tree (.mk k t A Bq C) = Dx.objJ Dx.tBool (.mk 6 false [] (Dx.addN Dx.tMust (Dx.treeL A) ++ Dx.addN Dx.tShould (Dx.treeL Bq) ++ Dx.addN Dx.tNot (Dx.treeL C)) (Dx.addK (Dx.treeL A) ++ Dx.addK (Dx.treeL Bq) ++ Dx.addK (Dx.treeL C))) by
    rw [Dx.tree, if_neg k1, if_neg k2, if_neg k3, if_neg k4])
  have i1 : (k == 1) = false := by simpa using k1
  have i2 : (k == 2) = false := by simpa using k2
  have i3 : (k == 3) = false := by simpa using k3
  have i4 : (k == 4) = false := by simpa using k4
  have hcA : A.length ≤ 1000000 := by have := countK_len A; simp only [Dx.count] at hM; omega
  have hcB : Bq.length ≤ 1000000 := by have := countK_len Bq; simp only [Dx.count] at hM; omega
  have hcC : C.length ≤ 1000000 := by have := countK_len C; simp only [Dx.count] at hM; omega
  have RA := Lib.hid ra; have RB := Lib.hid rb; have RC := Lib.hid rc; have HT := Lib.hid htree
  clear ra rb rc htree hM k1 k2 k3 k4
  obtain ⟨W, hW⟩ : ∃ W, W = (w.alloc (.cells #[.int .i64 k, .string ⟨t.toArray⟩, .slice aa A.length ca, .slice ab Bq.length cb, .slice ac C.length cc] 26)).alloc (.cells #[.int .i64 0, .bool false, .string ⟨#[]⟩, .slice none 0 0, .slice none 0 0] 48) := ⟨_, rfl⟩
  have HB0 := Lib.hid (show Below w.heap.size w W by rw [hW]; exact ((Below.refl w.heap.size w).alloc (Nat.le_refl _) _).alloc (by simp) _)
  have BQ := Lib.hid (show W.heap[w.heap.size]? = some (.cells #[.int .i64 k, .string ⟨t.toArray⟩, .slice aa A.length ca, .slice ab Bq.length cb, .slice ac C.length cc] 26 (0, 0)) by rw [hW, Below.heap_alloc _ _ _ (by simp)]; exact heap_alloc_new w _)
  have BR := Lib.hid (show W.heap[w.heap.size + 1]? = some (.cells #[.int .i64 0, .bool false, .string ⟨#[]⟩, .slice none 0 0, .slice none 0 0] 48 (0, 0)) by
    rw [hW]
    have := heap_alloc_new (w.alloc (.cells #[.int .i64 k, .string ⟨t.toArray⟩, .slice aa A.length ca, .slice ab Bq.length cb, .slice ac C.length cc] 26)) (.cells #[.int .i64 0, .bool false, .string ⟨#[]⟩, .slice none 0 0, .slice none 0 0] 48)
    simpa using this)
  have hWs : W.heap.size = w.heap.size + 2 := by rw [hW]; simp
  have hWs2 : w.heap.size + 2 ≤ W.heap.size := by omega
  have HW := Lib.hid hW
  clear hW hWs
  go_enter Tryz.func65, Tryz.ntmps65
  go_upto_region 1 with fail
  rw [← HW.out]
  clear HW
  obtain ⟨q0, q1, q2, q3, q4, _⟩ := cells5 BQ.out
  obtain ⟨K, hK⟩ : ∃ K, K = W.heap.size := ⟨_, rfl⟩
  obtain ⟨X, hX⟩ : ∃ X, X = W.alloc (.cells #[.int .i64 6, .bool false, .string ⟨#[]⟩, .slice none 0 0, .slice none 0 0] 48) := ⟨_, rfl⟩
  have hXs : X.heap.size = K + 1 := by rw [hX, hK]; simp
  have bWX : Below W.heap.size W X := by rw [hX]; exact (Below.refl _ _).alloc (Nat.le_refl _) _
  have T0 := Lib.hid (show TB (K + 1) K 6 [] [] (.slice none 0 0) (.slice none 0 0) [] X from by
    have := TB.fresh (K := K) (kind := 6) (w := X) (by rw [hX, hK]; exact heap_alloc_new W _)
    rw [hXs] at this; exact this)
  have BQ0 := Lib.hid ((bWX.block _ (heap_lt BQ.out)).trans BQ.out)
  have BR0 := Lib.hid ((bWX.block _ (heap_lt BR.out)).trans BR.out)
  have HBX := Lib.hid (HB0.out.trans (bWX.mono HB0.out.size))
  have RA0 := Lib.hid (RA.out.below HBX.out); have RB0 := Lib.hid (RB.out.below HBX.out); have RC0 := Lib.hid (RC.out.below HBX.out)
  have hKw : w.heap.size + 2 ≤ K := by omega
  have HX := Lib.hid (And.intro hK hX)
  clear hK hX hXs bWX BQ BR HB0 RA RB RC
  go_upto_region 12 with fail
  rw [← HX.out.1, ← HX.out.2]
  clear HX q0 q1 q2 q3 q4 i1 i2 i3 i4
  obtain ⟨q0, q1, q2, q3, q4, _⟩ := cells5 BQ0.out
  go_wp2_with fail
  refine (show Calls Tryz.prog 109 #[.string ⟨#[109, 117, 115, 116]⟩, .slice aa A.length ca, .pointer (some ⟨K, 0, none⟩)] _ _ from add_calls Dx.tMust A aa ca (K + 1) K [] [] (.slice none 0 0) (.slice none 0 0) [] X hcA (by simp) (by simp) (RA0.out.under (by omega)) T0.out (fun x hx => HT.out x (.inl hx))).mono ?_
  rintro e x1 ⟨rfl, sn1, sk1, css1, t1, f1⟩
  obtain ⟨ns1, hns1⟩ : ∃ l, l = [] ++ Dx.addN Dx.tMust (Dx.treeL A) := ⟨_, rfl⟩
  obtain ⟨ks1, hks1⟩ : ∃ l, l = [] ++ Dx.addK (Dx.treeL A) := ⟨_, rfl⟩
  have hn1 : ns1.length ≤ 1 := by rw [hns1, List.length_append]; have := addN_len Dx.tMust (Dx.treeL A); simp; omega
  have hk1 : ks1.length ≤ 1 := by rw [hks1, List.length_append]; have := addK_len (Dx.treeL A); simp; omega
  rw [← hns1, ← hks1] at t1
  have T1 := Lib.hid t1
  have BQ1 := Lib.hid ((f1.block w.heap.size (by omega) (by omega)).trans BQ0.out)
  have BR1 := Lib.hid ((f1.block (w.heap.size + 1) (by omega) (by omega)).trans BR0.out)
  have RB1 := Lib.hid (f1.qrow (A := w.heap.size) (by omega) (by omega) RB0.out)
  have RC1 := Lib.hid (f1.qrow (A := w.heap.size) (by omega) (by omega) RC0.out)
  have HB1 := Lib.hid (HBX.out.trans (f1.to_below (by omega) (by omega)))
  have HNS1 := Lib.hid (And.intro hns1 hks1)
  clear t1 f1 hns1 hks1 T0 q0 q1 q2 q3 q4 BQ0 BR0 RA0 RB0 RC0 HBX
  obtain ⟨q0, q1, q2, q3, q4, _⟩ := cells5 BQ1.out
  go_wp2_with fail
  refine (show Calls Tryz.prog 109 #[.string ⟨#[115, 104, 111, 117, 108, 100]⟩, .slice ab Bq.length cb, .pointer (some ⟨K, 0, none⟩)] _ _ from add_calls Dx.tShould Bq ab cb (K + 1) K ns1 ks1 sn1 sk1 css1 x1 hcB (by omega) (by omega) (RB1.out.under (by omega)) T1.out (fun x hx => HT.out x (.inr (.inl hx)))).mono ?_
  rintro e x2 ⟨rfl, sn2, sk2, css2, t2, f2⟩
  obtain ⟨ns2, hns2⟩ : ∃ l, l = ns1 ++ Dx.addN Dx.tShould (Dx.treeL Bq) := ⟨_, rfl⟩
  obtain ⟨ks2, hks2⟩ : ∃ l, l = ks1 ++ Dx.addK (Dx.treeL Bq) := ⟨_, rfl⟩
  have hn2 : ns2.length ≤ 2 := by rw [hns2, List.length_append]; have := addN_len Dx.tShould (Dx.treeL Bq); omega
  have hk2 : ks2.length ≤ 2 := by rw [hks2, List.length_append]; have := addK_len (Dx.treeL Bq); omega
  rw [← hns2, ← hks2] at t2
  have T2 := Lib.hid t2
  have BQ2 := Lib.hid ((f2.block w.heap.size (by omega) (by omega)).trans BQ1.out)
  have BR2 := Lib.hid ((f2.block (w.heap.size + 1) (by omega) (by omega)).trans BR1.out)
  have RC2 := Lib.hid (f2.qrow (A := w.heap.size) (by omega) (by omega) RC1.out)
  have HB2 := Lib.hid (HB1.out.trans (f2.to_below (by omega) (by omega)))
  have HNS2 := Lib.hid (And.intro hns2 hks2)
  clear t2 f2 hns2 hks2 T1 q0 q1 q2 q3 q4 BQ1 BR1 RB1 RC1 HB1
  obtain ⟨q0, q1, q2, q3, q4, _⟩ := cells5 BQ2.out
  go_wp2_with fail
  refine (show Calls Tryz.prog 109 #[.string ⟨#[109, 117, 115, 116, 95, 110, 111, 116]⟩, .slice ac C.length cc, .pointer (some ⟨K, 0, none⟩)] _ _ from add_calls Dx.tNot C ac cc (K + 1) K ns2 ks2 sn2 sk2 css2 x2 hcC (by omega) (by omega) (RC2.out.under (by omega)) T2.out (fun x hx => HT.out x (.inr (.inr hx)))).mono ?_
  rintro e x3 ⟨rfl, sn3, sk3, css3, t3, f3⟩
  obtain ⟨ns3, hns3⟩ : ∃ l, l = ns2 ++ Dx.addN Dx.tNot (Dx.treeL C) := ⟨_, rfl⟩
  obtain ⟨ks3, hks3⟩ : ∃ l, l = ks2 ++ Dx.addK (Dx.treeL C) := ⟨_, rfl⟩
  have hn3 : ns3.length ≤ 10 := by rw [hns3, List.length_append]; have := addN_len Dx.tNot (Dx.treeL C); omega
  have hk3 : ks3.length ≤ 10 := by rw [hks3, List.length_append]; have := addK_len (Dx.treeL C); omega
  rw [← hns3, ← hks3] at t3
  have T3 := Lib.hid t3
  have BQ3 := Lib.hid ((f3.block w.heap.size (by omega) (by omega)).trans BQ2.out)
  have BR3 := Lib.hid ((f3.block (w.heap.size + 1) (by omega) (by omega)).trans BR2.out)
  have HB3 := Lib.hid (HB2.out.trans (f3.to_below (by omega) (by omega)))
  have HNS3 := Lib.hid (And.intro hns3 hks3)
  clear t3 f3 hns3 hks3 T2 q0 q1 q2 q3 q4 BQ2 BR2 RC2 HB2
  have hK3 : w.heap.size + 2 ≤ x3.heap.size := by have := T3.out.base; omega
  obtain ⟨na, nn, nc, rfl⟩ := own_shape T3.out.own1
  obtain ⟨ka, kn, kc, rfl⟩ := own_shape T3.out.own2
  have KJ3 := Lib.hid (JAt.kept (ok' := fun g => w.heap.size + 2 ≤ g) (Nat.le_refl _) (fun g hg _ => ⟨rfl, by omega⟩) _ _ T3.out.jat)
  have hco : Dx.objJ Dx.tBool (.mk 6 false [] ns3 ks3) = Dx.tree (.mk k t A Bq C) := by
    rw [HCO.out, HNS3.out.1, HNS3.out.2, HNS2.out.1, HNS2.out.2, HNS1.out.1, HNS1.out.2, List.nil_append, List.nil_append]
  have HCO2 := Lib.hid hco
  obtain ⟨y0, y1, y2, y3, y4, _⟩ := cells5 T3.out.box
  clear hco HCO HT BQ3 HNS1 HNS2 HNS3 hn1 hk1 hn2 hk2 hn3 hk3
  go_wp2_with fail
  refine (show Calls Tryz.prog 107 #[.string ⟨#[98, 111, 111, 108]⟩, .agg #[.int .i64 6, .bool false, .string ⟨#[]⟩, .slice na nn nc, .slice ka kn kc]] _ _ from object_calls Dx.tBool (.mk 6 false [] ns3 ks3) [.int .i64 6, .bool false, .string ⟨#[]⟩, .slice na nn nc, .slice ka kn kc] (w.heap.size + 2) x3 hK3 KJ3.out).mono ?_
  rw [HCO2.out]
  rintro e w3 ⟨cs, rfl, kj, km⟩
  rw [← HCO2.out] at kj
  obtain ⟨b1, m1, b2, m2, rfl⟩ := kj.shape
  rw [HCO2.out] at kj
  have HB4 := Lib.hid (HB3.out.trans (km.mono HB3.out.size))
  have BR4 := Lib.hid ((km.block _ (by omega)).trans BR3.out)
  have KJ := Lib.hid kj
  clear kj km y0 y1 y2 y3 y4 KJ3 T3
  simp only [List.length_cons, List.length_nil, Nat.zero_add] at KJ ⊢
  obtain ⟨p0, p1, p2, p3, p4, pf⟩ := cells5 BR4.out
  have pf0 := pf 0; have pf1 := pf 1; have pf2 := pf 2; have pf3 := pf 3; have pf4 := pf 4
  clear pf
  have FIN := Lib.hid (tree_fin HB4.out BR4.out KJ.out)
  go_wp2_with fail
  obtain ⟨fin, zb⟩ := FIN.out
  obtain ⟨z0, z1, z2, z3, z4, _⟩ := cells5 zb
  exact bodyPost_ret (v := .agg #[.int .i64 6, .bool false, .string ⟨#[]⟩, .slice b1 1 m1, .slice b2 1 m2]) (by simp [results, Tryz.results65, go_sem, z0, z1, z2, z3, z4]) rfl fin
end Go.Proofs.YtejlddimokmgjaaGreatDoor
