/- WALKS: tree's closure: a list of queries is added to an object. -/
import Derived.Test.YtejlddimokmgjaaGreatDoorZDtt
import Derived.Test.YtejlddimokmgjaaGreatDoorGk
import Derived.Deep.RegionHeld3
import Derived.Deep.DrawnRows
namespace Go.Proofs.YtejlddimokmgjaaGreatDoor
open Go.RowKit

/-- What the closure leaves. -/
def AddPost (B K : Nat) (ns : List (List UInt8)) (ks : List Cx.J) (n : List UInt8) (l : List Cx.J) (w : World) (e : Ending) (w' : World) : Prop :=
  e = .returned (.tuple #[]) ∧ ∃ sn sk css, TB B K 6 (ns ++ Dx.addN n l) (ks ++ Dx.addK l) sn sk css w' ∧ FrB B K w w'
theorem TB.next {B K : Nat} {kind : Int} {ns : List (List UInt8)} {ks : List Cx.J} {sn sk : Value} {css : List (List Value)} {w w5 : World} {o : Obj} (h : TB B K kind ns ks sn sk css w) (hg : (w.alloc o).grownBy w5 sk.ownBlock) :
    w5.cell? ⟨K, 4, none⟩ = some sk ∧ w5.frozen? ⟨K, 4, none⟩ = false := by
  have hb := h.below ((Below.refl w.heap.size w).alloc (Nat.le_refl _) o)
  have e : w5.heap[K]? = some (.cells #[.int .i64 kind, .bool false, .string ⟨#[]⟩, sn, sk] 48 (0, 0)) := by
    rw [hg.block K (heap_lt hb.box) (fun e => by have := (h.own2.lt K e.symm).1; have := h.lt; omega)]; exact hb.box
  exact ⟨(cells5 e).2.2.2.2.1, (cells5 e).2.2.2.2.2 4⟩
theorem treeL_take {q : Dx.Qy} {L : List Dx.Qy} {i : Nat} (h : L[i]? = some q) : Dx.treeL (L.take (i + 1)) = Dx.treeL (L.take i) ++ [Dx.tree q] := by
  rw [List.take_add_one, h]
  exact Dx.treeL_snoc q _

set_option maxRecDepth 100000 in
set_option maxHeartbeats 4000000 in
theorem add_none (n : List UInt8) (al : Option Addr) (cl B K : Nat) (ns : List (List UInt8)) (ks : List Cx.J) (sn sk : Value) (css : List (List Value)) (w : World) (ht : TB B K 6 ns ks sn sk css w) :
    Calls Tryz.prog 109 #[.string ⟨n.toArray⟩, .slice al 0 cl, .pointer (some ⟨K, 0, none⟩)] w (AddPost B K ns ks n [] w) := by
  have T := Lib.hid ht
  clear ht
  go_enter Tryz.func109, Tryz.ntmps109
  go_wp2_with fail
  exact bodyPost_ret (v := .tuple #[]) (by simp [results, Tryz.results109, go_sem]) rfl ⟨rfl, sn, sk, css, by simpa [Dx.addN, Dx.addK] using T.out, FrB.refl B K w⟩

set_option maxRecDepth 100000 in
set_option maxHeartbeats 8000000 in
theorem add_some (n : List UInt8) (L : List Dx.Qy) (al : Option Addr) (cl B K : Nat) (ns : List (List UInt8)) (ks : List Cx.J) (sn sk : Value) (css : List (List Value)) (w : World) (h0 : 0 < L.length) (hL : L.length ≤ 1000000) (hns : ns.length ≤ 10) (hks : ks.length ≤ 10)
    (hrow : QRow w (fun g => g < K) (.slice al L.length cl) L) (ht : TB B K 6 ns ks sn sk css w)
    (htree : ∀ x ∈ L, ∀ (cs : List Value) (wr : World), QyAt wr (fun g => g < wr.heap.size) x cs → Calls Tryz.prog 65 #[.agg cs.toArray] wr (MadeJ (Dx.tree x) wr)) :
    Calls Tryz.prog 109 #[.string ⟨n.toArray⟩, .slice al L.length cl, .pointer (some ⟨K, 0, none⟩)] w (AddPost B K ns ks n (Dx.treeL L) w) := by
  have T := Lib.hid ht; have RL := Lib.hid hrow; have HT := Lib.hid htree
  obtain ⟨W1, hW1⟩ : ∃ W1, W1 = w.alloc (.cells #[.int .i64 5, .bool false, .string ⟨#[]⟩, .slice none 0 0, .slice none 0 0] 48) := ⟨_, rfl⟩
  have hs1 : W1.heap.size = w.heap.size + 1 := by rw [hW1]; simp
  have T1 := Lib.hid (show TB (w.heap.size + 1) w.heap.size 5 [] [] (.slice none 0 0) (.slice none 0 0) [] W1 from by
    have := TB.fresh (K := w.heap.size) (kind := 5) (w := W1) (by rw [hW1]; exact heap_alloc_new w _)
    rw [hs1] at this; exact this)
  have B1 := Lib.hid (show Below w.heap.size w W1 by rw [hW1]; exact (Below.refl _ _).alloc (Nat.le_refl _) _)
  have hKw : K < w.heap.size := heap_lt ht.box
  have HW := Lib.hid hW1
  have hne0 : ((L.length : Int) == 0) = false := beq_eq_false_iff_ne.2 (by omega)
  clear ht hrow htree hW1 hs1
  go_enter Tryz.func109, Tryz.ntmps109
  go_wp2_with fail
  rw [← HW.out]
  clear hne0 HW
  go_loopg [14] (L.length) (fun q z wr => ∃ (i : Nat) (sv : Value) (cv : List (List Value)), z = .int .i64 i ∧ q = L.length - i ∧ i ≤ L.length ∧ Hid (TB (w.heap.size + 1) w.heap.size 5 [] (Dx.treeL (L.take i)) (.slice none 0 0) sv cv wr) ∧ Hid (Below w.heap.size w wr))
  case atStart => exact ⟨0, _, _, rfl, rfl, Nat.zero_le _, T1, B1⟩
  case round =>
    clear T1 B1
    obtain ⟨i, sv, cv, rfl, hq, hi, TI, BI⟩ := hrel
    have HQ := Lib.hid hq
    clear hq
    rcases Nat.lt_or_ge i L.length with hlt | hge
    · obtain ⟨q, hqq⟩ : ∃ q, L[i]? = some q := ⟨L[i], by simp [hlt]⟩
      obtain ⟨g, o, hv, hgK, hgl, xk, xt, xn1, xn2, xn3, xa1, xa2, xa3, xc1, xc2, xc3, hkj, d0, d1, d2, d3, d4⟩ := RL.out.kid' hqq
      subst hv
      have b0 := (BI.out.cell (p := ⟨g, o + i * 5, none⟩) hgl).trans d0
      have b1 := (BI.out.cell (p := ⟨g, o + i * 5 + 1, none⟩) hgl).trans d1
      have b2 := (BI.out.cell (p := ⟨g, o + i * 5 + 2, none⟩) hgl).trans d2
      have b3 := (BI.out.cell (p := ⟨g, o + i * 5 + 3, none⟩) hgl).trans d3
      have b4 := (BI.out.cell (p := ⟨g, o + i * 5 + 4, none⟩) hgl).trans d4
      obtain ⟨gx, hgx⟩ : ∃ gx, gx = wr.heap.size := ⟨_, rfl⟩
      obtain ⟨wx, hwx⟩ : ∃ wx, wx = wr.alloc (.cells #[.int .i64 xk, .string ⟨xt.toArray⟩, .slice xa1 xn1 xc1, .slice xa2 xn2 xc2, .slice xa3 xn3 xc3] 26) := ⟨_, rfl⟩
      have cx : Below wr.heap.size wr wx := by rw [hwx]; exact (Below.refl _ _).alloc (Nat.le_refl _) _
      have BX := Lib.hid (show wx.heap[gx]? = some (.cells #[.int .i64 xk, .string ⟨xt.toArray⟩, .slice xa1 xn1 xc1, .slice xa2 xn2 xc2, .slice xa3 xn3 xc3] 26 (0, 0)) by rw [hwx, hgx]; exact heap_alloc_new wr _)
      have KJ := Lib.hid (QyAt.kept (ok' := fun g => g < wx.heap.size) (Nat.le_trans BI.out.size cx.size) (fun g hg hl => ⟨(cx.block g (by have := BI.out.size; omega)).trans (BI.out.block g hl), by have := BI.out.size; have := cx.size; omega⟩) _ _ hkj)
      have TX := Lib.hid (TI.out.below cx)
      have BB := Lib.hid (BI.out.trans (cx.mono BI.out.size))
      have HQQ := Lib.hid hqq
      have HTQ := Lib.hid (HT.out q (List.mem_of_getElem? hqq))
      have HX := Lib.hid (And.intro hgx hwx)
      clear hkj d0 d1 d2 d3 d4 hqq cx hgx hwx TI BI
      go_upto_region 5 with fail
      rw [← HX.out.1, ← HX.out.2]
      clear HX b0 b1 b2 b3 b4
      have hlen : (Dx.treeL (L.take i)).length = i := by rw [Dx.treeL_length, List.length_take]; omega
      have HLEN := Lib.hid hlen
      have hkl : (Dx.treeL (L.take i)).length ≤ 1000000 := by omega
      obtain ⟨KS, hKS⟩ : ∃ KS, KS = Dx.treeL (L.take i) := ⟨_, rfl⟩
      rw [← hKS] at TX hkl HLEN
      have HKS := Lib.hid hKS
      clear hlen hKS
      obtain ⟨ska, skn, skc, rfl⟩ := own_shape TX.out.own2
      have b4 := (cells5 TX.out.box).2.2.2.2.1
      obtain ⟨u0, u1, u2, u3, u4, _⟩ := cells5 BX.out
      have hwK : w.heap.size + 1 ≤ wx.heap.size := TX.out.base
      have hgw : gx < wx.heap.size := heap_lt BX.out
      obtain ⟨i0, hi0, hz0, hz1, hz2⟩ := info_parts infoJ
      go_wp2_with fail
      go_region_law (first
          | (refine step_append_lies _ (by rfl) _ _ _ (by rfl) (w.heap.size + 1) 48 i0 _ 5 80 Tryz.underlying46 hi0 hz0 hz1 hz2 rfl (by omega) (.slice ska skn skc) KS.length cv.flatten (by rfl) OWN.out ⟨w3.heap.size, 0, none⟩ 1 1 [c0, c1, c2, c3, c4] (by rfl) (by rfl) (World.news_of_block (cs := #[c0, c1, c2, c3, c4]) (t := 48) (fr := (0, 0)) (heap_alloc_new w3 _)) JO.out (by omega) (by unfold maxLen; omega) (by omega) SZ3.out (w3.heap.size + 1) (by simp) ?_; intro gg cap w5 hown5 hgrow5 hat5 hlt5; have d4 := NX.out w5 hgrow5; have d4a := d4.1; have d4b := d4.2; have OW5 := Lib.hid hown5; have GR5 := Lib.hid hgrow5; have AT5 := Lib.hid hat5; clear hown5 hgrow5 hat5 d4 b4')
          | (go_simp; go_at_call 65; refine (HTQ.out [.int .i64 xk, .string ⟨xt.toArray⟩, .slice xa1 xn1 xc1, .slice xa2 xn2 xc2, .slice xa3 xn3 xc3] _ (show QyAt wx.drew (fun g => g < wx.drew.heap.size) q _ from QyAt.below KJ.out (Below.refl _ wx).drew)).mono ?_; intro e w3 hgv; obtain ⟨cs, rfl, kj, km⟩ := hgv; have b4' := (km.cell (p := ⟨w.heap.size, 4, none⟩) (show w.heap.size < wx.heap.size by omega)).trans b4; obtain ⟨c0, c1, c2, c3, c4, rfl⟩ := five kj.length; have T3 := TX.out.below ((Below.refl wx.heap.size wx).drew.trans km); have OWN := Lib.hid (T3.own2.alloc (.cells #[c0, c1, c2, c3, c4] 48)); have JO := Lib.hid kj.one; have SZ3 := Lib.hid (show w.heap.size + 1 ≤ (w3.alloc (.cells #[c0, c1, c2, c3, c4] 48)).heap.size by have := T3.base; simp; omega); have NX := Lib.hid (fun w5 hg => T3.next (w5 := w5) (o := .cells #[c0, c1, c2, c3, c4] 48) hg); have KJ3 := Lib.hid kj; have KM := Lib.hid km; have T3H := Lib.hid T3; have hz3 : w.heap.size < w3.heap.size := (by have := T3.base; omega); have hz3n : w.heap.size ≠ w3.heap.size := (by omega); clear kj km T3))
      all_goals
        try go_wp2_with fail
        go_roundg (L.length - (i + 1))
        case measure => have := HQ.out; omega
        case rel =>
          have hTA := T3H.out.below ((Below.refl w3.heap.size w3).alloc (Nat.le_refl _) (.cells #[c0, c1, c2, c3, c4] 48))
          have hk : JAt (w3.alloc (.cells #[c0, c1, c2, c3, c4] 48)) (fun g => w.heap.size + 1 ≤ g ∧ some g ≠ (Value.slice none 0 0).ownBlock ∧ some g ≠ (Value.slice ska skn skc).ownBlock) (Dx.tree q) [c0, c1, c2, c3, c4] :=
            JAt.kept (by simp) (fun g hg hl => ⟨Below.heap_alloc _ _ _ hl, Nat.le_trans hwK hg, (fun e => by cases e), fun e => absurd (TX.out.own2.lt g e.symm).2 (Nat.not_lt.2 hg)⟩) _ _ KJ3.out
          have hadd := hTA.addKid hk (Nat.le_refl _) OW5.out GR5.out (by have := AT5.out; simpa using this)
          have hb := (((BB.out.drew.trans (KM.out.mono BB.out.size)).alloc (by have := T3H.out.base; omega) (.cells #[c0, c1, c2, c3, c4] 48)).grown GR5.out (by have := hTA.base; omega) (fun g hg => by have := (hTA.own2.lt g hg).1; omega)).setCell (p := ⟨w.heap.size, 4, none⟩) (Nat.le_refl _) (.slice (some ⟨gg, 0, none⟩) (KS.length + 1) cap)
          rw [HKS.out] at hadd hb
          rw [← treeL_take HQQ.out] at hadd
          rw [HKS.out]
          exact ⟨i + 1, _, _, by go_num, rfl, by omega, Lib.hid hadd, Lib.hid hb⟩
    · have hik : i = L.length := by omega
      subst hik
      clear HQ
      rw [List.take_length] at TI
      have hlen : (Dx.treeL L).length = L.length := Dx.treeL_length L
      obtain ⟨KS, hKS⟩ : ∃ KS, KS = Dx.treeL L := ⟨_, rfl⟩
      rw [← hKS] at TI hlen ⊢
      have HKS := Lib.hid hKS; have HLEN := Lib.hid hlen
      clear hKS hlen RL HT
      obtain ⟨ska, skn, skc, rfl⟩ := own_shape TI.out.own2
      have TR0 := Lib.hid (T.out.below BI.out)
      obtain ⟨x0, x1, x2, x3, x4, _⟩ := cells5 TI.out.box
      obtain ⟨y0, y1, y2, y3, y4, yf⟩ := cells5 TR0.out.box
      have yf3 := yf 3; have yf4 := yf 4
      have hKr : K < wr.heap.size := by have := BI.out.size; omega
      have hwr : w.heap.size < wr.heap.size := heap_lt TI.out.box
      have nK1 : K ≠ wr.heap.size := by omega
      have nK2 : K ≠ wr.heap.size + 1 := by omega
      have nw1 : w.heap.size ≠ wr.heap.size := by omega
      have nw2 : w.heap.size ≠ wr.heap.size + 1 := by omega
      have HV1 := Lib.hid (fun k (e : sn.ownBlock = some k) => (TR0.out.own1.lt k e).2)
      have HV2 := Lib.hid (fun k (e : sk.ownBlock = some k) => (TR0.out.own2.lt k e).2)
      have al2 : ∀ (o1 o2 : Obj) (j : Nat) (u : Value), wr.cell? ⟨K, j, none⟩ = some u → ((wr.alloc o1).alloc o2).cell? ⟨K, j, none⟩ = some u := fun o1 o2 j u hu => (((Below.refl wr.heap.size wr).alloc (Nat.le_refl _) o1).alloc (by simp) o2).cell (p := ⟨K, j, none⟩) hKr |>.trans hu
      have q32 := fun o1 o2 => al2 o1 o2 3 sn y3
      have q42 := fun o1 o2 => al2 o1 o2 4 sk y4
      have KP := Lib.hid (show ∀ vn n1 x1 vv n2 x2 wq, RT B wr sn sk vn n1 x1 vv n2 x2 wq → wq.cell? ⟨K, 3, none⟩ = some sn ∧ wq.cell? ⟨K, 4, none⟩ = some sk ∧ wq.frozen? ⟨K, 3, none⟩ = false ∧ wq.frozen? ⟨K, 4, none⟩ = false ∧ K < wq.heap.size ∧ K ≠ wq.heap.size ∧ K ≠ wq.heap.size + 1 ∧ w.heap.size < wq.heap.size ∧ w.heap.size ≠ wq.heap.size ∧ w.heap.size ≠ wq.heap.size + 1 ∧ (wq.cell? ⟨w.heap.size, 0, none⟩ = some (.int .i64 5) ∧ wq.cell? ⟨w.heap.size, 1, none⟩ = some (.bool false) ∧ wq.cell? ⟨w.heap.size, 2, none⟩ = some (.string ⟨#[]⟩) ∧ wq.cell? ⟨w.heap.size, 3, none⟩ = some (.slice none 0 0) ∧ wq.cell? ⟨w.heap.size, 4, none⟩ = some (.slice ska skn skc)) from fun vn n1 x1 vv n2 x2 wq h => by
        have hz := h.size
        obtain ⟨c3, c4, f3, f4⟩ := RT.cells TR0.out h
        have hbx : wq.heap[w.heap.size]? = some (.cells #[.int .i64 5, .bool false, .string ⟨#[]⟩, .slice none 0 0, .slice ska skn skc] 48 (0, 0)) := by
          rw [h.low w.heap.size hwr (fun e => by have := (T.out.own1.lt _ e.symm).2; omega) (fun e => by have := (T.out.own2.lt _ e.symm).2; omega)]; exact TI.out.box
        obtain ⟨e0, e1, e2, e3, e4, _⟩ := cells5 hbx
        exact ⟨c3, c4, f3, f4, by omega, by omega, by omega, by omega, by omega, by omega, e0, e1, e2, e3, e4⟩)
      have FIN := Lib.hid (show ∀ vn vv wq, RT B wr sn sk vn (ns.length + 1) (ns.map strV ++ [strV n]) vv (ks.length + 1) (css.flatten ++ [.int .i64 5, .bool false, .string ⟨#[]⟩, .slice none 0 0, .slice ska skn skc]) wq → AddPost B K ns ks n KS w (.returned (.tuple #[])) ((wq.setCell ⟨K, 3, none⟩ vn).setCell ⟨K, 4, none⟩ vv) from fun vn vv wq h => by
        have hk : JAt wr (fun g => B ≤ g ∧ some g ≠ sn.ownBlock ∧ some g ≠ sk.ownBlock) (.mk 5 false [] [] KS) [.int .i64 5, .bool false, .string ⟨#[]⟩, .slice none 0 0, .slice ska skn skc] :=
          JAt.kept (Nat.le_refl _) (fun g hg _ => ⟨rfl, by have := T.out.base; omega, (fun e => by have := (T.out.own1.lt _ e.symm).2; omega), fun e => by have := (T.out.own2.lt _ e.symm).2; omega⟩) _ _ TI.out.jat
        have hf := RT.fin TR0.out h rfl rfl hk
        have hne : KS ≠ [] := fun e => by have := HLEN.out; rw [e] at this; simp at this; omega
        refine ⟨rfl, vn, vv, css ++ [[.int .i64 5, .bool false, .string ⟨#[]⟩, .slice none 0 0, .slice ska skn skc]], ?_, (FrB.of_below (BI.out.mono T.out.base)).trans hf.2⟩
        unfold Dx.addN Dx.addK
        rw [if_neg hne, if_neg hne]
        exact hf.1)
      rw [HKS.out] at FIN
      have rt0 := TR0.out.rt.drew
      have JO := Lib.hid (show ∀ u ∈ [.int .i64 5, .bool false, .string ⟨#[]⟩, .slice none 0 0, .slice ska skn skc], Value.oneCell' u = true from by intro u hu; simp only [List.mem_cons, List.not_mem_nil, or_false] at hu; rcases hu with rfl | rfl | rfl | rfl | rfl <;> rfl)
      obtain ⟨i0, hi0, hz0, hz1, hz2⟩ := info_parts infoJ
      obtain ⟨i1, hi1, hy0, hy1, hy2⟩ := info_parts infoS
      clear yf al2 y0 y1 y2
      go_wp2_with fail
      go_region_law
        (first
          | (refine step_append_lies _ (by rfl) _ _ _ (by rfl) B 9 i1 _ 1 16 Tryz.underlying45 hi1 hy0 hy1 hy2 rfl (by omega) sn ns.length (ns.map strV) (by rfl) (by first | exact RT.own1 ‹RT B wr sn sk sn ns.length (ns.map strV) _ _ _ _› | exact RT.own1 (RT.alloc ‹RT B wr sn sk sn ns.length (ns.map strV) _ _ _ _› _) | exact RT.own1 (RT.alloc (RT.alloc ‹RT B wr sn sk sn ns.length (ns.map strV) _ _ _ _› _) _)) ⟨_, 0, none⟩ 1 1 [.string ⟨n.toArray⟩] (by rfl) (by rfl) (World.news_of_block (cs := #[.string ⟨n.toArray⟩]) (t := 9) (fr := (0, 0)) (by first | exact lit_at rfl | exact lit_under rfl | exact lit_at (by simp) | (refine KPr.use (lo := wr.heap.size) (by assumption) ?_ ?_ <;> first | exact lit_at rfl | exact lit_under rfl | exact lit_at (by simp) | exact Nat.le_refl _ | exact Nat.le_succ _))) (by intro u hu; simp at hu; subst hu; rfl) (by omega) (by unfold maxLen; omega) (by omega) (by first | exact RT.lt ‹RT B wr sn sk sn ns.length (ns.map strV) _ _ _ _› | exact RT.lt (RT.alloc ‹RT B wr sn sk sn ns.length (ns.map strV) _ _ _ _› _) | exact RT.lt (RT.alloc (RT.alloc ‹RT B wr sn sk sn ns.length (ns.map strV) _ _ _ _› _) _)) _ rfl ?_; intro gg cap w6 hown6 hgrow6 hat6 hlt6; have RT6 := RT.app1 (by first | exact ‹RT B wr sn sk sn ns.length (ns.map strV) _ _ _ _› | exact (RT.alloc ‹RT B wr sn sk sn ns.length (ns.map strV) _ _ _ _› _) | exact (RT.alloc (RT.alloc ‹RT B wr sn sk sn ns.length (ns.map strV) _ _ _ _› _) _)) hown6 hgrow6 rfl hat6; have KP6 := KPr.mk wr.heap.size (fun k o hk hle => (hgrow6.block k (heap_lt hk) (by intro e; have := HV1.out k e.symm; omega)).trans hk); have CF := KP.out _ _ _ _ _ _ _ RT6; have p1 := CF.1; have p2 := CF.2.1; have pf1 := CF.2.2.1; have pf2 := CF.2.2.2.1; have pl := CF.2.2.2.2.1; have pn1 := CF.2.2.2.2.2.1; have pn2 := CF.2.2.2.2.2.2.1; have pm := CF.2.2.2.2.2.2.2.1; have pm1 := CF.2.2.2.2.2.2.2.2.1; have pm2 := CF.2.2.2.2.2.2.2.2.2.1; have cr := CF.2.2.2.2.2.2.2.2.2.2; have cr0 := cr.1; have cr1 := cr.2.1; have cr2 := cr.2.2.1; have cr3 := cr.2.2.2.1; have cr4 := cr.2.2.2.2; clear cr CF hown6 hgrow6 hat6 hlt6)
          | (refine step_append_lies _ (by rfl) _ _ _ (by rfl) B 48 i0 _ 5 80 Tryz.underlying46 hi0 hz0 hz1 hz2 rfl (by omega) sk ks.length css.flatten (by rfl) (by first | exact RT.own2 ‹RT B wr sn sk _ _ _ sk ks.length css.flatten _› | exact RT.own2 (RT.alloc ‹RT B wr sn sk _ _ _ sk ks.length css.flatten _› _) | exact RT.own2 (RT.alloc (RT.alloc ‹RT B wr sn sk _ _ _ sk ks.length css.flatten _› _) _)) ⟨_, 0, none⟩ 1 1 [.int .i64 5, .bool false, .string ⟨#[]⟩, .slice none 0 0, .slice ska skn skc] (by rfl) (by rfl) (World.news_of_block (cs := #[.int .i64 5, .bool false, .string ⟨#[]⟩, .slice none 0 0, .slice ska skn skc]) (t := 48) (fr := (0, 0)) (by first | exact lit_at rfl | exact lit_under rfl | exact lit_at (by simp) | (refine KPr.use (lo := wr.heap.size) (by assumption) ?_ ?_ <;> first | exact lit_at rfl | exact lit_under rfl | exact lit_at (by simp) | exact Nat.le_refl _ | exact Nat.le_succ _))) JO.out (by omega) (by unfold maxLen; omega) (by omega) (by first | exact RT.lt ‹RT B wr sn sk _ _ _ sk ks.length css.flatten _› | exact RT.lt (RT.alloc ‹RT B wr sn sk _ _ _ sk ks.length css.flatten _› _) | exact RT.lt (RT.alloc (RT.alloc ‹RT B wr sn sk _ _ _ sk ks.length css.flatten _› _) _)) _ rfl ?_; intro gg cap w6 hown6 hgrow6 hat6 hlt6; have RT6 := RT.app2 (by first | exact ‹RT B wr sn sk _ _ _ sk ks.length css.flatten _› | exact (RT.alloc ‹RT B wr sn sk _ _ _ sk ks.length css.flatten _› _) | exact (RT.alloc (RT.alloc ‹RT B wr sn sk _ _ _ sk ks.length css.flatten _› _) _)) hown6 hgrow6 rfl hat6; have KP6 := KPr.mk wr.heap.size (fun k o hk hle => (hgrow6.block k (heap_lt hk) (by intro e; have := HV2.out k e.symm; omega)).trans hk); have CF := KP.out _ _ _ _ _ _ _ RT6; have p1 := CF.1; have p2 := CF.2.1; have pf1 := CF.2.2.1; have pf2 := CF.2.2.2.1; have pl := CF.2.2.2.2.1; have pn1 := CF.2.2.2.2.2.1; have pn2 := CF.2.2.2.2.2.2.1; have pm := CF.2.2.2.2.2.2.2.1; have pm1 := CF.2.2.2.2.2.2.2.2.1; have pm2 := CF.2.2.2.2.2.2.2.2.2.1; have cr := CF.2.2.2.2.2.2.2.2.2.2; have cr0 := cr.1; have cr1 := cr.2.1; have cr2 := cr.2.2.1; have cr3 := cr.2.2.2.1; have cr4 := cr.2.2.2.2; clear cr CF hown6 hgrow6 hat6 hlt6))
      all_goals
        try go_wp2_with fail
        exact bodyPost_ret (v := .tuple #[]) (by simp [results, Tryz.results109, go_sem]) rfl (FIN.out _ _ _ ‹RT B wr sn sk _ (ns.length + 1) _ _ (ks.length + 1) _ _›)
end Go.Proofs.YtejlddimokmgjaaGreatDoor
