/- WALKS: field. -/
import Derived.Test.YthdmdafhldicmaaGreatDoorHe
import Derived.Deep.RegionHeld3
import Derived.Maps.RangeWalk
namespace Go.Proofs.YthdmdafhldicmaaGreatDoor
open Go.RowKit Go.Maps Go.WideMaps

theorem Glb.belowB {B : Nat} {w w' : World} (h : Glb w) (k : Below B w w') (hB : 8 ≤ B) : Glb w' := h.same fun a _ _ hc => (k.cell (p := a) (by omega)).trans hc

/-- What 'field' comes to. -/
def FieldPost (B : Nat) (f : Hx.F) (l : Hx.Bytes) (w : World) (e : Ending) (w' : World) : Prop :=
  Below B w w' ∧ (Hx.field f l = none → e = .returned (.bool false)) ∧ ∀ g, Hx.field f l = some g → e = .returned (.bool true) ∧ ∃ vn vv, FAt B vn vv g w'
theorem FieldPost.no {B : Nat} {f : Hx.F} {l : Hx.Bytes} {w w' : World} (h : Hx.field f l = none) (k : Below B w w') : FieldPost B f l w (.returned (.bool false)) w' := ⟨k, fun _ => rfl, fun g hg => by rw [h] at hg; cases hg⟩
theorem FieldPost.yes {B : Nat} {f g : Hx.F} {l : Hx.Bytes} {w w' : World} {vn vv : Value} (h : Hx.field f l = some g) (k : Below B w w') (h2 : FAt B vn vv g w') : FieldPost B f l w (.returned (.bool true)) w' := ⟨k, fun hg => (by rw [h] at hg; cases hg), fun g' hg => by rw [h] at hg; injection hg with hg; subst hg; exact ⟨rfl, vn, vv, h2⟩⟩

theorem lower_len (t : Hx.Bytes) : (Hx.lower t).length = t.length := by simp [Hx.lower]
theorem drop_while_len (p : UInt8 → Bool) (t : Hx.Bytes) : (t.dropWhile p).length ≤ t.length := (List.dropWhile_sublist p).length_le
theorem trim_len (t : Hx.Bytes) : (Hx.trim t).length ≤ t.length := by
  unfold Hx.trim
  refine Nat.le_trans (drop_while_len _ _) ?_
  rw [List.length_reverse]
  refine Nat.le_trans (drop_while_len _ _) ?_
  rw [List.length_reverse]
  exact Nat.le_refl _
theorem behind_len (c : UInt8) (t : Hx.Bytes) : (Hx.behind c t).length ≤ t.length := by simp [Hx.behind]
theorem ahead_len (c : UInt8) (t : Hx.Bytes) : (Hx.ahead c t).length ≤ t.length := by simp [Hx.ahead]; omega
theorem splitN_len : ∀ (k : Nat) (t : Hx.Bytes), ∀ p ∈ Hx.splitN k t, p.length ≤ t.length
  | 0, t, p, h => by simp [Hx.splitN] at h; subst h; exact Nat.le_refl _
  | k + 1, t, p, h => by
    unfold Hx.splitN at h
    split at h
    · rcases List.mem_cons.1 h with h | h
      · subst h; exact ahead_len _ _
      · exact Nat.le_trans (splitN_len k _ p h) (behind_len _ _)
    · simp at h; subst h; exact Nat.le_refl _
theorem splitN_count : ∀ (k : Nat) (t : Hx.Bytes), (Hx.splitN k t).length ≤ k + 1
  | 0, t => by simp [Hx.splitN]
  | k + 1, t => by
    unfold Hx.splitN
    split
    · have := splitN_count k (Hx.behind 44 t); simp only [List.length_cons]; omega
    · simp

theorem lit_at {w : World} {cs : Array Value} {t : TypeId} {n : Nat} (h : n = w.heap.size) : (w.alloc (.cells cs t)).heap[n]? = some (.cells cs t (0, 0)) := by subst h; exact heap_alloc_new w _
theorem lit_under {w : World} {o : Obj} {cs : Array Value} {t : TypeId} {n : Nat} (h : n = w.heap.size) : ((w.alloc (.cells cs t)).alloc o).heap[n]? = some (.cells cs t (0, 0)) := by
  subst h
  exact (Below.heap_alloc _ _ _ (by simp)).trans (heap_alloc_new w _)
/-- What was laid from a block on lies there still. -/
def KPr (w w' : World) (lo : Nat) : Prop := ∀ k o, w.heap[k]? = some o → lo ≤ k → w'.heap[k]? = some o
theorem KPr.mk {w w' : World} (lo : Nat) (h : ∀ k o, w.heap[k]? = some o → lo ≤ k → w'.heap[k]? = some o) : KPr w w' lo := h
theorem KPr.use {w w' : World} {lo k : Nat} {o : Obj} (h : KPr w w' lo) (hk : w.heap[k]? = some o) (hl : lo ≤ k) : w'.heap[k]? = some o := h k o hk hl

/-- .. the last part: is the connection to be closed? -/
def CloseIs (B : Nat) (ns vs : List Hx.Bytes) (c : Bool) (w w' : World) : Prop := Below B w w' ∧ ∃ vn vv, FAt B vn vv ⟨ns, vs, c⟩ w'

set_option maxRecDepth 100000 in
set_option maxHeartbeats 4000000 in
theorem field_calls (f : Hx.F) (l : Hx.Bytes) (B : Nat) (vn vv : Value) (w : World) (h : FAt B vn vv f w) (hg : Glb w) (h8 : 8 ≤ B) (hl : l.length ≤ 100000) (hn : f.names.length ≤ 100000) :
    Calls Tryz.prog 56 #[.pointer (some ⟨B + 1, 0, none⟩), .string ⟨l.toArray⟩] w (FieldPost B f l w) := by
  have H := Lib.hid h; have HG := Lib.hid hg
  have HBw : B ≤ w.heap.size := by have := heap_lt h.box; omega
  have b0 := Lib.hid (Below.refl B w)
  obtain ⟨R, hR⟩ : ∃ R, R = Hx.field f l := ⟨_, rfl⟩
  have HR := Lib.hid hR
  unfold Hx.field at hR
  have hA1 := ahead_len 58 l; have hV1 := behind_len 58 l
  obtain ⟨A, hA⟩ : ∃ A, A = Hx.ahead 58 l := ⟨_, rfl⟩
  obtain ⟨V, hV⟩ : ∃ V, V = Hx.behind 58 l := ⟨_, rfl⟩
  have HA := Lib.hid hA; have HV := Lib.hid hV
  rw [← hA] at hR hA1
  rw [← hV] at hR hV1
  have HRE := Lib.hid hR
  clear h hg hR hA hV
  go_enter Tryz.func56, Tryz.ntmps56
  go_wp2_with fail
  refine (cut_calls l 58 _ HG.out (by omega)).mono ?_
  rintro e w1 ⟨rfl, n, rfl⟩
  rw [← HA.out, ← HV.out]
  by_cases h58 : 58 ∈ l
  rotate_left
  · rw [decide_eq_false h58]
    have hno : Hx.field f l = none := by rw [← HR.out, HRE.out, if_neg (fun h => h58 h.1)]
    have HNO := Lib.hid hno
    clear h58 hno
    go_wp2_with fail
    go_ret
    exact FieldPost.no HNO.out (below_dN b0.out _)
  rw [decide_eq_true h58]
  by_cases hA0 : A = []
  · have hno : Hx.field f l = none := by rw [← HR.out, HRE.out, if_neg (fun h => h.2.1 hA0)]
    have HNO := Lib.hid hno
    clear h58 hno HA HRE hA1
    subst hA0
    go_wp2_with fail
    go_ret
    exact FieldPost.no HNO.out (below_dN b0.out _)
  have hAe : (A == []) = false := by simpa using hA0
  obtain ⟨TK, hTK⟩ : ∃ TK, TK = A.all Hx.tokened := ⟨_, rfl⟩
  obtain ⟨VK, hVK⟩ : ∃ VK, VK = V.all Hx.valued := ⟨_, rfl⟩
  have CT : Hid (∀ wq, Calls Tryz.prog 52 #[.string ⟨A.toArray⟩, .func (.func 79) #[] #[]] wq fun e w' => e = .returned (.bool TK) ∧ w' = wq) := Lib.hid fun wq => by rw [hTK]; exact among_tokened A wq (by unfold maxLen; omega)
  have CV : Hid (∀ wq, Calls Tryz.prog 52 #[.string ⟨V.toArray⟩, .func (.func 80) #[] #[]] wq fun e w' => e = .returned (.bool VK) ∧ w' = wq) := Lib.hid fun wq => by rw [hVK]; exact among_valued V wq (by unfold maxLen; omega)
  have HTK := Lib.hid hTK; have HVK := Lib.hid hVK; have H58 := Lib.hid h58; have HA0 := Lib.hid hA0
  clear hTK hVK h58 hA0
  cases TK with
  | false =>
    have hno : Hx.field f l = none := by rw [← HR.out, HRE.out, if_neg (fun h => by have := h.2.2.1; rw [← HTK.out] at this; cases this)]
    have HNO := Lib.hid hno
    clear hno
    go_wp2_with fail
    refine (CT.out _).mono ?_
    rintro e w' ⟨rfl, hw'⟩
    have hw' := hw'.symm
    subst hw'
    go_wp2_with fail
    go_ret
    exact FieldPost.no HNO.out (below_dN b0.out _)
  | true =>
  cases VK with
  | false =>
    have hno : Hx.field f l = none := by rw [← HR.out, HRE.out, if_neg (fun h => by have := h.2.2.2; rw [← HVK.out] at this; cases this)]
    have HNO := Lib.hid hno
    clear hno
    go_wp2_with fail
    refine (CT.out _).mono ?_
    rintro e w' ⟨rfl, hw'⟩
    have hw' := hw'.symm
    subst hw'
    go_wp2_with fail
    refine (CV.out _).mono ?_
    rintro e w' ⟨rfl, hw'⟩
    have hw' := hw'.symm
    subst hw'
    go_wp2_with fail
    go_ret
    exact FieldPost.no HNO.out (below_dN b0.out _)
  | true =>
  obtain ⟨N, hN⟩ : ∃ N, N = Hx.lower A := ⟨_, rfl⟩
  obtain ⟨T, hT⟩ : ∃ T, T = Hx.trim V := ⟨_, rfl⟩
  have hyes : Hx.field f l = some ⟨f.names ++ [N], f.values ++ [T], f.close || (decide (N = Hx.tConnection) && Hx.closes T)⟩ := by
    rw [← HR.out, HRE.out, if_pos ⟨H58.out, HA0.out, HTK.out.symm, HVK.out.symm⟩, hN, hT]
  have hNl : N.length ≤ 100000 := by rw [hN, lower_len]; omega
  have hTl : T.length ≤ 100000 := by rw [hT]; exact Nat.le_trans (trim_len V) (by omega)
  have HY := Lib.hid hyes; have HN := Lib.hid hN; have HT := Lib.hid hT
  clear hyes hN hT HRE HR HTK HVK H58 HA0
  go_wp2_with fail
  refine (CT.out _).mono ?_
  rintro e w' ⟨rfl, hw'⟩
  have hw' := hw'.symm
  subst hw'
  go_wp2_with fail
  refine (CV.out _).mono ?_
  rintro e w' ⟨rfl, hw'⟩
  have hw' := hw'.symm
  subst hw'
  clear hAe
  go_wp2_with fail
  refine (lower_calls A _ (by omega)).mono ?_
  rintro e w2 ⟨rfl, hb⟩
  rw [← HN.out]
  have F2 := Lib.hid ((H.out.drewN n).below hb)
  have B2 := Lib.hid ((below_dN b0.out n).trans (hb.mono HBw))
  clear hb CT CV
  go_wp2_with fail
  refine (trim_calls V _ (by omega)).mono ?_
  rintro e w3 ⟨rfl, hb⟩
  rw [← HT.out]
  have F3 := Lib.hid (F2.out.below hb)
  have B3 := Lib.hid (B2.out.trans (hb.mono (Nat.le_trans HBw B2.out.size)))
  have HG0 := HG
  clear hb F2 B2 b0 HG H
  have HBw3 : B + 1 < w3.heap.size := heap_lt F3.out.box
  obtain ⟨D, hmap, hisM, hat0⟩ := F3.out.map
  have HMAP := Lib.hid hmap; have HIS := Lib.hid hisM; have HAT := Lib.hid hat0
  have hcl := cnt_le f.names N
  have hcl2 : cnt f.names N ≤ 100000 := Nat.le_trans hcl hn
  obtain ⟨q0, q1, q2, q3, qf⟩ := F3.out.cells
  clear hmap hisM hat0 hcl
  go_wp2_with (first
    | (at_lookup; refine wpList_lookup_own_int _ rfl _ _ 75 rfl 9 3 .i64 lawS Tryz.underlying75 Tryz.underlying3 (zeroI _) B f.names.length D rfl HMAP.out _ _ rfl (keyS (by omega)) ?_; intro c hat hwc; obtain rfl : c = (cnt f.names N : Int) := (by have e := hat.symm.trans (HAT.out N); injection e with e; injection e with _ e); clear hat hwc)
    | (at_mapUpdate; refine wpList_mapUpdate_own _ rfl _ _ _ 75 rfl 9 3 lawS Tryz.underlying75 _ B f.names.length D rfl HMAP.out (by unfold maxLen; omega) _ _ _ rfl rfl (keyS (by omega)) _ [] (plainElem_int Tryz.underlying3 (WalkArith.wf_i64 (by omega))) ?_; intro w5 hown5 hgrow5))
  have M5 := Lib.hid (MapAt.put HIS.out HAT.out hown5)
  obtain ⟨rf0, hbox5⟩ := F3.out.written hgrow5
  have HBX5 := Lib.hid hbox5
  have B5 := Lib.hid (B3.out.grown hgrow5 (Nat.le_trans HBw B3.out.size) (fun g e => by injection e with e; omega))
  have HV1 := Lib.hid (fun k (e : vn.ownBlock = some k) => (rf0.own1.lt k e).2)
  have HV2 := Lib.hid (fun k (e : vv.ownBlock = some k) => (rf0.own2.lt k e).2)
  have HLEN := Lib.hid F3.out.len
  have hlt5 := rf0.lt
  clear hown5 hgrow5 HMAP HIS HAT F3 B3 q0 q1 q2 q3 qf
  have rf0 := rf0.drew
  have q1 : w5.cell? ⟨B + 1, 1, none⟩ = some vn := by simp [World.cell?, hbox5]
  have q2 : w5.cell? ⟨B + 1, 2, none⟩ = some vv := by simp [World.cell?, hbox5]
  have qf : ∀ o, w5.frozen? ⟨B + 1, o, none⟩ = false := fun o => by simp [World.frozen?, hbox5]
  have qf1 := qf 1; have qf2 := qf 2
  obtain ⟨i1, hi1, hy0, hy1, hy2⟩ := info_parts infoS
  have hne1 : B + 1 ≠ w5.heap.size := by omega
  have hne2 : B + 1 ≠ w5.heap.size + 1 := by omega
  have hne3 : B ≠ w5.heap.size := by omega
  have hlt6 : B + 1 < w5.heap.size := by omega
  have al2 : ∀ (o1 o2 : Obj) (j : Nat) (u : Value), w5.cell? ⟨B + 1, j, none⟩ = some u → ((w5.alloc o1).alloc o2).cell? ⟨B + 1, j, none⟩ = some u := fun o1 o2 j u hu => (((Below.refl w5.heap.size w5).alloc (Nat.le_refl _) o1).alloc (by simp) o2).cell (p := ⟨B + 1, j, none⟩) hlt6 |>.trans hu
  have q12 := fun o1 o2 => al2 o1 o2 1 vn q1
  have q22 := fun o1 o2 => al2 o1 o2 2 vv q2
  clear hbox5 al2
  go_wp2_with fail
  go_frame
  go_cut [] (fun wc => ∃ vn' vv', Hid (FAt B vn' vv' ⟨f.names ++ [N], f.values ++ [T], f.close⟩ wc) ∧ Hid (Below B w wc))
  case first =>
    go_region_law
      (first
        | (refine step_append_lies _ (by rfl) _ _ _ (by rfl) (B + 2) 9 i1 _ 1 16 Tryz.underlying33 hi1 hy0 hy1 hy2 rfl (by omega) vn f.names.length (f.names.map strV) (by rfl) (RF.own1 (by first | exact ‹RF B w5 vn f.names.length (f.names.map strV) _ _ _ _› | exact RF.alloc ‹RF B w5 vn f.names.length (f.names.map strV) _ _ _ _› _ | exact RF.alloc (RF.alloc ‹RF B w5 vn f.names.length (f.names.map strV) _ _ _ _› _) _)) ⟨_, 0, none⟩ 1 1 [.string ⟨N.toArray⟩] (by rfl) (by rfl) (World.news_of_block (cs := #[.string ⟨N.toArray⟩]) (t := 9) (fr := (0, 0)) (by first | exact lit_at rfl | exact lit_under rfl | exact lit_at (by simp) | (refine KPr.use (lo := w5.heap.size) (by assumption) ?_ ?_ <;> first | exact lit_at rfl | exact lit_under rfl | exact lit_at (by simp) | exact Nat.le_refl _ | exact Nat.le_succ _))) (by intro u hu; simp at hu; subst hu; rfl) (by omega) (by unfold maxLen; omega) (by omega) (RF.lt (by first | exact ‹RF B w5 vn f.names.length (f.names.map strV) _ _ _ _› | exact RF.alloc ‹RF B w5 vn f.names.length (f.names.map strV) _ _ _ _› _ | exact RF.alloc (RF.alloc ‹RF B w5 vn f.names.length (f.names.map strV) _ _ _ _› _) _)) _ rfl ?_; intro gg cap w6 hown6 hgrow6 hat6 hlt6; have RF6 := RF.app1 (by first | exact ‹RF B w5 vn f.names.length (f.names.map strV) _ _ _ _› | exact RF.alloc ‹RF B w5 vn f.names.length (f.names.map strV) _ _ _ _› _ | exact RF.alloc (RF.alloc ‹RF B w5 vn f.names.length (f.names.map strV) _ _ _ _› _) _) hown6 hgrow6 rfl hat6; have KP6 := KPr.mk w5.heap.size (fun k o hk hle => (hgrow6.block k (heap_lt hk) (by intro e; have := HV1.out k e.symm; omega)).trans hk); have p1 := RF.cells RF6 q1; have p2 := RF.cells RF6 q2; have pf1 := RF.frozen RF6 (qf 1); have pf2 := RF.frozen RF6 (qf 2); have pl := RF.lt RF6; have pn1 : B + 1 ≠ w6.heap.size := (by omega); have pn2 : B + 1 ≠ w6.heap.size + 1 := (by omega); have pn4 : B ≠ w6.heap.size := (by omega); have pn3 : B + 1 < w6.heap.size := (by omega); clear hown6 hgrow6 hat6 hlt6)
        | (refine step_append_lies _ (by rfl) _ _ _ (by rfl) (B + 2) 9 i1 _ 1 16 Tryz.underlying33 hi1 hy0 hy1 hy2 rfl (by omega) vv f.names.length (f.values.map strV) (by rfl) (RF.own2 (by first | exact ‹RF B w5 _ _ _ vv f.names.length (f.values.map strV) _› | exact RF.alloc ‹RF B w5 _ _ _ vv f.names.length (f.values.map strV) _› _ | exact RF.alloc (RF.alloc ‹RF B w5 _ _ _ vv f.names.length (f.values.map strV) _› _) _)) ⟨_, 0, none⟩ 1 1 [.string ⟨T.toArray⟩] (by rfl) (by rfl) (World.news_of_block (cs := #[.string ⟨T.toArray⟩]) (t := 9) (fr := (0, 0)) (by first | exact lit_at rfl | exact lit_under rfl | exact lit_at (by simp) | (refine KPr.use (lo := w5.heap.size) (by assumption) ?_ ?_ <;> first | exact lit_at rfl | exact lit_under rfl | exact lit_at (by simp) | exact Nat.le_refl _ | exact Nat.le_succ _))) (by intro u hu; simp at hu; subst hu; rfl) (by omega) (by unfold maxLen; omega) (by omega) (RF.lt (by first | exact ‹RF B w5 _ _ _ vv f.names.length (f.values.map strV) _› | exact RF.alloc ‹RF B w5 _ _ _ vv f.names.length (f.values.map strV) _› _ | exact RF.alloc (RF.alloc ‹RF B w5 _ _ _ vv f.names.length (f.values.map strV) _› _) _)) _ rfl ?_; intro gg cap w6 hown6 hgrow6 hat6 hlt6; have RF6 := RF.app2 (by first | exact ‹RF B w5 _ _ _ vv f.names.length (f.values.map strV) _› | exact RF.alloc ‹RF B w5 _ _ _ vv f.names.length (f.values.map strV) _› _ | exact RF.alloc (RF.alloc ‹RF B w5 _ _ _ vv f.names.length (f.values.map strV) _› _) _) hown6 hgrow6 rfl hat6; have KP6 := KPr.mk w5.heap.size (fun k o hk hle => (hgrow6.block k (heap_lt hk) (by intro e; have := HV2.out k e.symm; omega)).trans hk); have p1 := RF.cells RF6 q1; have p2 := RF.cells RF6 q2; have pf1 := RF.frozen RF6 (qf 1); have pf2 := RF.frozen RF6 (qf 2); have pl := RF.lt RF6; have pn1 : B + 1 ≠ w6.heap.size := (by omega); have pn2 : B + 1 ≠ w6.heap.size + 1 := (by omega); have pn4 : B ≠ w6.heap.size := (by omega); have pn3 : B + 1 < w6.heap.size := (by omega); clear hown6 hgrow6 hat6 hlt6))
    all_goals
      try go_wp2_with fail
      go_meet
      case rel => exact ⟨_, _, Lib.hid (RF.fin HBX5.out HLEN.out ‹RF B w5 _ (f.names.length + 1) _ _ (f.names.length + 1) _ _› M5.out), Lib.hid (RF.below ‹RF B w5 _ (f.names.length + 1) _ _ (f.names.length + 1) _ _› B5.out (Nat.le_refl _) _ _)⟩
  case rest =>
  obtain ⟨vn5, vv5, F6, B6⟩ := hcut
  clear M5 HBX5 B5 HV1 HV2 HLEN rf0 q1 q2 qf qf1 qf2 hne1 hne2 hne3 hlt6 q12 q22 hlt5 hy0 hy1 hy2 hi1
  have hNc : (N == [99, 111, 110, 110, 101, 99, 116, 105, 111, 110]) = decide (N = Hx.tConnection) := by
    rw [Bool.eq_iff_iff, beq_iff_eq, decide_eq_true_iff]; exact Iff.rfl
  by_cases hcon : N = Hx.tConnection
  rotate_left
  · rw [decide_eq_false hcon] at hNc
    have hy2 : Hx.field f l = some ⟨f.names ++ [N], f.values ++ [T], f.close⟩ := by rw [HY.out, decide_eq_false hcon]; simp
    have HY2 := Lib.hid hy2
    clear hcon hy2
    go_wp2_with fail
    go_ret
    exact FieldPost.yes HY2.out B6.out F6.out
  rw [decide_eq_true hcon] at hNc
  have hy2 : Hx.field f l = some ⟨f.names ++ [N], f.values ++ [T], f.close || (Hx.split T).any fun p => decide (Hx.lower (Hx.trim p) = Hx.tClose)⟩ := by rw [HY.out, decide_eq_true hcon, Bool.true_and]; rfl
  have HY2 := Lib.hid hy2
  have hpl : ∀ p ∈ Hx.split T, p.length ≤ 100000 := fun p hp => Nat.le_trans (splitN_len _ T p hp) hTl
  have hpc : (Hx.split T).length ≤ 100001 := by
    have h1 := splitN_count (T.count 44) T
    have h2 := List.count_le_length (a := (44 : UInt8)) (l := T)
    show (Hx.splitN _ _).length ≤ _
    omega
  obtain ⟨PS, hPS⟩ : ∃ PS, PS = Hx.split T := ⟨_, rfl⟩
  have HPS := Lib.hid hPS
  rw [← hPS] at hpl hpc
  have HPL := Lib.hid hpl
  clear hcon hy2 hPS hpl HY HN HT
  go_wp2_with fail
  refine (split_calls T _ ((HG0.out.belowB B6.out h8)) (by omega)).mono ?_
  rintro e w7 ⟨rfl, hw7⟩
  rw [← HPS.out] at hw7 ⊢
  have F7 := Lib.hid (F6.out.below (w' := w7) (by rw [hw7]; exact (Below.refl _ _).alloc (Nat.le_refl _) _))
  have B7 := Lib.hid (B6.out.trans (c := w7) (by rw [hw7]; exact (Below.refl _ _).alloc (by have := B6.out.size; omega) _))
  have PB := Lib.hid (show w7.heap[wc.heap.size]? = some (.cells (PS.map strV).toArray 9 (0, 0)) by rw [hw7]; exact heap_alloc_new wc _)
  have hpb : B + 1 < wc.heap.size := heap_lt F6.out.box
  clear hw7 F6 B6
  go_wp2_with fail
  go_loopg [68] (PS.length) (fun q z wr => ∃ (i : Nat) (c : Bool), z = .int .i64 i ∧ q = PS.length - i ∧ i ≤ PS.length ∧ Hid ((f.close || PS.any fun p => decide (Hx.lower (Hx.trim p) = Hx.tClose)) = (c || (PS.drop i).any fun p => decide (Hx.lower (Hx.trim p) = Hx.tClose))) ∧ Hid (FAt B vn5 vv5 ⟨f.names ++ [N], f.values ++ [T], c⟩ wr) ∧ Hid (Below B w wr) ∧ Hid (wr.heap[wc.heap.size]? = some (.cells (PS.map strV).toArray 9 (0, 0))))
  case atStart => exact ⟨0, f.close, rfl, rfl, Nat.zero_le _, Lib.hid rfl, F7, B7, PB⟩
  case round =>
    clear F7 B7 PB
    obtain ⟨i, c, rfl, hq, hi, HC, F8, B8, PB⟩ := hrel
    have HQ := Lib.hid hq
    clear hq
    obtain ⟨q0, q1, q2, q3, qf⟩ := F8.out.cells
    have qf3 := qf 3
    rcases Nat.lt_or_ge i PS.length with hlt | hge
    · obtain ⟨p, hp⟩ : ∃ p, PS[i]? = some p := ⟨PS[i], by simp [hlt]⟩
      have hltI : (i : Int) < (PS.length : Int) := by omega
      have b1 : wr.cell? ⟨wc.heap.size, i, none⟩ = some (.string ⟨p.toArray⟩) := by
        rw [cell_of_row wr wc.heap.size i (PS.map strV).toArray 9 (0, 0) PB.out]
        simp [hp, strV]
      have hpll := HPL.out p (List.mem_of_getElem? hp)
      have hdr : PS.drop i = p :: PS.drop (i + 1) := by
        obtain ⟨hlt, he⟩ := List.getElem?_eq_some_iff.1 hp
        rw [List.drop_eq_getElem_cons hlt, he]
      have HC2 : Hid ((f.close || PS.any fun p => decide (Hx.lower (Hx.trim p) = Hx.tClose)) = ((c || decide (Hx.lower (Hx.trim p) = Hx.tClose)) || (PS.drop (i + 1)).any fun p => decide (Hx.lower (Hx.trim p) = Hx.tClose))) := Lib.hid (by rw [HC.out, hdr, List.any_cons, Bool.or_assoc])
      clear hdr hp HC qf
      cases c with
      | true =>
        have FX := Lib.hid (F8.out.close true); have BX := Lib.hid (B8.out.setCell (p := ⟨B + 1, 3, none⟩) (by simp) (.bool true))
        have PX : Hid ((wr.setCell ⟨B + 1, 3, none⟩ (.bool true)).heap[wc.heap.size]? = some (.cells (PS.map strV).toArray 9 (0, 0))) := Lib.hid (by rw [Below.heap_setCell _ _ _ _ (by simp; omega)]; exact PB.out)
        go_wp2_with fail
        go_roundg (PS.length - (i + 1))
        case measure => have := HQ.out; omega
        case rel => exact ⟨i + 1, true, by go_num, rfl, by omega, Lib.hid (by rw [HC2.out]; rfl), FX, BX, PX⟩
      | false =>
        obtain ⟨t, ht⟩ : ∃ t, t = Hx.trim p := ⟨_, rfl⟩
        have htl : t.length ≤ 100000 := by rw [ht]; exact Nat.le_trans (trim_len p) hpll
        obtain ⟨u, hu⟩ : ∃ u, u = Hx.lower t := ⟨_, rfl⟩
        have HTT := Lib.hid ht; have HUU := Lib.hid hu
        rw [← ht, ← hu] at HC2
        have huc : (u == [99, 108, 111, 115, 101]) = decide (u = Hx.tClose) := by
          rw [Bool.eq_iff_iff, beq_iff_eq, decide_eq_true_iff]; exact Iff.rfl
        obtain ⟨X, hX⟩ : ∃ X, X = decide (u = Hx.tClose) := ⟨_, rfl⟩
        rw [← hX] at huc HC2
        clear ht hu hX
        go_wp2_with fail
        refine (trim_calls p _ (by omega)).mono ?_
        rintro e w8 ⟨rfl, hb⟩
        rw [← HTT.out]
        have F9 := Lib.hid (F8.out.below hb); have hBw9 := heap_lt F8.out.box
        have B9 := Lib.hid (B8.out.trans (hb.mono (by omega)))
        have P9 := Lib.hid ((hb.block _ (heap_lt PB.out)).trans PB.out)
        clear hb F8 B8 PB
        go_wp2_with fail
        refine (lower_calls t _ (by omega)).mono ?_
        rintro e w9 ⟨rfl, hb⟩
        rw [← HUU.out]
        have F10 := Lib.hid (F9.out.below hb); have hBw10 := heap_lt F9.out.box
        have B10 := Lib.hid (B9.out.trans (hb.mono (by omega)))
        have P10 := Lib.hid ((hb.block _ (heap_lt P9.out)).trans P9.out)
        obtain ⟨r0, r1, r2, r3, rf⟩ := F10.out.cells
        have rf3 := rf 3
        clear hb F9 B9 P9 q0 q1 q2 q3 qf3 b1 rf
        have FX := Lib.hid (F10.out.close X); have BX := Lib.hid (B10.out.setCell (p := ⟨B + 1, 3, none⟩) (by simp) (.bool X))
        have PX : Hid ((w9.setCell ⟨B + 1, 3, none⟩ (.bool X)).heap[wc.heap.size]? = some (.cells (PS.map strV).toArray 9 (0, 0))) := Lib.hid (by rw [Below.heap_setCell _ _ _ _ (by simp; omega)]; exact P10.out)
        go_wp2_with fail
        go_roundg (PS.length - (i + 1))
        case measure => have := HQ.out; omega
        case rel => exact ⟨i + 1, X, by go_num, rfl, by omega, Lib.hid (by rw [HC2.out, Bool.false_or]), FX, BX, PX⟩
    · have hik : i = PS.length := by omega
      subst hik
      have hltI : ¬ (PS.length : Int) < (PS.length : Int) := by omega
      have hfin : (f.close || PS.any fun p => decide (Hx.lower (Hx.trim p) = Hx.tClose)) = c := by
        rw [HC.out, List.drop_length]; simp
      have HY3 : Hid (Hx.field f l = some ⟨f.names ++ [N], f.values ++ [T], c⟩) := Lib.hid (by rw [HY2.out, ← HPS.out, hfin])
      clear hfin
      go_wp2_with fail
      go_ret
      exact FieldPost.yes HY3.out B8.out F8.out
end Go.Proofs.YthdmdafhldicmaaGreatDoor
