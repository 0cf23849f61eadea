/- WALKS: tree, whole; Query: a right query's JSON. -/
import Derived.Test.YtejlddimokmgjaaGreatDoorZDtv
import Derived.Test.YtejlddimokmgjaaGreatDoorGh
namespace Go.Proofs.YtejlddimokmgjaaGreatDoor
open Go.RowKit

theorem tree_calls : ∀ (N : Nat) (q : Dx.Qy) (cs : List Value) (w : World), Dx.count q ≤ N → Dx.count q ≤ 1000000 → QyAt w (fun g => g < w.heap.size) q cs →
    Calls Tryz.prog 65 #[.agg cs.toArray] w (MadeJ (Dx.tree q) w) := by
  intro N
  induction N with
  | zero => intro q _ _ h; have := count_pos q; omega
  | succ N ih =>
    intro q cs w hN hM hj
    obtain ⟨k, t, a, b, c⟩ := q
    obtain ⟨sa, sb, sc, rfl, ra, rb, rc⟩ := hj.rows
    obtain ⟨aa, ca, rfl⟩ := ra.shape
    obtain ⟨ab, cb, rfl⟩ := rb.shape
    obtain ⟨ac, cc, rfl⟩ := rc.shape
    by_cases h1 : k = 1
    · subst h1
      have e : Dx.tree (.mk 1 t a b c) = Dx.objJ Dx.tAll (.mk 6 false [] [] []) := by rw [Dx.tree, if_pos rfl]
      rw [e]
      exact tree_all t aa ab ac _ _ _ ca cb cc w
    by_cases h2 : k = 2
    · subst h2
      have e : Dx.tree (.mk 2 t a b c) = Dx.objJ Dx.tTerm (Dx.wordJ t) := by rw [Dx.tree, if_neg (by decide), if_pos rfl]
      rw [e]
      exact tree_term t aa ab ac _ _ _ ca cb cc w
    by_cases h3 : k = 3
    · subst h3
      have e : Dx.tree (.mk 3 t a b c) = Dx.objJ Dx.tPhrase (Dx.wordJ t) := by rw [Dx.tree, if_neg (by decide), if_neg (by decide), if_pos rfl]
      rw [e]
      exact tree_phrase t aa ab ac _ _ _ ca cb cc w
    by_cases h4 : k = 4
    · subst h4
      have e : Dx.tree (.mk 4 t a b c) = Dx.objJ Dx.tPrefix (Dx.wordJ t) := by rw [Dx.tree, if_neg (by decide), if_neg (by decide), if_neg (by decide), if_pos rfl]
      rw [e]
      exact tree_prefix t aa ab ac _ _ _ ca cb cc w
    have hN2 := hN
    have hM2 := hM
    simp only [Dx.count] at hN2 hM2
    exact tree_bool k t a b c aa ab ac ca cb cc w h1 h2 h3 h4 hM ra rb rc (fun x hx cs wr hx2 => by
      have hc : Dx.count x ≤ Dx.countK a + Dx.countK b + Dx.countK c := by
        rcases hx with hx | hx | hx
        · have := countK_mem hx; omega
        · have := countK_mem hx; omega
        · have := countK_mem hx; omega
      exact ih x cs wr (by omega) (by omega) hx2)

theorem fitKD {L : Nat} : ∀ {ks : List Cx.J}, (∀ k ∈ ks, Cx.fit L k) → Cx.fitK L ks
  | [], _ => by simp [Cx.fitK]
  | k :: ks, h => by
    unfold Cx.fitK
    exact ⟨h k (by simp), fitKD fun x hx => h x (by simp [hx])⟩

mutual
theorem tree_fit {L : Nat} (hL : 10 ≤ L) : ∀ q : Dx.Qy, Dx.qfit L q → Dx.count q ≤ L → Cx.fit L (Dx.tree q)
  | .mk k t a b c, hf, hc => by
    have h1 := countK_len a; have h2 := countK_len b; have h3 := countK_len c
    simp only [Dx.qfit] at hf
    simp only [Dx.count] at hc
    have nm : ∀ n : List UInt8, n.length ≤ 10 → ∀ x : Cx.J, Cx.fit L x → Cx.fit L (Dx.objJ n x) := fun n hn x hx => by
      unfold Dx.objJ Cx.fit
      exact ⟨by simp, by simp; omega, by simp; omega, by simp; omega, by unfold Cx.fitK; exact ⟨hx, by unfold Cx.fitK; trivial⟩⟩
    have wd : Cx.fit L (Dx.wordJ t) := Cx.fit_leaf hf.1
    rw [Dx.tree]
    split
    · exact nm _ (by decide) _ (by unfold Cx.fit; exact ⟨by simp, by simp, by simp, by simp, by unfold Cx.fitK; trivial⟩)
    split
    · exact nm _ (by decide) _ wd
    split
    · exact nm _ (by decide) _ wd
    split
    · exact nm _ (by decide) _ wd
    have ka := treeL_fit hL a hf.2.1 (by omega)
    have kb := treeL_fit hL b hf.2.2.1 (by omega)
    have kc := treeL_fit hL c hf.2.2.2 (by omega)
    have la := Dx.treeL_length a; have lb := Dx.treeL_length b; have lc := Dx.treeL_length c
    have lk : ∀ l : List Cx.J, Cx.fitK L l → l.length ≤ L → ∀ x ∈ Dx.addK l, Cx.fit L x := fun l hl hn x hx => by
      unfold Dx.addK at hx
      split at hx
      · cases hx
      · simp at hx; subst hx
        unfold Cx.fit
        exact ⟨by simp, by simp, by simp, hn, hl⟩
    have ln : ∀ n : List UInt8, n.length ≤ 10 → ∀ l : List Cx.J, ∀ x ∈ Dx.addN n l, x.length ≤ L := fun n hn l x hx => by
      unfold Dx.addN at hx
      split at hx
      · cases hx
      · simp at hx; subst hx; omega
    have z1 := addN_len Dx.tMust (Dx.treeL a); have z2 := addN_len Dx.tShould (Dx.treeL b); have z3 := addN_len Dx.tNot (Dx.treeL c)
    have y1 := addK_len (Dx.treeL a); have y2 := addK_len (Dx.treeL b); have y3 := addK_len (Dx.treeL c)
    refine nm _ (by decide) _ ?_
    unfold Cx.fit
    refine ⟨by simp, by simp only [List.length_append]; omega, fun n hn => ?_, by simp only [List.length_append]; omega, fitKD fun x hx => ?_⟩
    · rcases List.mem_append.1 hn with hn | hn
      · rcases List.mem_append.1 hn with hn | hn
        · exact ln _ (by decide) _ n hn
        · exact ln _ (by decide) _ n hn
      · exact ln _ (by decide) _ n hn
    · rcases List.mem_append.1 hx with hx | hx
      · rcases List.mem_append.1 hx with hx | hx
        · exact lk _ ka (by omega) x hx
        · exact lk _ kb (by omega) x hx
      · exact lk _ kc (by omega) x hx
theorem treeL_fit {L : Nat} (hL : 10 ≤ L) : ∀ l : List Dx.Qy, Dx.qfitK L l → Dx.countK l ≤ L → Cx.fitK L (Dx.treeL l)
  | [], _, _ => by simp [Dx.treeL, Cx.fitK]
  | q :: l, hf, hc => by
    simp only [Dx.qfitK] at hf
    simp only [Dx.countK] at hc
    unfold Dx.treeL Cx.fitK
    exact ⟨tree_fit hL q hf.1 (by omega), treeL_fit hL l hf.2 (by omega)⟩
end
mutual
/-- Texts of a right query are short. -/
theorem nodes_fit : ∀ q : Dx.Qy, Dx.nodesOk q = true → Dx.qfit 100000 q
  | .mk k t a b c, h => by
    simp only [Dx.nodesOk, Bool.and_eq_true] at h
    obtain ⟨⟨⟨ha, hb⟩, hc⟩, hn⟩ := h
    unfold Dx.qfit
    refine ⟨?_, nodesK_fit a ha, nodesK_fit b hb, nodesK_fit c hc⟩
    unfold Dx.nodeOk at hn
    split at hn
    · simp only [Bool.and_eq_true, decide_eq_true_eq] at hn; omega
    · split at hn
      · simp only [Bool.and_eq_true, decide_eq_true_eq] at hn; rw [hn.2]; simp
      · split at hn
        · simp only [decide_eq_true_eq] at hn; rw [hn]; simp
        · cases hn
theorem nodesK_fit : ∀ l : List Dx.Qy, Dx.nodesOkK l = true → Dx.qfitK 100000 l
  | [], _ => by unfold Dx.qfitK; trivial
  | q :: l, h => by
    simp only [Dx.nodesOkK, Bool.and_eq_true] at h
    unfold Dx.qfitK
    exact ⟨nodes_fit q h.1, nodesK_fit l h.2⟩
end
theorem right_fit {q : Dx.Qy} (h : Dx.right q = true) : Cx.fit 100000 (Dx.tree q) := by
  have := Dx.right_parts h
  exact tree_fit (by decide) q (nodes_fit q this.2.2) (by omega)

set_option maxRecDepth 100000 in
set_option maxHeartbeats 4000000 in
theorem queryD_calls (q : Dx.Qy) (cs : List Value) (w : World) (ok : Nat → Prop) (hM : Dx.count q ≤ 1000000) (hf : Dx.qfit maxLen q) (hj : QyAt w ok q cs) (hg : Glb w) (h8 : 8 ≤ w.heap.size) :
    Calls Tryz.prog 28 #[.agg cs.toArray] w fun e w' => e = .returned (.string ⟨(Dx.queryB q).toArray⟩) ∧ Below w.heap.size w w' := by
  obtain ⟨Q, hQ⟩ : ∃ Q, Q = q := ⟨_, rfl⟩
  obtain ⟨k, t, a, b, c⟩ := q
  obtain ⟨sa, sb, sc, rfl, ra, rb, rc⟩ := hj.all.rows
  obtain ⟨aa, ca, rfl⟩ := ra.shape
  obtain ⟨ab, cb, rfl⟩ := rb.shape
  obtain ⟨ac, cc, rfl⟩ := rc.shape
  rw [← hQ] at hj hM hf ⊢
  have J := Lib.hid hj.all; have HM := Lib.hid hM; have HF := Lib.hid hf; have HG := Lib.hid hg
  have HB0 := Lib.hid ((Below.refl w.heap.size w).alloc (Nat.le_refl _) (.cells #[.int .i64 k, .string ⟨t.toArray⟩, .slice aa a.length ca, .slice ab b.length cb, .slice ac c.length cc] 26))
  have BOX := Lib.hid (heap_alloc_new w (.cells #[.int .i64 k, .string ⟨t.toArray⟩, .slice aa a.length ca, .slice ab b.length cb, .slice ac c.length cc] 26))
  obtain ⟨R, hR⟩ : ∃ R, R = Dx.right Q := ⟨_, rfl⟩
  obtain ⟨T, hT⟩ : ∃ T : ByteArray, T = ⟨(Dx.queryB Q).toArray⟩ := ⟨_, rfl⟩
  rw [← hT]
  unfold Dx.queryB at hT
  have HR := Lib.hid hR; have HT := Lib.hid hT
  clear hQ ra rb rc hM hj hf hg hR hT
  go_enter Tryz.func28, Tryz.ntmps28
  go_wp2_with fail
  refine (qRight_calls Q [.int .i64 k, .string ⟨t.toArray⟩, .slice aa a.length ca, .slice ab b.length cb, .slice ac c.length cc] _ _ HM.out HF.out (J.out.below HB0.out) (HG.out.below HB0.out)).mono ?_
  rw [← HR.out]
  rintro e w1 ⟨rfl, hb⟩
  have HB1 := Lib.hid (HB0.out.trans (hb.mono HB0.out.size))
  obtain ⟨q0, q1, q2, q3, q4, _⟩ := cells5 ((hb.block _ (heap_lt BOX.out)).trans BOX.out)
  clear hb
  cases R with
  | false =>
    have hT : T = ⟨#[]⟩ := by rw [HT.out, if_neg (by rw [← HR.out]; decide)]
    have HT2 := Lib.hid hT
    clear hT
    go_wp2_with fail
    go_ret
    exact ⟨by rw [HT2.out]; rfl, HB1.out⟩
  | true =>
    have hT : T = ⟨(Cx.print (Dx.tree Q)).toArray⟩ := by rw [HT.out, if_pos HR.out.symm]
    have HT2 := Lib.hid hT; have FT := Lib.hid (right_fit HR.out.symm)
    clear hT
    go_wp2_with fail
    refine (tree_calls _ Q [.int .i64 k, .string ⟨t.toArray⟩, .slice aa a.length ca, .slice ab b.length cb, .slice ac c.length cc] w1 (Nat.le_refl _) HM.out (J.out.below HB1.out).all).mono ?_
    rintro e w2 ⟨cs, rfl, kj, km⟩
    obtain ⟨V, hV⟩ : ∃ V, V = Dx.tree Q := ⟨_, rfl⟩
    rw [← hV] at kj FT HT2
    have HB2 := Lib.hid (HB1.out.trans (km.mono HB1.out.size))
    obtain ⟨c0, c1, c2, c3, c4, rfl⟩ := five kj.length
    have KJ := Lib.hid kj
    clear kj km hV q0 q1 q2 q3 q4
    go_wp2_with fail
    refine (print_calls V [c0, c1, c2, c3, c4] w2 _ KJ.out FT.out (HG.out.below HB2.out) (Nat.le_trans h8 HB2.out.size)).mono ?_
    rw [← HT2.out]
    rintro e w3 ⟨rfl, hb⟩
    have HB3 := Lib.hid (HB2.out.trans (hb.mono HB2.out.size))
    clear hb
    go_wp2_with fail
    go_ret
    exact ⟨rfl, HB3.out⟩
end Go.Proofs.YtejlddimokmgjaaGreatDoor
