/- WALKS: Right, Print. -/
import Derived.Test.YtbdmepilmoomeaaGreatDoorRt
import Derived.Test.YtbdmepilmoomeaaGreatDoorWr
namespace Go.Proofs.YtbdmepilmoomeaaGreatDoor
open Go.RowKit

theorem right_calls : ∀ (m d : Nat), d + m = 20 → ∀ (v : Cx.J) (cs : List Value) (w : World) (ok : Nat → Prop), JAt w ok v cs → fit maxLen v → Cx.nodes v ≤ 5000 → Glb w → 8 ≤ w.heap.size →
    Calls Tryz.prog 42 #[.agg cs.toArray, .int .i64 d] w fun e w' => e = .returned (.bool (Cx.right d v)) ∧ Below w.heap.size w w'
  | 0, d, hm, v, cs, w, ok, hj, hf, hN, hg, h8 => right_step d (by omega) (fun h => by omega) v cs w ok hj hf hN hg h8
  | m + 1, d, hm, v, cs, w, ok, hj, hf, hN, hg, h8 => right_step d (by omega) (fun _ v cs w ok hj hf hN hg h8 => by
      have := right_calls m (d + 1) (by omega) v cs w ok hj hf hN hg h8
      rw [show ((d + 1 : Nat) : Int) = (d : Int) + 1 by omega] at this
      exact this) v cs w ok hj hf hN hg h8

set_option maxRecDepth 100000 in
set_option maxHeartbeats 2000000 in
theorem Right_calls (v : Cx.J) (cs : List Value) (w : World) (ok : Nat → Prop) (hj : JAt w ok v cs) (hf : fit maxLen v) (hg : Glb w) (h8 : 8 ≤ w.heap.size) :
    Calls Tryz.prog 18 #[.agg cs.toArray] w fun e w' => e = .returned (.bool (Cx.Right v)) ∧ Below w.heap.size w w' := by
  cases v with
  | mk k is t ns ks =>
  obtain ⟨a, nc, a', kc, rfl⟩ := hj.shape
  have J := Lib.hid hj.all; have F := Lib.hid hf; have HG := Lib.hid hg
  have HB := Lib.hid ((Below.refl w.heap.size w).alloc (Nat.le_refl _) (.cells #[.int .i64 k, .bool is, .string ⟨t.toArray⟩, .slice a ns.length nc, .slice a' ks.length kc] 26))
  have HBX := Lib.hid (fun (w' : World) (hb : Below (w.alloc (.cells #[.int .i64 k, .bool is, .string ⟨t.toArray⟩, .slice a ns.length nc, .slice a' ks.length kc] 26)).heap.size (w.alloc (.cells #[.int .i64 k, .bool is, .string ⟨t.toArray⟩, .slice a ns.length nc, .slice a' ks.length kc] 26)) w') =>
      (show w'.heap[w.heap.size]? = some (.cells #[.int .i64 k, .bool is, .string ⟨t.toArray⟩, .slice a ns.length nc, .slice a' ks.length kc] 26 (0, 0)) from (hb.block _ (by simp)).trans (heap_alloc_new w _)))
  clear hj hf hg
  obtain ⟨RES, hRES⟩ : ∃ RES, RES = Cx.Right (.mk k is t ns ks) := ⟨_, rfl⟩
  rw [← hRES]
  have HR := Lib.hid hRES
  clear hRES
  go_enter Tryz.func18, Tryz.ntmps18
  go_wp2_with fail
  refine (many_calls _ (.mk k is t ns ks) [.int .i64 k, .bool is, .string ⟨t.toArray⟩, .slice a ns.length nc, .slice a' ks.length kc] 5000 _ _ (Nat.le_refl _) (J.out.below HB.out) (by omega) F.out).mono ?_
  rintro e w5 ⟨rfl, hb5⟩
  have HB5 := Lib.hid (HB.out.trans (hb5.mono HB.out.size))
  obtain ⟨q0, q1, q2, q3, q4, _⟩ := cells5 (HBX.out _ hb5)
  clear hb5
  by_cases hn : Cx.nodes (.mk k is t ns ks) ≤ 5000
  · have hfin : RES = Cx.right 0 (.mk k is t ns ks) := by rw [HR.out]; unfold Cx.Right; rw [decide_eq_true hn, Bool.true_and]
    have HFIN := Lib.hid hfin; have HN := Lib.hid hn
    obtain ⟨N, hNe⟩ : ∃ N : Nat, N = min (Cx.nodes (.mk k is t ns ks)) (5000 + 1) := ⟨_, rfl⟩
    rw [← hNe]
    have hnl : (N : Int) ≤ 5000 := by omega
    clear hn hfin hNe
    go_wp2_with fail
    refine (show Calls Tryz.prog 42 #[.agg #[.int .i64 k, .bool is, .string ⟨t.toArray⟩, .slice a ns.length nc, .slice a' ks.length kc], .int .i64 0] _ _ from right_calls 20 0 (by omega) (.mk k is t ns ks) [.int .i64 k, .bool is, .string ⟨t.toArray⟩, .slice a ns.length nc, .slice a' ks.length kc] _ _ (J.out.below HB5.out) F.out HN.out (HG.out.below HB5.out) (Nat.le_trans h8 HB5.out.size)).mono ?_
    rintro e w6 ⟨rfl, hb6⟩
    have HB6 := Lib.hid (HB5.out.trans (hb6.mono HB5.out.size))
    clear hb6
    rw [← HFIN.out]
    go_wp2
    go_ret
    exact ⟨rfl, HB6.out⟩
  · have hfin : RES = false := by rw [HR.out]; unfold Cx.Right; rw [decide_eq_false hn, Bool.false_and]
    obtain ⟨N, hNe⟩ : ∃ N : Nat, N = min (Cx.nodes (.mk k is t ns ks)) (5000 + 1) := ⟨_, rfl⟩
    rw [← hNe]
    have hnl : ¬ (N : Int) ≤ 5000 := by omega
    clear hn hNe
    subst hfin
    go_wp2_with fail
    go_ret
    exact ⟨rfl, HB5.out⟩

theorem write_all (B c : Nat) : ∀ N, WrIH B c N
  | 0 => fun v _ _ _ _ h => by have := nodes_pos v; omega
  | N + 1 => fun v cs d l w hN hr hf hj hb hB hlen => by
    cases v with
    | mk k is t ns ks =>
    obtain ⟨a, nc, a', kc, rfl⟩ := hj.shape
    have hk : k = 1 ∨ k = 2 ∨ k = 3 ∨ k = 4 ∨ k = 5 ∨ k = 6 := by
      by_cases h1 : k = 1; · exact .inl h1
      by_cases h2 : k = 2; · exact .inr (.inl h2)
      by_cases h3 : k = 3; · exact .inr (.inr (.inl h3))
      by_cases h4 : k = 4; · exact .inr (.inr (.inr (.inl h4)))
      by_cases h5 : k = 5; · exact .inr (.inr (.inr (.inr (.inl h5))))
      by_cases h6 : k = 6; · exact .inr (.inr (.inr (.inr (.inr h6))))
      unfold Cx.right at hr
      rw [if_neg h1, if_neg h2, if_neg h3, if_neg h4, if_neg h5, if_neg h6] at hr
      cases hr
    rcases hk with h | h | h | h | h | h
    · exact write_leaf B c k is t ns ks a nc a' kc d l w (.inl h) hf hb hB hlen
    · exact write_leaf B c k is t ns ks a nc a' kc d l w (.inr (.inl h)) hf hb hB hlen
    · exact write_leaf B c k is t ns ks a nc a' kc d l w (.inr (.inr (.inl h))) hf hb hB hlen
    · exact write_leaf B c k is t ns ks a nc a' kc d l w (.inr (.inr (.inr h))) hf hb hB hlen
    · subst h; exact write_list B c N (write_all B c N) is t ns ks a nc a' kc d l w hN hr hf hj hb hB hlen
    · subst h; exact write_object B c N (write_all B c N) is t ns ks a nc a' kc d l w hN hr hf hj hb hB hlen

mutual
theorem fit_le {L M : Nat} (h : L ≤ M) : ∀ v : Cx.J, fit L v → fit M v
  | .mk k is t ns ks, hf => by
    unfold fit Cx.fit at hf ⊢
    exact ⟨Nat.le_trans hf.1 h, Nat.le_trans hf.2.1 h, fun n hn => Nat.le_trans (hf.2.2.1 n hn) h, Nat.le_trans hf.2.2.2.1 h, fitK_le h ks hf.2.2.2.2⟩
theorem fitK_le {L M : Nat} (h : L ≤ M) : ∀ ks : List Cx.J, fitK L ks → fitK M ks
  | [], _ => by unfold fitK Cx.fitK; trivial
  | k :: ks, hf => by
    unfold fitK Cx.fitK at hf ⊢
    exact ⟨fit_le h k hf.1, fitK_le h ks hf.2⟩
end

set_option maxRecDepth 100000 in
set_option maxHeartbeats 2000000 in
theorem print_calls (v : Cx.J) (cs : List Value) (w : World) (ok : Nat → Prop) (hj : JAt w ok v cs) (hf : fit 100000 v) (hg : Glb w) (h8 : 8 ≤ w.heap.size) :
    Calls Tryz.prog 12 #[.agg cs.toArray] w fun e w' => e = .returned (.string ⟨(Cx.print v).toArray⟩) ∧ Below w.heap.size w w' := by
  cases v with
  | mk k is t ns ks =>
  obtain ⟨a, nc, a', kc, rfl⟩ := hj.shape
  have J := Lib.hid hj.all; have F := Lib.hid hf; have HG := Lib.hid hg
  have F2 := Lib.hid (fit_le (show 100000 ≤ maxLen by unfold maxLen; omega) _ hf)
  have HB := Lib.hid ((Below.refl w.heap.size w).alloc (Nat.le_refl _) (.cells #[.int .i64 k, .bool is, .string ⟨t.toArray⟩, .slice a ns.length nc, .slice a' ks.length kc] 26))
  have HBX := Lib.hid (fun (w' : World) (hb : Below (w.alloc (.cells #[.int .i64 k, .bool is, .string ⟨t.toArray⟩, .slice a ns.length nc, .slice a' ks.length kc] 26)).heap.size (w.alloc (.cells #[.int .i64 k, .bool is, .string ⟨t.toArray⟩, .slice a ns.length nc, .slice a' ks.length kc] 26)) w') =>
      (show w'.heap[w.heap.size]? = some (.cells #[.int .i64 k, .bool is, .string ⟨t.toArray⟩, .slice a ns.length nc, .slice a' ks.length kc] 26 (0, 0)) from (hb.block _ (by simp)).trans (heap_alloc_new w _)))
  clear hj hf hg
  cases hR : Cx.Right (.mk k is t ns ks) with
  | false =>
    have hp : Cx.print (.mk k is t ns ks) = [] := by unfold Cx.print; rw [hR]; rfl
    rw [hp]
    have HR := Lib.hid hR
    clear hR hp
    go_enter Tryz.func12, Tryz.ntmps12
    go_wp2_with fail
    refine (Right_calls (.mk k is t ns ks) [.int .i64 k, .bool is, .string ⟨t.toArray⟩, .slice a ns.length nc, .slice a' ks.length kc] _ _ (J.out.below HB.out) F2.out (HG.out.below HB.out) (Nat.le_trans h8 HB.out.size)).mono ?_
    rintro e w5 ⟨rfl, hb5⟩
    have HB5 := Lib.hid (HB.out.trans (hb5.mono HB.out.size))
    rw [HR.out]
    clear hb5
    go_wp2
    go_ret
    exact ⟨rfl, HB5.out⟩
  | true =>
    have hp : Cx.print (.mk k is t ns ks) = Cx.pr (.mk k is t ns ks) := by unfold Cx.print; rw [hR]; rfl
    rw [hp]
    have hlen : (Cx.pr (.mk k is t ns ks)).length ≤ 140737488355328 := by
      have h1 := Cx.pr_length 100000 _ F.out
      unfold Cx.Right at hR
      simp only [Bool.and_eq_true, decide_eq_true_eq] at hR
      have h2 := hR.1
      have h3 : (12 * 100000 + 20) * Cx.nodes (.mk k is t ns ks) ≤ (12 * 100000 + 20) * 5000 := Nat.mul_le_mul_left _ h2
      omega
    have hr0 : Cx.right 0 (.mk k is t ns ks) = true := by
      unfold Cx.Right at hR
      simp only [Bool.and_eq_true] at hR
      exact hR.2
    have HL := Lib.hid hlen; have HR0 := Lib.hid hr0
    have HR := Lib.hid hR
    clear hR hp hlen hr0
    go_enter Tryz.func12, Tryz.ntmps12
    go_wp2_with fail
    refine (Right_calls (.mk k is t ns ks) [.int .i64 k, .bool is, .string ⟨t.toArray⟩, .slice a ns.length nc, .slice a' ks.length kc] _ _ (J.out.below HB.out) F2.out (HG.out.below HB.out) (Nat.le_trans h8 HB.out.size)).mono ?_
    rintro e w5 ⟨rfl, hb5⟩
    have HB5 := Lib.hid (HB.out.trans (hb5.mono HB.out.size))
    obtain ⟨q0, q1, q2, q3, q4, _⟩ := cells5 (HBX.out _ hb5)
    have hsz : w.heap.size < w5.heap.size := heap_lt (HBX.out _ hb5)
    rw [HR.out]
    clear hb5
    go_wp2_with fail
    have hbf := Bld.fresh w5
    have HBF := Lib.hid hbf
    have hb6 := HB5.out.alloc HB5.out.size (.cells #[.pointer none, .slice none 0 0] 63)
    have HB6 := Lib.hid hb6
    have hj6 := (J.out.below HB5.out).all
    have hj7 : JAt (w5.alloc (.cells #[.pointer none, .slice none 0 0] 63)) (fun g => g < w5.heap.size) (.mk k is t ns ks) [.int .i64 k, .bool is, .string ⟨t.toArray⟩, .slice a ns.length nc, .slice a' ks.length kc] :=
      hj6.below ((Below.refl w5.heap.size w5).alloc (Nat.le_refl _) _)
    refine (write_all w5.heap.size w5.heap.size _ (.mk k is t ns ks) [.int .i64 k, .bool is, .string ⟨t.toArray⟩, .slice a ns.length nc, .slice a' ks.length kc] 0 [] _ (Nat.le_refl _) HR0.out F.out hj7 HBF.out (by simp) (by have := HL.out; simpa using this)).mono ?_
    rintro e w7 ⟨rfl, k1, k2, _⟩
    have K1 := Lib.hid k1
    have K2 := Lib.hid (HB6.out.trans ((show Below w.heap.size _ _ from k2.mono HB5.out.size)))
    have hs7 : w5.heap.size ≤ w7.heap.size := Nat.le_of_lt (k1.lt).2
    clear k1 k2 hbf hb6 hj6 hj7 q0 q1 q2 q3 q4
    go_wp2_with fail
    refine (string_calls w5.heap.size w5.heap.size _ _ K1.out hs7).mono ?_
    rintro e w8 ⟨rfl, _, k2, _⟩
    have K3 := Lib.hid (K2.out.trans (k2.mono HB5.out.size))
    clear k2
    go_wp2
    go_ret
    exact ⟨by simp, K3.out⟩
end Go.Proofs.YtbdmepilmoomeaaGreatDoor
