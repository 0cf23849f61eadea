/- WALKS: right. -/
import Derived.Test.YtbdmepilmoomeaaGreatDoorRc
namespace Go.Proofs.YtbdmepilmoomeaaGreatDoor
open Go.RowKit

theorem empty_lengths (ns : List (List UInt8)) (ks : List Cx.J) : decide (ns.length + ks.length = 0) = (decide (ns = []) && ks.isEmpty) := by
  rw [Bool.eq_iff_iff]
  simp [List.isEmpty_iff]

theorem rightK_any (d : Nat) (ks : List Cx.J) : (!(ks.any fun k => !Cx.right d k)) = Cx.rightK d ks := by
  induction ks with
  | nil => rfl
  | cons k ks ih => unfold Cx.rightK; rw [← ih, List.any_cons]; cases Cx.right d k <;> simp

/-- The call over the kids, in the world behind the two boxes. -/
theorem kids_calls (d : Nat) (hd : d ≤ 20) (x : Int) (is : Bool) (t : List UInt8) (ns : List (List UInt8)) (ks : List Cx.J) (x0 x1 x2 x3 : Value) (a' : Option Addr) (kc : Nat) (w w1 : World) (hw1 : Below w.heap.size w w1) (hs1 : w1.heap.size = w.heap.size + 1)
    (ih : ∀ (v : Cx.J) (cs : List Value) (w : World) (ok : Nat → Prop), JAt w ok v cs → fit maxLen v → Cx.nodes v ≤ 5000 → Glb w → 8 ≤ w.heap.size →
      Calls Tryz.prog 42 #[.agg cs.toArray, .int .i64 ((d : Int) + 1)] w fun e w' => e = .returned (.bool (Cx.right (d + 1) v)) ∧ Below w.heap.size w w')
    (hj : JAt w (fun g => g < w.heap.size) (.mk x is t ns ks) [x0, x1, x2, x3, .slice a' ks.length kc]) (hf : fit maxLen (.mk x is t ns ks)) (hN : Cx.nodes (.mk x is t ns ks) ≤ 5000) (hg : Glb w) (h8 : 8 ≤ w.heap.size) :
    Calls Tryz.prog 75 #[.slice a' ks.length kc, .func (.func 76) #[] #[.pointer (some ⟨w.heap.size + 1, 0, none⟩)]] (w1.alloc (.cells #[.int .i64 d] 3)) fun e w' =>
      e = .returned (.bool (ks.any fun k => !Cx.right (d + 1) k)) ∧ Below w.heap.size w w' := by
  have hw2 := hw1.alloc hw1.size (.cells #[.int .i64 d] 3)
  refine (containsF_calls (fun k => !Cx.right (d + 1) k) _ x is t ns ks x0 x1 x2 x3 a' kc _ _ (hj.below hw2) hf.2.2.2.1 ?_).mono ?_
  · intro wr i k cs hk hb hjk
    have hD : wr.heap[w.heap.size + 1]? = some (.cells #[.int .i64 d] 3 (0, 0)) := by
      rw [← hs1]
      exact (hb.block _ (by simp)).trans (heap_alloc_new w1 _)
    have hb' : Below w.heap.size w wr := hw2.trans (hb.mono hw2.size)
    exact closure_calls d _ k cs wr _ hD hd ih hjk (fitK_get hf.2.2.2.2 hk) (by have := (nodesK_get hk).2; simp only [Cx.nodes] at hN; omega) (hg.below hb') (Nat.le_trans h8 hb'.size)
  · rintro e w' ⟨rfl, hb⟩
    exact ⟨rfl, hw2.trans (hb.mono hw2.size)⟩

/-- The call over the kids, in whatever later world. -/
theorem kids_calls2 (d : Nat) (hd : d ≤ 20) (x : Int) (is : Bool) (t : List UInt8) (ns : List (List UInt8)) (ks : List Cx.J) (x0 x1 x2 x3 : Value) (a' : Option Addr) (kc : Nat) (w wA : World) (D : Nat) (hA : Below w.heap.size w wA) (hD : wA.heap[D]? = some (.cells #[.int .i64 d] 3 (0, 0)))
    (ih : ∀ (v : Cx.J) (cs : List Value) (w : World) (ok : Nat → Prop), JAt w ok v cs → fit maxLen v → Cx.nodes v ≤ 5000 → Glb w → 8 ≤ w.heap.size →
      Calls Tryz.prog 42 #[.agg cs.toArray, .int .i64 ((d : Int) + 1)] w fun e w' => e = .returned (.bool (Cx.right (d + 1) v)) ∧ Below w.heap.size w w')
    (hj : JAt w (fun g => g < w.heap.size) (.mk x is t ns ks) [x0, x1, x2, x3, .slice a' ks.length kc]) (hf : fit maxLen (.mk x is t ns ks)) (hN : Cx.nodes (.mk x is t ns ks) ≤ 5000) (hg : Glb w) (h8 : 8 ≤ w.heap.size) :
    Calls Tryz.prog 75 #[.slice a' ks.length kc, .func (.func 76) #[] #[.pointer (some ⟨D, 0, none⟩)]] wA fun e w' =>
      e = .returned (.bool (ks.any fun k => !Cx.right (d + 1) k)) ∧ Below w.heap.size w w' := by
  refine (containsF_calls (fun k => !Cx.right (d + 1) k) _ x is t ns ks x0 x1 x2 x3 a' kc _ _ (hj.below hA) hf.2.2.2.1 ?_).mono ?_
  · intro wr i k cs hk hb hjk
    have hD2 : wr.heap[D]? = some (.cells #[.int .i64 d] 3 (0, 0)) := (hb.block _ (heap_lt hD)).trans hD
    have hb' : Below w.heap.size w wr := hA.trans (hb.mono hA.size)
    exact closure_calls d _ k cs wr _ hD2 hd ih hjk (fitK_get hf.2.2.2.2 hk) (by have := (nodesK_get hk).2; simp only [Cx.nodes] at hN; omega) (hg.below hb') (Nat.le_trans h8 hb'.size)
  · rintro e w' ⟨rfl, hb⟩
    exact ⟨rfl, hA.trans (hb.mono hA.size)⟩

theorem nodesK_length : ∀ ks : List Cx.J, ks.length ≤ Cx.nodesK ks
  | [] => by simp
  | k :: ks => by
    have := nodesK_length ks; have := nodes_pos k
    simp only [List.length_cons, Cx.nodesK]; omega

set_option maxRecDepth 100000 in
set_option maxHeartbeats 4000000 in
theorem right_step (d : Nat) (hd : d ≤ 20) (ih : d < 20 → ∀ (v : Cx.J) (cs : List Value) (w : World) (ok : Nat → Prop), JAt w ok v cs → fit maxLen v → Cx.nodes v ≤ 5000 → Glb w → 8 ≤ w.heap.size →
      Calls Tryz.prog 42 #[.agg cs.toArray, .int .i64 ((d : Int) + 1)] w fun e w' => e = .returned (.bool (Cx.right (d + 1) v)) ∧ Below w.heap.size w w')
    (v : Cx.J) (cs : List Value) (w : World) (ok : Nat → Prop) (hj : JAt w ok v cs) (hf : fit maxLen v) (hN : Cx.nodes v ≤ 5000) (hg : Glb w) (h8 : 8 ≤ w.heap.size) :
    Calls Tryz.prog 42 #[.agg cs.toArray, .int .i64 d] w fun e w' => e = .returned (.bool (Cx.right d v)) ∧ Below w.heap.size w w' := by
    have hmf : ∀ (fn : Fn) (first cap : Array Value) (w : World), (Instr.makeFunc fn first cap).run Tryz.prog w = .ok (.func fn first cap) w := fun _ _ _ _ => rfl
    cases v with
    | mk k is t ns ks =>
    obtain ⟨a, nc, a', kc, rfl⟩ := hj.shape
    obtain ⟨RES, hRES⟩ : ∃ RES, RES = Cx.right d (.mk k is t ns ks) := ⟨_, rfl⟩
    rw [← hRES]
    unfold Cx.right at hRES
    have hnl : ns.length ≤ maxLen := hf.2.1
    have hkl : ks.length ≤ maxLen := hf.2.2.2.1
    have HR := Lib.hid hRES; have HG := Lib.hid hg; have J := Lib.hid hj.all; have F := Lib.hid hf; have HN := Lib.hid hN; have IH := Lib.hid ih
    have HNL := Lib.hid hnl; have HKL := Lib.hid hkl
    have HB := Lib.hid (fun o => ((Below.refl w.heap.size w).alloc (Nat.le_refl _) (.cells #[.int .i64 k, .bool is, .string ⟨t.toArray⟩, .slice a ns.length nc, .slice a' ks.length kc] 26)).alloc (by simp) o)
    have HBX := Lib.hid (fun (o : Obj) (w' : World) (hb : Below ((w.alloc (.cells #[.int .i64 k, .bool is, .string ⟨t.toArray⟩, .slice a ns.length nc, .slice a' ks.length kc] 26)).alloc o).heap.size ((w.alloc (.cells #[.int .i64 k, .bool is, .string ⟨t.toArray⟩, .slice a ns.length nc, .slice a' ks.length kc] 26)).alloc o) w') =>
      (show w'.heap[w.heap.size]? = some (.cells #[.int .i64 k, .bool is, .string ⟨t.toArray⟩, .slice a ns.length nc, .slice a' ks.length kc] 26 (0, 0)) from (hb.block _ (by simp; omega)).trans ((Below.heap_alloc _ _ _ (by simp)).trans (heap_alloc_new w _))))
    clear hRES hg hj hf hN ih hnl hkl
    by_cases h1 : k = 1
    · subst h1
      have hr := HR.out
      rw [if_pos rfl] at hr
      have HRA := Lib.hid hr
      clear hr HR hmf
      go_enter Tryz.func42, Tryz.ntmps42
      go_wp2_with fail
      refine (bare_calls 1 is t a ns.length nc a' ks.length kc [] false _ HNL.out HKL.out).mono ?_
      rintro e w5 ⟨rfl, hb5⟩
      have HB5 := Lib.hid ((HB.out _).trans (hb5.mono (by simp; omega)))
      obtain ⟨q0, q1, q2, q3, q4, _⟩ := cells5 (HBX.out _ _ hb5)
      clear hb5
      rw [empty_lengths]
      have e : (decide (t = []) && (is == false) && (decide (ns = []) && ks.isEmpty)) = RES := by
        rw [HRA.out]
        cases is <;> cases (decide (t = [])) <;> cases (decide (ns = [])) <;> cases ks.isEmpty <;> rfl
      rw [e]
      go_wp2
      go_ret
      exact ⟨rfl, HB5.out⟩
    by_cases h2 : k = 2
    · subst h2
      have hr := HR.out
      rw [if_neg (by decide), if_pos rfl] at hr
      have HRA := Lib.hid hr
      clear hr HR hmf
      go_enter Tryz.func42, Tryz.ntmps42
      go_wp2_with fail
      refine (bare_calls 2 is t a ns.length nc a' ks.length kc [] is _ HNL.out HKL.out).mono ?_
      rintro e w5 ⟨rfl, hb5⟩
      have HB5 := Lib.hid ((HB.out _).trans (hb5.mono (by simp; omega)))
      obtain ⟨q0, q1, q2, q3, q4, _⟩ := cells5 (HBX.out _ _ hb5)
      clear hb5
      rw [empty_lengths]
      have e : (decide (t = []) && (is == is) && (decide (ns = []) && ks.isEmpty)) = RES := by
        rw [HRA.out]
        cases is <;> cases (decide (t = [])) <;> cases (decide (ns = [])) <;> cases ks.isEmpty <;> rfl
      rw [e]
      go_wp2
      go_ret
      exact ⟨rfl, HB5.out⟩
    by_cases h3 : k = 3
    · subst h3
      have hr := HR.out
      rw [if_neg (by decide), if_neg (by decide), if_pos rfl] at hr
      have HRA := Lib.hid hr
      clear hr HR hmf
      go_enter Tryz.func42, Tryz.ntmps42
      go_wp2_with fail
      refine (bare_calls 3 is t a ns.length nc a' ks.length kc t false _ HNL.out HKL.out).mono ?_
      rintro e w5 ⟨rfl, hb5⟩
      have HB5 := Lib.hid ((HB.out _).trans (hb5.mono (by simp; omega)))
      obtain ⟨q0, q1, q2, q3, q4, _⟩ := cells5 (HBX.out _ _ hb5)
      clear hb5
      rw [empty_lengths]
      have e : (decide (t = t) && (is == false) && (decide (ns = []) && ks.isEmpty)) = (!is && decide (ns = []) && ks.isEmpty) := by
        cases is <;> simp
      rw [e]
      clear e
      cases hx : (!is && decide (ns = []) && ks.isEmpty) with
      | false =>
        have hfin : RES = false := by rw [HRA.out, hx]; rfl
        subst hfin
        clear hx
        go_wp2
        go_ret
        exact ⟨rfl, HB5.out⟩
      | true =>
        have hfin : RES = decide (Cx.isNum t) := by rw [HRA.out, hx]; rfl
        have HFIN := Lib.hid hfin
        clear hx hfin
        go_wp2_with fail
        refine (isNumber_calls t _ (HG.out.below HB5.out) (Nat.le_trans h8 HB5.out.size)).mono ?_
        rintro e w6 ⟨rfl, hb6⟩
        have HB6 := Lib.hid (HB5.out.trans (hb6.mono HB5.out.size))
        clear hb6
        rw [show decide (Cx.isNum t) = RES by rw [HFIN.out]]
        go_wp2
        go_ret
        exact ⟨rfl, HB6.out⟩
    by_cases h4 : k = 4
    · subst h4
      have hr := HR.out
      rw [if_neg (by decide), if_neg (by decide), if_neg (by decide), if_pos rfl] at hr
      have HRA := Lib.hid hr
      clear hr HR hmf
      go_enter Tryz.func42, Tryz.ntmps42
      go_wp2_with fail
      refine (bare_calls 4 is t a ns.length nc a' ks.length kc t false _ HNL.out HKL.out).mono ?_
      rintro e w5 ⟨rfl, hb5⟩
      have HB5 := Lib.hid ((HB.out _).trans (hb5.mono (by simp; omega)))
      obtain ⟨q0, q1, q2, q3, q4, _⟩ := cells5 (HBX.out _ _ hb5)
      clear hb5
      rw [empty_lengths]
      have e : (decide (t = t) && (is == false) && (decide (ns = []) && ks.isEmpty)) = (!is && decide (ns = []) && ks.isEmpty) := by
        cases is <;> simp
      rw [e]
      clear e
      cases hx : (!is && decide (ns = []) && ks.isEmpty) with
      | false =>
        have hfin : RES = false := by rw [HRA.out, hx]; rfl
        subst hfin
        clear hx
        go_wp2
        go_ret
        exact ⟨rfl, HB5.out⟩
      | true =>
        have hfin : RES = Cx.valid t := by rw [HRA.out, hx]; rfl
        have HFIN := Lib.hid hfin
        clear hx hfin
        go_wp2_with fail
        refine (valid_calls ⟨t.toArray⟩ _ (HG.out.below HB5.out) (show t.toArray.size ≤ maxLen by simpa using F.out.1)).mono ?_
        rintro e w6 ⟨rfl, hb6⟩
        have HB6 := Lib.hid (HB5.out.trans (hb6.mono HB5.out.size))
        clear hb6
        rw [show Cx.valid (⟨t.toArray⟩ : ByteArray).data.toList = RES by rw [HFIN.out]]
        go_wp2
        go_ret
        exact ⟨rfl, HB6.out⟩
    by_cases h5 : k = 5
    · subst h5
      have hr := HR.out
      rw [if_neg (by decide), if_neg (by decide), if_neg (by decide), if_neg (by decide), if_pos rfl] at hr
      have HRA := Lib.hid hr
      clear hr HR
      by_cases hns : ns = []
      · have hl : ¬ (0 : Int) < (ns.length : Int) := by rw [hns]; simp
        have hr := HRA.out
        rw [hns, show decide (([] : List Cx.Bytes) = []) = true from rfl, Bool.true_and] at hr
        have HRB := Lib.hid hr
        clear hr HRA hns
        by_cases ht : t = []
        · subst ht
          cases is with
          | true =>
            have hfin : RES = false := by rw [HRB.out]; simp
            subst hfin
            go_enter Tryz.func42, Tryz.ntmps42
            go_wp2_with fail
            go_ret
            exact ⟨rfl, HB.out _⟩
          | false =>
            by_cases hdd : d < 20
            · have hdl : (d : Int) < 20 := by omega
              have hfin : RES = Cx.rightK (d + 1) ks := by rw [HRB.out]; simp [hdd]
              have HFIN := Lib.hid hfin
              have IHd := Lib.hid (IH.out hdd)
              clear hfin HRB IH
              go_enter Tryz.func42, Tryz.ntmps42
              go_wp2_with fail
              refine (kids_calls d hd 5 false [] ns ks _ _ _ _ a' kc w _ ((Below.refl _ w).alloc (Nat.le_refl _) _) (by simp) IHd.out J.out F.out HN.out HG.out h8).mono ?_
              rintro e w5 ⟨rfl, hb5⟩
              have HB5 := Lib.hid hb5
              clear hb5
              have hfin2 := HFIN.out
              rw [← rightK_any] at hfin2
              generalize (ks.any fun k => !Cx.right (d + 1) k) = r at hfin2 ⊢
              subst hfin2
              go_wp2
              go_ret
              exact ⟨rfl, HB5.out⟩
            · have hdl : ¬ (d : Int) < 20 := by omega
              have hfin : RES = false := by rw [HRB.out]; simp [hdd]
              subst hfin
              go_enter Tryz.func42, Tryz.ntmps42
              go_wp2_with fail
              go_ret
              exact ⟨rfl, HB.out _⟩
        · have hfin : RES = false := by rw [HRB.out]; simp [ht]
          subst hfin
          go_enter Tryz.func42, Tryz.ntmps42
          go_wp2_with fail
          go_ret
          exact ⟨rfl, HB.out _⟩
      · have hl : (0 : Int) < (ns.length : Int) := by
          have : ns.length ≠ 0 := fun e => hns (List.length_eq_zero_iff.1 e)
          omega
        have hfin : RES = false := by rw [HRA.out]; simp [hns]
        clear hns
        subst hfin
        go_enter Tryz.func42, Tryz.ntmps42
        go_wp2_with fail
        go_ret
        exact ⟨rfl, HB.out _⟩
    by_cases h6 : k = 6
    · subst h6
      have hr := HR.out
      rw [if_neg (by decide), if_neg (by decide), if_neg (by decide), if_neg (by decide), if_neg (by decide), if_pos rfl] at hr
      have HRA := Lib.hid hr
      clear hr HR
      by_cases hlen : ns.length = ks.length
      · have hl : ((ns.length : Int) == (ks.length : Int)) = true := by simp [hlen]
        have hr := HRA.out
        rw [show decide (ns.length = ks.length) = true by simpa using hlen, Bool.true_and] at hr
        have HRB := Lib.hid hr; have HLEN := Lib.hid hlen
        clear hr HRA
        have hl' : decide (ns.length = ks.length) = true := by simpa using hlen
        clear hlen
        go_enter Tryz.func42, Tryz.ntmps42
        have hno : ns.length ≤ 200000 := by
          have h1 := nodesK_length ks; have h2 := HN.out
          have h3 := HLEN.out
          simp only [Cx.nodes] at h2; omega
        have HNO := Lib.hid hno
        have HBD := Lib.hid (fun (w' : World) (hb : Below ((w.alloc (.cells #[.int .i64 6, .bool is, .string ⟨t.toArray⟩, .slice a ns.length nc, .slice a' ks.length kc] 26)).alloc (.cells #[.int .i64 d] 3)).heap.size ((w.alloc (.cells #[.int .i64 6, .bool is, .string ⟨t.toArray⟩, .slice a ns.length nc, .slice a' ks.length kc] 26)).alloc (.cells #[.int .i64 d] 3)) w') =>
          (show w'.heap[w.heap.size + 1]? = some (.cells #[.int .i64 d] 3 (0, 0)) from (hb.block _ (by simp)).trans (by have := heap_alloc_new (w.alloc (.cells #[.int .i64 6, .bool is, .string ⟨t.toArray⟩, .slice a ns.length nc, .slice a' ks.length kc] 26)) (.cells #[.int .i64 d] 3); simpa using this)))
        clear hno
        go_wp2_with fail
        rotate_left
        · exfalso
          have hx : ¬ ((ns.length : Int) = (ks.length : Int)) := by assumption
          exact hx (by rw [HLEN.out])
        have hrow : Row w (fun g => g < w.heap.size) (.slice a ns.length nc) ns.length (ns.map strV) := by
          have hj := J.out
          unfold JAt at hj
          obtain ⟨sn, sk, hcs, h1, _⟩ := hj
          injection hcs with _ hcs; injection hcs with _ hcs; injection hcs with _ hcs; injection hcs with e3 hcs
          rw [e3]; exact h1
        refine (names_calls _ ns _ _ (hrow.below (HB.out _)) HNO.out (fun n hn => F.out.2.2.1 n hn) (HG.out.below (HB.out _))).mono ?_
        rintro e w5 ⟨rfl, hb5⟩
        have HB5 := Lib.hid ((HB.out _).trans (hb5.mono (by simp; omega)))
        obtain ⟨q0, q1, q2, q3, q4, _⟩ := cells5 (HBX.out _ _ hb5)
        have HD5 := Lib.hid (HBD.out _ hb5)
        have hsz5 : w.heap.size + 1 < w5.heap.size := heap_lt HD5.out
        have d0 : w5.cell? ⟨w.heap.size + 1, 0, none⟩ = some (.int .i64 d) := by have := HD5.out; simp [World.cell?, this]
        clear hb5 hrow
        cases hnm : Cx.namesOk [] ns with
        | false =>
          have hfin : RES = false := by rw [HRB.out, hnm]; rfl
          subst hfin
          clear hnm
          go_wp2_with fail
          go_ret
          exact ⟨rfl, HB5.out⟩
        | true =>
          have hr := HRB.out
          rw [hnm, Bool.true_and] at hr
          have HRC := Lib.hid hr
          clear hr HRB hnm
          by_cases ht : t = []
          · subst ht
            cases is with
            | true =>
              have hfin : RES = false := by rw [HRC.out]; simp
              subst hfin
              go_wp2_with fail
              go_ret
              exact ⟨rfl, HB5.out⟩
            | false =>
              by_cases hdd : d < 20
              · have hdl : (d : Int) < 20 := by omega
                have hfin : RES = Cx.rightK (d + 1) ks := by rw [HRC.out]; simp [hdd]
                have HFIN := Lib.hid hfin
                have IHd := Lib.hid (IH.out hdd)
                clear hfin HRC IH
                go_wp2_with fail
                refine (kids_calls2 d hd 6 false [] ns ks _ _ _ _ a' kc w _ (w.heap.size + 1) HB5.out HD5.out IHd.out J.out F.out HN.out HG.out h8).mono ?_
                rintro e w6 ⟨rfl, hb6⟩
                have HB6 := Lib.hid hb6
                clear hb6
                have hfin2 := HFIN.out
                rw [← rightK_any] at hfin2
                generalize (ks.any fun k => !Cx.right (d + 1) k) = r at hfin2 ⊢
                subst hfin2
                go_wp2
                go_ret
                exact ⟨rfl, HB6.out⟩
              · have hdl : ¬ (d : Int) < 20 := by omega
                have hfin : RES = false := by rw [HRC.out]; simp [hdd]
                subst hfin
                go_wp2_with fail
                go_ret
                exact ⟨rfl, HB5.out⟩
          · have hfin : RES = false := by rw [HRC.out]; simp [ht]
            subst hfin
            go_wp2_with fail
            go_ret
            exact ⟨rfl, HB5.out⟩
      · have hl : decide (ns.length = ks.length) = false := by simpa using hlen
        have hfin : RES = false := by rw [HRA.out]; simp [hlen]
        subst hfin
        go_enter Tryz.func42, Tryz.ntmps42
        go_wp2_with fail
        go_ret
        exact ⟨rfl, HB.out _⟩
    have hr := HR.out
    rw [if_neg h1, if_neg h2, if_neg h3, if_neg h4, if_neg h5, if_neg h6] at hr
    have e1 : (k == 1) = false := by simpa using h1
    have e2 : (k == 2) = false := by simpa using h2
    have e3 : (k == 3) = false := by simpa using h3
    have e4 : (k == 4) = false := by simpa using h4
    have e5 : (k == 5) = false := by simpa using h5
    have e6 : (k == 6) = false := by simpa using h6
    subst hr
    clear h1 h2 h3 h4 h5 h6 HR
    go_enter Tryz.func42, Tryz.ntmps42
    go_wp2_with fail
    go_ret
    exact ⟨rfl, HB.out _⟩
end Go.Proofs.YtbdmepilmoomeaaGreatDoor
