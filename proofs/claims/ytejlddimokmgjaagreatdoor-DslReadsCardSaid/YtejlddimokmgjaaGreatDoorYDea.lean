/- WALKS: codexref21's only. -/
import Derived.Test.YtejlddimokmgjaaGreatDoorKj
import Derived.Test.YtejlddimokmgjaaGreatDoorYRz
namespace Go.Proofs.YtejlddimokmgjaaGreatDoor
open Go.RowKit

theorem JAt.names_row {w : World} {ok : Nat → Prop} {k : Int} {is : Bool} {t : List UInt8} {ns : List (List UInt8)} {ks : List Cx.J} {a a' : Option Addr} {nc kc : Nat} (hj : JAt w ok (.mk k is t ns ks) [.int .i64 k, .bool is, .string ⟨t.toArray⟩, .slice a ns.length nc, .slice a' ks.length kc]) : Row w ok (.slice a ns.length nc) ns.length (ns.map strV) := by
  unfold JAt at hj
  obtain ⟨sn, sk, hcs, h1, _⟩ := hj
  injection hcs with _ hcs; injection hcs with _ hcs; injection hcs with _ hcs; injection hcs with e3 hcs
  rw [e3]; exact h1
theorem take_mem_next {n : List UInt8} {l : List (List UInt8)} {j : Nat} {x : List UInt8} (h : l[j]? = some x) : decide (n ∈ l.take (j + 1)) = (decide (n ∈ l.take j) || decide (x = n)) := by
  rw [List.take_add_one, h]
  simp only [Option.toList_some, List.mem_append, List.mem_singleton]
  by_cases h1 : n ∈ l.take j <;> by_cases h2 : n = x <;> simp [h1, h2, eq_comm]

set_option maxRecDepth 100000 in
set_option maxHeartbeats 4000000 in
theorem rOnly_calls (v : Cx.J) (cs : List Value) (sn : Value) (l : List (List UInt8)) (w : World) (ok ok2 : Nat → Prop) (hj : JAt w ok v cs) (hf : fit maxLen v) (h : Row w ok2 sn l.length (l.map strV)) (hl : l.length ≤ 100) :
    Calls Tryz.prog 40 #[.agg cs.toArray, sn] w fun e w' => e = .returned (.bool (Dx.only v l)) ∧ Below w.heap.size w w' := by
  cases v with
  | mk k is t ns ks =>
  obtain ⟨a, nc, a', kc, rfl⟩ := hj.shape
  have hnl : ns.length ≤ maxLen := hf.2.1
  unfold maxLen at hnl
  have ROW := Lib.hid (JAt.names_row hj.all)
  obtain ⟨a2, c2, rfl⟩ := h.shape
  have H := Lib.hid (h.kept (w' := w) (ok' := fun g => g < w.heap.size) (Nat.le_refl _) (fun g _ hl => ⟨rfl, hl⟩))
  obtain ⟨R, hR⟩ : ∃ R, R = Dx.only (.mk k is t ns ks) l := ⟨_, rfl⟩
  rw [← hR]
  replace hR : R = (decide (k = 6) && ns.all fun n => decide (n ∈ l)) := hR
  obtain ⟨W, hW⟩ : ∃ W, W = w.alloc (.cells #[.int .i64 k, .bool is, .string ⟨t.toArray⟩, .slice a ns.length nc, .slice a' ks.length kc] 48) := ⟨_, rfl⟩
  have B0 := Lib.hid (show Below w.heap.size w W by rw [hW]; exact (Below.refl _ _).alloc (Nat.le_refl _) _)
  have BX := Lib.hid (show W.heap[w.heap.size]? = some (.cells #[.int .i64 k, .bool is, .string ⟨t.toArray⟩, .slice a ns.length nc, .slice a' ks.length kc] 48 (0, 0)) by rw [hW]; exact heap_alloc_new w _)
  have HW := Lib.hid hW; have HR := Lib.hid hR
  clear hj hf h hR hW
  go_enter Tryz.func40, Tryz.ntmps40
  go_upto_region 1 with fail
  rw [← HW.out]
  clear HW
  obtain ⟨q0, q1, q2, q3, q4, _⟩ := cells5 BX.out
  by_cases hk : k = 6
  rotate_left
  · have hr := HR.out
    rw [decide_eq_false hk, Bool.false_and] at hr
    have HF := Lib.hid hr
    have hkd : (k == 6) = false := by simpa using hk
    have hkn : (k != 6) = true := by simpa using hk
    clear hr HR
    go_wp2_with fail
    go_ret
    exact ⟨by rw [HF.out]; rfl, B0.out⟩
  subst hk
  have hr := HR.out
  rw [decide_eq_true rfl, Bool.true_and] at hr
  have HR2 := Lib.hid hr
  clear hr HR
  go_wp2_with fail
  clear q0 q1 q2 q3 q4
  go_loopg [5] (ns.length) (fun q z wr => ∃ (i : Nat), z = .int .i64 i ∧ q = ns.length - i ∧ i ≤ ns.length ∧ Hid (Below W.heap.size W wr) ∧ Hid (∀ n ∈ ns.take i, n ∈ l))
  case atStart => exact ⟨0, rfl, rfl, Nat.zero_le _, Lib.hid (Below.refl _ _), Lib.hid (by simp)⟩
  case round =>
    obtain ⟨i, rfl, hq, hi, BI, HA⟩ := hrel
    have HQ := Lib.hid hq
    clear hq
    obtain ⟨q0, q1, q2, q3, q4, _⟩ := cells5 ((BI.out.block _ (heap_lt BX.out)).trans BX.out)
    rcases Nat.lt_or_ge i ns.length with hlt | hge
    · obtain ⟨n, hn⟩ : ∃ n, ns[i]? = some n := ⟨ns[i], by simp [hlt]⟩
      obtain ⟨g, o, rfl, _, hgl, d0⟩ := ROW.out.at_ (i := i) (u := strV n) (by rw [List.getElem?_map, hn]; rfl)
      have d1 : W.cell? ⟨g, o + i, none⟩ = some (.string ⟨n.toArray⟩) := (B0.out.cell (p := ⟨g, o + i, none⟩) hgl).trans d0
      have D1 := Lib.hid d1
      have HN := Lib.hid hn
      have hgl' := Nat.lt_of_lt_of_le hgl B0.out.size
      clear d0 hn d1
      go_wp2_with fail
      go_loopg [6, 7] (l.length) (fun q y z wx => ∃ (j : Nat) (m : Bool), y = .bool m ∧ z = .int .i64 j ∧ q = l.length - j ∧ j ≤ l.length ∧ Hid (Below W.heap.size W wx) ∧ Hid (m = decide (n ∈ l.take j)))
      case atStart => exact ⟨0, false, rfl, rfl, rfl, Nat.zero_le _, BI, Lib.hid (by simp)⟩
      case round =>
        obtain ⟨j, m, rfl, rfl, hq, hj2, BJ, HM⟩ := hrel
        have HQ2 := Lib.hid hq
        clear hq q0 q1 q2 q3 q4
        obtain ⟨q0, q1, q2, q3, q4, _⟩ := cells5 ((BJ.out.block _ (heap_lt BX.out)).trans BX.out)
        have b0 : wr.cell? ⟨g, o + i, none⟩ = some (.string ⟨n.toArray⟩) := (BJ.out.cell (p := ⟨g, o + i, none⟩) hgl').trans D1.out
        rcases Nat.lt_or_ge j l.length with hlt2 | hge2
        · obtain ⟨x, hx⟩ : ∃ x, l[j]? = some x := ⟨l[j], by simp [hlt2]⟩
          obtain ⟨g2, o2, rfl, _, hgl2, e0⟩ := H.out.at_ (i := j) (u := strV x) (by rw [List.getElem?_map, hx]; rfl)
          have b1 : wr.cell? ⟨g2, o2 + j, none⟩ = some (.string ⟨x.toArray⟩) := ((B0.out.trans (BJ.out.mono B0.out.size)).cell (p := ⟨g2, o2 + j, none⟩) hgl2).trans e0
          have HNX := Lib.hid (take_mem_next (n := n) hx)
          clear e0 hx
          cases m with
          | true =>
            have HM2 := Lib.hid (show true = decide (n ∈ l.take (j + 1)) by rw [HNX.out, ← HM.out]; rfl)
            clear HM HNX
            go_wp2_with fail
            go_region
            go_wp2_with fail
            go_roundg (l.length - (j + 1))
            case measure => have := HQ2.out; omega
            case rel => exact ⟨j + 1, true, rfl, by go_num, rfl, by omega, Lib.hid BJ.out.drew, HM2⟩
          | false =>
            have HM2 := Lib.hid (show (x == n) = decide (n ∈ l.take (j + 1)) by rw [HNX.out, ← HM.out, Bool.false_or]; by_cases h : x = n <;> simp [h])
            clear HM HNX
            go_wp2_with fail
            go_region
            go_wp2_with fail
            go_roundg (l.length - (j + 1))
            case measure => have := HQ2.out; omega
            case rel => exact ⟨j + 1, x == n, rfl, by go_num, rfl, by omega, Lib.hid BJ.out.drew, HM2⟩
        · have hjk : j = l.length := by omega
          subst hjk
          have hm := HM.out
          rw [List.take_length] at hm
          have HM2 := Lib.hid hm
          clear hm HM
          cases m with
          | false =>
            have B9 := Lib.hid (B0.out.trans (BJ.out.mono B0.out.size))
            have HF := Lib.hid (show R = false by
              rw [HR2.out]
              refine Bool.eq_false_iff.2 fun h => ?_
              have h2 := of_decide_eq_true (List.all_eq_true.1 h n (List.mem_of_getElem? HN.out))
              rw [decide_eq_true h2] at HM2
              cases HM2.out)
            go_wp2_with fail
            go_ret
            exact ⟨by rw [HF.out]; rfl, B9.out⟩
          | true =>
            have HA2 := Lib.hid (show ∀ n ∈ ns.take (i + 1), n ∈ l from by
              rw [List.take_add_one, HN.out]
              intro y hy
              rcases List.mem_append.1 hy with hy | hy
              · exact HA.out y hy
              · simp at hy; subst hy; exact of_decide_eq_true HM2.out.symm)
            go_wp2_with fail
            go_roundg (ns.length - (i + 1))
            case measure => have := HQ.out; omega
            case rel => exact ⟨i + 1, by go_num, rfl, by omega, BJ, HA2⟩
    · have hik : i = ns.length := by omega
      subst hik
      have ha := HA.out
      rw [List.take_length] at ha
      have HF := Lib.hid (show R = true by
        rw [HR2.out]
        exact List.all_eq_true.2 fun n hn => decide_eq_true (ha n hn))
      have B9 := Lib.hid (B0.out.trans (BI.out.mono B0.out.size))
      clear ha HA
      go_wp2_with fail
      go_ret
      exact ⟨by rw [HF.out]; rfl, B9.out⟩
end Go.Proofs.YtejlddimokmgjaaGreatDoor
