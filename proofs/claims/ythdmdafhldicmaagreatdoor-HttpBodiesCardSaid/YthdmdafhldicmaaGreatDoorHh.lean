/- WALKS: value. -/
import Derived.Test.YthdmdafhldicmaaGreatDoorHe
import Derived.Test.YthdmdafhldicmaaGreatDoorHxVal
namespace Go.Proofs.YthdmdafhldicmaaGreatDoor
open Go.RowKit Go.Maps Go.WideMaps

theorem own_len {w : World} {B : Nat} {e : TypeId} {v : Value} {n : Nat} {xs : List Value} (h : w.ownsRow B e 1 v n xs) : ∃ a cap, v = .slice a n cap ∧ ∀ j u, xs[j]? = some u → ∃ g, a = some ⟨g, 0, none⟩ ∧ w.cell? ⟨g, j, none⟩ = some u := by
  have hc := @World.ownsRow.cells _ _ _ _ _ _ _ h
  have hl := h.1
  rcases h.2 with ⟨hv, hn⟩ | ⟨g, cap, cur, hv, _⟩
  · refine ⟨none, 0, by rw [hv, hn], fun j u hu => ?_⟩
    rw [hn, Nat.zero_mul] at hl
    rw [List.length_eq_zero_iff.1 hl] at hu
    simp at hu
  · refine ⟨some ⟨g, 0, none⟩, cap, hv, fun j u hu => ⟨g, rfl, ?_⟩⟩
    have := hc (g := g) (by rw [hv]; rfl) j u hu
    have e : (⟨g, 0, none⟩ : Addr).add j = ⟨g, j, none⟩ := by unfold Addr.add; split <;> simp_all
    rw [e] at this
    exact this

set_option maxRecDepth 100000 in
set_option maxHeartbeats 1000000 in
theorem value_calls (f : Hx.F) (n : Hx.Bytes) (B : Nat) (vn vv : Value) (w : World) (h : FAt B vn vv f w) (hn : f.names.length ≤ 100000) :
    Calls Tryz.prog 58 #[.pointer (some ⟨B + 1, 0, none⟩), .string ⟨n.toArray⟩] w fun e w' => e = .returned (.string ⟨(f.value n).toArray⟩) ∧ w' = w := by
  obtain ⟨q0, q1, q2, q3, _⟩ := h.cells
  have hl := h.len
  obtain ⟨a1, c1, hv1, r1⟩ := own_len h.own1
  obtain ⟨a2, c2, hv2, r2⟩ := own_len h.own2
  subst hv1 hv2
  obtain ⟨R, hR⟩ : ∃ R, R = f.value n := ⟨_, rfl⟩
  rw [← hR]
  rw [Hx.value_eq hl] at hR
  have HR := Lib.hid hR; have R1 := Lib.hid r1; have R2 := Lib.hid r2
  clear h hR r1 r2
  go_enter Tryz.func58, Tryz.ntmps58
  go_wp2_with fail
  go_loopg [5] (f.names.length) (fun q z wr => wr = w ∧ ∃ (k : Nat) (x : Int), z = .int .i64 x ∧ q = k ∧ x = (k : Int) - 1 ∧ k ≤ f.names.length ∧ Hid (R = Hx.valueN f.names f.values n k))
  case atStart => exact ⟨rfl, f.names.length, (f.names.length : Int) - 1, by go_num, rfl, rfl, Nat.le_refl _, HR⟩
  case round =>
    obtain ⟨rfl, k, x, rfl, hq, hx, hk, HK⟩ := hrel
    cases k with
    | zero =>
      have hx0 : ¬ (0 : Int) ≤ x := by omega
      have hf : R = [] := by rw [HK.out]; rfl
      subst hf
      go_wp2_with fail
      go_ret
      exact ⟨rfl, rfl⟩
    | succ j =>
      have hxj : x = (j : Int) := by omega
      clear hx
      subst hxj
      obtain ⟨m, hm⟩ : ∃ m, f.names[j]? = some m := ⟨f.names[j]'(by omega), List.getElem?_eq_getElem _⟩
      obtain ⟨v, hv⟩ : ∃ v, f.values[j]? = some v := ⟨f.values[j]'(by omega), List.getElem?_eq_getElem _⟩
      obtain ⟨g1, rfl, b1⟩ := R1.out j (strV m) (by rw [List.getElem?_map, hm]; rfl)
      obtain ⟨g2, rfl, b2⟩ := R2.out j (strV v) (by rw [List.getElem?_map, hv]; rfl)
      unfold strV at b1 b2
      have hjI : (0 : Int) ≤ (j : Int) := by omega
      have hlI : (j : Int) < (f.names.length : Int) := by omega
      have hr : R = if m = n then v else Hx.valueN f.names f.values n j := by
        rw [HK.out, Hx.valueN, hm]
        by_cases e : m = n
        · rw [if_pos (by rw [e]), if_pos e, List.getD, hv]; rfl
        · rw [if_neg (by intro h; injection h with h; exact e h), if_neg e]
      clear hm hv HK
      by_cases e : m = n
      · subst e
        have hr2 : R = v := by rw [hr, if_pos rfl]
        subst hr2
        clear hr
        go_wp2_with fail
        go_ret
        exact ⟨rfl, rfl⟩
      · have heb : (m == n) = false := by simpa using e
        rw [if_neg e] at hr
        have HR2 := Lib.hid hr
        clear hr e
        go_wp2_with fail
        go_roundg j
        case measure => omega
        case rel => exact ⟨rfl, j, (j : Int) - 1, by go_num, rfl, rfl, by omega, HR2⟩
end Go.Proofs.YthdmdafhldicmaaGreatDoor
