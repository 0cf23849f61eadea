/- WALKS: isNumber. -/
import Derived.Test.YtbdmepilmoomeaaGreatDoorRight
import Derived.Test.YtbdmepilmoomeaaGreatDoorCxPrefix
namespace Go.Proofs.YtbdmepilmoomeaaGreatDoor
open Go.RowKit

theorem is_number (s : List UInt8) : (decide ((parseT s).2.1 = 0) && decide ((parseT s).1.kind = 3) && decide ((parseT s).1.text = s)) = decide (Cx.isNum s) := by
  rw [Bool.eq_iff_iff]
  simp only [Bool.and_eq_true, decide_eq_true_eq]
  constructor
  · rintro ⟨⟨_, h2⟩, h3⟩
    unfold parseT at h2 h3
    cases hp : Cx.parse s with
    | error e => rw [hp] at h2; simp [Cx.J.kind] at h2
    | ok v =>
      rw [hp] at h2 h3
      have hr := Cx.parse_right hp
      cases v with
      | mk k is t ns ks =>
        simp only [Cx.J.kind, Cx.J.text] at h2 h3
        subst h2 h3
        unfold Cx.Right at hr
        simp only [Bool.and_eq_true] at hr
        have := hr.2
        unfold Cx.right at this
        simp at this
        exact this.2
  · intro h
    have hr : Cx.Right (.mk 3 false s [] []) = true := by
      unfold Cx.Right
      unfold Cx.right
      simp [Cx.nodes, Cx.nodesK, h]
    have hp : Cx.pr (.mk 3 false s [] []) = s := by unfold Cx.pr; simp
    have := Cx.parse_pr hr (by rw [hp]; have := Cx.isNum_len h; omega)
    rw [hp] at this
    unfold parseT
    rw [this]
    exact ⟨⟨rfl, rfl⟩, rfl⟩

set_option maxRecDepth 100000 in
theorem isNumber_calls (t : List UInt8) (w : World) (hg : Glb w) (h8 : 8 ≤ w.heap.size) :
    Calls Tryz.prog 72 #[.string ⟨t.toArray⟩] w fun e w' => e = .returned (.bool (decide (Cx.isNum t))) ∧ Below w.heap.size w w' := by
  rw [← is_number]
  obtain ⟨RES, hRES⟩ : ∃ RES, RES = (decide ((parseT t).2.1 = 0) && decide ((parseT t).1.kind = 3) && decide ((parseT t).1.text = t)) := ⟨_, rfl⟩
  rw [← hRES]
  have HG := Lib.hid hg; have HR := Lib.hid hRES; clear hg hRES
  go_enter Tryz.func72, Tryz.ntmps72
  go_wp2_with fail
  refine (parse_calls ⟨t.toArray⟩ w HG.out h8).mono ?_
  rintro e w5 ⟨cs, rfl, hj, hb⟩
  rw [show (⟨t.toArray⟩ : ByteArray).data.toList = t by simp] at hj ⊢
  have hr := HR.out
  clear HR
  generalize (parseT t).1 = v at hj hr ⊢
  generalize (parseT t).2.1 = er at hr ⊢
  generalize (parseT t).2.2 = pp
  cases v with
  | mk k is x ns ks =>
  obtain ⟨a, nc, a', kc, rfl⟩ := hj.shape
  have HB := Lib.hid hb
  clear hj hb
  have e : RES = (((er : Int) == 0) && (k == 3) && (x == t)) := by
    rw [hr]
    show (decide (er = 0) && decide (k = 3) && decide (x = t)) = _
    rw [Bool.eq_iff_iff]
    simp
  clear hr
  cases h1 : ((er : Int) == 0) with
  | false =>
    rw [h1, Bool.false_and, Bool.false_and] at e
    subst e
    go_wp2
    go_ret
    exact ⟨rfl, HB.out.alloc HB.out.size _⟩
  | true =>
    cases h2 : (k == 3) with
    | false =>
      rw [h2, Bool.and_false, Bool.false_and] at e
      subst e
      go_wp2
      go_ret
      exact ⟨rfl, HB.out.alloc HB.out.size _⟩
    | true =>
      rw [h1, h2, Bool.true_and, Bool.true_and] at e
      subst e
      go_wp2
      go_ret
      exact ⟨rfl, HB.out.alloc HB.out.size _⟩
end Go.Proofs.YtbdmepilmoomeaaGreatDoor
