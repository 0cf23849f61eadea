/- WALKS: slices.IndexFunc, slices.ContainsFunc over the kids of a value, with the closure of right. -/
import Derived.Test.YtbdmepilmoomeaaGreatDoorBare
namespace Go.Proofs.YtbdmepilmoomeaaGreatDoor
open Go.RowKit

set_option maxRecDepth 100000 in
set_option maxHeartbeats 2000000 in
theorem index_calls (p : Cx.J → Bool) (cap : Value) (x : Int) (is : Bool) (t : List UInt8) (ns : List (List UInt8)) (ks : List Cx.J) (x0 x1 x2 x3 : Value) (a : Option Addr) (kc : Nat) (w : World) (ok : Nat → Prop)
    (hj : JAt w ok (.mk x is t ns ks) [x0, x1, x2, x3, .slice a ks.length kc]) (hkl : ks.length ≤ maxLen)
    (hcall : ∀ (wr : World) (i : Nat) (k : Cx.J) (cs : List Value), ks[i]? = some k → Below w.heap.size w wr → JAt wr (fun g => g < w.heap.size) k cs →
      Calls Tryz.prog 76 #[.agg cs.toArray, cap] wr fun e w' => e = .returned (.bool (p k)) ∧ Below wr.heap.size wr w') :
    Calls Tryz.prog 104 #[.slice a ks.length kc, .func (.func 76) #[] #[cap]] w fun e w' =>
      ∃ r : Int, e = .returned (.int .i64 r) ∧ decide (r < 0) = !(ks.any p) ∧ Below w.heap.size w w' := by
  unfold maxLen at hkl
  have J := Lib.hid hj.all; have HC := Lib.hid hcall
  clear hj hcall
  go_enter Tryz.func104, Tryz.ntmps104
  go_wp2_with fail
  go_loopg [8] (ks.length) (fun q z wr => ∃ (i : Nat), z = .int .i64 i ∧ q = ks.length - i ∧ i ≤ ks.length ∧ Hid (ks.any p = (ks.drop i).any p) ∧ Hid (Below w.heap.size w wr))
  case atStart => exact ⟨0, rfl, rfl, Nat.zero_le _, Lib.hid rfl, Lib.hid (Below.refl _ w)⟩
  case round =>
    obtain ⟨i, rfl, hq, hi, hr, hb⟩ := hrel
    have HQ := Lib.hid hq
    clear hq
    rcases Nat.lt_or_ge i ks.length with hlt | hge
    · obtain ⟨k, hk⟩ : ∃ k, ks[i]? = some k := ⟨ks[i], by simp [hlt]⟩
      have hdr : ks.drop i = k :: ks.drop (i + 1) := by
        rw [List.drop_eq_getElem_cons hlt]; congr 1
        rw [List.getElem?_eq_getElem hlt] at hk; exact Option.some.inj hk
      obtain ⟨g, o, c, hv, _, hgl, kb0, kb1, kb2, kb3, hkj, d0, d1, d2, d3, d4⟩ := J.out.kid' hk
      injection hv with ha _ hc
      subst ha hc
      have b0 := (hb.out.cell (p := ⟨g, o + i * 5, none⟩) hgl).trans d0
      have b1 := (hb.out.cell (p := ⟨g, o + i * 5 + 1, none⟩) hgl).trans d1
      have b2 := (hb.out.cell (p := ⟨g, o + i * 5 + 2, none⟩) hgl).trans d2
      have b3 := (hb.out.cell (p := ⟨g, o + i * 5 + 3, none⟩) hgl).trans d3
      have b4 := (hb.out.cell (p := ⟨g, o + i * 5 + 4, none⟩) hgl).trans d4
      have KJ := Lib.hid hkj; have HK := Lib.hid hk; have HD := Lib.hid hdr
      clear hkj d0 d1 d2 d3 d4 hk hdr
      go_wp2_with fail
      refine (HC.out wr i k [.int .i64 k.kind, .bool k.is, .string ⟨k.text.toArray⟩, .slice kb0 k.names.length kb1, .slice kb2 k.kids.length kb3] HK.out hb.out (KJ.out.below hb.out)).mono ?_
      rintro e w5 ⟨rfl, hb5⟩
      have HB5 := Lib.hid (hb.out.trans (hb5.mono hb.out.size))
      have hr2 := hr.out
      rw [HD.out, List.any_cons] at hr2
      clear hb5 b0 b1 b2 b3 b4
      cases hp : p k with
      | true =>
        rw [hp] at hr2
        have HR2 := Lib.hid hr2
        clear hr2 hp
        go_wp2
        go_ret
        exact ⟨i, rfl, by rw [HR2.out]; simp, HB5.out⟩
      | false =>
        rw [hp, Bool.false_or] at hr2
        have HR2 := Lib.hid hr2
        clear hr2 hp
        go_wp2
        go_roundg (ks.length - (i + 1))
        case measure => have := HQ.out; omega
        case rel => exact ⟨i + 1, by go_num, rfl, by omega, HR2, HB5⟩
    · have hik : i = ks.length := by omega
      subst hik
      have hfin : ks.any p = false := by
        have := hr.out
        rw [List.drop_length] at this
        simpa using this
      have HF := Lib.hid hfin
      clear hfin
      go_wp2
      go_ret
      exact ⟨-1, rfl, by rw [HF.out]; rfl, hb.out⟩

set_option maxRecDepth 100000 in
theorem containsF_calls (p : Cx.J → Bool) (cap : Value) (x : Int) (is : Bool) (t : List UInt8) (ns : List (List UInt8)) (ks : List Cx.J) (x0 x1 x2 x3 : Value) (a : Option Addr) (kc : Nat) (w : World) (ok : Nat → Prop)
    (hj : JAt w ok (.mk x is t ns ks) [x0, x1, x2, x3, .slice a ks.length kc]) (hkl : ks.length ≤ maxLen)
    (hcall : ∀ (wr : World) (i : Nat) (k : Cx.J) (cs : List Value), ks[i]? = some k → Below w.heap.size w wr → JAt wr (fun g => g < w.heap.size) k cs →
      Calls Tryz.prog 76 #[.agg cs.toArray, cap] wr fun e w' => e = .returned (.bool (p k)) ∧ Below wr.heap.size wr w') :
    Calls Tryz.prog 75 #[.slice a ks.length kc, .func (.func 76) #[] #[cap]] w fun e w' =>
      e = .returned (.bool (ks.any p)) ∧ Below w.heap.size w w' := by
  have HI := Lib.hid (index_calls p cap x is t ns ks x0 x1 x2 x3 a kc w ok hj hkl hcall)
  clear hj hcall
  go_enter Tryz.func75, Tryz.ntmps75
  go_wp2_with fail
  refine HI.out.mono ?_
  rintro e w5 ⟨r, rfl, hr, hb⟩
  have HR := Lib.hid hr; have HB := Lib.hid hb
  clear hr hb
  go_wp2
  have e : ks.any p = decide (0 ≤ r) := by
    have h := HR.out
    cases ha : ks.any p <;> rw [ha] at h <;> simp at h ⊢ <;> omega
  rw [e]
  go_ret
  exact ⟨rfl, HB.out⟩
end Go.Proofs.YtbdmepilmoomeaaGreatDoor
