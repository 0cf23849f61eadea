/- WALKS: bare, names. -/
import Derived.Test.YtbdmepilmoomeaaGreatDoorMany
namespace Go.Proofs.YtbdmepilmoomeaaGreatDoor
open Go.RowKit

set_option maxRecDepth 100000 in
theorem bare_calls (x : Int) (is : Bool) (t : List UInt8) (a : Option Addr) (nn nc : Nat) (a' : Option Addr) (kn kc : Nat) (t' : List UInt8) (is' : Bool) (w : World) (hn : nn ≤ maxLen) (hk : kn ≤ maxLen) :
    Calls Tryz.prog 71 #[.agg #[.int .i64 x, .bool is, .string ⟨t.toArray⟩, .slice a nn nc, .slice a' kn kc], .string ⟨t'.toArray⟩, .bool is'] w fun e w' =>
      e = .returned (.bool (decide (t = t') && (is == is') && decide (nn + kn = 0))) ∧ Below w.heap.size w w' := by
  unfold maxLen at hn hk
  have hw : (wrap64 ((nn : Int) + (kn : Int)) == 0) = decide (nn + kn = 0) := by
    rw [Bool.eq_iff_iff, beq_iff_eq, decide_eq_true_eq]
    unfold wrap64
    constructor
    · intro h; omega
    · intro h; omega
  have HW := Lib.hid hw
  clear hw
  by_cases ht : t = t'
  · subst ht
    by_cases hi : is = is'
    · subst hi
      have e : (decide (t = t) && (is == is) && decide (nn + kn = 0)) = (wrap64 ((nn : Int) + (kn : Int)) == 0) := by simp [HW.out]
      rw [e]
      go_enter Tryz.func71, Tryz.ntmps71
      go_wp2
      go_ret
      exact ⟨rfl, (Below.refl _ w).alloc (Nat.le_refl _) _⟩
    · have hi' : (is == is') = false := by simpa using hi
      have e : (decide (t = t) && (is == is') && decide (nn + kn = 0)) = false := by simp [hi]
      rw [e]
      clear hi
      go_enter Tryz.func71, Tryz.ntmps71
      go_wp2
      go_ret
      exact ⟨rfl, (Below.refl _ w).alloc (Nat.le_refl _) _⟩
  · have e : (decide (t = t') && (is == is') && decide (nn + kn = 0)) = false := by simp [ht]
    rw [e]
    go_enter Tryz.func71, Tryz.ntmps71
    go_wp2
    go_ret
    exact ⟨rfl, (Below.refl _ w).alloc (Nat.le_refl _) _⟩

set_option maxRecDepth 100000 in
theorem names_calls (sn : Value) (ns : List (List UInt8)) (ok : Nat → Prop) (w : World) (h : Row w ok sn ns.length (ns.map strV)) (hn : ns.length ≤ 200000) (hl : ∀ n ∈ ns, n.length ≤ maxLen) (hg : Glb w) :
    Calls Tryz.prog 74 #[sn] w fun e w' => e = .returned (.bool (Cx.namesOk [] ns)) ∧ Below w.heap.size w w' := by
  have hs : ∃ a c, sn = .slice a ns.length c := by
    rcases h with ⟨hz, _, a, c, hv⟩ | ⟨_, g, o, c, hv, _⟩
    · exact ⟨a, c, by rw [hv, hz]⟩
    · exact ⟨_, c, hv⟩
  obtain ⟨a, c, rfl⟩ := hs
  have H := Lib.hid h; have HL := Lib.hid hl; have HG := Lib.hid hg
  clear h hl hg
  obtain ⟨RES, hRES⟩ : ∃ RES, RES = Cx.namesOk [] ns := ⟨_, rfl⟩
  rw [← hRES]
  have HR := Lib.hid hRES
  clear hRES
  go_enter Tryz.func74, Tryz.ntmps74
  go_wp2_with fail
  go_loopg [7] (ns.length) (fun q z wr => ∃ (i : Nat), z = .int .i64 i ∧ q = ns.length - i ∧ i ≤ ns.length ∧ Hid (RES = Cx.namesOk (ns.take i) (ns.drop i)) ∧ Hid (Below w.heap.size w wr))
  case atStart => exact ⟨0, rfl, rfl, Nat.zero_le _, Lib.hid HR.out, Lib.hid (Below.refl _ w)⟩
  case round =>
    obtain ⟨i, rfl, hq, hi, hr, hb⟩ := hrel
    have HQ := Lib.hid hq
    clear hq
    rcases Nat.lt_or_ge i ns.length with hlt | hge
    · obtain ⟨s, hs⟩ : ∃ s, ns[i]? = some s := ⟨ns[i], by simp [hlt]⟩
      have hdr : ns.drop i = s :: ns.drop (i + 1) := by
        rw [List.drop_eq_getElem_cons hlt]; congr 1
        rw [List.getElem?_eq_getElem hlt] at hs; exact Option.some.inj hs
      rcases H.out with ⟨hz, _⟩ | ⟨_, g, o, cap, hv, hnc, hg, hgl, hc⟩
      · omega
      injection hv with ha _ hcap
      subst ha hcap
      have b0 := (hb.out.cell (p := ⟨g, o + i, none⟩) hgl).trans (hc i (strV s) (by simp [hs]))
      unfold strV at b0
      have hrow : Row wr (fun g => g < w.heap.size) (.slice (some ⟨g, o, none⟩) i c) (ns.take i).length ((ns.take i).map strV) := by
        have hti : (ns.take i).length = i := by simp; omega
        rw [hti]
        rcases Nat.eq_zero_or_pos i with h0 | h0
        · subst h0; exact .inl ⟨rfl, by simp, _, _, rfl⟩
        · refine .inr ⟨h0, g, o, c, rfl, by omega, hgl, Nat.lt_of_lt_of_le hgl hb.out.size, fun j u hu => (hb.out.cell (p := ⟨g, o + j, none⟩) hgl).trans (hc j u ?_)⟩
          rw [List.map_take, List.getElem?_take] at hu
          split at hu
          · exact hu
          · cases hu
      have HROW := Lib.hid hrow; have HD := Lib.hid hdr; have HS := Lib.hid hs
      have hsl := HL.out s (List.mem_of_getElem? hs)
      have HSL := Lib.hid hsl
      clear hrow hdr hs hc hsl hg
      go_wp2_with fail
      refine (valid_calls ⟨s.toArray⟩ wr (HG.out.below hb.out) (show s.toArray.size ≤ maxLen by simpa using HSL.out)).mono ?_
      rintro e w5 ⟨rfl, hb5⟩
      have hr2 := hr.out
      rw [HD.out] at hr2
      unfold Cx.namesOk at hr2
      rw [show (⟨s.toArray⟩ : ByteArray).data.toList = s by simp]
      have HB5 := Lib.hid (hb.out.trans (hb5.mono hb.out.size))
      have HROW5 := Lib.hid (HROW.out.below (hb5.mono hb.out.size)) 
      clear hb5
      by_cases hv : Cx.valid s = true
      · rw [hv] at hr2 ⊢
        have HR2 := Lib.hid hr2
        clear hr2 hv b0
        go_wp2_with fail
        refine (contains_calls _ (ns.take i) s _ _ HROW5.out (by simp; omega)).mono ?_
        rintro e w6 ⟨rfl, rfl⟩
        by_cases hm : s ∈ ns.take i
        · have hd : decide (s ∈ ns.take i) = true := by simpa using hm
          have hr2 := HR2.out
          rw [hd] at hr2 ⊢
          have hfin : RES = false := by simpa using hr2
          have HFIN := Lib.hid hfin
          clear hm hd hr2 hfin
          go_wp2
          rw [HFIN.out]
          go_ret
          exact ⟨rfl, HB5.out⟩
        · have hd : decide (s ∈ ns.take i) = false := by simpa using hm
          have hr2 := HR2.out
          rw [hd] at hr2 ⊢
          have hfin : RES = Cx.namesOk (ns.take (i + 1)) (ns.drop (i + 1)) := by
            rw [List.take_add_one, HS.out]
            simpa using hr2
          have HFIN := Lib.hid hfin
          clear hm hd hr2 hfin
          go_wp2
          go_roundg (ns.length - (i + 1))
          case measure => have := HQ.out; omega
          case rel => exact ⟨i + 1, by go_num, rfl, by omega, HFIN, HB5⟩
      · have hv : Cx.valid s = false := by simpa using hv
        rw [hv] at hr2 ⊢
        have hfin : RES = false := by simpa using hr2
        have HFIN := Lib.hid hfin
        clear hv hr2 hfin b0
        go_wp2
        rw [HFIN.out]
        go_ret
        exact ⟨rfl, HB5.out⟩
    · have hik : i = ns.length := by omega
      subst hik
      have hfin : RES = true := by
        have := hr.out
        rw [List.drop_length] at this
        simpa [Cx.namesOk] using this
      go_wp2
      rw [hfin]
      go_ret
      exact ⟨rfl, hb.out⟩
end Go.Proofs.YtbdmepilmoomeaaGreatDoor
