/- WALKS: many. WALKS: bare, names. WALKS: slices.IndexFunc, slices.ContainsFunc over the kids of a value, with the closure of right. WALKS: isNumber. WALKS: right's closure. WALKS: right. -/
import Derived.Test.YtejlddimokmgjaaGreatDoorGf
import Derived.Test.YtejlddimokmgjaaGreatDoorGb
namespace Go.Proofs.YtejlddimokmgjaaGreatDoor
open Go.RowKit

set_option maxRecDepth 100000 in
set_option maxHeartbeats 2000000 in
theorem many_calls : ∀ (N : Nat) (v : Cx.J) (cs : List Value) (most : Nat) (w : World) (ok : Nat → Prop), Cx.nodes v ≤ N → JAt w ok v cs → most ≤ 100000 → fit maxLen v →
    Calls Tryz.prog 102 #[.agg cs.toArray, .int .i64 most] w fun e w' => e = .returned (.int .i64 (min (Cx.nodes v) (most + 1) : Nat)) ∧ Below w.heap.size w w' := by
  intro N
  induction N with
  | zero => intro v _ _ _ _ h; have := nodes_pos v; omega
  | succ N ih =>
    intro v cs most w ok hN hj hm hf
    cases v with
    | mk x is t ns ks =>
    obtain ⟨a, nc, a', kc, rfl⟩ := hj.shape
    have hkl : ks.length ≤ maxLen := hf.2.2.2.1
    unfold maxLen at hkl
    have IH := Lib.hid ih; have J := Lib.hid hj.all; have F := Lib.hid hf; have HN := Lib.hid hN
    clear ih hj hf hN
    go_enter Tryz.func102, Tryz.ntmps102
    go_wp2_with fail
    go_loopg [5, 11] (ks.length) (fun q y z wr => ∃ (i n : Nat), y = .int .i64 n ∧ z = .int .i64 i ∧ q = ks.length - i ∧ i ≤ ks.length ∧ n ≤ most + 1 ∧ n = min (1 + Cx.nodesK (ks.take i)) (most + 1) ∧ Hid (Below w.heap.size w wr))
    case atStart => exact ⟨0, 1, rfl, rfl, rfl, Nat.zero_le _, by omega, by simp [Cx.nodesK], Lib.hid ((Below.refl _ w).alloc (Nat.le_refl _) _)⟩
    case round =>
      obtain ⟨i, n, rfl, rfl, hq, hi, hn, hnn, hb⟩ := hrel
      have HQ := Lib.hid hq; have HNN := Lib.hid hnn
      clear hq hnn
      rcases Nat.lt_or_ge i ks.length with hlt | hge
      · obtain ⟨k, hk⟩ : ∃ k, ks[i]? = some k := ⟨ks[i], by simp [hlt]⟩
        obtain ⟨g, o, cap, hv, _, hgl, kb0, kb1, kb2, kb3, hkj, d0, d1, d2, d3, d4⟩ := J.out.kid' hk
        injection hv with ha _ hc
        subst ha hc
        have b0 := (hb.out.cell (p := ⟨g, o + i * 5, none⟩) hgl).trans d0
        have b1 := (hb.out.cell (p := ⟨g, o + i * 5 + 1, none⟩) hgl).trans d1
        have b2 := (hb.out.cell (p := ⟨g, o + i * 5 + 2, none⟩) hgl).trans d2
        have b3 := (hb.out.cell (p := ⟨g, o + i * 5 + 3, none⟩) hgl).trans d3
        have b4 := (hb.out.cell (p := ⟨g, o + i * 5 + 4, none⟩) hgl).trans d4
        have KJ := Lib.hid hkj; have HK := Lib.hid hk
        clear hkj d0 d1 d2 d3 d4 hk
        by_cases hnm : most < n
        · have hnmi : (most : Int) < (n : Int) := by omega
          go_wp2_with fail
          have hfin : min (Cx.nodes (.mk x is t ns ks)) (most + 1) = n := by
            have := HNN.out; have := nodesK_get HK.out
            simp only [Cx.nodes]; omega
          rw [hfin]
          go_ret
          exact ⟨rfl, hb.out.alloc hb.out.size _⟩
        · have hnmi : ¬ (most : Int) < (n : Int) := by omega
          go_wp2_with fail
          have hbb := hb.out.alloc hb.out.size (.cells #[.int .i64 k.kind, .bool k.is, .string ⟨k.text.toArray⟩, .slice kb0 k.names.length kb1, .slice kb2 k.kids.length kb3] 48)
          have hc := IH.out k [.int .i64 k.kind, .bool k.is, .string ⟨k.text.toArray⟩, .slice kb0 k.names.length kb1, .slice kb2 k.kids.length kb3] (most - n) _ _ (by have := HN.out; have := nodesK_get HK.out; simp only [Cx.nodes] at *; omega) (KJ.out.below hbb) (by omega) (fitK_get F.out.2.2.2.2 HK.out)
          rw [show (((most - n : Nat) : Nat) : Int) = (most : Int) - (n : Int) by omega] at hc
          refine hc.mono ?_
          rintro e w5 ⟨rfl, hb5⟩
          have HB5 := Lib.hid (hbb.trans (hb5.mono hbb.size))
          obtain ⟨r, hr⟩ : ∃ r, r = min (Cx.nodes k) (most - n + 1) := ⟨_, rfl⟩
          rw [← hr]
          have hrl : r ≤ most - n + 1 := by omega
          have HR := Lib.hid hr
          clear hb5 hbb hc hr b0 b1 b2 b3 b4
          go_wp2
          go_roundg (ks.length - (i + 1))
          case measure => have := HQ.out; omega
          case rel =>
            refine ⟨i + 1, n + r, by go_num, by go_num, rfl, by omega, by omega, ?_, HB5⟩
            have := HR.out; have := HNN.out; have h2 := (nodesK_get HK.out).1
            rw [h2]; omega
      · have hik : i = ks.length := by omega
        subst hik
        go_wp2
        have hfin : min (Cx.nodes (.mk x is t ns ks)) (most + 1) = n := by
          have := HNN.out
          rw [List.take_length] at this
          simp only [Cx.nodes]; omega
        rw [hfin]
        go_ret
        exact ⟨rfl, hb.out⟩
end Go.Proofs.YtejlddimokmgjaaGreatDoor
namespace Go.Proofs.YtejlddimokmgjaaGreatDoor
open Go.RowKit

set_option maxRecDepth 100000 in
theorem bare_calls (x : Int) (is : Bool) (t : List UInt8) (a : Option Addr) (nn nc : Nat) (a' : Option Addr) (kn kc : Nat) (t' : List UInt8) (is' : Bool) (w : World) (hn : nn ≤ maxLen) (hk : kn ≤ maxLen) :
    Calls Tryz.prog 150 #[.agg #[.int .i64 x, .bool is, .string ⟨t.toArray⟩, .slice a nn nc, .slice a' kn kc], .string ⟨t'.toArray⟩, .bool is'] w fun e w' =>
      e = .returned (.bool (decide (t = t') && (is == is') && decide (nn + kn = 0))) ∧ Below w.heap.size w w' := by
  unfold maxLen at hn hk
  have hw : (wrap64 ((nn : Int) + (kn : Int)) == 0) = decide (nn + kn = 0) := by
    rw [Bool.eq_iff_iff, beq_iff_eq, decide_eq_true_eq]
    unfold wrap64
    constructor
    · intro h; omega
    · intro h; omega
  have HW := Lib.hid hw
  clear hw
  by_cases ht : t = t'
  · subst ht
    by_cases hi : is = is'
    · subst hi
      have e : (decide (t = t) && (is == is) && decide (nn + kn = 0)) = (wrap64 ((nn : Int) + (kn : Int)) == 0) := by simp [HW.out]
      rw [e]
      go_enter Tryz.func150, Tryz.ntmps150
      go_wp2
      go_ret
      exact ⟨rfl, (Below.refl _ w).alloc (Nat.le_refl _) _⟩
    · have hi' : (is == is') = false := by simpa using hi
      have e : (decide (t = t) && (is == is') && decide (nn + kn = 0)) = false := by simp [hi]
      rw [e]
      clear hi
      go_enter Tryz.func150, Tryz.ntmps150
      go_wp2
      go_ret
      exact ⟨rfl, (Below.refl _ w).alloc (Nat.le_refl _) _⟩
  · have e : (decide (t = t') && (is == is') && decide (nn + kn = 0)) = false := by simp [ht]
    rw [e]
    go_enter Tryz.func150, Tryz.ntmps150
    go_wp2
    go_ret
    exact ⟨rfl, (Below.refl _ w).alloc (Nat.le_refl _) _⟩

set_option maxRecDepth 100000 in
theorem names_calls (sn : Value) (ns : List (List UInt8)) (ok : Nat → Prop) (w : World) (h : Row w ok sn ns.length (ns.map strV)) (hn : ns.length ≤ 200000) (hl : ∀ n ∈ ns, n.length ≤ maxLen) (hg : Glb w) :
    Calls Tryz.prog 153 #[sn] w fun e w' => e = .returned (.bool (Cx.namesOk [] ns)) ∧ Below w.heap.size w w' := by
  have hs : ∃ a c, sn = .slice a ns.length c := by
    rcases h with ⟨hz, _, a, c, hv⟩ | ⟨_, g, o, c, hv, _⟩
    · exact ⟨a, c, by rw [hv, hz]⟩
    · exact ⟨_, c, hv⟩
  obtain ⟨a, c, rfl⟩ := hs
  have H := Lib.hid h; have HL := Lib.hid hl; have HG := Lib.hid hg
  clear h hl hg
  obtain ⟨RES, hRES⟩ : ∃ RES, RES = Cx.namesOk [] ns := ⟨_, rfl⟩
  rw [← hRES]
  have HR := Lib.hid hRES
  clear hRES
  go_enter Tryz.func153, Tryz.ntmps153
  go_wp2_with fail
  go_loopg [7] (ns.length) (fun q z wr => ∃ (i : Nat), z = .int .i64 i ∧ q = ns.length - i ∧ i ≤ ns.length ∧ Hid (RES = Cx.namesOk (ns.take i) (ns.drop i)) ∧ Hid (Below w.heap.size w wr))
  case atStart => exact ⟨0, rfl, rfl, Nat.zero_le _, Lib.hid HR.out, Lib.hid (Below.refl _ w)⟩
  case round =>
    obtain ⟨i, rfl, hq, hi, hr, hb⟩ := hrel
    have HQ := Lib.hid hq
    clear hq
    rcases Nat.lt_or_ge i ns.length with hlt | hge
    · obtain ⟨s, hs⟩ : ∃ s, ns[i]? = some s := ⟨ns[i], by simp [hlt]⟩
      have hdr : ns.drop i = s :: ns.drop (i + 1) := by
        rw [List.drop_eq_getElem_cons hlt]; congr 1
        rw [List.getElem?_eq_getElem hlt] at hs; exact Option.some.inj hs
      rcases H.out with ⟨hz, _⟩ | ⟨_, g, o, cap, hv, hnc, hg, hgl, hc⟩
      · omega
      injection hv with ha _ hcap
      subst ha hcap
      have b0 := (hb.out.cell (p := ⟨g, o + i, none⟩) hgl).trans (hc i (strV s) (by simp [hs]))
      unfold strV at b0
      have hrow : Row wr (fun g => g < w.heap.size) (.slice (some ⟨g, o, none⟩) i c) (ns.take i).length ((ns.take i).map strV) := by
        have hti : (ns.take i).length = i := by simp; omega
        rw [hti]
        rcases Nat.eq_zero_or_pos i with h0 | h0
        · subst h0; exact .inl ⟨rfl, by simp, _, _, rfl⟩
        · refine .inr ⟨h0, g, o, c, rfl, by omega, hgl, Nat.lt_of_lt_of_le hgl hb.out.size, fun j u hu => (hb.out.cell (p := ⟨g, o + j, none⟩) hgl).trans (hc j u ?_)⟩
          rw [List.map_take, List.getElem?_take] at hu
          split at hu
          · exact hu
          · cases hu
      have HROW := Lib.hid hrow; have HD := Lib.hid hdr; have HS := Lib.hid hs
      have hsl := HL.out s (List.mem_of_getElem? hs)
      have HSL := Lib.hid hsl
      clear hrow hdr hs hc hsl hg
      go_wp2_with fail
      refine (valid_calls ⟨s.toArray⟩ wr (HG.out.below hb.out) (show s.toArray.size ≤ maxLen by simpa using HSL.out)).mono ?_
      rintro e w5 ⟨rfl, hb5⟩
      have hr2 := hr.out
      rw [HD.out] at hr2
      unfold Cx.namesOk at hr2
      rw [show (⟨s.toArray⟩ : ByteArray).data.toList = s by simp]
      have HB5 := Lib.hid (hb.out.trans (hb5.mono hb.out.size))
      have HROW5 := Lib.hid (HROW.out.below (hb5.mono hb.out.size)) 
      clear hb5
      by_cases hv : Cx.valid s = true
      · rw [hv] at hr2 ⊢
        have HR2 := Lib.hid hr2
        clear hr2 hv b0
        go_wp2_with fail
        refine (contains_calls _ (ns.take i) s _ _ HROW5.out (by simp; omega)).mono ?_
        rintro e w6 ⟨rfl, rfl⟩
        by_cases hm : s ∈ ns.take i
        · have hd : decide (s ∈ ns.take i) = true := by simpa using hm
          have hr2 := HR2.out
          rw [hd] at hr2 ⊢
          have hfin : RES = false := by simpa using hr2
          have HFIN := Lib.hid hfin
          clear hm hd hr2 hfin
          go_wp2
          rw [HFIN.out]
          go_ret
          exact ⟨rfl, HB5.out⟩
        · have hd : decide (s ∈ ns.take i) = false := by simpa using hm
          have hr2 := HR2.out
          rw [hd] at hr2 ⊢
          have hfin : RES = Cx.namesOk (ns.take (i + 1)) (ns.drop (i + 1)) := by
            rw [List.take_add_one, HS.out]
            simpa using hr2
          have HFIN := Lib.hid hfin
          clear hm hd hr2 hfin
          go_wp2
          go_roundg (ns.length - (i + 1))
          case measure => have := HQ.out; omega
          case rel => exact ⟨i + 1, by go_num, rfl, by omega, HFIN, HB5⟩
      · have hv : Cx.valid s = false := by simpa using hv
        rw [hv] at hr2 ⊢
        have hfin : RES = false := by simpa using hr2
        have HFIN := Lib.hid hfin
        clear hv hr2 hfin b0
        go_wp2
        rw [HFIN.out]
        go_ret
        exact ⟨rfl, HB5.out⟩
    · have hik : i = ns.length := by omega
      subst hik
      have hfin : RES = true := by
        have := hr.out
        rw [List.drop_length] at this
        simpa [Cx.namesOk] using this
      go_wp2
      rw [hfin]
      go_ret
      exact ⟨rfl, hb.out⟩
end Go.Proofs.YtejlddimokmgjaaGreatDoor
namespace Go.Proofs.YtejlddimokmgjaaGreatDoor
open Go.RowKit

set_option maxRecDepth 100000 in
set_option maxHeartbeats 2000000 in
theorem index_calls (p : Cx.J → Bool) (cap : Value) (x : Int) (is : Bool) (t : List UInt8) (ns : List (List UInt8)) (ks : List Cx.J) (x0 x1 x2 x3 : Value) (a : Option Addr) (kc : Nat) (w : World) (ok : Nat → Prop)
    (hj : JAt w ok (.mk x is t ns ks) [x0, x1, x2, x3, .slice a ks.length kc]) (hkl : ks.length ≤ maxLen)
    (hcall : ∀ (wr : World) (i : Nat) (k : Cx.J) (cs : List Value), ks[i]? = some k → Below w.heap.size w wr → JAt wr (fun g => g < w.heap.size) k cs →
      Calls Tryz.prog 155 #[.agg cs.toArray, cap] wr fun e w' => e = .returned (.bool (p k)) ∧ Below wr.heap.size wr w') :
    Calls Tryz.prog 180 #[.slice a ks.length kc, .func (.func 155) #[] #[cap]] w fun e w' =>
      ∃ r : Int, e = .returned (.int .i64 r) ∧ decide (r < 0) = !(ks.any p) ∧ Below w.heap.size w w' := by
  unfold maxLen at hkl
  have J := Lib.hid hj.all; have HC := Lib.hid hcall
  clear hj hcall
  go_enter Tryz.func180, Tryz.ntmps180
  go_wp2_with fail
  go_loopg [8] (ks.length) (fun q z wr => ∃ (i : Nat), z = .int .i64 i ∧ q = ks.length - i ∧ i ≤ ks.length ∧ Hid (ks.any p = (ks.drop i).any p) ∧ Hid (Below w.heap.size w wr))
  case atStart => exact ⟨0, rfl, rfl, Nat.zero_le _, Lib.hid rfl, Lib.hid (Below.refl _ w)⟩
  case round =>
    obtain ⟨i, rfl, hq, hi, hr, hb⟩ := hrel
    have HQ := Lib.hid hq
    clear hq
    rcases Nat.lt_or_ge i ks.length with hlt | hge
    · obtain ⟨k, hk⟩ : ∃ k, ks[i]? = some k := ⟨ks[i], by simp [hlt]⟩
      have hdr : ks.drop i = k :: ks.drop (i + 1) := by
        rw [List.drop_eq_getElem_cons hlt]; congr 1
        rw [List.getElem?_eq_getElem hlt] at hk; exact Option.some.inj hk
      obtain ⟨g, o, c, hv, _, hgl, kb0, kb1, kb2, kb3, hkj, d0, d1, d2, d3, d4⟩ := J.out.kid' hk
      injection hv with ha _ hc
      subst ha hc
      have b0 := (hb.out.cell (p := ⟨g, o + i * 5, none⟩) hgl).trans d0
      have b1 := (hb.out.cell (p := ⟨g, o + i * 5 + 1, none⟩) hgl).trans d1
      have b2 := (hb.out.cell (p := ⟨g, o + i * 5 + 2, none⟩) hgl).trans d2
      have b3 := (hb.out.cell (p := ⟨g, o + i * 5 + 3, none⟩) hgl).trans d3
      have b4 := (hb.out.cell (p := ⟨g, o + i * 5 + 4, none⟩) hgl).trans d4
      have KJ := Lib.hid hkj; have HK := Lib.hid hk; have HD := Lib.hid hdr
      clear hkj d0 d1 d2 d3 d4 hk hdr
      go_wp2_with fail
      refine (HC.out wr i k [.int .i64 k.kind, .bool k.is, .string ⟨k.text.toArray⟩, .slice kb0 k.names.length kb1, .slice kb2 k.kids.length kb3] HK.out hb.out (KJ.out.below hb.out)).mono ?_
      rintro e w5 ⟨rfl, hb5⟩
      have HB5 := Lib.hid (hb.out.trans (hb5.mono hb.out.size))
      have hr2 := hr.out
      rw [HD.out, List.any_cons] at hr2
      clear hb5 b0 b1 b2 b3 b4
      cases hp : p k with
      | true =>
        rw [hp] at hr2
        have HR2 := Lib.hid hr2
        clear hr2 hp
        go_wp2
        go_ret
        exact ⟨i, rfl, by rw [HR2.out]; simp, HB5.out⟩
      | false =>
        rw [hp, Bool.false_or] at hr2
        have HR2 := Lib.hid hr2
        clear hr2 hp
        go_wp2
        go_roundg (ks.length - (i + 1))
        case measure => have := HQ.out; omega
        case rel => exact ⟨i + 1, by go_num, rfl, by omega, HR2, HB5⟩
    · have hik : i = ks.length := by omega
      subst hik
      have hfin : ks.any p = false := by
        have := hr.out
        rw [List.drop_length] at this
        simpa using this
      have HF := Lib.hid hfin
      clear hfin
      go_wp2
      go_ret
      exact ⟨-1, rfl, by rw [HF.out]; rfl, hb.out⟩

set_option maxRecDepth 100000 in
theorem containsF_calls (p : Cx.J → Bool) (cap : Value) (x : Int) (is : Bool) (t : List UInt8) (ns : List (List UInt8)) (ks : List Cx.J) (x0 x1 x2 x3 : Value) (a : Option Addr) (kc : Nat) (w : World) (ok : Nat → Prop)
    (hj : JAt w ok (.mk x is t ns ks) [x0, x1, x2, x3, .slice a ks.length kc]) (hkl : ks.length ≤ maxLen)
    (hcall : ∀ (wr : World) (i : Nat) (k : Cx.J) (cs : List Value), ks[i]? = some k → Below w.heap.size w wr → JAt wr (fun g => g < w.heap.size) k cs →
      Calls Tryz.prog 155 #[.agg cs.toArray, cap] wr fun e w' => e = .returned (.bool (p k)) ∧ Below wr.heap.size wr w') :
    Calls Tryz.prog 154 #[.slice a ks.length kc, .func (.func 155) #[] #[cap]] w fun e w' =>
      e = .returned (.bool (ks.any p)) ∧ Below w.heap.size w w' := by
  have HI := Lib.hid (index_calls p cap x is t ns ks x0 x1 x2 x3 a kc w ok hj hkl hcall)
  clear hj hcall
  go_enter Tryz.func154, Tryz.ntmps154
  go_wp2_with fail
  refine HI.out.mono ?_
  rintro e w5 ⟨r, rfl, hr, hb⟩
  have HR := Lib.hid hr; have HB := Lib.hid hb
  clear hr hb
  go_wp2
  have e : ks.any p = decide (0 ≤ r) := by
    have h := HR.out
    cases ha : ks.any p <;> rw [ha] at h <;> simp at h ⊢ <;> omega
  rw [e]
  go_ret
  exact ⟨rfl, HB.out⟩
end Go.Proofs.YtejlddimokmgjaaGreatDoor
namespace Go.Proofs.YtejlddimokmgjaaGreatDoor
open Go.RowKit

theorem is_number (s : List UInt8) : (decide ((parseT s).2.1 = 0) && decide ((parseT s).1.kind = 3) && decide ((parseT s).1.text = s)) = decide (Cx.isNum s) := by
  rw [Bool.eq_iff_iff]
  simp only [Bool.and_eq_true, decide_eq_true_eq]
  constructor
  · rintro ⟨⟨_, h2⟩, h3⟩
    unfold parseT at h2 h3
    cases hp : Cx.parse s with
    | error e => rw [hp] at h2; simp [Cx.J.kind] at h2
    | ok v =>
      rw [hp] at h2 h3
      have hr := Cx.parse_right hp
      cases v with
      | mk k is t ns ks =>
        simp only [Cx.J.kind, Cx.J.text] at h2 h3
        subst h2 h3
        unfold Cx.Right at hr
        simp only [Bool.and_eq_true] at hr
        have := hr.2
        unfold Cx.right at this
        simp at this
        exact this.2
  · intro h
    have hr : Cx.Right (.mk 3 false s [] []) = true := by
      unfold Cx.Right
      unfold Cx.right
      simp [Cx.nodes, Cx.nodesK, h]
    have hp : Cx.pr (.mk 3 false s [] []) = s := by unfold Cx.pr; simp
    have := Cx.parse_pr hr (by rw [hp]; have := Cx.isNum_len h; omega)
    rw [hp] at this
    unfold parseT
    rw [this]
    exact ⟨⟨rfl, rfl⟩, rfl⟩

set_option maxRecDepth 100000 in
theorem isNumber_calls (t : List UInt8) (w : World) (hg : Glb w) (h8 : 8 ≤ w.heap.size) :
    Calls Tryz.prog 151 #[.string ⟨t.toArray⟩] w fun e w' => e = .returned (.bool (decide (Cx.isNum t))) ∧ Below w.heap.size w w' := by
  rw [← is_number]
  obtain ⟨RES, hRES⟩ : ∃ RES, RES = (decide ((parseT t).2.1 = 0) && decide ((parseT t).1.kind = 3) && decide ((parseT t).1.text = t)) := ⟨_, rfl⟩
  rw [← hRES]
  have HG := Lib.hid hg; have HR := Lib.hid hRES; clear hg hRES
  go_enter Tryz.func151, Tryz.ntmps151
  go_wp2_with fail
  refine (parse_calls ⟨t.toArray⟩ w HG.out h8).mono ?_
  rintro e w5 ⟨cs, rfl, hj, hb⟩
  rw [show (⟨t.toArray⟩ : ByteArray).data.toList = t by simp] at hj ⊢
  have hr := HR.out
  clear HR
  generalize (parseT t).1 = v at hj hr ⊢
  generalize (parseT t).2.1 = er at hr ⊢
  generalize (parseT t).2.2 = pp
  cases v with
  | mk k is x ns ks =>
  obtain ⟨a, nc, a', kc, rfl⟩ := hj.shape
  have HB := Lib.hid hb
  clear hj hb
  have e : RES = (((er : Int) == 0) && (k == 3) && (x == t)) := by
    rw [hr]
    show (decide (er = 0) && decide (k = 3) && decide (x = t)) = _
    rw [Bool.eq_iff_iff]
    simp
  clear hr
  cases h1 : ((er : Int) == 0) with
  | false =>
    rw [h1, Bool.false_and, Bool.false_and] at e
    subst e
    go_wp2
    go_ret
    exact ⟨rfl, HB.out.alloc HB.out.size _⟩
  | true =>
    cases h2 : (k == 3) with
    | false =>
      rw [h2, Bool.and_false, Bool.false_and] at e
      subst e
      go_wp2
      go_ret
      exact ⟨rfl, HB.out.alloc HB.out.size _⟩
    | true =>
      rw [h1, h2, Bool.true_and, Bool.true_and] at e
      subst e
      go_wp2
      go_ret
      exact ⟨rfl, HB.out.alloc HB.out.size _⟩
end Go.Proofs.YtejlddimokmgjaaGreatDoor
namespace Go.Proofs.YtejlddimokmgjaaGreatDoor
open Go.RowKit

set_option maxRecDepth 100000 in
theorem closure_calls (d D : Nat) (k : Cx.J) (cs : List Value) (w : World) (ok : Nat → Prop) (hD : w.heap[D]? = some (.cells #[.int .i64 d] 3 (0, 0))) (hd : d ≤ 20)
    (ih : ∀ (v : Cx.J) (cs : List Value) (w : World) (ok : Nat → Prop), JAt w ok v cs → fit maxLen v → Cx.nodes v ≤ 5000 → Glb w → 8 ≤ w.heap.size →
      Calls Tryz.prog 103 #[.agg cs.toArray, .int .i64 ((d : Int) + 1)] w fun e w' => e = .returned (.bool (Cx.right (d + 1) v)) ∧ Below w.heap.size w w')
    (hj : JAt w ok k cs) (hf : fit maxLen k) (hN : Cx.nodes k ≤ 5000) (hg : Glb w) (h8 : 8 ≤ w.heap.size) :
    Calls Tryz.prog 155 #[.agg cs.toArray, .pointer (some ⟨D, 0, none⟩)] w fun e w' => e = .returned (.bool (!Cx.right (d + 1) k)) ∧ Below w.heap.size w w' := by
  cases k with
  | mk x is t ns ks =>
  obtain ⟨a, nc, a', kc, rfl⟩ := hj.shape
  have hDl := heap_lt hD
  have q : w.cell? ⟨D, 0, none⟩ = some (.int .i64 d) := by simp [World.cell?, hD]
  have IH := Lib.hid ih; have J := Lib.hid hj.all; have F := Lib.hid hf; have HN := Lib.hid hN; have HG := Lib.hid hg
  have hne : D ≠ w.heap.size := by omega
  clear ih hj hf hN hg hD
  go_enter Tryz.func155, Tryz.ntmps155
  go_wp2_with fail
  have hb1 := (Below.refl w.heap.size w).alloc (Nat.le_refl _) (.cells #[.int .i64 x, .bool is, .string ⟨t.toArray⟩, .slice a ns.length nc, .slice a' ks.length kc] 48)
  refine (IH.out (.mk x is t ns ks) [.int .i64 x, .bool is, .string ⟨t.toArray⟩, .slice a ns.length nc, .slice a' ks.length kc] _ _ (J.out.below hb1) F.out HN.out (HG.out.alloc _) (Nat.le_trans h8 hb1.size)).mono ?_
  rintro e w5 ⟨rfl, hb5⟩
  have HB := Lib.hid (hb1.trans (hb5.mono hb1.size))
  clear hb1 hb5
  go_wp2
  go_ret
  exact ⟨rfl, HB.out⟩
end Go.Proofs.YtejlddimokmgjaaGreatDoor
namespace Go.Proofs.YtejlddimokmgjaaGreatDoor
open Go.RowKit

theorem empty_lengths (ns : List (List UInt8)) (ks : List Cx.J) : decide (ns.length + ks.length = 0) = (decide (ns = []) && ks.isEmpty) := by
  rw [Bool.eq_iff_iff]
  simp [List.isEmpty_iff]

theorem rightK_any (d : Nat) (ks : List Cx.J) : (!(ks.any fun k => !Cx.right d k)) = Cx.rightK d ks := by
  induction ks with
  | nil => rfl
  | cons k ks ih => unfold Cx.rightK; rw [← ih, List.any_cons]; cases Cx.right d k <;> simp

/-- The call over the kids, in the world behind the two boxes. -/
theorem kids_calls (d : Nat) (hd : d ≤ 20) (x : Int) (is : Bool) (t : List UInt8) (ns : List (List UInt8)) (ks : List Cx.J) (x0 x1 x2 x3 : Value) (a' : Option Addr) (kc : Nat) (w w1 : World) (hw1 : Below w.heap.size w w1) (hs1 : w1.heap.size = w.heap.size + 1)
    (ih : ∀ (v : Cx.J) (cs : List Value) (w : World) (ok : Nat → Prop), JAt w ok v cs → fit maxLen v → Cx.nodes v ≤ 5000 → Glb w → 8 ≤ w.heap.size →
      Calls Tryz.prog 103 #[.agg cs.toArray, .int .i64 ((d : Int) + 1)] w fun e w' => e = .returned (.bool (Cx.right (d + 1) v)) ∧ Below w.heap.size w w')
    (hj : JAt w (fun g => g < w.heap.size) (.mk x is t ns ks) [x0, x1, x2, x3, .slice a' ks.length kc]) (hf : fit maxLen (.mk x is t ns ks)) (hN : Cx.nodes (.mk x is t ns ks) ≤ 5000) (hg : Glb w) (h8 : 8 ≤ w.heap.size) :
    Calls Tryz.prog 154 #[.slice a' ks.length kc, .func (.func 155) #[] #[.pointer (some ⟨w.heap.size + 1, 0, none⟩)]] (w1.alloc (.cells #[.int .i64 d] 3)) fun e w' =>
      e = .returned (.bool (ks.any fun k => !Cx.right (d + 1) k)) ∧ Below w.heap.size w w' := by
  have hw2 := hw1.alloc hw1.size (.cells #[.int .i64 d] 3)
  refine (containsF_calls (fun k => !Cx.right (d + 1) k) _ x is t ns ks x0 x1 x2 x3 a' kc _ _ (hj.below hw2) hf.2.2.2.1 ?_).mono ?_
  · intro wr i k cs hk hb hjk
    have hD : wr.heap[w.heap.size + 1]? = some (.cells #[.int .i64 d] 3 (0, 0)) := by
      rw [← hs1]
      exact (hb.block _ (by simp)).trans (heap_alloc_new w1 _)
    have hb' : Below w.heap.size w wr := hw2.trans (hb.mono hw2.size)
    exact closure_calls d _ k cs wr _ hD hd ih hjk (fitK_get hf.2.2.2.2 hk) (by have := (nodesK_get hk).2; simp only [Cx.nodes] at hN; omega) (hg.below hb') (Nat.le_trans h8 hb'.size)
  · rintro e w' ⟨rfl, hb⟩
    exact ⟨rfl, hw2.trans (hb.mono hw2.size)⟩

/-- The call over the kids, in whatever later world. -/
theorem kids_calls2 (d : Nat) (hd : d ≤ 20) (x : Int) (is : Bool) (t : List UInt8) (ns : List (List UInt8)) (ks : List Cx.J) (x0 x1 x2 x3 : Value) (a' : Option Addr) (kc : Nat) (w wA : World) (D : Nat) (hA : Below w.heap.size w wA) (hD : wA.heap[D]? = some (.cells #[.int .i64 d] 3 (0, 0)))
    (ih : ∀ (v : Cx.J) (cs : List Value) (w : World) (ok : Nat → Prop), JAt w ok v cs → fit maxLen v → Cx.nodes v ≤ 5000 → Glb w → 8 ≤ w.heap.size →
      Calls Tryz.prog 103 #[.agg cs.toArray, .int .i64 ((d : Int) + 1)] w fun e w' => e = .returned (.bool (Cx.right (d + 1) v)) ∧ Below w.heap.size w w')
    (hj : JAt w (fun g => g < w.heap.size) (.mk x is t ns ks) [x0, x1, x2, x3, .slice a' ks.length kc]) (hf : fit maxLen (.mk x is t ns ks)) (hN : Cx.nodes (.mk x is t ns ks) ≤ 5000) (hg : Glb w) (h8 : 8 ≤ w.heap.size) :
    Calls Tryz.prog 154 #[.slice a' ks.length kc, .func (.func 155) #[] #[.pointer (some ⟨D, 0, none⟩)]] wA fun e w' =>
      e = .returned (.bool (ks.any fun k => !Cx.right (d + 1) k)) ∧ Below w.heap.size w w' := by
  refine (containsF_calls (fun k => !Cx.right (d + 1) k) _ x is t ns ks x0 x1 x2 x3 a' kc _ _ (hj.below hA) hf.2.2.2.1 ?_).mono ?_
  · intro wr i k cs hk hb hjk
    have hD2 : wr.heap[D]? = some (.cells #[.int .i64 d] 3 (0, 0)) := (hb.block _ (heap_lt hD)).trans hD
    have hb' : Below w.heap.size w wr := hA.trans (hb.mono hA.size)
    exact closure_calls d _ k cs wr _ hD2 hd ih hjk (fitK_get hf.2.2.2.2 hk) (by have := (nodesK_get hk).2; simp only [Cx.nodes] at hN; omega) (hg.below hb') (Nat.le_trans h8 hb'.size)
  · rintro e w' ⟨rfl, hb⟩
    exact ⟨rfl, hA.trans (hb.mono hA.size)⟩

theorem nodesK_length : ∀ ks : List Cx.J, ks.length ≤ Cx.nodesK ks
  | [] => by simp
  | k :: ks => by
    have := nodesK_length ks; have := nodes_pos k
    simp only [List.length_cons, Cx.nodesK]; omega

set_option maxRecDepth 100000 in
set_option maxHeartbeats 4000000 in
theorem right_step (d : Nat) (hd : d ≤ 20) (ih : d < 20 → ∀ (v : Cx.J) (cs : List Value) (w : World) (ok : Nat → Prop), JAt w ok v cs → fit maxLen v → Cx.nodes v ≤ 5000 → Glb w → 8 ≤ w.heap.size →
      Calls Tryz.prog 103 #[.agg cs.toArray, .int .i64 ((d : Int) + 1)] w fun e w' => e = .returned (.bool (Cx.right (d + 1) v)) ∧ Below w.heap.size w w')
    (v : Cx.J) (cs : List Value) (w : World) (ok : Nat → Prop) (hj : JAt w ok v cs) (hf : fit maxLen v) (hN : Cx.nodes v ≤ 5000) (hg : Glb w) (h8 : 8 ≤ w.heap.size) :
    Calls Tryz.prog 103 #[.agg cs.toArray, .int .i64 d] w fun e w' => e = .returned (.bool (Cx.right d v)) ∧ Below w.heap.size w w' := by
    have hmf : ∀ (fn : Fn) (first cap : Array Value) (w : World), (Instr.makeFunc fn first cap).run Tryz.prog w = .ok (.func fn first cap) w := fun _ _ _ _ => rfl
    cases v with
    | mk k is t ns ks =>
    obtain ⟨a, nc, a', kc, rfl⟩ := hj.shape
    obtain ⟨RES, hRES⟩ : ∃ RES, RES = Cx.right d (.mk k is t ns ks) := ⟨_, rfl⟩
    rw [← hRES]
    unfold Cx.right at hRES
    have hnl : ns.length ≤ maxLen := hf.2.1
    have hkl : ks.length ≤ maxLen := hf.2.2.2.1
    have HR := Lib.hid hRES; have HG := Lib.hid hg; have J := Lib.hid hj.all; have F := Lib.hid hf; have HN := Lib.hid hN; have IH := Lib.hid ih
    have HNL := Lib.hid hnl; have HKL := Lib.hid hkl
    have HB := Lib.hid (fun o => ((Below.refl w.heap.size w).alloc (Nat.le_refl _) (.cells #[.int .i64 k, .bool is, .string ⟨t.toArray⟩, .slice a ns.length nc, .slice a' ks.length kc] 48)).alloc (by simp) o)
    have HBX := Lib.hid (fun (o : Obj) (w' : World) (hb : Below ((w.alloc (.cells #[.int .i64 k, .bool is, .string ⟨t.toArray⟩, .slice a ns.length nc, .slice a' ks.length kc] 48)).alloc o).heap.size ((w.alloc (.cells #[.int .i64 k, .bool is, .string ⟨t.toArray⟩, .slice a ns.length nc, .slice a' ks.length kc] 48)).alloc o) w') =>
      (show w'.heap[w.heap.size]? = some (.cells #[.int .i64 k, .bool is, .string ⟨t.toArray⟩, .slice a ns.length nc, .slice a' ks.length kc] 48 (0, 0)) from (hb.block _ (by simp; omega)).trans ((Below.heap_alloc _ _ _ (by simp)).trans (heap_alloc_new w _))))
    clear hRES hg hj hf hN ih hnl hkl
    by_cases h1 : k = 1
    · subst h1
      have hr := HR.out
      rw [if_pos rfl] at hr
      have HRA := Lib.hid hr
      clear hr HR hmf
      go_enter Tryz.func103, Tryz.ntmps103
      go_wp2_with fail
      refine (bare_calls 1 is t a ns.length nc a' ks.length kc [] false _ HNL.out HKL.out).mono ?_
      rintro e w5 ⟨rfl, hb5⟩
      have HB5 := Lib.hid ((HB.out _).trans (hb5.mono (by simp; omega)))
      obtain ⟨q0, q1, q2, q3, q4, _⟩ := cells5 (HBX.out _ _ hb5)
      clear hb5
      rw [empty_lengths]
      have e : (decide (t = []) && (is == false) && (decide (ns = []) && ks.isEmpty)) = RES := by
        rw [HRA.out]
        cases is <;> cases (decide (t = [])) <;> cases (decide (ns = [])) <;> cases ks.isEmpty <;> rfl
      rw [e]
      go_wp2
      go_ret
      exact ⟨rfl, HB5.out⟩
    by_cases h2 : k = 2
    · subst h2
      have hr := HR.out
      rw [if_neg (by decide), if_pos rfl] at hr
      have HRA := Lib.hid hr
      clear hr HR hmf
      go_enter Tryz.func103, Tryz.ntmps103
      go_wp2_with fail
      refine (bare_calls 2 is t a ns.length nc a' ks.length kc [] is _ HNL.out HKL.out).mono ?_
      rintro e w5 ⟨rfl, hb5⟩
      have HB5 := Lib.hid ((HB.out _).trans (hb5.mono (by simp; omega)))
      obtain ⟨q0, q1, q2, q3, q4, _⟩ := cells5 (HBX.out _ _ hb5)
      clear hb5
      rw [empty_lengths]
      have e : (decide (t = []) && (is == is) && (decide (ns = []) && ks.isEmpty)) = RES := by
        rw [HRA.out]
        cases is <;> cases (decide (t = [])) <;> cases (decide (ns = [])) <;> cases ks.isEmpty <;> rfl
      rw [e]
      go_wp2
      go_ret
      exact ⟨rfl, HB5.out⟩
    by_cases h3 : k = 3
    · subst h3
      have hr := HR.out
      rw [if_neg (by decide), if_neg (by decide), if_pos rfl] at hr
      have HRA := Lib.hid hr
      clear hr HR hmf
      go_enter Tryz.func103, Tryz.ntmps103
      go_wp2_with fail
      refine (bare_calls 3 is t a ns.length nc a' ks.length kc t false _ HNL.out HKL.out).mono ?_
      rintro e w5 ⟨rfl, hb5⟩
      have HB5 := Lib.hid ((HB.out _).trans (hb5.mono (by simp; omega)))
      obtain ⟨q0, q1, q2, q3, q4, _⟩ := cells5 (HBX.out _ _ hb5)
      clear hb5
      rw [empty_lengths]
      have e : (decide (t = t) && (is == false) && (decide (ns = []) && ks.isEmpty)) = (!is && decide (ns = []) && ks.isEmpty) := by
        cases is <;> simp
      rw [e]
      clear e
      cases hx : (!is && decide (ns = []) && ks.isEmpty) with
      | false =>
        have hfin : RES = false := by rw [HRA.out, hx]; rfl
        subst hfin
        clear hx
        go_wp2
        go_ret
        exact ⟨rfl, HB5.out⟩
      | true =>
        have hfin : RES = decide (Cx.isNum t) := by rw [HRA.out, hx]; rfl
        have HFIN := Lib.hid hfin
        clear hx hfin
        go_wp2_with fail
        refine (isNumber_calls t _ (HG.out.below HB5.out) (Nat.le_trans h8 HB5.out.size)).mono ?_
        rintro e w6 ⟨rfl, hb6⟩
        have HB6 := Lib.hid (HB5.out.trans (hb6.mono HB5.out.size))
        clear hb6
        rw [show decide (Cx.isNum t) = RES by rw [HFIN.out]]
        go_wp2
        go_ret
        exact ⟨rfl, HB6.out⟩
    by_cases h4 : k = 4
    · subst h4
      have hr := HR.out
      rw [if_neg (by decide), if_neg (by decide), if_neg (by decide), if_pos rfl] at hr
      have HRA := Lib.hid hr
      clear hr HR hmf
      go_enter Tryz.func103, Tryz.ntmps103
      go_wp2_with fail
      refine (bare_calls 4 is t a ns.length nc a' ks.length kc t false _ HNL.out HKL.out).mono ?_
      rintro e w5 ⟨rfl, hb5⟩
      have HB5 := Lib.hid ((HB.out _).trans (hb5.mono (by simp; omega)))
      obtain ⟨q0, q1, q2, q3, q4, _⟩ := cells5 (HBX.out _ _ hb5)
      clear hb5
      rw [empty_lengths]
      have e : (decide (t = t) && (is == false) && (decide (ns = []) && ks.isEmpty)) = (!is && decide (ns = []) && ks.isEmpty) := by
        cases is <;> simp
      rw [e]
      clear e
      cases hx : (!is && decide (ns = []) && ks.isEmpty) with
      | false =>
        have hfin : RES = false := by rw [HRA.out, hx]; rfl
        subst hfin
        clear hx
        go_wp2
        go_ret
        exact ⟨rfl, HB5.out⟩
      | true =>
        have hfin : RES = Cx.valid t := by rw [HRA.out, hx]; rfl
        have HFIN := Lib.hid hfin
        clear hx hfin
        go_wp2_with fail
        refine (valid_calls ⟨t.toArray⟩ _ (HG.out.below HB5.out) (show t.toArray.size ≤ maxLen by simpa using F.out.1)).mono ?_
        rintro e w6 ⟨rfl, hb6⟩
        have HB6 := Lib.hid (HB5.out.trans (hb6.mono HB5.out.size))
        clear hb6
        rw [show Cx.valid (⟨t.toArray⟩ : ByteArray).data.toList = RES by rw [HFIN.out]]
        go_wp2
        go_ret
        exact ⟨rfl, HB6.out⟩
    by_cases h5 : k = 5
    · subst h5
      have hr := HR.out
      rw [if_neg (by decide), if_neg (by decide), if_neg (by decide), if_neg (by decide), if_pos rfl] at hr
      have HRA := Lib.hid hr
      clear hr HR
      by_cases hns : ns = []
      · have hl : ¬ (0 : Int) < (ns.length : Int) := by rw [hns]; simp
        have hr := HRA.out
        rw [hns, show decide (([] : List Cx.Bytes) = []) = true from rfl, Bool.true_and] at hr
        have HRB := Lib.hid hr
        clear hr HRA hns
        by_cases ht : t = []
        · subst ht
          cases is with
          | true =>
            have hfin : RES = false := by rw [HRB.out]; simp
            subst hfin
            go_enter Tryz.func103, Tryz.ntmps103
            go_wp2_with fail
            go_ret
            exact ⟨rfl, HB.out _⟩
          | false =>
            by_cases hdd : d < 20
            · have hdl : (d : Int) < 20 := by omega
              have hfin : RES = Cx.rightK (d + 1) ks := by rw [HRB.out]; simp [hdd]
              have HFIN := Lib.hid hfin
              have IHd := Lib.hid (IH.out hdd)
              clear hfin HRB IH
              go_enter Tryz.func103, Tryz.ntmps103
              go_wp2_with fail
              refine (kids_calls d hd 5 false [] ns ks _ _ _ _ a' kc w _ ((Below.refl _ w).alloc (Nat.le_refl _) _) (by simp) IHd.out J.out F.out HN.out HG.out h8).mono ?_
              rintro e w5 ⟨rfl, hb5⟩
              have HB5 := Lib.hid hb5
              clear hb5
              have hfin2 := HFIN.out
              rw [← rightK_any] at hfin2
              generalize (ks.any fun k => !Cx.right (d + 1) k) = r at hfin2 ⊢
              subst hfin2
              go_wp2
              go_ret
              exact ⟨rfl, HB5.out⟩
            · have hdl : ¬ (d : Int) < 20 := by omega
              have hfin : RES = false := by rw [HRB.out]; simp [hdd]
              subst hfin
              go_enter Tryz.func103, Tryz.ntmps103
              go_wp2_with fail
              go_ret
              exact ⟨rfl, HB.out _⟩
        · have hfin : RES = false := by rw [HRB.out]; simp [ht]
          subst hfin
          go_enter Tryz.func103, Tryz.ntmps103
          go_wp2_with fail
          go_ret
          exact ⟨rfl, HB.out _⟩
      · have hl : (0 : Int) < (ns.length : Int) := by
          have : ns.length ≠ 0 := fun e => hns (List.length_eq_zero_iff.1 e)
          omega
        have hfin : RES = false := by rw [HRA.out]; simp [hns]
        clear hns
        subst hfin
        go_enter Tryz.func103, Tryz.ntmps103
        go_wp2_with fail
        go_ret
        exact ⟨rfl, HB.out _⟩
    by_cases h6 : k = 6
    · subst h6
      have hr := HR.out
      rw [if_neg (by decide), if_neg (by decide), if_neg (by decide), if_neg (by decide), if_neg (by decide), if_pos rfl] at hr
      have HRA := Lib.hid hr
      clear hr HR
      by_cases hlen : ns.length = ks.length
      · have hl : ((ns.length : Int) == (ks.length : Int)) = true := by simp [hlen]
        have hr := HRA.out
        rw [show decide (ns.length = ks.length) = true by simpa using hlen, Bool.true_and] at hr
        have HRB := Lib.hid hr; have HLEN := Lib.hid hlen
        clear hr HRA
        have hl' : decide (ns.length = ks.length) = true := by simpa using hlen
        clear hlen
        go_enter Tryz.func103, Tryz.ntmps103
        have hno : ns.length ≤ 200000 := by
          have h1 := nodesK_length ks; have h2 := HN.out
          have h3 := HLEN.out
          simp only [Cx.nodes] at h2; omega
        have HNO := Lib.hid hno
        have HBD := Lib.hid (fun (w' : World) (hb : Below ((w.alloc (.cells #[.int .i64 6, .bool is, .string ⟨t.toArray⟩, .slice a ns.length nc, .slice a' ks.length kc] 48)).alloc (.cells #[.int .i64 d] 3)).heap.size ((w.alloc (.cells #[.int .i64 6, .bool is, .string ⟨t.toArray⟩, .slice a ns.length nc, .slice a' ks.length kc] 48)).alloc (.cells #[.int .i64 d] 3)) w') =>
          (show w'.heap[w.heap.size + 1]? = some (.cells #[.int .i64 d] 3 (0, 0)) from (hb.block _ (by simp)).trans (by have := heap_alloc_new (w.alloc (.cells #[.int .i64 6, .bool is, .string ⟨t.toArray⟩, .slice a ns.length nc, .slice a' ks.length kc] 48)) (.cells #[.int .i64 d] 3); simpa using this)))
        clear hno
        go_wp2_with fail
        rotate_left
        · exfalso
          have hx : ¬ ((ns.length : Int) = (ks.length : Int)) := by assumption
          exact hx (by rw [HLEN.out])
        have hrow : Row w (fun g => g < w.heap.size) (.slice a ns.length nc) ns.length (ns.map strV) := by
          have hj := J.out
          unfold JAt at hj
          obtain ⟨sn, sk, hcs, h1, _⟩ := hj
          injection hcs with _ hcs; injection hcs with _ hcs; injection hcs with _ hcs; injection hcs with e3 hcs
          rw [e3]; exact h1
        refine (names_calls _ ns _ _ (hrow.below (HB.out _)) HNO.out (fun n hn => F.out.2.2.1 n hn) (HG.out.below (HB.out _))).mono ?_
        rintro e w5 ⟨rfl, hb5⟩
        have HB5 := Lib.hid ((HB.out _).trans (hb5.mono (by simp; omega)))
        obtain ⟨q0, q1, q2, q3, q4, _⟩ := cells5 (HBX.out _ _ hb5)
        have HD5 := Lib.hid (HBD.out _ hb5)
        have hsz5 : w.heap.size + 1 < w5.heap.size := heap_lt HD5.out
        have d0 : w5.cell? ⟨w.heap.size + 1, 0, none⟩ = some (.int .i64 d) := by have := HD5.out; simp [World.cell?, this]
        clear hb5 hrow
        cases hnm : Cx.namesOk [] ns with
        | false =>
          have hfin : RES = false := by rw [HRB.out, hnm]; rfl
          subst hfin
          clear hnm
          go_wp2_with fail
          go_ret
          exact ⟨rfl, HB5.out⟩
        | true =>
          have hr := HRB.out
          rw [hnm, Bool.true_and] at hr
          have HRC := Lib.hid hr
          clear hr HRB hnm
          by_cases ht : t = []
          · subst ht
            cases is with
            | true =>
              have hfin : RES = false := by rw [HRC.out]; simp
              subst hfin
              go_wp2_with fail
              go_ret
              exact ⟨rfl, HB5.out⟩
            | false =>
              by_cases hdd : d < 20
              · have hdl : (d : Int) < 20 := by omega
                have hfin : RES = Cx.rightK (d + 1) ks := by rw [HRC.out]; simp [hdd]
                have HFIN := Lib.hid hfin
                have IHd := Lib.hid (IH.out hdd)
                clear hfin HRC IH
                go_wp2_with fail
                refine (kids_calls2 d hd 6 false [] ns ks _ _ _ _ a' kc w _ (w.heap.size + 1) HB5.out HD5.out IHd.out J.out F.out HN.out HG.out h8).mono ?_
                rintro e w6 ⟨rfl, hb6⟩
                have HB6 := Lib.hid hb6
                clear hb6
                have hfin2 := HFIN.out
                rw [← rightK_any] at hfin2
                generalize (ks.any fun k => !Cx.right (d + 1) k) = r at hfin2 ⊢
                subst hfin2
                go_wp2
                go_ret
                exact ⟨rfl, HB6.out⟩
              · have hdl : ¬ (d : Int) < 20 := by omega
                have hfin : RES = false := by rw [HRC.out]; simp [hdd]
                subst hfin
                go_wp2_with fail
                go_ret
                exact ⟨rfl, HB5.out⟩
          · have hfin : RES = false := by rw [HRC.out]; simp [ht]
            subst hfin
            go_wp2_with fail
            go_ret
            exact ⟨rfl, HB5.out⟩
      · have hl : decide (ns.length = ks.length) = false := by simpa using hlen
        have hfin : RES = false := by rw [HRA.out]; simp [hlen]
        subst hfin
        go_enter Tryz.func103, Tryz.ntmps103
        go_wp2_with fail
        go_ret
        exact ⟨rfl, HB.out _⟩
    have hr := HR.out
    rw [if_neg h1, if_neg h2, if_neg h3, if_neg h4, if_neg h5, if_neg h6] at hr
    have e1 : (k == 1) = false := by simpa using h1
    have e2 : (k == 2) = false := by simpa using h2
    have e3 : (k == 3) = false := by simpa using h3
    have e4 : (k == 4) = false := by simpa using h4
    have e5 : (k == 5) = false := by simpa using h5
    have e6 : (k == 6) = false := by simpa using h6
    subst hr
    clear h1 h2 h3 h4 h5 h6 HR
    go_enter Tryz.func103, Tryz.ntmps103
    go_wp2_with fail
    go_ret
    exact ⟨rfl, HB.out _⟩
end Go.Proofs.YtejlddimokmgjaaGreatDoor
