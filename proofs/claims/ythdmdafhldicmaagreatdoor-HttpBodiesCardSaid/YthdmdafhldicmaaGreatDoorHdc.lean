/- WALKS: Decode of package http. -/
import Derived.Test.YthdmdafhldicmaaGreatDoorHp
import Derived.Test.YthdmdafhldicmaaGreatDoorHbld
import Derived.Test.YthdmdafhldicmaaGreatDoorHf
import Derived.Test.YthdmdafhldicmaaGreatDoorHxDe
import Derived.Lib.ValidLaws
namespace Go.Proofs.YthdmdafhldicmaaGreatDoor
open Go.RowKit Go.Maps Go.WideMaps

/-- The tables of package utf8. -/
def Ut (w : World) : Prop := Lib.Utf8Tabs 0 1 w
theorem Ut.same {w w' : World} (h : Ut w) (hk : ∀ a v, a.block < 8 → w.cell? a = some v → w'.cell? a = some v) : Ut w' :=
  ⟨fun c hc => hk _ _ (show 0 < 8 by decide) (h.1 c hc), fun i hi => ⟨hk _ _ (show 1 < 8 by decide) (h.2 i hi).1, hk _ _ (show 1 < 8 by decide) (h.2 i hi).2⟩⟩
theorem Ut.below {w w' : World} (h : Ut w) (k : Below w.heap.size w w') : Ut w' := h.same fun a _ _ hc => (k.cell (World.block_lt_of_cell? w a hc)).trans hc

theorem valid_calls (s : ByteArray) (w : World) (hu : Ut w) (hs : s.size ≤ 1000000000) :
    Calls Tryz.prog 31 #[.string s] w fun e w' => e = .returned (.bool (Lib.validD s.data.toList)) ∧ Below w.heap.size w w' := by
  have HU := Lib.hid hu; clear hu
  go_enter Tryz.func31, Tryz.ntmps31
  go_wp2_with fail
  refine (Tryz.utf8_ValidString s _ (by omega) HU.out).mono ?_
  rintro e w1 ⟨rfl, hb⟩
  have HB := Lib.hid hb; clear hb
  go_wp2
  go_ret
  exact ⟨rfl, HB.out⟩

theorem hexU255 (a b : UInt8) : hexU 255 [a, b] 0 = Hx.hexN [a, b] 0 := by
  rw [Hx.hexN_two]
  unfold hexU
  cases ha : Hx.hexv a with
  | none => rfl
  | some x =>
    have hx := Hx.hexv_lt ha
    simp only
    rw [if_neg (by omega)]
    unfold hexU
    cases hb : Hx.hexv b with
    | none => rfl
    | some y =>
      have hy := Hx.hexv_lt hb
      simp only
      rw [if_neg (by omega)]
      unfold hexU
      simp

/-- What 'Decode' comes to. -/
def decOut (t : Hx.Bytes) : Option Hx.Bytes := match Hx.decode t with | none => none | some z => if Lib.validD z = true then some z else none
def DecPost (o : Option Hx.Bytes) (w : World) (e : Ending) (w' : World) : Prop :=
  e = .returned (.tuple #[.string ⟨(o.getD []).toArray⟩, .bool o.isSome]) ∧ Below w.heap.size w w'

theorem Bld.drewAlloc (w : World) (n : Nat) : Bld w.heap.size w.heap.size [] ((w.drewN n).alloc (.cells #[.pointer none, .slice none 0 0] 57)) := Bld.fresh (w.drewN n)

set_option maxRecDepth 100000 in
set_option maxHeartbeats 2000000 in
theorem decode_calls (t : Hx.Bytes) (w : World) (hg : Glb w) (hu : Ut w) (hl : t.length ≤ 100000) :
    Calls Tryz.prog 20 #[.string ⟨t.toArray⟩] w (DecPost (decOut t) w) := by
  obtain ⟨D, hD⟩ : ∃ D, D = Hx.decode t := ⟨_, rfl⟩
  obtain ⟨R, hR⟩ : ∃ R, R = decOut t := ⟨_, rfl⟩
  rw [← hR]
  unfold decOut at hR
  rw [← hD] at hR
  rw [Hx.decTail_start] at hD
  obtain ⟨H, hH⟩ : ∃ H, H = Hx.ahead 37 t := ⟨_, rfl⟩
  obtain ⟨B, hB⟩ : ∃ B, B = Hx.behind 37 t := ⟨_, rfl⟩
  obtain ⟨K, hK⟩ : ∃ K, K = decide ((37 : UInt8) ∈ t) := ⟨_, rfl⟩
  have hlen : H.length + B.length ≤ t.length := by
    rw [hH, hB]; unfold Hx.ahead Hx.behind
    rw [List.length_take, List.length_drop]; omega
  rw [← hH, ← hB, ← hK] at hD
  have HR := Lib.hid hR; have HD := Lib.hid hD; have HH := Lib.hid hH; have HB := Lib.hid hB; have HK := Lib.hid hK
  have HG := Lib.hid hg; have HU := Lib.hid hu
  clear hR hD hH hB hK hg hu
  go_enter Tryz.func20, Tryz.ntmps20
  go_wp2_with fail
  refine (cut_calls t 37 _ HG.out (by omega)).mono ?_
  rintro e w1 ⟨rfl, n, rfl⟩
  rw [← HH.out, ← HB.out, ← HK.out]
  have BD0 := Lib.hid (Bld.drewAlloc w n)
  have b1 := Lib.hid ((below_dN (Below.refl w.heap.size w) n).alloc (Nat.le_refl _) (.cells #[.pointer none, .slice none 0 0] 57))
  go_wp2_with fail
  refine (writeString_calls w.heap.size w.heap.size [] ⟨H.toArray⟩ _ BD0.out (by rw [size_list]; simp; omega) b1.out.size).mono ?_
  rintro e w2 ⟨⟨vv, rfl⟩, kb, kl, _⟩
  rw [show (⟨H.toArray⟩ : ByteArray).data.toList = H by simp, List.nil_append] at kb
  have BD2 := Lib.hid kb; have b2 := Lib.hid (b1.out.trans kl)
  clear kb kl BD0 b1
  go_wp2_with fail
  go_loopg [5, 6] (t.length + 1) (fun q z y wr => ∃ (acc rest : Hx.Bytes) (ok : Bool), z = .string ⟨rest.toArray⟩ ∧ y = .bool ok ∧ rest.length < q ∧ acc.length + rest.length ≤ t.length ∧ Hid (D = Hx.decTail acc rest ok) ∧ Hid (Bld w.heap.size w.heap.size acc wr) ∧ Hid (Below w.heap.size w wr))
  case atStart => exact ⟨H, B, K, rfl, rfl, by omega, hlen, HD, BD2, b2⟩
  case round =>
    clear HH HB HK HD BD2 b2
    obtain ⟨acc, rest, ok, rfl, rfl, hq, hac, HD, BD, b2⟩ := hrel
    obtain ⟨q, rfl⟩ : ∃ q, gk = q + 1 := ⟨gk - 1, by omega⟩
    have HG2 := Lib.hid (HG.out.below b2.out); have HU2 := Lib.hid (HU.out.below b2.out)
    cases ok with
    | false =>
      have hd := HD.out
      unfold Hx.decTail at hd
      rw [if_neg (by decide)] at hd
      have hr := HR.out
      rw [hd] at hr
      simp only at hr
      obtain ⟨V, hV⟩ : ∃ V, V = Lib.validD acc := ⟨_, rfl⟩
      rw [← hV] at hr
      have HR2 := Lib.hid hr; have HV := Lib.hid hV
      clear hd hr hV HD HR
      go_wp2_with fail
      refine (string_calls _ _ acc _ BD.out b2.out.size).mono ?_
      rintro e w3 ⟨rfl, kb, kl, _⟩
      have BD3 := Lib.hid kb; have b3 := Lib.hid (b2.out.trans kl)
      have HU3 := Lib.hid (HU.out.below b3.out)
      clear kb kl BD b2
      go_wp2_with fail
      refine (valid_calls ⟨acc.toArray⟩ _ HU3.out (by rw [size_list]; omega)).mono ?_
      rintro e w4 ⟨rfl, k⟩
      rw [show (⟨acc.toArray⟩ : ByteArray).data.toList = acc by simp, ← HV.out]
      have BD4 := Lib.hid (BD3.out.below k); have b4 := Lib.hid (b3.out.trans (k.mono b3.out.size))
      clear k BD3 b3
      cases V with
      | false =>
        have hr := HR2.out
        rw [if_neg (by decide)] at hr
        subst hr
        go_wp2_with fail
        go_ret2
        exact ⟨rfl, b4.out⟩
      | true =>
        have hr := HR2.out
        rw [if_pos rfl] at hr
        subst hr
        go_wp2_with fail
        refine (string_calls _ _ acc _ BD4.out b4.out.size).mono ?_
        rintro e w5 ⟨rfl, _, kl, _⟩
        have b5 := Lib.hid (b4.out.trans kl)
        clear kl
        go_wp2_with fail
        go_ret2
        exact ⟨rfl, b5.out⟩
    | true =>
    by_cases h2 : rest.length < 2
    · have hd := HD.out
      rw [Hx.decTail_short h2] at hd
      have hr := HR.out
      rw [hd] at hr
      simp only at hr
      have hlt : (rest.length : Int) < 2 := by omega
      subst hr
      clear hd h2 HD
      go_wp2_with fail
      go_ret2
      exact ⟨rfl, b2.out⟩
    obtain ⟨a, c, r, hrest⟩ : ∃ a c r, rest = a :: c :: r := by
      match rest, h2 with
      | [], h2 => exact absurd (by simp) h2
      | [a], h2 => exact absurd (by simp) h2
      | a :: c :: r, _ => exact ⟨a, c, r, rfl⟩
    obtain ⟨X, hX⟩ : ∃ X : ByteArray, X = ⟨rest.toArray⟩ := ⟨_, rfl⟩
    have hxs : X.size = rest.length := by rw [hX, size_list]
    have hx1 : X.extract 0 2 = ⟨#[a, c]⟩ := by rw [hX, hrest, extract_list]; rfl
    have hx2 : X.extract 2 X.size = ⟨r.toArray⟩ := by
      rw [hX, extract_list, hrest]
      congr 2
      rw [List.take_of_length_le]
      · rfl
      · simp [ByteArray.size]
    have hrl : rest.length = r.length + 2 := by rw [hrest]; simp
    have h2I : ¬ (X.size : Int) < 2 := by omega
    have h2N : 2 ≤ X.size := by omega
    have hpu := parseUint8_calls ⟨#[a, c]⟩ (by simp [ByteArray.size]) (by simp [ByteArray.size])
    rw [show (⟨#[a, c]⟩ : ByteArray).data.toList = [a, c] from rfl, hexU255] at hpu
    have PU := Lib.hid hpu; have HX1 := Lib.hid hx1; have HX2 := Lib.hid hx2; have HRE := Lib.hid hrest
    rw [← hX]
    have hrl1 : r.length + 2 ≤ rest.length := by omega
    clear hpu hx1 hx2 hrest h2 hX hxs hrl
    go_wp2_with fail
    rw [HX1.out]
    refine (PU.out _ HG2.out).mono ?_
    rintro e w3 ⟨hp, k⟩
    have BD3 := Lib.hid (BD.out.below k); have b3 := Lib.hid (b2.out.trans (k.mono b2.out.size))
    clear k BD b2 PU HG2 HU2
    cases hh : Hx.hexN [a, c] 0 with
    | none =>
      obtain ⟨x, te, pe, rfl⟩ := hp.2 hh
      have hd := HD.out
      rw [HRE.out, Hx.decTail_bad hh] at hd
      have hr := HR.out
      rw [hd] at hr
      simp only at hr
      subst hr
      clear hp hh hd
      go_wp2_with fail
      go_ret2
      exact ⟨rfl, b3.out⟩
    | some v =>
    obtain rfl := hp.1 v hh
    have hv := Hx.hexN_lt hh
    have hd := HD.out
    rw [HRE.out, Hx.decTail_step hh] at hd
    obtain ⟨H2, hH2⟩ : ∃ H, H = Hx.ahead 37 r := ⟨_, rfl⟩
    obtain ⟨B2, hB2⟩ : ∃ B, B = Hx.behind 37 r := ⟨_, rfl⟩
    obtain ⟨K2, hK2⟩ : ∃ K, K = decide ((37 : UInt8) ∈ r) := ⟨_, rfl⟩
    have hlen2 : H2.length + B2.length ≤ r.length := by
      rw [hH2, hB2]; unfold Hx.ahead Hx.behind
      rw [List.length_take, List.length_drop]; omega
    rw [← hH2, ← hB2, ← hK2] at hd
    have HD2 := Lib.hid hd; have HH2 := Lib.hid hH2; have HB2 := Lib.hid hB2; have HK2 := Lib.hid hK2
    have CC := Lib.hid (fun (wq : World) (hq : Glb wq) => cut_calls r 37 wq hq (by omega))
    rw [← hH2, ← hB2, ← hK2] at CC
    have hvc : ((UInt8.ofNat v).toNat : Int) = v := by
      rw [UInt8.toNat_ofNat_of_lt' (by simpa using hv)]
    obtain ⟨x, hx⟩ : ∃ x, x = UInt8.ofNat v := ⟨_, rfl⟩
    rw [← hx] at hvc HD2
    have WB := Lib.hid (fun (wq : World) h1 h2 h3 => writeByte_calls w.heap.size w.heap.size acc x wq h1 h2 h3)
    rw [hvc] at WB
    clear hp hh hd hH2 hB2 hK2 hx HD HRE hvc
    go_wp2_with fail
    refine (WB.out _ BD3.out (by omega) b3.out.size).mono ?_
    rintro e w4 ⟨rfl, kb, kl, _⟩
    have BD4 := Lib.hid kb; have b4 := Lib.hid (b3.out.trans kl)
    have HG4 := Lib.hid (HG.out.below b4.out)
    clear kb kl BD3 b3 WB
    go_wp2_with fail
    rw [HX2.out]
    refine (CC.out _ HG4.out).mono ?_
    rintro e w5 ⟨rfl, n5, rfl⟩
    have BD5 := Lib.hid (BD4.out.drewN n5); have b5 := Lib.hid (below_dN b4.out n5)
    clear BD4 b4 CC HG4
    go_wp2_with fail
    refine (writeString_calls w.heap.size w.heap.size (acc ++ [x]) ⟨H2.toArray⟩ _ BD5.out (by rw [size_list, List.length_append]; simp; omega) b5.out.size).mono ?_
    rintro e w6 ⟨⟨v6, rfl⟩, kb, kl, _⟩
    rw [show (⟨H2.toArray⟩ : ByteArray).data.toList = H2 by simp] at kb
    have BD6 := Lib.hid kb; have b6 := Lib.hid (b5.out.trans kl)
    clear kb kl BD5 b5
    go_wp2_with fail
    go_roundg q
    case measure => omega
    case rel => exact ⟨acc ++ [x] ++ H2, B2, K2, rfl, rfl, by omega, by simp only [List.length_append, List.length_cons, List.length_nil]; omega, HD2, BD6, b6⟩
end Go.Proofs.YthdmdafhldicmaaGreatDoor
