/- WALKS: more of package json's reader: optional bytes, numbers. -/
import Derived.Test.YtbdmepilmoomeaaGreatDoorRd2
import Derived.Deep.DeepCutAuto
namespace Go.Proofs.YtbdmepilmoomeaaGreatDoor
open Go.RowKit

theorem skip_yes (s : ByteArray) (i : Nat) (m : Int) (b : Nat) (L : ByteArray) (w : World) (h : Rd b s i m w) (hs : s.size ≤ maxLen) (h0 : (0 : UInt8) ∉ L.data.toList) (hc : Cx.peek s.data.toList i ∈ L.data.toList) :
    Calls Tryz.prog 84 #[.pointer (some ⟨b, 0, none⟩), .string L] w fun e w' => e = .returned (.bool true) ∧ Rd b s (i + 1 : Nat) m w' ∧ Mv b w w' := by
  have hs' := hs
  unfold maxLen at hs
  have hc0 := h.c0; have hc1 := h.c1; have hf := h.fr 1
  have hi : i < s.size := Cx.peek_lt (s := s.data.toList) (fun e => h0 (by rw [← e]; exact hc))
  rw [peek_size hi] at hc
  have hix := (ix_pos hc).1
  have hne : ((i : Int) == (s.size : Int)) = false := by simp; omega
  have H := Lib.hid h; clear h h0 hc
  have hd : decide (ix L.data.toList s[i] < 0) = false := by simp; omega
  go_enter Tryz.func84, Tryz.ntmps84
  go_wp2
  go_quiet ((go_at_call 46; exact Calls.quiet_of_same (indexByte_calls _ _ _)))
  go_wp2
  go_ret
  exact ⟨rfl, (H.out.drewN _).set1 _, ((Mv.refl b w).drewN _).set (.inl rfl) _⟩
theorem skip_no (s : ByteArray) (i : Nat) (m : Int) (b : Nat) (L : ByteArray) (w : World) (h : Rd b s i m w) (hle : i ≤ s.size) (hs : s.size ≤ maxLen) (hc : Cx.peek s.data.toList i ∉ L.data.toList) :
    Calls Tryz.prog 84 #[.pointer (some ⟨b, 0, none⟩), .string L] w fun e w' => e = .returned (.bool false) ∧ Rd b s i m w' ∧ Mv b w w' := by
  have hs' := hs
  unfold maxLen at hs
  have hc0 := h.c0; have hc1 := h.c1
  rcases Nat.lt_or_ge i s.size with hi | hi
  · rw [peek_size hi] at hc
    have hix := ix_neg hc
    have hne : ((i : Int) == (s.size : Int)) = false := by simp; omega
    have H := Lib.hid h; clear h hc
    have hd : decide (ix L.data.toList s[i] < 0) = true := by simp; omega
    clear hix
    go_enter Tryz.func84, Tryz.ntmps84
    go_wp2
    go_quiet ((go_at_call 46; exact Calls.quiet_of_same (indexByte_calls _ _ _)))
    go_wp2
    go_ret
    exact ⟨rfl, H.out.drewN _, (Mv.refl b w).drewN _⟩
  · have : i = s.size := by omega
    subst this
    have hne : ((s.size : Int) == (s.size : Int)) = true := by simp
    have H := Lib.hid h; clear h hc
    go_enter Tryz.func84, Tryz.ntmps84
    go_wp2
    go_quiet (fail)
    go_wp2
    go_ret
    exact ⟨rfl, H.out.drewN _, (Mv.refl b w).drewN _⟩

theorem opt_in {s L : Cx.Bytes} {i : Nat} (h : Cx.peek s i ∈ L) : Cx.opt s L i = i + 1 := by unfold Cx.opt; rw [if_pos h]
theorem opt_out {s L : Cx.Bytes} {i : Nat} (h : Cx.peek s i ∉ L) : Cx.opt s L i = i := by unfold Cx.opt; rw [if_neg h]

/-- What 'skip' does where nobody asks for its answer. -/
theorem skip_any (s : ByteArray) (i : Nat) (m : Int) (b : Nat) (L : ByteArray) (w : World) (h : Rd b s i m w) (hle : i ≤ s.size) (hs : s.size ≤ maxLen) (h0 : (0 : UInt8) ∉ L.data.toList) :
    Calls Tryz.prog 84 #[.pointer (some ⟨b, 0, none⟩), .string L] w fun e w' => (∃ d, e = .returned (.bool d)) ∧ Rd b s (Cx.opt s.data.toList L.data.toList i : Nat) m w' ∧ Mv b w w' := by
  by_cases hc : Cx.peek s.data.toList i ∈ L.data.toList
  · rw [opt_in hc]
    exact (skip_yes s i m b L w h hs h0 hc).mono fun e w' ⟨h1, h2, h3⟩ => ⟨⟨_, h1⟩, h2, h3⟩
  · rw [opt_out hc]
    exact (skip_no s i m b L w h hle hs hc).mono fun e w' ⟨h1, h2, h3⟩ => ⟨⟨_, h1⟩, h2, h3⟩

/-- Does one of some bytes stand at a place? Under a name that a walk does not open. -/
def sk (s L : List UInt8) (i : Nat) : Bool := decide (Cx.peek s i ∈ L)
theorem sk_opt {s L : List UInt8} {i : Nat} : Cx.opt s L i = if sk s L i = true then i + 1 else i := by unfold Cx.opt sk; simp
theorem skip_calls (s : ByteArray) (i : Nat) (m : Int) (b : Nat) (L : ByteArray) (w : World) (h : Rd b s i m w) (hle : i ≤ s.size) (hs : s.size ≤ maxLen) (h0 : (0 : UInt8) ∉ L.data.toList) :
    Calls Tryz.prog 84 #[.pointer (some ⟨b, 0, none⟩), .string L] w fun e w' => e = .returned (.bool (sk s.data.toList L.data.toList i)) ∧ Rd b s (Cx.opt s.data.toList L.data.toList i : Nat) m w' ∧ Mv b w w' := by
  by_cases hc : Cx.peek s.data.toList i ∈ L.data.toList
  · rw [opt_in hc, show sk s.data.toList L.data.toList i = true by simpa [sk] using hc]
    exact skip_yes s i m b L w h hs h0 hc
  · rw [opt_out hc, show sk s.data.toList L.data.toList i = false by simpa [sk] using hc]
    exact skip_no s i m b L w h hle hs hc

set_option maxRecDepth 100000 in
set_option maxHeartbeats 1000000 in
/-- The text of a number is what the reader went past. -/
theorem number_calls (s : ByteArray) (i : Nat) (m : Int) (b : Nat) (w : World) (h : Rd b s i m w) (hle : i ≤ s.size) (hs : s.size ≤ maxLen) :
    Calls Tryz.prog 52 #[.pointer (some ⟨b, 0, none⟩)] w
      (Gives (Cx.number s.data.toList i) (fun j e w' => e = .returned (.string ⟨((s.data.toList.drop i).take (j - i)).toArray⟩) ∧ Rd b s j m w') b w) := by
  have hs' := hs
  unfold maxLen at hs
  have h1 := h.c1
  have H := Lib.hid h; clear h
  go_enter Tryz.func52, Tryz.ntmps52
  go_wp2_with fail
  refine (skip_calls s i m b ⟨#[45]⟩ _ H.out hle hs' (by decide)).mono ?_
  rintro e w1 ⟨rfl, g1, g2⟩
  have hle1 : Cx.opt s.data.toList [45] i ≤ s.size := Cx.opt_len (by decide) hle
  have hge1 := (Cx.opt_le (s := s.data.toList) (l := [45]) (i := i)).1
  generalize hp : Cx.opt s.data.toList [45] i = p at hle1 hge1
  have G1 : Hid (Rd b s p m w1) := by rw [← hp]; exact g1
  have G2 := Lib.hid g2; have HP := Lib.hid hp; clear g1 g2 h1 hp
  go_upto_if 12 with (go_at_call 84; refine (skip_calls s p m b ⟨#[48]⟩ _ G1.out hle1 hs' (by decide)).mono ?_; rintro e w2 ⟨rfl, g1, g2⟩)
  go_cut [3] (fun x wr => ∃ a : Nat, x = .int .i64 i ∧ Cx.numInt s.data.toList p = .ok a ∧ Rd b s a m wr ∧ Mv b w wr)
  case first =>
    have hns : sk s.data.toList [48] p = true → Cx.numInt s.data.toList p = .ok (p + 1) := fun hk => by unfold Cx.numInt; rw [sk_opt, if_pos hk, if_neg (by omega)]
    have hno : sk s.data.toList [48] p = false → Cx.numInt s.data.toList p = Cx.digits s.data.toList p := fun hk => by unfold Cx.numInt; rw [sk_opt, hk]; simp
    have hrs : sk s.data.toList [48] p = true → Rd b s (p + 1 : Nat) m w2 := fun hk => by have h' := g1; rw [sk_opt, if_pos hk] at h'; exact h'
    have hro : sk s.data.toList [48] p = false → Rd b s p m w2 := fun hk => by have h' := g1; rw [sk_opt, hk] at h'; exact h'
    have HNS := Lib.hid hns; have HNO := Lib.hid hno; have HRS := Lib.hid hrs; have HRO := Lib.hid hro; have GM := Lib.hid (G2.out.trans g2)
    clear hns hno hrs hro g1 g2
    go_wp2_with fail
    · have hk : sk s.data.toList [48] p = false := by have h' : (!sk s.data.toList [48] p) = true := by assumption
                                                      simpa using h'
      refine (digits_calls s p m b _ (HRO.out hk) hle1 hs').mono ?_
      intro e w3 hg
      cases hr : Cx.digits s.data.toList p with
      | ok a =>
        obtain ⟨⟨rfl, k1⟩, k2⟩ := hg.of_ok hr
        have HR := Lib.hid hr; have K1 := Lib.hid k1; have K2 := Lib.hid k2; have HK := Lib.hid hk; clear hr k1 k2 hg hk
        go_wp2_with fail
        go_meet
        case rel => exact ⟨a, rfl, by rw [HNO.out HK.out]; exact HR.out, K1.out, GM.out.trans K2.out⟩
      | error x =>
        obtain ⟨rfl, k2⟩ := hg.of_err hr
        refine ⟨rfl, Gives.err (x := x) ?_ (GM.out.trans k2)⟩
        unfold Cx.number
        rw [HP.out, HNO.out hk, hr]
    · have hk : sk s.data.toList [48] p = true := by have h' : (!sk s.data.toList [48] p) = false := by assumption
                                                     simpa using h'
      go_meet
      case rel => exact ⟨p + 1, rfl, HNS.out hk, HRS.out hk, GM.out⟩
  case rest =>
    obtain ⟨a, rfl, q1, q2, q3⟩ := hcut
    have hal := Cx.numInt_ok q1
    have hla : a ≤ s.size := hal.2
    have hpa : p < a := hal.1
    have Q1 := Lib.hid q1; have Q2 := Lib.hid q2; have Q3 := Lib.hid q3
    clear q1 q2 q3 hal g1 g2
    -- the fraction
    go_upto_if 16 with (go_at_call 84; refine (skip_calls s a m b ⟨#[46]⟩ _ Q2.out hla hs' (by decide)).mono ?_; rintro e w4 ⟨rfl, g1, g2⟩)
    go_cut [3] (fun x wr => ∃ c : Nat, x = .int .i64 i ∧ Cx.numFrac s.data.toList a = .ok c ∧ Rd b s c m wr ∧ Mv b w wr)
    case first =>
      have hns : sk s.data.toList [46] a = false → Cx.numFrac s.data.toList a = .ok a := fun hk => by unfold Cx.numFrac; rw [sk_opt, hk]; simp
      have hno : sk s.data.toList [46] a = true → Cx.numFrac s.data.toList a = Cx.digits s.data.toList (a + 1) := fun hk => by unfold Cx.numFrac; rw [sk_opt, hk]; simp
      have hrs : sk s.data.toList [46] a = false → Rd b s a m w4 := fun hk => by have h' := g1; rw [sk_opt, hk] at h'; exact h'
      have hro : sk s.data.toList [46] a = true → Rd b s (a + 1 : Nat) m w4 ∧ a + 1 ≤ s.size := fun hk => by
        have h' := g1; rw [sk_opt, hk] at h'
        have hlt : Cx.opt s.data.toList [46] a ≤ s.size := Cx.opt_len (by decide) hla
        rw [sk_opt, hk] at hlt
        exact ⟨h', hlt⟩
      have HNS := Lib.hid hns; have HNO := Lib.hid hno; have HRS := Lib.hid hrs; have HRO := Lib.hid hro; have GM := Lib.hid (Q3.out.trans g2)
      clear hns hno hrs hro g1 g2
      go_wp2_with fail
      · have hk : sk s.data.toList [46] a = true := by assumption
        refine (digits_calls s (a + 1) m b _ (HRO.out hk).1 (HRO.out hk).2 hs').mono ?_
        intro e w3 hg
        cases hr : Cx.digits s.data.toList (a + 1) with
        | ok c =>
          obtain ⟨⟨rfl, k1⟩, k2⟩ := hg.of_ok hr
          have HR := Lib.hid hr; have K1 := Lib.hid k1; have K2 := Lib.hid k2; have HK := Lib.hid hk; clear hr k1 k2 hg hk
          go_wp2_with fail
          go_meet
          case rel => exact ⟨c, rfl, by rw [HNO.out HK.out]; exact HR.out, K1.out, GM.out.trans K2.out⟩
        | error x =>
          obtain ⟨rfl, k2⟩ := hg.of_err hr
          refine ⟨rfl, Gives.err (x := x) ?_ (GM.out.trans k2)⟩
          unfold Cx.number
          rw [HP.out, Q1.out]; simp only
          rw [HNO.out hk, hr]
      · have hk : sk s.data.toList [46] a = false := by assumption
        go_meet
        case rel => exact ⟨a, rfl, HNS.out hk, HRS.out hk, GM.out⟩
    case rest =>
      obtain ⟨c, rfl, q1, q2, q3⟩ := hcut
      have hcl := Cx.numFrac_ok (s := s.data.toList) hla q1
      have hlc : c ≤ s.size := hcl.2
      have hac : a ≤ c := hcl.1
      have R1 := Lib.hid q1; have R2 := Lib.hid q2; have R3 := Lib.hid q3
      clear q1 q2 q3 hcl g1 g2
      -- the exponent
      go_upto_if 20 with (go_at_call 84; refine (skip_calls s c m b ⟨#[101, 69]⟩ _ R2.out hlc hs' (by decide)).mono ?_; rintro e w4 ⟨rfl, g1, g2⟩)
      go_cut [3] (fun x wr => ∃ j : Nat, x = .int .i64 i ∧ Cx.numExp s.data.toList c = .ok j ∧ Rd b s j m wr ∧ Mv b w wr)
      case first =>
        have hns : sk s.data.toList [101, 69] c = false → Cx.numExp s.data.toList c = .ok c := fun hk => by unfold Cx.numExp; rw [sk_opt, hk]; simp
        have hno : sk s.data.toList [101, 69] c = true → Cx.numExp s.data.toList c = Cx.digits s.data.toList (Cx.opt s.data.toList [43, 45] (c + 1)) := fun hk => by unfold Cx.numExp; rw [sk_opt, hk]; simp
        have hrs : sk s.data.toList [101, 69] c = false → Rd b s c m w4 := fun hk => by have h' := g1; rw [sk_opt, hk] at h'; exact h'
        have hro : sk s.data.toList [101, 69] c = true → Rd b s (c + 1 : Nat) m w4 ∧ c + 1 ≤ s.size := fun hk => by
          have h' := g1; rw [sk_opt, hk] at h'
          have hlt : Cx.opt s.data.toList [101, 69] c ≤ s.size := Cx.opt_len (by decide) hlc
          rw [sk_opt, hk] at hlt
          exact ⟨h', hlt⟩
        have HNS := Lib.hid hns; have HNO := Lib.hid hno; have HRS := Lib.hid hrs; have HRO := Lib.hid hro; have GM := Lib.hid (R3.out.trans g2)
        clear hns hno hrs hro g1 g2
        go_wp2_with fail
        · have hk : sk s.data.toList [101, 69] c = true := by assumption
          have hro := HRO.out hk
          have HNO := Lib.hid (HNO.out hk)
          have RR := Lib.hid hro.1
          have hle2 := hro.2
          clear hro hk HRO HNS HRS
          refine (skip_calls s (c + 1) m b ⟨#[43, 45]⟩ _ RR.out hle2 hs' (by decide)).mono ?_
          rintro e w5 ⟨rfl, g1, g2⟩
          have hle3 : Cx.opt s.data.toList [43, 45] (c + 1) ≤ s.size := Cx.opt_len (by decide) hle2
          generalize hq : Cx.opt s.data.toList [43, 45] (c + 1) = q at hle3
          have G1 : Hid (Rd b s q m w5) := by rw [← hq]; exact g1
          have GM2 := Lib.hid (GM.out.trans g2)
          have HQ := Lib.hid hq
          clear g1 g2 hq
          go_wp2_with fail
          refine (digits_calls s q m b _ G1.out hle3 hs').mono ?_
          intro e w3 hg
          cases hr : Cx.digits s.data.toList q with
          | ok j =>
            obtain ⟨⟨rfl, k1⟩, k2⟩ := hg.of_ok hr
            have HR := Lib.hid hr; have K1 := Lib.hid k1; have K2 := Lib.hid k2; clear hr k1 k2 hg
            go_wp2_with fail
            go_meet
            case rel => exact ⟨j, rfl, by rw [HNO.out, HQ.out]; exact HR.out, K1.out, GM2.out.trans K2.out⟩
          | error x =>
            obtain ⟨rfl, k2⟩ := hg.of_err hr
            refine ⟨rfl, Gives.err (x := x) ?_ (GM2.out.trans k2)⟩
            unfold Cx.number
            rw [HP.out, Q1.out]; simp only
            rw [R1.out]; simp only
            rw [HNO.out, HQ.out, hr]
        · have hk : sk s.data.toList [101, 69] c = false := by assumption
          go_meet
          case rel => exact ⟨c, rfl, HNS.out hk, HRS.out hk, GM.out⟩
      case rest =>
        obtain ⟨j, rfl, q1, q2, q3⟩ := hcut
        have hjl := Cx.numExp_ok (s := s.data.toList) hlc q1
        have hlj : j ≤ s.size := hjl.2
        have hcj : c ≤ j := hjl.1
        have hnum : Cx.number s.data.toList i = if j - i > 40 then .error (5, i) else .ok j := by
          unfold Cx.number
          rw [HP.out, Q1.out]; simp only
          rw [R1.out]; simp only
          rw [q1]
        have HN := Lib.hid hnum; have S2 := Lib.hid q2; have S3 := Lib.hid q3
        have c0 := q2.c0; have c1 := q2.c1
        clear hnum q1 q2 q3 hjl g1 g2
        have hw : IntKind.i64.wrap ((j : Int) - i) = (j : Int) - i := IntWalk.i64_in _ (by omega)
        by_cases hlong : 40 < j - i
        · have hl : (40 : Int) < (j : Int) - i := by omega
          go_wp2_with (go_at_call 26; refine (give_calls _ _ _ _).mono ?_; rintro e w' ⟨rfl, rfl⟩)
          have hn := HN.out
          rw [if_pos hlong] at hn
          exact ⟨rfl, Gives.err hn S3.out⟩
        · have hl : ¬ (40 : Int) < (j : Int) - i := by omega
          have hij : (i : Int) ≤ j := by omega
          have hjs : (j : Int) ≤ s.size := by omega
          go_wp2_with fail
          go_quiet (fail)
          go_wp2
          go_ret
          have hn := HN.out
          rw [if_neg hlong] at hn
          refine Gives.ok hn (S3.out.drewN _) ⟨?_, S2.out.drewN _⟩
          exact ret_str (extract_list s i j)
end Go.Proofs.YtbdmepilmoomeaaGreatDoor
