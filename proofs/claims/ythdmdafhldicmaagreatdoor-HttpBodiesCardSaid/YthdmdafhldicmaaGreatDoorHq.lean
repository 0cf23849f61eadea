/- WALKS: size. -/
import Derived.Test.YthdmdafhldicmaaGreatDoorHp
import Derived.Test.YthdmdafhldicmaaGreatDoorHb
namespace Go.Proofs.YthdmdafhldicmaaGreatDoor
open Go.RowKit

theorem hexv_lt {c : UInt8} {d : Nat} (h : Hx.hexv c = some d) : d < 16 := by
  unfold Hx.hexv at h
  split at h
  · injection h with h; omega
  · split at h
    · injection h with h; omega
    · split at h
      · injection h with h; omega
      · cases h
theorem hexU_eq : ∀ (l : List UInt8) (n k : Nat), n < 16 ^ k → k + l.length ≤ 15 → hexU 18446744073709551615 l n = Hx.hexN l n ∧ ∀ v, Hx.hexN l n = some v → v < 16 ^ (k + l.length)
  | [], n, k, h, _ => ⟨rfl, fun v hv => by injection hv with hv; subst hv; simpa using h⟩
  | c :: l, n, k, h, hk => by
    rw [List.length_cons] at hk
    unfold hexU Hx.hexN
    cases hc : Hx.hexv c with
    | none => exact ⟨rfl, fun v hv => by cases hv⟩
    | some d =>
      have hd := hexv_lt hc
      have hp : 16 ^ k ≤ 16 ^ 14 := Nat.pow_le_pow_right (by omega) (by omega)
      have hn : n < 16 ^ 14 := Nat.lt_of_lt_of_le h hp
      have hn2 : n * 16 + d < 16 ^ (k + 1) := by rw [Nat.pow_succ]; omega
      simp only
      rw [if_neg (by have : (16 : Nat) ^ 14 = 72057594037927936 := by decide
                     omega)]
      have := hexU_eq l (n * 16 + d) (k + 1) hn2 (by omega)
      rw [List.length_cons, show k + (l.length + 1) = k + 1 + l.length by omega]
      exact this

set_option maxRecDepth 100000 in
theorem parseUint64_empty (w : World) (hg : Glb w) :
    Calls Tryz.prog 29 #[.string ⟨#[]⟩, .int .i64 16, .int .i64 64] w fun e w' => (∃ (x : Int) (t : Nat) (p : Value), e = .returned (.tuple #[.int .u64 x, .iface t p])) ∧ Below w.heap.size w w' := by
  have HG := Lib.hid hg; clear hg
  have hin : Calls Tryz.prog 45 #[.string ⟨#[]⟩, .int .i64 16, .int .i64 64] w fun e w' => e = .returned (.tuple #[.int .u64 0, .iface 96 (.int .i64 2)]) ∧ w' = w := by
    go_enter Tryz.func45, Tryz.ntmps45
    go_wp2_with fail
    go_ret2
    exact ⟨rfl, rfl⟩
  have HIN := Lib.hid hin; clear hin
  go_enter Tryz.func29, Tryz.ntmps29
  go_wp2_with fail
  refine HIN.out.mono ?_
  rintro e w1 ⟨rfl, hw'⟩
  have hw' := hw'.symm
  subst hw'
  go_wp2_with fail
  obtain ⟨v, hv, hev⟩ := HG.out.2.1
  refine (Tryz.strconv_toError_syntax _ ⟨#[]⟩ _ _ v _ (by decide) hv hev).mono ?_
  rintro e w2 ⟨N, rfl, _, _, hb2⟩
  have HB2 := Lib.hid hb2
  clear hb2 hv hev
  go_wp2
  go_ret2
  exact ⟨⟨_, _, _, rfl⟩, HB2.out⟩

/-- What 'size' comes to. -/
def SizePost (l : Hx.Bytes) (w : World) (e : Ending) (w' : World) : Prop :=
  Below w.heap.size w w' ∧ (∀ k, Hx.size l = some k → e = .returned (.tuple #[.int .i64 k, .bool true]) ∧ k < 4294967296) ∧ (Hx.size l = none → ∃ x, e = .returned (.tuple #[.int .i64 x, .bool false]))
theorem SizePost.no {l : Hx.Bytes} {w w' : World} {x : Int} (h : Hx.size l = none) (k : Below w.heap.size w w') : SizePost l w (.returned (.tuple #[.int .i64 x, .bool false])) w' :=
  ⟨k, fun n hn => (by rw [h] at hn; cases hn), fun _ => ⟨x, rfl⟩⟩

set_option maxRecDepth 100000 in
set_option maxHeartbeats 1000000 in
theorem size_calls (l : Hx.Bytes) (w : World) (hg : Glb w) (hl : l.length ≤ 100000) :
    Calls Tryz.prog 61 #[.string ⟨l.toArray⟩] w (SizePost l w) := by
  obtain ⟨A, hA⟩ : ∃ A, A = Hx.ahead 59 l := ⟨_, rfl⟩
  obtain ⟨V, hV⟩ : ∃ V, V = Hx.behind 59 l := ⟨_, rfl⟩
  have hAl : A.length ≤ 100000 := by rw [hA]; exact Nat.le_trans (by simp [Hx.ahead]; omega) hl
  have hVl : V.length ≤ 100000 := by rw [hV]; exact Nat.le_trans (by simp [Hx.behind]) hl
  obtain ⟨R, hR⟩ : ∃ R, R = Hx.size l := ⟨_, rfl⟩
  have HR := Lib.hid hR
  unfold Hx.size at hR
  simp only at hR
  rw [← hA, ← hV] at hR
  have HRE := Lib.hid hR; have HA := Lib.hid hA; have HV := Lib.hid hV; have HG := Lib.hid hg
  have b0 := Lib.hid (Below.refl w.heap.size w)
  obtain ⟨VK, hVK⟩ : ∃ VK, VK = V.all Hx.valued := ⟨_, rfl⟩
  have CV : Hid (∀ wq, Calls Tryz.prog 52 #[.string ⟨V.toArray⟩, .func (.func 80) #[] #[]] wq fun e w' => e = .returned (.bool VK) ∧ w' = wq) := Lib.hid fun wq => by rw [hVK]; exact among_valued V wq (by unfold maxLen; omega)
  have HVK := Lib.hid hVK
  clear hR hA hV hg hVK
  go_enter Tryz.func61, Tryz.ntmps61
  go_wp2_with fail
  refine (cut_calls l 59 _ HG.out (by omega)).mono ?_
  rintro e w1 ⟨rfl, n, rfl⟩
  rw [← HA.out, ← HV.out]
  by_cases hA0 : A = []
  · have hno : Hx.size l = none := by rw [← HR.out, HRE.out, if_neg (fun h => h.1 hA0)]
    have HNO := Lib.hid hno
    clear hno HRE HA HR
    subst hA0
    go_wp2_with fail
    refine (parseUint64_empty _ (HG.out.drewN _)).mono ?_
    rintro e w2 ⟨⟨x, t, p, rfl⟩, hb⟩
    have B2 := Lib.hid ((below_dN b0.out n).trans (hb.mono (Nat.le_refl _)))
    clear hb
    go_wp2_with fail
    go_ret2
    exact SizePost.no HNO.out B2.out
  have hsz : (⟨A.toArray⟩ : ByteArray).size ≠ 0 := by rw [size_list]; intro e; exact hA0 (List.length_eq_zero_iff.1 e)
  have PU := Lib.hid (fun (wq : World) (hq : Glb wq) => parseUint64_calls ⟨A.toArray⟩ hsz (by rw [size_list]; omega) wq hq)
  rw [show (⟨A.toArray⟩ : ByteArray).data.toList = A by simp] at PU
  by_cases h8 : A.length ≤ 8
  rotate_left
  · have hno : Hx.size l = none := by rw [← HR.out, HRE.out, if_neg (fun h => h8 h.2.1)]
    have HNO := Lib.hid hno
    have n8 : decide ((A.length : Int) ≤ 8) = false := by simp; omega
    have n8p : ¬ (A.length : Int) ≤ 8 := by omega
    clear hno HRE HA HR hA0 h8 hsz
    go_wp2_with fail
    refine (PU.out _ (HG.out.drewN _)).mono ?_
    rintro e w2 ⟨hp, hb⟩
    have B2 := Lib.hid ((below_dN b0.out n).trans (hb.mono (Nat.le_refl _)))
    clear hb
    cases hu : hexU 18446744073709551615 A 0 with
    | none =>
      obtain ⟨x, t, p, rfl⟩ := hp.2 hu
      clear hu hp
      go_wp2_with fail
      go_ret2
      exact SizePost.no HNO.out B2.out
    | some v =>
      obtain rfl := hp.1 v hu
      clear hu hp
      go_wp2_with fail
      go_ret2
      exact SizePost.no HNO.out B2.out
  obtain ⟨hue, hub⟩ := hexU_eq A 0 0 (by decide) (by omega)
  have n8 : decide ((A.length : Int) ≤ 8) = true := by simp; omega
  have n8p : (A.length : Int) ≤ 8 := by omega
  have HUE := Lib.hid hue; have HUB := Lib.hid hub; have HA0 := Lib.hid hA0; have H8 := Lib.hid h8
  clear hue hub hsz hA0 h8
  go_wp2_with fail
  refine (PU.out _ (HG.out.drewN _)).mono ?_
  rintro e w2 ⟨hp, hb⟩
  have B2 := Lib.hid ((below_dN b0.out n).trans (hb.mono (Nat.le_refl _)))
  clear hb
  cases hu : Hx.hexN A 0 with
  | none =>
    obtain ⟨x, t, p, rfl⟩ := hp.2 (HUE.out.trans hu)
    have hno : Hx.size l = none := by
      rw [← HR.out, HRE.out]
      split
      · exact hu
      · rfl
    have HNO := Lib.hid hno
    clear hno hu hp HRE HA HR
    go_wp2_with fail
    go_ret2
    exact SizePost.no HNO.out B2.out
  | some v =>
    obtain rfl := hp.1 v (HUE.out.trans hu)
    have hv : v < 4294967296 := by
      have h1 := HUB.out v hu
      have h2 : (16 : Nat) ^ (0 + A.length) ≤ 16 ^ 8 := Nat.pow_le_pow_right (by omega) (by have := H8.out; omega)
      have h3 : (16 : Nat) ^ 8 = 4294967296 := by decide
      omega
    cases VK with
    | false =>
      have hno : Hx.size l = none := by
        rw [← HR.out, HRE.out, if_neg]
        rintro ⟨_, _, h⟩
        rw [← HVK.out] at h; cases h
      have HNO := Lib.hid hno
      clear hno hu hp HRE HA HR
      go_wp2_with fail
      refine (CV.out _).mono ?_
      rintro e w' ⟨rfl, hw'⟩
      have hw' := hw'.symm
      subst hw'
      go_wp2_with fail
      go_ret2
      exact SizePost.no HNO.out B2.out
    | true =>
      have hyes : Hx.size l = some v := by
        rw [← HR.out, HRE.out, if_pos ⟨HA0.out, H8.out, HVK.out.symm⟩]; exact hu
      have HY := Lib.hid hyes
      clear hyes hu hp HRE HA HR
      go_wp2_with fail
      refine (CV.out _).mono ?_
      rintro e w' ⟨rfl, hw'⟩
      have hw' := hw'.symm
      subst hw'
      go_wp2_with fail
      go_ret2
      exact ⟨B2.out, fun k hk => by rw [HY.out] at hk; injection hk with hk; subst hk; exact ⟨rfl, hv⟩, fun h => by rw [HY.out] at h; cases h⟩
end Go.Proofs.YthdmdafhldicmaaGreatDoor
