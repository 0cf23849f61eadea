/- WALKS: length. -/
import Derived.Test.YthdmdafhldicmaaGreatDoorHh
import Derived.Test.YthdmdafhldicmaaGreatDoorHxDec
namespace Go.Proofs.YthdmdafhldicmaaGreatDoor
open Go.RowKit Go.Maps Go.WideMaps

set_option maxRecDepth 100000 in
theorem many_run {B : Nat} {ns : List Hx.Bytes} {w : World} (h : MapAt B ns w) (n : Hx.Bytes) (hn : n.length ≤ 1000000000) : (Instr.lookup 75 (.map (some B)) (.string ⟨n.toArray⟩) false).run Tryz.prog w = .ok (.int .i64 (cnt ns n)) w := by
  obtain ⟨D, h1, _, h3⟩ := h
  obtain ⟨c, hrun, hat, _⟩ := h1.lookup_int lawS Tryz.underlying75 Tryz.underlying3 (zeroI _) (keyS hn)
  have e := hat.symm.trans (h3 n)
  injection e with e
  injection e with _ e
  subst e
  exact hrun

theorem parseUint_dig : ∀ (l : List UInt8) (acc k : Nat), (∀ c ∈ l, Hx.digit c = true) → acc < 10 ^ k → k + l.length ≤ 18 → Lib.parseUint10 acc l = .ok (Hx.decN l acc)
  | [], acc, k, _, _, _ => rfl
  | c :: r, acc, k, hd, ha, hk => by
    have hc := hd c (by simp)
    simp only [Hx.digit, Bool.and_eq_true, decide_eq_true_eq, UInt8.le_iff_toNat_le] at hc
    have hc' : 48 ≤ c.toNat ∧ c.toNat ≤ 57 := hc
    simp only [List.length_cons] at hk
    have hp : 10 ^ k ≤ 10 ^ 17 := Nat.pow_le_pow_right (by omega) (by omega)
    have ha' : acc < 100000000000000000 := Nat.lt_of_lt_of_le ha hp
    simp only [Lib.parseUint10]
    rw [if_pos hc', if_neg (by omega), if_neg (by omega)]
    rw [parseUint_dig r _ (k + 1) (fun x hx => hd x (by simp [hx])) (by rw [Nat.pow_succ]; omega) (by omega)]
    rfl
theorem atoi_dec {t : List UInt8} (hne : t ≠ []) (hl : t.length ≤ 9) (hd : t.all Hx.digit = true) : Lib.atoiAll t = .ok (Hx.decN t 0 : Nat) ∧ Hx.decN t 0 < 1000000000 := by
  rw [List.all_eq_true] at hd
  have hp := parseUint_dig t 0 0 hd (by decide) (by omega)
  have hs := Hx.decN_lt t 0 0 hd (by decide)
  have hs2 : (10 : Nat) ^ (0 + t.length) ≤ 10 ^ 9 := Nat.pow_le_pow_right (by omega) (by omega)
  have hs3 : Hx.decN t 0 < 1000000000 := Nat.lt_of_lt_of_le hs hs2
  refine ⟨?_, hs3⟩
  cases t with
  | nil => exact absurd rfl hne
  | cons c r =>
    have hc := hd c (by simp)
    simp only [Hx.digit, Bool.and_eq_true, decide_eq_true_eq, UInt8.le_iff_toNat_le] at hc
    have hc' : 48 ≤ c.toNat ∧ c.toNat ≤ 57 := hc
    have hn1 : ¬ (c.toNat = 43 ∨ c.toNat = 45) := by omega
    have hn2 : ¬ c.toNat = 45 := by omega
    unfold Lib.atoiAll Lib.parseMag
    simp only
    rw [if_neg hn1, if_neg hne, hp]
    simp only
    rw [if_neg (by omega), if_neg (by omega), if_neg hn2]

/-- The number that 'length' hands back. -/
def lenI (r : Option Nat × Nat) : Int := match r.1 with | none => -1 | some n => n
theorem cnt_eq (f : Hx.F) (n : Hx.Bytes) : cnt f.names n = Hx.count f n := rfl

set_option maxRecDepth 100000 in
set_option maxHeartbeats 2000000 in
theorem length_calls (f : Hx.F) (B : Nat) (vn vv : Value) (w : World) (h : FAt B vn vv f w) (hn : f.names.length ≤ 100000) (hvl : ∀ v ∈ f.values, v.length ≤ 100000) :
    Calls Tryz.prog 39 #[.pointer (some ⟨B + 1, 0, none⟩)] w fun e w' => e = .returned (.tuple #[.int .i64 (lenI (Hx.length f)), .int .i64 (Hx.length f).2]) ∧ Below w.heap.size w w' := by
  obtain ⟨q0, q1, q2, q3, _⟩ := h.cells
  obtain ⟨R, hR⟩ : ∃ R, R = Hx.length f := ⟨_, rfl⟩
  rw [← hR]
  unfold Hx.length at hR
  rw [← cnt_eq, ← cnt_eq, ← cnt_eq] at hR
  obtain ⟨N, Ne⟩ : ∃ N, N = cnt f.names Hx.tLength := ⟨_, rfl⟩
  obtain ⟨C, Ce⟩ : ∃ C, C = cnt f.names Hx.tEncoding := ⟨_, rfl⟩
  obtain ⟨P, Pe⟩ : ∃ P, P = cnt f.names Hx.tHost := ⟨_, rfl⟩
  have l1 : ∀ k, (Instr.lookup 75 (.map (some B)) (.string ⟨#[99, 111, 110, 116, 101, 110, 116, 45, 108, 101, 110, 103, 116, 104]⟩) false).run Tryz.prog (w.drewN k) = .ok (.int .i64 (N : Nat)) (w.drewN k) := fun k => Ne ▸ many_run (h.drewN k).map Hx.tLength (by decide)
  have l2 : ∀ k, (Instr.lookup 75 (.map (some B)) (.string ⟨#[116, 114, 97, 110, 115, 102, 101, 114, 45, 101, 110, 99, 111, 100, 105, 110, 103]⟩) false).run Tryz.prog (w.drewN k) = .ok (.int .i64 (C : Nat)) (w.drewN k) := fun k => Ce ▸ many_run (h.drewN k).map Hx.tEncoding (by decide)
  have l3 : ∀ k, (Instr.lookup 75 (.map (some B)) (.string ⟨#[104, 111, 115, 116]⟩) false).run Tryz.prog (w.drewN k) = .ok (.int .i64 (P : Nat)) (w.drewN k) := fun k => Pe ▸ many_run (h.drewN k).map Hx.tHost (by decide)
  rw [← Ne, ← Ce, ← Pe] at hR
  simp only at hR
  have hbN : N ≤ 100000 := by rw [Ne]; exact Nat.le_trans (cnt_le _ _) hn
  have hbC : C ≤ 100000 := by rw [Ce]; exact Nat.le_trans (cnt_le _ _) hn
  have HR := Lib.hid hR; have H := Lib.hid h
  have HV := Lib.hid (fun n => Hx.valueN_len (L := 100000) (ns := f.names) hvl n f.names.length)
  have HL := Lib.hid h.len
  have b0 := Lib.hid (Below.refl w.heap.size w)
  clear hR h hvl Ne Ce Pe
  go_enter Tryz.func39, Tryz.ntmps39
  go_wp2_with fail
  go_quiet (fail)
  by_cases hP : P = 1
  rotate_left
  · have hr : R = (some 0, 400) := by rw [HR.out, if_pos (.inl hP)]
    have n1 : ((P : Int) != 1) = true := by rw [bne_iff_ne]; omega
    subst hr
    clear hP
    go_wp2_with fail
    go_ret2
    exact ⟨rfl, below_dN b0.out _⟩
  have n1 : ((P : Int) != 1) = false := by rw [hP]; rfl
  by_cases hN1 : 1 < N
  · have hr : R = (some 0, 400) := by rw [HR.out, if_pos (.inr (.inl hN1))]
    have n2 : (1 : Int) < (N : Int) := by omega
    subst hr
    clear hP hN1
    go_wp2_with fail
    go_ret2
    exact ⟨rfl, below_dN b0.out _⟩
  have n2 : ¬ (1 : Int) < (N : Int) := by omega
  by_cases hC1 : 1 < C
  · have hr : R = (some 0, 400) := by rw [HR.out, if_pos (.inr (.inr (.inl hC1)))]
    have n3 : (1 : Int) < (C : Int) := by omega
    subst hr
    clear hP hN1 hC1
    go_wp2_with fail
    go_ret2
    exact ⟨rfl, below_dN b0.out _⟩
  have n3 : ¬ (1 : Int) < (C : Int) := by omega
  by_cases hNC : N = 1 ∧ C = 1
  · have hr : R = (some 0, 400) := by rw [HR.out, if_pos (.inr (.inr (.inr hNC)))]
    obtain ⟨rfl, rfl⟩ := hNC
    subst hr
    clear hP hN1 hC1
    go_wp2_with fail
    go_ret2
    exact ⟨rfl, below_dN b0.out _⟩
  have hall : ¬ (P ≠ 1 ∨ 1 < N ∨ 1 < C ∨ (N = 1 ∧ C = 1)) := by
    rintro (h | h | h | h)
    · exact h hP
    · exact hN1 h
    · exact hC1 h
    · exact hNC h
  have hr := HR.out
  rw [if_neg hall] at hr
  have HR2 := Lib.hid hr
  clear hall hr HR
  by_cases hC : C = 1
  · have hN0 : N = 0 := by omega
    subst hC hN0
    clear hP hN1 hC1 hNC n2 n3
    have VE : Hid (f.value Hx.tEncoding = Hx.valueN f.names f.values Hx.tEncoding f.names.length) := Lib.hid (Hx.value_eq HL.out _)
    obtain ⟨V, hV⟩ : ∃ V, V = f.value Hx.tEncoding := ⟨_, rfl⟩
    have hVl : V.length ≤ 100000 := by rw [hV, VE.out]; exact HV.out _
    have VC : Hid (∀ wq, FAt B vn vv f wq → Calls Tryz.prog 58 #[.pointer (some ⟨B + 1, 0, none⟩), .string ⟨#[116, 114, 97, 110, 115, 102, 101, 114, 45, 101, 110, 99, 111, 100, 105, 110, 103]⟩] wq fun e w' => e = .returned (.string ⟨V.toArray⟩) ∧ w' = wq) := Lib.hid fun wq hq => by rw [hV]; exact value_calls f Hx.tEncoding B vn vv wq hq hn
    obtain ⟨u, hu⟩ : ∃ u, u = Hx.lower V := ⟨_, rfl⟩
    have HU := Lib.hid hu
    have huc : (u == [99, 104, 117, 110, 107, 101, 100]) = decide (u = Hx.tChunked) := by
      rw [Bool.eq_iff_iff, beq_iff_eq, decide_eq_true_iff]; exact Iff.rfl
    have hr := HR2.out
    rw [← hV, ← hu] at hr
    have HR3 := Lib.hid hr
    clear hu hV hr HR2
    go_wp2_with fail
    refine (VC.out _ (H.out.drewN _)).mono ?_
    rintro e w' ⟨rfl, hw'⟩
    have hw' := hw'.symm
    subst hw'
    go_wp2_with fail
    refine (lower_calls V _ (by omega)).mono ?_
    rintro e w3 ⟨rfl, hb⟩
    rw [← HU.out]
    have B3 := Lib.hid (Below.trans (below_dN b0.out _) (hb.mono (Nat.le_refl _)))
    clear hb
    by_cases hch : u = Hx.tChunked
    · rw [decide_eq_true hch] at huc
      have hr : R = (none, 200) := by rw [HR3.out, if_pos ⟨trivial, hch⟩]
      subst hr
      clear hch
      go_wp2_with fail
      go_ret2
      exact ⟨rfl, B3.out⟩
    · rw [decide_eq_false hch] at huc
      have hr : R = (some 0, 400) := by rw [HR3.out, if_neg (fun h => hch h.2), if_pos trivial]
      subst hr
      clear hch
      go_wp2_with fail
      go_ret2
      exact ⟨rfl, B3.out⟩
  have n4 : ((C : Int) == 1) = false := by rw [beq_eq_false_iff_ne]; omega
  have hr := HR2.out
  rw [if_neg (fun h => hC h.1), if_neg hC] at hr
  have HR3 := Lib.hid hr
  clear hr HR2
  by_cases hN0 : N = 0
  · have hr : R = (some 0, 200) := by rw [HR3.out, if_pos hN0]
    subst hN0 hr
    clear hP hN1 hC1 hNC hC
    go_wp2_with fail
    go_ret2
    exact ⟨rfl, below_dN b0.out _⟩
  have hNe : N = 1 := by omega
  have n5 : ((N : Int) == 0) = false := by rw [beq_eq_false_iff_ne]; omega
  have hr := HR3.out
  rw [if_neg hN0] at hr
  have HR4 := Lib.hid hr
  clear hr HR3 hP hN1 hC1 hNC hC hN0
  subst hNe
  have VE : Hid (f.value Hx.tLength = Hx.valueN f.names f.values Hx.tLength f.names.length) := Lib.hid (Hx.value_eq HL.out _)
  obtain ⟨V, hV⟩ : ∃ V, V = f.value Hx.tLength := ⟨_, rfl⟩
  have hVl : V.length ≤ 100000 := by rw [hV, VE.out]; exact HV.out _
  have VC : Hid (∀ wq, FAt B vn vv f wq → Calls Tryz.prog 58 #[.pointer (some ⟨B + 1, 0, none⟩), .string ⟨#[99, 111, 110, 116, 101, 110, 116, 45, 108, 101, 110, 103, 116, 104]⟩] wq fun e w' => e = .returned (.string ⟨V.toArray⟩) ∧ w' = wq) := Lib.hid fun wq hq => by rw [hV]; exact value_calls f Hx.tLength B vn vv wq hq hn
  have hr := HR4.out
  rw [← hV] at hr
  have HR5 := Lib.hid hr
  clear hV hr HR4 n2
  go_wp2_with fail
  refine (VC.out _ (H.out.drewN _)).mono ?_
  rintro e w' ⟨rfl, hw'⟩
  have hw' := hw'.symm
  subst hw'
  by_cases hV0 : V = []
  · have hr : R = (some 0, 400) := by rw [HR5.out, if_pos (.inl hV0)]
    subst hr
    clear VC HR5 hVl
    subst hV0
    go_wp2_with fail
    go_ret2
    exact ⟨rfl, below_dN b0.out _⟩
  have hVe : (V == []) = false := by simpa using hV0
  by_cases h9 : 9 < V.length
  · have hr : R = (some 0, 400) := by rw [HR5.out, if_pos (.inr (.inl h9))]
    have n9 : decide ((9 : Int) < (V.length : Int)) = true := by simp; omega
    have n9p : (9 : Int) < (V.length : Int) := by omega
    subst hr
    clear VC HR5 hV0 h9
    go_wp2_with fail
    go_ret2
    exact ⟨rfl, below_dN b0.out _⟩
  have n9 : decide ((9 : Int) < (V.length : Int)) = false := by simp; omega
  have n9p : ¬ (9 : Int) < (V.length : Int) := by omega
  obtain ⟨DG, hDG⟩ : ∃ DG, DG = V.all Hx.digit := ⟨_, rfl⟩
  have DC : Hid (∀ wq, Calls Tryz.prog 52 #[.string ⟨V.toArray⟩, .func (.func 59) #[] #[]] wq fun e w' => e = .returned (.bool DG) ∧ w' = wq) := Lib.hid fun wq => by rw [hDG]; exact among_digit V wq (by unfold maxLen; omega)
  cases DG with
  | false =>
    have hr : R = (some 0, 400) := by rw [HR5.out, if_pos (.inr (.inr hDG.symm))]
    subst hr
    clear VC HR5 hV0 h9 hDG
    go_wp2_with fail
    refine (DC.out _).mono ?_
    rintro e w' ⟨rfl, hw'⟩
    have hw' := hw'.symm
    subst hw'
    go_wp2_with fail
    go_ret2
    exact ⟨rfl, below_dN b0.out _⟩
  | true =>
    have hr := HR5.out
    rw [if_neg (by rintro (h | h | h); exact hV0 h; exact h9 h; rw [← hDG] at h; cases h)] at hr
    obtain ⟨had, hlt⟩ := atoi_dec hV0 (by omega) hDG.symm
    obtain ⟨v, hv⟩ : ∃ v, v = Hx.decN V 0 := ⟨_, rfl⟩
    rw [← hv] at hr had hlt
    have HR6 := Lib.hid hr; have HAD := Lib.hid had
    clear VC HR5 hV0 h9 hDG hr had hv
    go_wp2_with fail
    refine (DC.out _).mono ?_
    rintro e w' ⟨rfl, hw'⟩
    have hw' := hw'.symm
    subst hw'
    go_wp2_with fail
    refine (Tryz.strconv_Atoi_ok ⟨V.toArray⟩ (by rw [size_list]; omega) v (by rw [show (⟨V.toArray⟩ : ByteArray).data.toList = V by simp]; exact HAD.out) _).mono ?_
    rintro e w4 ⟨rfl, hw4⟩
    have B4 : Hid (Below w.heap.size w w4) := Lib.hid (by
      rcases hw4 with rfl | ⟨t, rfl⟩
      · exact below_dN b0.out _
      · exact Below.trans (below_dN b0.out _) ((Lib.bytesWorld_below _ _ _).mono (Nat.le_refl _)))
    clear hw4
    by_cases h8 : 8000 < v
    · have hr : R = (some 0, 413) := by rw [HR6.out, if_pos h8]
      have n8 : (8000 : Int) < (v : Int) := by omega
      subst hr
      clear h8
      go_wp2_with fail
      go_ret2
      exact ⟨rfl, B4.out⟩
    · have hr : R = (some v, 200) := by rw [HR6.out, if_neg h8]
      have n8 : ¬ (8000 : Int) < (v : Int) := by omega
      subst hr
      clear h8
      go_wp2_with fail
      go_ret2
      exact ⟨rfl, B4.out⟩
end Go.Proofs.YthdmdafhldicmaaGreatDoor
