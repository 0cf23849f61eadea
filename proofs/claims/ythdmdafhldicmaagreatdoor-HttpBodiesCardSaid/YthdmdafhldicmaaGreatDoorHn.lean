/- WALKS: numbers written in digits, a choice. -/
import Derived.Test.YthdmdafhldicmaaGreatDoorHBase
import Derived.Test.YthdmdafhldicmaaGreatDoorHxPut
import Derived.IntWalk
namespace Go.Proofs.YthdmdafhldicmaaGreatDoor
open Go.RowKit

theorem cut_ten : ∀ n : Fin 10, (⟨#[48, 49, 50, 51, 52, 53, 54, 55, 56, 57]⟩ : ByteArray).extract n.val (n.val + 1) = ⟨#[UInt8.ofNat (48 + n.val)]⟩ := by decide +kernel
theorem cut_six : ∀ n : Fin 16, (⟨#[48, 49, 50, 51, 52, 53, 54, 55, 56, 57, 97, 98, 99, 100, 101, 102]⟩ : ByteArray).extract n.val (n.val + 1) = ⟨#[Hx.hexd n.val]⟩ := by decide +kernel

set_option maxRecDepth 100000 in
theorem digits_k (k : Nat) : ∀ (n : Nat) (x : Int) (w : World), x = n → n ≤ 1000000000 → n < k →
    Calls Tryz.prog 15 #[.int .i64 x] w fun e w' => e = .returned (.string ⟨(Hx.dec n).toArray⟩) ∧ w' = w := by
  induction k with
  | zero => intro n x w _ _ h; omega
  | succ k ih =>
    intro n x w hx hn hk
    by_cases h : n < 10
    · have hc := cut_ten ⟨n, h⟩
      simp only at hc
      have hd := Hx.dec_lt h
      have HC := Lib.hid (hc.trans (show (⟨#[UInt8.ofNat (48 + n)]⟩ : ByteArray) = ⟨(Hx.dec n).toArray⟩ by rw [hd]))
      have hl : x < 10 := by omega
      have h0 : 0 ≤ x := by omega
      have hxn : x.toNat = n := by omega
      have hxn2 : (x + 1).toNat = n + 1 := by omega
      clear hc hd hx ih
      go_enter Tryz.func15, Tryz.ntmps15
      go_wp2_with fail
      go_ret
      refine ⟨?_, rfl⟩
      rw [← HC.out]
      first | rfl | (simp only [hxn, hxn2]) | (congr 2 <;> omega)
    · have hd := Hx.dec_ge h
      have hq := ih (n / 10) (x / 10) w (by omega) (by omega) (by omega)
      have hr := ih (n % 10) (x % 10) w (by omega) (by omega) (by omega)
      have hm : Hx.dec (n % 10) = [UInt8.ofNat (48 + (n % 10))] := Hx.dec_lt (by omega)
      have hlen : (Hx.dec (n / 10)).length ≤ 20 := Nat.le_trans (Hx.dec_len 9 _ (by omega)) (by omega)
      obtain ⟨A, hA⟩ : ∃ A, A = Hx.dec (n / 10) := ⟨_, rfl⟩
      obtain ⟨c, hcc⟩ : ∃ c : UInt8, [c] = Hx.dec (n % 10) := ⟨_, hm.symm⟩
      rw [← hcc] at hr hm
      have hm2 : c = UInt8.ofNat (48 + n % 10) := by injection hm
      rw [← hA] at hq hd hlen
      rw [← hm2] at hd
      have HD := Lib.hid hd; have HQ := Lib.hid hq; have HR := Lib.hid hr
      have hl : ¬ x < 10 := by omega
      have h0 : 0 ≤ x := by omega
      have hb : x ≤ 1000000000 := by omega
      clear hd hq hr hm hx ih hA hcc hm2
      go_enter Tryz.func15, Tryz.ntmps15
      go_wp2_with fail
      refine HQ.out.mono ?_
      rintro e w' ⟨rfl, hw'⟩
      have hw' := hw'.symm
      subst hw'
      go_wp2_with fail
      refine HR.out.mono ?_
      rintro e w' ⟨rfl, hw'⟩
      have hw' := hw'.symm
      subst hw'
      go_wp2_with fail
      go_ret
      exact ⟨ret_str (by rw [HD.out, ← app_bytes2]), rfl⟩

set_option maxRecDepth 100000 in
theorem digits2_k (k : Nat) : ∀ (n : Nat) (x : Int) (w : World), x = n → n ≤ 1000000000 → n < k →
    Calls Tryz.prog 35 #[.int .i64 x] w fun e w' => e = .returned (.string ⟨(Hx.dec n).toArray⟩) ∧ w' = w := by
  induction k with
  | zero => intro n x w _ _ h; omega
  | succ k ih =>
    intro n x w hx hn hk
    by_cases h : n < 10
    · have hc := cut_ten ⟨n, h⟩
      simp only at hc
      have hd := Hx.dec_lt h
      have HC := Lib.hid (hc.trans (show (⟨#[UInt8.ofNat (48 + n)]⟩ : ByteArray) = ⟨(Hx.dec n).toArray⟩ by rw [hd]))
      have hl : x < 10 := by omega
      have h0 : 0 ≤ x := by omega
      have hxn : x.toNat = n := by omega
      have hxn2 : (x + 1).toNat = n + 1 := by omega
      clear hc hd hx ih
      go_enter Tryz.func35, Tryz.ntmps35
      go_wp2_with fail
      go_ret
      refine ⟨?_, rfl⟩
      rw [← HC.out]
      first | rfl | (simp only [hxn, hxn2]) | (congr 2 <;> omega)
    · have hd := Hx.dec_ge h
      have hq := ih (n / 10) (x / 10) w (by omega) (by omega) (by omega)
      have hr := ih (n % 10) (x % 10) w (by omega) (by omega) (by omega)
      have hm : Hx.dec (n % 10) = [UInt8.ofNat (48 + (n % 10))] := Hx.dec_lt (by omega)
      have hlen : (Hx.dec (n / 10)).length ≤ 20 := Nat.le_trans (Hx.dec_len 9 _ (by omega)) (by omega)
      obtain ⟨A, hA⟩ : ∃ A, A = Hx.dec (n / 10) := ⟨_, rfl⟩
      obtain ⟨c, hcc⟩ : ∃ c : UInt8, [c] = Hx.dec (n % 10) := ⟨_, hm.symm⟩
      rw [← hcc] at hr hm
      have hm2 : c = UInt8.ofNat (48 + n % 10) := by injection hm
      rw [← hA] at hq hd hlen
      rw [← hm2] at hd
      have HD := Lib.hid hd; have HQ := Lib.hid hq; have HR := Lib.hid hr
      have hl : ¬ x < 10 := by omega
      have h0 : 0 ≤ x := by omega
      have hb : x ≤ 1000000000 := by omega
      clear hd hq hr hm hx ih hA hcc hm2
      go_enter Tryz.func35, Tryz.ntmps35
      go_wp2_with fail
      refine HQ.out.mono ?_
      rintro e w' ⟨rfl, hw'⟩
      have hw' := hw'.symm
      subst hw'
      go_wp2_with fail
      refine HR.out.mono ?_
      rintro e w' ⟨rfl, hw'⟩
      have hw' := hw'.symm
      subst hw'
      go_wp2_with fail
      go_ret
      exact ⟨ret_str (by rw [HD.out, ← app_bytes2]), rfl⟩

set_option maxRecDepth 100000 in
theorem hex_k (k : Nat) : ∀ (n : Nat) (x : Int) (w : World), x = n → n ≤ 1000000000 → n < k →
    Calls Tryz.prog 16 #[.int .i64 x] w fun e w' => e = .returned (.string ⟨(Hx.hexs n).toArray⟩) ∧ w' = w := by
  induction k with
  | zero => intro n x w _ _ h; omega
  | succ k ih =>
    intro n x w hx hn hk
    by_cases h : n < 16
    · have hc := cut_six ⟨n, h⟩
      simp only at hc
      have hd := Hx.hexs_lt h
      have HC := Lib.hid (hc.trans (show (⟨#[Hx.hexd n]⟩ : ByteArray) = ⟨(Hx.hexs n).toArray⟩ by rw [hd]))
      have hl : x < 16 := by omega
      have h0 : 0 ≤ x := by omega
      have hxn : x.toNat = n := by omega
      have hxn2 : (x + 1).toNat = n + 1 := by omega
      clear hc hd hx ih
      go_enter Tryz.func16, Tryz.ntmps16
      go_wp2_with fail
      go_ret
      refine ⟨?_, rfl⟩
      rw [← HC.out]
      first | rfl | (simp only [hxn, hxn2]) | (congr 2 <;> omega)
    · have hd := Hx.hexs_ge h
      have hq := ih (n / 16) (x / 16) w (by omega) (by omega) (by omega)
      have hr := ih (n % 16) (x % 16) w (by omega) (by omega) (by omega)
      have hm : Hx.hexs (n % 16) = [Hx.hexd (n % 16)] := Hx.hexs_lt (by omega)
      have hlen : (Hx.hexs (n / 16)).length ≤ 20 := Nat.le_trans (Hx.hexs_len 9 _ (by omega)) (by omega)
      obtain ⟨A, hA⟩ : ∃ A, A = Hx.hexs (n / 16) := ⟨_, rfl⟩
      obtain ⟨c, hcc⟩ : ∃ c : UInt8, [c] = Hx.hexs (n % 16) := ⟨_, hm.symm⟩
      rw [← hcc] at hr hm
      have hm2 : c = Hx.hexd (n % 16) := by injection hm
      rw [← hA] at hq hd hlen
      rw [← hm2] at hd
      have HD := Lib.hid hd; have HQ := Lib.hid hq; have HR := Lib.hid hr
      have hl : ¬ x < 16 := by omega
      have h0 : 0 ≤ x := by omega
      have hb : x ≤ 1000000000 := by omega
      clear hd hq hr hm hx ih hA hcc hm2
      go_enter Tryz.func16, Tryz.ntmps16
      go_wp2_with fail
      refine HQ.out.mono ?_
      rintro e w' ⟨rfl, hw'⟩
      have hw' := hw'.symm
      subst hw'
      go_wp2_with fail
      refine HR.out.mono ?_
      rintro e w' ⟨rfl, hw'⟩
      have hw' := hw'.symm
      subst hw'
      go_wp2_with fail
      go_ret
      exact ⟨ret_str (by rw [HD.out, ← app_bytes2]), rfl⟩

theorem digits_calls (n : Nat) (w : World) (hn : n ≤ 1000000000) :
    Calls Tryz.prog 15 #[.int .i64 n] w fun e w' => e = .returned (.string ⟨(Hx.dec n).toArray⟩) ∧ w' = w := digits_k (n + 1) n n w rfl hn (by omega)
theorem digits2_calls (n : Nat) (w : World) (hn : n ≤ 1000000000) :
    Calls Tryz.prog 35 #[.int .i64 n] w fun e w' => e = .returned (.string ⟨(Hx.dec n).toArray⟩) ∧ w' = w := digits2_k (n + 1) n n w rfl hn (by omega)
theorem hex_calls (n : Nat) (w : World) (hn : n ≤ 1000000000) :
    Calls Tryz.prog 16 #[.int .i64 n] w fun e w' => e = .returned (.string ⟨(Hx.hexs n).toArray⟩) ∧ w' = w := hex_k (n + 1) n n w rfl hn (by omega)

/-- A choice of m things. -/
def PickPost (m : Nat) (w : World) (e : Ending) (w' : World) : Prop := w' = w ∧ ∃ k : Nat, k < m ∧ e = .returned (.int .i64 k)
set_option maxRecDepth 100000 in
theorem pick_calls (c : Int) (m : Nat) (w : World) (h0 : -9223372036854775808 ≤ c) (h1 : c ≤ 9223372036854775807) (hm : 0 < m) (hm2 : m ≤ 1000000000) :
    Calls Tryz.prog 12 #[.int .i64 c, .int .i64 m] w (PickPost m w) := by
  have hz : ((m : Int) == 0) = false := by rw [beq_eq_false_iff_ne]; omega
  have hz2 : (m : Int) ≠ 0 := by omega
  have hmi : 0 < (m : Int) := by omega
  by_cases hc : c < 0
  · obtain ⟨d, hd⟩ : ∃ d : Int, d = -(c + 1) := ⟨_, rfl⟩
    have d0 : 0 ≤ d := by omega
    have d1 : d ≤ 9223372036854775807 := by omega
    have hmod : ∃ k : Nat, k < m ∧ d % (m : Int) = k := ⟨(d % (m : Int)).toNat, by have := Int.emod_lt_of_pos d hmi; omega, by have := Int.emod_nonneg d hz2; omega⟩
    have HM := Lib.hid hmod
    have hw1 : IntKind.i64.wrap (-(c + 1)) = d := by rw [← hd]; exact IntWalk.i64_in _ (by omega)
    have hD := Lib.hid hd
    clear hmod hd
    go_enter Tryz.func12, Tryz.ntmps12
    go_wp2_with fail
    go_ret
    obtain ⟨k, hk, he⟩ := HM.out
    exact ⟨rfl, k, hk, ret_int he⟩
  · have c0 : 0 ≤ c := by omega
    have hmod : ∃ k : Nat, k < m ∧ c % (m : Int) = k := ⟨(c % (m : Int)).toNat, by have := Int.emod_lt_of_pos c hmi; omega, by have := Int.emod_nonneg c hz2; omega⟩
    have HM := Lib.hid hmod
    clear hmod
    go_enter Tryz.func12, Tryz.ntmps12
    go_wp2_with fail
    go_ret
    obtain ⟨k, hk, he⟩ := HM.out
    exact ⟨rfl, k, hk, ret_int he⟩
end Go.Proofs.YthdmdafhldicmaaGreatDoor
