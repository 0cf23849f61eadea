/- WALKS: Reason, Write. -/
import Derived.Test.YthdmdafhldicmaaGreatDoorHl
import Derived.Test.YthdmdafhldicmaaGreatDoorHxW
import Derived.Lib.ItoaMem
import Derived.Lib.AppendIntMem
import Derived.Lib.Join
import Derived.Deep.RegionHeld3
import Derived.Laws.OwnMore
import Derived.Lib.SmallJoins
namespace Go.Proofs.YthdmdafhldicmaaGreatDoor
open Go.RowKit Go.Maps Go.WideMaps

theorem dec_eq : ∀ (u : Nat), Lib.decDigits u = Hx.dec u
  | u => by
    rw [Lib.decDigits, Hx.dec]
    by_cases h : u < 10
    · rw [dif_pos h, dif_pos h]
    · rw [dif_neg h, dif_neg h, dec_eq (u / 10)]
termination_by u => u
decreasing_by omega

theorem below_gr (B : Nat) (w : World) (q : Nat) (os : Array Obj) (hB : B ≤ w.heap.size) : Below B w (Sort.grow (w.drewN q) os) :=
  ⟨rfl, rfl, rfl, by first | (simp [Sort.grow]; done) | (simp [Sort.grow]; omega), fun i hi => by
    show ((w.drewN q).heap ++ os)[i]? = _
    rw [Array.getElem?_append_left (by show i < w.heap.size; omega)]
    rfl⟩

abbrev Tb (w : World) : Prop := Lib.TabIs Tryz.prog w "internal/strconv.uint64pow10" .u64 Lib.pow10Tab

theorem itoa_calls (n : Nat) (w : World) (hn : n ≤ 1000000000) (ht : Tb w) :
    Calls Tryz.prog 25 #[.int .i64 n] w fun e w' => e = .returned (.string ⟨(Hx.dec n).toArray⟩) ∧ Below w.heap.size w w' := by
  refine (Tryz.strconv_Itoa n (by omega) (by omega) w ht).mono ?_
  rintro e w' ⟨rfl, k, os, rfl⟩
  refine ⟨?_, below_gr _ _ _ _ (Nat.le_refl _)⟩
  rw [Lib.itoa_nonneg, dec_eq]

set_option maxRecDepth 100000 in
theorem reason_calls (n : Int) (w : World) :
    Calls Tryz.prog 19 #[.int .i64 n] w fun e w' => e = .returned (.string ⟨(Hx.reason n).toArray⟩) ∧ w' = w := by
  obtain ⟨R, hR⟩ : ∃ R, R = Hx.reason n := ⟨_, rfl⟩
  rw [← hR]
  unfold Hx.reason at hR
  by_cases h200 : n = 200
  · rw [if_pos h200] at hR
    subst h200 hR
    go_enter Tryz.func19, Tryz.ntmps19
    go_wp2_with fail
    go_ret
    exact ⟨rfl, rfl⟩
  rw [if_neg h200] at hR
  have e200 : (n == 200) = false := by rw [beq_eq_false_iff_ne]; exact h200
  clear h200
  by_cases h400 : n = 400
  · rw [if_pos h400] at hR
    subst h400 hR
    go_enter Tryz.func19, Tryz.ntmps19
    go_wp2_with fail
    go_ret
    exact ⟨rfl, rfl⟩
  rw [if_neg h400] at hR
  have e400 : (n == 400) = false := by rw [beq_eq_false_iff_ne]; exact h400
  clear h400
  by_cases h404 : n = 404
  · rw [if_pos h404] at hR
    subst h404 hR
    go_enter Tryz.func19, Tryz.ntmps19
    go_wp2_with fail
    go_ret
    exact ⟨rfl, rfl⟩
  rw [if_neg h404] at hR
  have e404 : (n == 404) = false := by rw [beq_eq_false_iff_ne]; exact h404
  clear h404
  by_cases h405 : n = 405
  · rw [if_pos h405] at hR
    subst h405 hR
    go_enter Tryz.func19, Tryz.ntmps19
    go_wp2_with fail
    go_ret
    exact ⟨rfl, rfl⟩
  rw [if_neg h405] at hR
  have e405 : (n == 405) = false := by rw [beq_eq_false_iff_ne]; exact h405
  clear h405
  by_cases h413 : n = 413
  · rw [if_pos h413] at hR
    subst h413 hR
    go_enter Tryz.func19, Tryz.ntmps19
    go_wp2_with fail
    go_ret
    exact ⟨rfl, rfl⟩
  rw [if_neg h413] at hR
  have e413 : (n == 413) = false := by rw [beq_eq_false_iff_ne]; exact h413
  clear h413
  by_cases h431 : n = 431
  · rw [if_pos h431] at hR
    subst h431 hR
    go_enter Tryz.func19, Tryz.ntmps19
    go_wp2_with fail
    go_ret
    exact ⟨rfl, rfl⟩
  rw [if_neg h431] at hR
  have e431 : (n == 431) = false := by rw [beq_eq_false_iff_ne]; exact h431
  clear h431
  by_cases h507 : n = 507
  · rw [if_pos h507] at hR
    subst h507 hR
    go_enter Tryz.func19, Tryz.ntmps19
    go_wp2_with fail
    go_ret
    exact ⟨rfl, rfl⟩
  rw [if_neg h507] at hR
  have e507 : (n == 507) = false := by rw [beq_eq_false_iff_ne]; exact h507
  clear h507
  subst hR
  go_enter Tryz.func19, Tryz.ntmps19
  go_wp2_with fail
  go_ret
  exact ⟨rfl, rfl⟩

set_option maxRecDepth 100000 in
theorem reason2_calls (n : Int) (w : World) :
    Calls Tryz.prog 23 #[.int .i64 n] w fun e w' => e = .returned (.string ⟨(Hx.reason n).toArray⟩) ∧ w' = w := by
  obtain ⟨R, hR⟩ : ∃ R, R = Hx.reason n := ⟨_, rfl⟩
  rw [← hR]
  unfold Hx.reason at hR
  by_cases h200 : n = 200
  · rw [if_pos h200] at hR
    subst h200 hR
    go_enter Tryz.func23, Tryz.ntmps23
    go_wp2_with fail
    go_ret
    exact ⟨rfl, rfl⟩
  rw [if_neg h200] at hR
  have e200 : (n == 200) = false := by rw [beq_eq_false_iff_ne]; exact h200
  clear h200
  by_cases h400 : n = 400
  · rw [if_pos h400] at hR
    subst h400 hR
    go_enter Tryz.func23, Tryz.ntmps23
    go_wp2_with fail
    go_ret
    exact ⟨rfl, rfl⟩
  rw [if_neg h400] at hR
  have e400 : (n == 400) = false := by rw [beq_eq_false_iff_ne]; exact h400
  clear h400
  by_cases h404 : n = 404
  · rw [if_pos h404] at hR
    subst h404 hR
    go_enter Tryz.func23, Tryz.ntmps23
    go_wp2_with fail
    go_ret
    exact ⟨rfl, rfl⟩
  rw [if_neg h404] at hR
  have e404 : (n == 404) = false := by rw [beq_eq_false_iff_ne]; exact h404
  clear h404
  by_cases h405 : n = 405
  · rw [if_pos h405] at hR
    subst h405 hR
    go_enter Tryz.func23, Tryz.ntmps23
    go_wp2_with fail
    go_ret
    exact ⟨rfl, rfl⟩
  rw [if_neg h405] at hR
  have e405 : (n == 405) = false := by rw [beq_eq_false_iff_ne]; exact h405
  clear h405
  by_cases h413 : n = 413
  · rw [if_pos h413] at hR
    subst h413 hR
    go_enter Tryz.func23, Tryz.ntmps23
    go_wp2_with fail
    go_ret
    exact ⟨rfl, rfl⟩
  rw [if_neg h413] at hR
  have e413 : (n == 413) = false := by rw [beq_eq_false_iff_ne]; exact h413
  clear h413
  by_cases h431 : n = 431
  · rw [if_pos h431] at hR
    subst h431 hR
    go_enter Tryz.func23, Tryz.ntmps23
    go_wp2_with fail
    go_ret
    exact ⟨rfl, rfl⟩
  rw [if_neg h431] at hR
  have e431 : (n == 431) = false := by rw [beq_eq_false_iff_ne]; exact h431
  clear h431
  by_cases h507 : n = 507
  · rw [if_pos h507] at hR
    subst h507 hR
    go_enter Tryz.func23, Tryz.ntmps23
    go_wp2_with fail
    go_ret
    exact ⟨rfl, rfl⟩
  rw [if_neg h507] at hR
  have e507 : (n == 507) = false := by rw [beq_eq_false_iff_ne]; exact h507
  clear h507
  subst hR
  go_enter Tryz.func23, Tryz.ntmps23
  go_wp2_with fail
  go_ret
  exact ⟨rfl, rfl⟩

/-- A box in a world that has grown. -/
def Pw (w : World) (o : Obj) (w' : World) : Prop := Below w.heap.size w w' ∧ w'.heap[w.heap.size]? = some o
theorem Pw.drew {w : World} {o : Obj} {w' : World} (h : Pw w o w') : Pw w o w'.drew := ⟨below_dN h.1 1, h.2⟩
theorem Pw.next {w : World} {o : Obj} {w' w'' : World} (h : Pw w o w') (k : Below w'.heap.size w' w'') : Pw w o w'' := ⟨h.1.trans (k.mono h.1.size), (k.block _ (heap_lt h.2)).trans h.2⟩
theorem Pw.alloc {w : World} {o : Obj} {w' : World} (h : Pw w o w') (p : Obj) : Pw w o (w'.alloc p) := h.next ((Below.refl _ w').alloc (Nat.le_refl _) p)
theorem pw_cells3 {w w' : World} {a b c : Value} {T : TypeId} (h : Pw w (.cells #[a, b, c] T (0, 0)) w') :
    w'.cell? ⟨w.heap.size, 0, none⟩ = some a ∧ w'.cell? ⟨w.heap.size, 1, none⟩ = some b ∧ w'.cell? ⟨w.heap.size, 2, none⟩ = some c := by
  have h2 := h.2
  refine ⟨?_, ?_, ?_⟩ <;> simp [World.cell?, h2]

theorem Pw.lt {w : World} {o : Obj} {w' : World} (h : Pw w o w') : w.heap.size < w'.heap.size := heap_lt h.2
theorem infoSt : (Tryz.prog.info? 9).map (fun i => (i.zero, i.size, i.bytes)) = some (some (.string ⟨#[]⟩), 1, 16) := by kernel_rfl

theorem Pw.grown {w : World} {o : Obj} {w' w'' : World} {r : Option Nat} (h : Pw w o w') (k : w'.grownBy w'' r) (hg : ∀ g, r = some g → w.heap.size < g) : Pw w o w'' :=
  ⟨⟨k.os.trans h.1.os, k.tape.trans h.1.tape, k.output.trans h.1.output, Nat.le_trans h.1.size k.size, fun i hi => (k.block i (Nat.lt_of_lt_of_le hi h.1.size) (fun e => by have := hg i e.symm; omega)).trans (h.1.block i hi)⟩,
   (k.block _ (heap_lt h.2) (fun e => by have := hg _ e.symm; omega)).trans h.2⟩
/-- A row of the call's own behind the box. -/
def WRow (w : World) (o : Obj) (z : Value) (xs : List ByteArray) (w' : World) : Prop := Pw w o w' ∧ w'.ownsRow (w.heap.size + 1) 9 1 z xs.length (xs.map Value.string)
theorem WRow.next {w : World} {o : Obj} {z : Value} {xs : List ByteArray} {w' w'' : World} (h : WRow w o z xs w') (k : Below w'.heap.size w' w'') : WRow w o z xs w'' :=
  ⟨h.1.next k, h.2.kept (row := none) ⟨k.os, k.tape, k.output, k.size, fun i hi _ => k.block i hi⟩ (by cases hv : z.ownBlock with | none => exact .inl rfl | some g => exact .inr (by simp))⟩

theorem WRow.drew {w : World} {o : Obj} {z : Value} {xs : List ByteArray} {w' : World} (h : WRow w o z xs w') : WRow w o z xs w'.drew := h.next (below_dN (Below.refl _ _) 1)
theorem join_calls (w : World) (o : Obj) (z : Value) (xs : List ByteArray) (w' : World) (h : WRow w o z xs w') (hn : 0 < xs.length) (hx : xs.length ≤ 10) (hl : (Lib.join (xs.map (·.data.toList)) [13, 10]).length ≤ 140737488355328) :
    Calls Tryz.prog 26 #[z, .string ⟨#[13, 10]⟩] w' fun e w2 => e = .returned (.string ⟨(Lib.join (xs.map (·.data.toList)) [13, 10]).toArray⟩) ∧ Below w'.heap.size w' w2 := by
  obtain ⟨g, c, rfl⟩ := Joins.ownsRow_form h.2 hn
  have hlt := h.2.lt g rfl
  have hc : xs.length ≤ c := by
    obtain ⟨_, h1 | ⟨g2, cap, cur, hv, _, _, hle, _⟩⟩ := h.2
    · exact absurd h1.2 (by omega)
    · injection hv with _ _ h3; subst h3; exact hle
  exact Tryz.strings_Join g 0 c xs ⟨#[13, 10]⟩ w' (fun j x hj => by
    have h3 := h.2.cells (g := g) rfl j (.string x) (by rw [List.getElem?_map, hj]; rfl)
    rw [Addr.add_lit] at h3
    exact h3) hlt.2 (by omega) hc hl

set_option maxRecDepth 100000 in
set_option maxHeartbeats 8000000 in
theorem write_calls (st : Nat) (body : Hx.Bytes) (close : Bool) (w : World) (ht : Tb w) (hst : st ≤ 1000) (hb : body.length ≤ 1000000) :
    Calls Tryz.prog 18 #[.agg #[.int .i64 st, .string ⟨body.toArray⟩, .bool close]] w fun e w' => e = .returned (.string ⟨(Hx.write st body close).toArray⟩) ∧ Below w.heap.size w w' := by
  have HT := Lib.hid (Lib.tabBelow_of_tabIs ht)
  have P0 := Lib.hid (show Pw w (.cells #[.int .i64 st, .string ⟨body.toArray⟩, .bool close] 38 (0, 0)) (w.alloc (.cells #[.int .i64 st, .string ⟨body.toArray⟩, .bool close] 38)) from ⟨(Below.refl _ w).alloc (Nat.le_refl _) _, heap_alloc_new w _⟩)
  have hsz := size_list body
  obtain ⟨DD, hDD⟩ : ∃ DD : Nat → ByteArray, ∀ n, DD n = ⟨(Hx.dec n).toArray⟩ := ⟨_, fun _ => rfl⟩
  obtain ⟨RS, hRS⟩ : ∃ RS : ByteArray, RS = ⟨(Hx.reason st).toArray⟩ := ⟨_, rfl⟩
  have hd1 : (DD st).size ≤ 10 := by rw [hDD, size_list]; exact Hx.dec_len 9 _ (by omega)
  have hd2 : (DD body.length).size ≤ 10 := by rw [hDD, size_list]; exact Hx.dec_len 9 _ (by omega)
  have hrs : RS.size ≤ 31 := by rw [hRS, size_list]; exact Hx.reason_len _
  obtain ⟨S1, hS1⟩ : ∃ S1 : ByteArray, S1 = (⟨#[72, 84, 84, 80, 47, 49, 46, 49, 32]⟩ ++ DD st ++ ⟨#[32]⟩ ++ RS : ByteArray) := ⟨_, rfl⟩
  obtain ⟨S2, hS2⟩ : ∃ S2 : ByteArray, S2 = ⟨#[67, 111, 110, 116, 101, 110, 116, 45, 84, 121, 112, 101, 58, 32, 97, 112, 112, 108, 105, 99, 97, 116, 105, 111, 110, 47, 106, 115, 111, 110]⟩ := ⟨_, rfl⟩
  obtain ⟨S3, hS3⟩ : ∃ S3 : ByteArray, S3 = (⟨#[67, 111, 110, 116, 101, 110, 116, 45, 76, 101, 110, 103, 116, 104, 58, 32]⟩ ++ DD body.length : ByteArray) := ⟨_, rfl⟩
  have e1 : S1.data.toList = Hx.pHttp ++ Hx.dec st ++ [32] ++ Hx.reason st := by rw [hS1, hDD, hRS]; simp [ByteArray.data_append, Hx.pHttp]
  have e2 : S2.data.toList = Hx.pType := by rw [hS2]; rfl
  have e3 : S3.data.toList = Hx.pLen ++ Hx.dec body.length := by rw [hS3, hDD]; simp [ByteArray.data_append, Hx.pLen]
  have n1 : ¬ 9223372036854775807 < 9 + (DD st).size := by omega
  have n2 : ¬ 9223372036854775807 < 9 + (DD st).size + 1 := by omega
  have n3 : ¬ 9223372036854775807 < 9 + (DD st).size + 1 + RS.size := by omega
  have n4 : ¬ 9223372036854775807 < 16 + (DD body.length).size := by omega
  have HE := Lib.hid (And.intro e1 (And.intro e2 e3))
  have l1 : S1.data.toList.length ≤ 100 := by
    rw [e1]; have := Hx.dec_len 9 st (by omega); have := Hx.reason_len st
    simp only [List.length_append, List.length_cons, List.length_nil, Hx.pHttp]; omega
  have l3 : S3.data.toList.length ≤ 100 := by
    rw [e3]; have := Hx.dec_len 9 body.length (by omega)
    simp only [List.length_append, List.length_cons, List.length_nil, Hx.pLen]; omega
  have l2 : S2.data.toList.length ≤ 100 := by rw [e2]; decide
  have HLL := Lib.hid (And.intro l1 (And.intro l2 l3))
  have HI : Hid (∀ (n : Nat) (wq : World), n ≤ 1000000 → Tb wq → Calls Tryz.prog 25 #[.int .i64 n] wq fun e w' => e = .returned (.string (DD n)) ∧ Below wq.heap.size wq w') := Lib.hid fun n wq hn ht => by rw [hDD]; exact itoa_calls n wq (by omega) ht
  have HRR : Hid (∀ wq, Calls Tryz.prog 19 #[.int .i64 st] wq fun e w' => e = .returned (.string RS) ∧ w' = wq) := Lib.hid fun wq => by rw [hRS]; exact reason_calls st wq
  have HS1 := Lib.hid hS1; have HS2 := Lib.hid hS2; have HS3 := Lib.hid hS3
  have B0 := Lib.hid (Below.refl w.heap.size w)
  clear ht hDD hRS hS1 hS2 hS3 e1 e2 e3 l1 l2 l3
  go_enter Tryz.func18, Tryz.ntmps18
  go_upto_region 1 with fail
  obtain ⟨w1, hw1⟩ : ∃ w1, w1 = w.alloc (.cells #[.int .i64 st, .string ⟨body.toArray⟩, .bool close] 38) := ⟨_, rfl⟩
  rw [← hw1] at P0 ⊢
  clear hw1
  obtain ⟨q0, q1, q2⟩ := pw_cells3 P0.out
  go_cut [3] (fun z wr => Hid (WRow w (.cells #[.int .i64 st, .string ⟨body.toArray⟩, .bool close] 38 (0, 0)) z [S1, S2, S3] wr))
  case first =>
    go_wp2_with fail
    have TW := P0.out.drew
    go_region_held3 (fun w' => w'.cell? ⟨w.heap.size, 0, none⟩ = some (.int .i64 st) ∧ w'.cell? ⟨w.heap.size, 1, none⟩ = some (.string ⟨body.toArray⟩) ∧ w'.cell? ⟨w.heap.size, 2, none⟩ = some (.bool close)) (first | exact pw_cells3 ‹Pw w (.cells #[.int .i64 st, .string ⟨body.toArray⟩, .bool close] 38 (0, 0)) _› | exact pw_cells3 (Pw.alloc ‹Pw w (.cells #[.int .i64 st, .string ⟨body.toArray⟩, .bool close] 38 (0, 0)) _› _))
      (first
        | (go_at_call 25; refine (HI.out _ _ (by omega) (HT.out _ (‹Pw w (.cells #[.int .i64 st, .string ⟨body.toArray⟩, .bool close] 38 (0, 0)) _›).1)).mono ?_; rintro e w8 ⟨rfl, hb8⟩; have TW8 := Pw.next ‹Pw w (.cells #[.int .i64 st, .string ⟨body.toArray⟩, .bool close] 38 (0, 0)) _› hb8)
        | (go_at_call 19; refine (HRR.out _).mono ?_; rintro e w8 ⟨rfl, hb8⟩; have hb8 := hb8.symm; subst hb8))
    all_goals
      try go_wp2_with fail
      go_meet
      case rel =>
        rw [← HS1.out, ← HS2.out, ← HS3.out]
        exact Lib.hid ⟨Pw.alloc (by assumption) _, World.ownsRow_lit _ #[.string S1, .string S2, .string S3] 3 (Nat.succ_le_of_lt (Pw.lt (by assumption))) (by unfold maxLen; omega) rfl⟩
  case rest =>
  have TW := hcut
  clear P0 HS1 HS2 HS3 HT HI HRR q0 q1 q2 n1 n2 n3 n4 hd1 hd2 hrs
  obtain ⟨q0, q1, q2⟩ := pw_cells3 TW.out.1
  obtain ⟨i0, hi, hz0, hz1, hz2⟩ := info_parts infoSt
  have O2 := Lib.hid TW.out.2
  have P2 := Lib.hid TW.out.1
  clear hcut TW
  have fin : ∀ (xs : List ByteArray), Lib.join (xs.map (·.data.toList)) [13, 10] ++ [13, 10, 13, 10] ++ body = Hx.write st body close → (⟨(Lib.join (xs.map (·.data.toList)) [13, 10]).toArray⟩ : ByteArray) ++ ⟨#[13, 10, 13, 10]⟩ ++ ⟨body.toArray⟩ = ⟨(Hx.write st body close).toArray⟩ := fun xs h => by
    rw [← h, show (⟨#[13, 10, 13, 10]⟩ : ByteArray) = ⟨([13, 10, 13, 10] : List UInt8).toArray⟩ from rfl, app_bytes2, app_bytes2]
  have FIN := Lib.hid fin
  clear fin
  cases close with
  | true =>
    obtain ⟨S4, hS4⟩ : ∃ S4 : ByteArray, S4 = ⟨#[67, 111, 110, 110, 101, 99, 116, 105, 111, 110, 58, 32, 99, 108, 111, 115, 101]⟩ := ⟨_, rfl⟩
    have HS4 := Lib.hid hS4
    clear hS4
    obtain ⟨g, c, rfl⟩ := Joins.ownsRow_form O2.out (by simp)
    simp only [List.length_cons, List.length_nil, List.map_cons, List.map_nil, Nat.zero_add, Nat.reduceAdd] at O2
    go_upto_region 3 with fail
    go_wp2_with (at_builtin; refine wpList_append_own _ rfl _ _ 33 rfl (w.heap.size + 1) 9 i0 _ 1 16 Tryz.underlying33 hi hz0 hz1 hz2 rfl (by decide) _ _ _ rfl ((show wc.ownsRow (w.heap.size + 1) 9 1 (.slice (some ⟨g, 0, none⟩) 3 c) 3 [.string S1, .string S2, .string S3] from O2.out).alloc _) ⟨wc.heap.size, 0, none⟩ 1 1 [.string S4] rfl rfl ?c1 ?c2 ?c3 ?c4 ?c5 ?_)
    case c1 =>
      intro j u hj
      match j, hj with
      | 0, hj => simp at hj; subst hj; rw [HS4.out]; simp
    case c2 => first | rfl | (intro u hu; simp at hu; subst hu; rfl)
    case c3 => unfold maxLen; decide
    case c5 => have := P2.out.lt; simp; omega
    intro v4 w4 hown hgrow _
    have hlt := O2.out.lt g rfl
    have R4 : WRow w (.cells #[.int .i64 st, .string ⟨body.toArray⟩, .bool true] 38 (0, 0)) v4 [S1, S2, S3, S4] w4 := ⟨(P2.out.alloc _).grown hgrow (fun x hx => by have hx2 : g = x := (by injection hx); subst hx2; omega), hown⟩
    have hje : Lib.join ([S1, S2, S3, S4].map (·.data.toList)) [13, 10] ++ [13, 10, 13, 10] ++ body = Hx.write st body true := by
      obtain ⟨e1, e2, e3⟩ := HE.out
      simp only [List.map_cons, List.map_nil]
      rw [e1, e2, e3, HS4.out]
      simp [Lib.join, List.intercalate, List.intersperse, Hx.write, Hx.crlf, Hx.pClose]
    have hj : (Lib.join ([S1, S2, S3, S4].map (·.data.toList)) [13, 10]).length ≤ 140737488355328 := by
      obtain ⟨l1, l2, l3⟩ := HLL.out
      have l4 : S4.data.toList.length ≤ 100 := by rw [HS4.out]; decide
      simp only [List.map_cons, List.map_nil, Lib.join, List.intercalate, List.intersperse, List.flatten_cons, List.flatten_nil, List.length_append, List.length_cons, List.length_nil]
      omega
    have hjs : (Lib.join ([S1, S2, S3, S4].map (·.data.toList)) [13, 10]).length ≤ 1000 := by
      obtain ⟨l1, l2, l3⟩ := HLL.out
      have l4 : S4.data.toList.length ≤ 100 := by rw [HS4.out]; decide
      simp only [List.map_cons, List.map_nil, Lib.join, List.intercalate, List.intersperse, List.flatten_cons, List.flatten_nil, List.length_append, List.length_cons, List.length_nil]
      omega
    have HR4 := Lib.hid R4
    obtain ⟨JJ, hJJ⟩ : ∃ JJ : ByteArray, JJ = ⟨(Lib.join ([S1, S2, S3, S4].map (·.data.toList)) [13, 10]).toArray⟩ := ⟨_, rfl⟩
    have jc := fun wq (hq : WRow w (.cells #[.int .i64 st, .string ⟨body.toArray⟩, .bool true] 38 (0, 0)) v4 [S1, S2, S3, S4] wq) => join_calls w _ v4 [S1, S2, S3, S4] wq hq (by simp) (by simp) hj
    have fe := FIN.out [S1, S2, S3, S4] hje
    have jl : JJ.size ≤ 1000 := by rw [hJJ, size_list]; exact hjs
    rw [← hJJ] at jc fe
    have m1 : ¬ 9223372036854775807 < JJ.size + 4 := by omega
    have m2 : ¬ 9223372036854775807 < JJ.size + 4 + body.length := by omega
    have HJC := Lib.hid jc; have HFE := Lib.hid fe
    clear hown hgrow R4 hje hj hjs hlt q0 q1 q2 O2 P2 hJJ fe jc
    obtain ⟨q0, q1, q2⟩ := pw_cells3 HR4.out.1
    go_wp2_with fail
    have TW := HR4.out.drew
    go_region_held3 (fun w' => w'.cell? ⟨w.heap.size, 0, none⟩ = some (.int .i64 st) ∧ w'.cell? ⟨w.heap.size, 1, none⟩ = some (.string ⟨body.toArray⟩) ∧ w'.cell? ⟨w.heap.size, 2, none⟩ = some (.bool true)) (exact pw_cells3 (‹WRow w (.cells #[.int .i64 st, .string ⟨body.toArray⟩, .bool true] 38 (0, 0)) _ [S1, S2, S3, S4] _›).1)
      ((go_at_call 26; refine (HJC.out _ ‹WRow w (.cells #[.int .i64 st, .string ⟨body.toArray⟩, .bool true] 38 (0, 0)) _ [S1, S2, S3, S4] _›).mono ?_; rintro e w8 ⟨rfl, hb8⟩; have TW8 := WRow.next ‹WRow w (.cells #[.int .i64 st, .string ⟨body.toArray⟩, .bool true] 38 (0, 0)) _ [S1, S2, S3, S4] _› hb8))
    all_goals
      try go_wp2_with fail
      go_ret
      exact ⟨ret_str HFE.out, (‹WRow w (.cells #[.int .i64 st, .string ⟨body.toArray⟩, .bool true] 38 (0, 0)) _ [S1, S2, S3, S4] _›).1.1⟩
  | false =>
    go_upto_region 4 with fail
    have hje : Lib.join ([S1, S2, S3].map (·.data.toList)) [13, 10] ++ [13, 10, 13, 10] ++ body = Hx.write st body false := by
      obtain ⟨e1, e2, e3⟩ := HE.out
      simp only [List.map_cons, List.map_nil]
      rw [e1, e2, e3]
      simp [Lib.join, List.intercalate, List.intersperse, Hx.write, Hx.crlf]
    have hj : (Lib.join ([S1, S2, S3].map (·.data.toList)) [13, 10]).length ≤ 140737488355328 := by
      obtain ⟨l1, l2, l3⟩ := HLL.out
      simp only [List.map_cons, List.map_nil, Lib.join, List.intercalate, List.intersperse, List.flatten_cons, List.flatten_nil, List.length_append, List.length_cons, List.length_nil]
      omega
    have hjs : (Lib.join ([S1, S2, S3].map (·.data.toList)) [13, 10]).length ≤ 1000 := by
      obtain ⟨l1, l2, l3⟩ := HLL.out
      simp only [List.map_cons, List.map_nil, Lib.join, List.intercalate, List.intersperse, List.flatten_cons, List.flatten_nil, List.length_append, List.length_cons, List.length_nil]
      omega
    obtain ⟨JJ, hJJ⟩ : ∃ JJ : ByteArray, JJ = ⟨(Lib.join ([S1, S2, S3].map (·.data.toList)) [13, 10]).toArray⟩ := ⟨_, rfl⟩
    have jc := fun wq (hq : WRow w (.cells #[.int .i64 st, .string ⟨body.toArray⟩, .bool false] 38 (0, 0)) u3 [S1, S2, S3] wq) => join_calls w _ u3 [S1, S2, S3] wq hq (by simp) (by simp) hj
    have fe := FIN.out [S1, S2, S3] hje
    have jl : JJ.size ≤ 1000 := by rw [hJJ, size_list]; exact hjs
    rw [← hJJ] at jc fe
    have m1 : ¬ 9223372036854775807 < JJ.size + 4 := by omega
    have m2 : ¬ 9223372036854775807 < JJ.size + 4 + body.length := by omega
    have HJC := Lib.hid jc; have HFE := Lib.hid fe
    have HR4 : Hid (WRow w (.cells #[.int .i64 st, .string ⟨body.toArray⟩, .bool false] 38 (0, 0)) _ [S1, S2, S3] wc) := Lib.hid ⟨P2.out, O2.out⟩
    clear hje hj hjs q0 q1 q2 O2 P2 hJJ fe jc
    obtain ⟨q0, q1, q2⟩ := pw_cells3 HR4.out.1
    go_wp2_with fail
    have TW := HR4.out.drew
    go_region_held3 (fun w' => w'.cell? ⟨w.heap.size, 0, none⟩ = some (.int .i64 st) ∧ w'.cell? ⟨w.heap.size, 1, none⟩ = some (.string ⟨body.toArray⟩) ∧ w'.cell? ⟨w.heap.size, 2, none⟩ = some (.bool false)) (exact pw_cells3 (‹WRow w (.cells #[.int .i64 st, .string ⟨body.toArray⟩, .bool false] 38 (0, 0)) _ [S1, S2, S3] _›).1)
      ((go_at_call 26; refine (HJC.out _ ‹WRow w (.cells #[.int .i64 st, .string ⟨body.toArray⟩, .bool false] 38 (0, 0)) _ [S1, S2, S3] _›).mono ?_; rintro e w8 ⟨rfl, hb8⟩; have TW8 := WRow.next ‹WRow w (.cells #[.int .i64 st, .string ⟨body.toArray⟩, .bool false] 38 (0, 0)) _ [S1, S2, S3] _› hb8))
    all_goals
      try go_wp2_with fail
      go_ret
      exact ⟨ret_str HFE.out, (‹WRow w (.cells #[.int .i64 st, .string ⟨body.toArray⟩, .bool false] 38 (0, 0)) _ [S1, S2, S3] _›).1.1⟩
end Go.Proofs.YthdmdafhldicmaaGreatDoor
