/- WALKS: Text. WALKS: write. WALKS: Right, Print. WALKS: slices.Index over a row of texts, Get. WALKS: json.Int: what int a number is. -/
import Derived.Test.YtejlddimokmgjaaGreatDoorKe
import Derived.Test.YtejlddimokmgjaaGreatDoorKb
import Derived.StillTailTactics
import Derived.Test.YtejlddimokmgjaaGreatDoorKf
import Derived.Test.YtejlddimokmgjaaGreatDoorKg
import Derived.Lib.SlicesS
import Derived.Test.YtejlddimokmgjaaGreatDoorYShelf
import Derived.Shelf.Strings.SlTrimAscii
import Derived.Shelf.Strconv.AtoiAll
import Derived.Lib.SmallJoins
namespace Go.Proofs.YtejlddimokmgjaaGreatDoor
open Go.RowKit

theorem Bld.below {B c : Nat} {l : List UInt8} {w w' : World} (h : Bld B c l w) (k : Below w.heap.size w w') : Bld B c l w' := by
  have h' : Bld B c l w := h
  have hl := h.lt
  have key : ∀ p, Lib.BuilderAtF 93 5 B c p (Lib.byteCells l) w → Lib.BuilderAtF 93 5 B c p (Lib.byteCells l) w' := by
    intro p ⟨hB, v, hbk, hown, hne⟩
    refine ⟨hB, v, (k.block _ hl.2).trans hbk, ?_, hne⟩
    refine hown.kept (row := some w.heap.size) ⟨k.os, k.tape, k.output, k.size, fun i hi _ => k.block i hi⟩ (.inr ?_)
    intro e
    have := hown.lt _ e; omega
  exact h'.imp (key _) (key _)

theorem Bld.drew {B c : Nat} {l : List UInt8} {w : World} (h : Bld B c l w) : Bld B c l w.drew := h.drewN 1
end Go.Proofs.YtejlddimokmgjaaGreatDoor
namespace Go.Proofs.YtejlddimokmgjaaGreatDoor
open Go.RowKit

/-- The cell of a name. -/
theorem JAt.name' {w : World} {ok : Nat → Prop} {x : Int} {is : Bool} {t : List UInt8} {ns : List (List UInt8)} {ks : List Cx.J} {x0 x1 x2 x3 x4 : Value} (h : JAt w ok (.mk x is t ns ks) [x0, x1, x2, x3, x4]) {i : Nat} {n : List UInt8} (hi : ns[i]? = some n) :
    ∃ g o cap, x3 = .slice (some ⟨g, o, none⟩) ns.length cap ∧ ok g ∧ g < w.heap.size ∧ w.cell? ⟨g, o + i, none⟩ = some (.string ⟨n.toArray⟩) := by
  unfold JAt at h
  obtain ⟨sn, sk, hcs, h1, _⟩ := h
  injection hcs with e0 hcs; injection hcs with e1 hcs; injection hcs with e2 hcs; injection hcs with e3 hcs
  subst e3
  rcases h1 with ⟨hz, _⟩ | ⟨_, g, o, cap, hv, _, hg, hl, hc⟩
  · rw [List.length_eq_zero_iff.1 hz] at hi; simp at hi
  · exact ⟨g, o, cap, hv, hg, hl, hc i (strV n) (by rw [List.getElem?_map, hi]; rfl)⟩

theorem Bld.alloc {B c : Nat} {l : List UInt8} {w : World} (h : Bld B c l w) (o : Obj) : Bld B c l (w.alloc o) := h.below ((Below.refl _ _).alloc (Nat.le_refl _) _)

end Go.Proofs.YtejlddimokmgjaaGreatDoor
namespace Go.Proofs.YtejlddimokmgjaaGreatDoor
open Go.RowKit

mutual
theorem fit_le {L M : Nat} (h : L ≤ M) : ∀ v : Cx.J, fit L v → fit M v
  | .mk k is t ns ks, hf => by
    unfold fit Cx.fit at hf ⊢
    exact ⟨Nat.le_trans hf.1 h, Nat.le_trans hf.2.1 h, fun n hn => Nat.le_trans (hf.2.2.1 n hn) h, Nat.le_trans hf.2.2.2.1 h, fitK_le h ks hf.2.2.2.2⟩
theorem fitK_le {L M : Nat} (h : L ≤ M) : ∀ ks : List Cx.J, fitK L ks → fitK M ks
  | [], _ => by unfold fitK Cx.fitK; trivial
  | k :: ks, hf => by
    unfold fitK Cx.fitK at hf ⊢
    exact ⟨fit_le h k hf.1, fitK_le h ks hf.2⟩
end

end Go.Proofs.YtejlddimokmgjaaGreatDoor
namespace Go.Proofs.YtejlddimokmgjaaGreatDoor
open Go.RowKit

def ixN (ns : List (List UInt8)) (t : List UInt8) : Int := if t ∈ ns then (ns.idxOf t : Int) else -1

theorem indexS_calls (sn : Value) (ns : List (List UInt8)) (t : List UInt8) (ok : Nat → Prop) (w : World) (h : Row w ok sn ns.length (ns.map strV)) (hn : ns.length ≤ 9223372036854775807) :
    Calls Tryz.prog 51 #[sn, .string ⟨t.toArray⟩] w fun e w' => e = .returned (.int .i64 (ixN ns t)) ∧ w = w' := by
  rcases h with ⟨h0, _, a, cap, rfl⟩ | ⟨h0, g, o, cap, rfl, _, _, _, hc⟩
  · have : ns = [] := List.length_eq_zero_iff.1 h0
    subst this
    refine (Tryz.slices_Index_string_empty a cap ⟨t.toArray⟩ w).mono ?_
    rintro e w' ⟨rfl, rfl⟩
    exact ⟨by simp [ixN]; rfl, rfl⟩
  · refine (Tryz.slices_Index_string g o ns.length cap (ns.map fun t => ⟨t.toArray⟩) ⟨t.toArray⟩ w (by simp) hn ?_).mono ?_
    · intro j hj
      simp only [List.length_map] at hj
      refine hc j _ ?_
      simp [List.getElem?_eq_getElem hj, strV, List.getD]
    · rintro e w' ⟨rfl, rfl⟩
      refine ⟨ret_int ?_, rfl⟩
      have inj : ∀ x y : List UInt8, (⟨x.toArray⟩ : ByteArray) = ⟨y.toArray⟩ → x = y := by
        intro x y h
        injection h with h
        simpa using congrArg Array.toList h
      have hg : ∀ j (hj : j < ns.length), (ns.map fun t => (⟨t.toArray⟩ : ByteArray)).getD j ByteArray.empty = ⟨(ns[j]'hj).toArray⟩ := by
        intro j hj
        simp [List.getD, hj]
      unfold ixN
      by_cases hm : t ∈ ns
      · rw [if_pos hm]
        have hlt := List.idxOf_lt_length_of_mem hm
        refine Lib.idxOfS_hit _ _ _ _ hlt (by simp) ?_ ?_
        · rw [hg _ hlt, List.getElem_idxOf]
        · intro j hj
          rw [hg j (by omega)]
          intro e
          have h1 := List.not_of_lt_findIdx (p := (· == t)) (xs := ns) (i := j) hj
          simp at h1
          exact h1 (inj _ _ e)
      · rw [if_neg hm]
        refine Lib.idxOfS_miss _ _ _ ?_
        intro j hj
        rw [hg j hj]
        intro e
        exact hm (by rw [← inj _ _ e]; exact List.getElem_mem hj)

/-- What 'Get' hands back. -/
def GetPost (v : Cx.J) (t : List UInt8) (w : World) (e : Ending) (w' : World) : Prop :=
  ∃ cs : List Value, e = .returned (.tuple #[.agg cs.toArray, .bool (Cx.get v t).isSome]) ∧ JAt w' (fun g => g < w'.heap.size) ((Cx.get v t).getD (.mk 0 false [] [] [])) cs ∧ Below w.heap.size w w'

set_option maxRecDepth 100000 in
set_option maxHeartbeats 2000000 in
theorem get_calls (v : Cx.J) (cs : List Value) (n : List UInt8) (w : World) (ok : Nat → Prop) (hj : JAt w ok v cs) (hf : fit maxLen v) :
    Calls Tryz.prog 21 #[.agg cs.toArray, .string ⟨n.toArray⟩] w (GetPost v n w) := by
  cases v with
  | mk k is t ns ks =>
  obtain ⟨a, nc, a', kc, rfl⟩ := hj.shape
  have hnl : ns.length ≤ maxLen := hf.2.1
  have hkl : ks.length ≤ maxLen := hf.2.2.2.1
  unfold maxLen at hnl hkl
  have J := Lib.hid hj.all
  have hrow : Row w (fun g => g < w.heap.size) (.slice a ns.length nc) ns.length (ns.map strV) := by
    have hj := J.out
    unfold JAt at hj
    obtain ⟨sn, sk, hcs, h1, _⟩ := hj
    injection hcs with _ hcs; injection hcs with _ hcs; injection hcs with _ hcs; injection hcs with e3 hcs
    rw [e3]; exact h1
  have HROW := Lib.hid hrow
  have hb2 : Below w.heap.size w ((w.alloc (.cells #[.int .i64 k, .bool is, .string ⟨t.toArray⟩, .slice a ns.length nc, .slice a' ks.length kc] 48)).alloc (.cells #[.int .i64 0, .bool false, .string ⟨#[]⟩, .slice none 0 0, .slice none 0 0] 48)) := ((Below.refl w.heap.size w).alloc (Nat.le_refl _) _).alloc (by simp) _
  have HB2 := Lib.hid hb2
  clear hj hf hrow hb2
  have hixb : -1 ≤ ixN ns n ∧ ixN ns n < (ns.length : Int) + 1 := by
    unfold ixN
    split
    · rename_i h; have := List.idxOf_lt_length_of_mem h; omega
    · omega
  obtain ⟨hix1, hix2⟩ := hixb
  go_enter Tryz.func21, Tryz.ntmps21
  go_wp2_with fail
  refine (indexS_calls _ ns n _ _ (HROW.out.below HB2.out) (by omega)).mono ?_
  rintro e w5 ⟨rfl, rfl⟩
  obtain ⟨r, hr⟩ : ∃ r, r = ixN ns n := ⟨_, rfl⟩
  rw [← hr] at hix1 hix2 ⊢
  have HRX := Lib.hid hr
  clear hr
  by_cases hk : k = 6
  · subst hk
    by_cases hneg : r < 0
    · have HGN : Hid (Cx.get (.mk 6 is t ns ks) n = none) := Lib.hid (by
        have h := HRX.out
        unfold ixN at h
        show (if (6 : Int) = 6 ∧ n ∈ ns then ks[ns.idxOf n]? else none) = none
        rw [if_neg]
        rintro ⟨_, hm⟩
        rw [if_pos hm] at h
        omega)
      go_wp2_with fail
      exact bodyPost_ret (v := .tuple #[.agg #[.int .i64 0, .bool false, .string ⟨#[]⟩, .slice none 0 0, .slice none 0 0], .bool false]) (by simp [results, Tryz.results21, go_sem]) rfl ⟨[.int .i64 0, .bool false, .string ⟨#[]⟩, .slice none 0 0, .slice none 0 0], by rw [HGN.out]; rfl, by rw [HGN.out]; exact JAt.plain, HB2.out⟩
    · have hm : n ∈ ns := by
        have h := HRX.out
        unfold ixN at h
        by_cases hm : n ∈ ns
        · exact hm
        · rw [if_neg hm] at h; omega
      have hre : r = (ns.idxOf n : Int) := by rw [HRX.out]; unfold ixN; rw [if_pos hm]
      have hnegd : decide (r < 0) = false := by simp; omega
      obtain ⟨i, hi⟩ : ∃ i, i = ns.idxOf n := ⟨_, rfl⟩
      rw [← hi] at hre
      have HI := Lib.hid hi; have HM := Lib.hid hm
      clear hi hm
      subst hre
      by_cases hge : ks.length ≤ i
      · have HGN : Hid (Cx.get (.mk 6 is t ns ks) n = none) := Lib.hid (by
          show (if (6 : Int) = 6 ∧ n ∈ ns then ks[ns.idxOf n]? else none) = none
          rw [if_pos ⟨rfl, HM.out⟩, ← HI.out]
          exact List.getElem?_eq_none hge)
        have hged : decide ((ks.length : Int) ≤ (i : Int)) = true := by simp; omega
        go_wp2_with fail
        exact bodyPost_ret (v := .tuple #[.agg #[.int .i64 0, .bool false, .string ⟨#[]⟩, .slice none 0 0, .slice none 0 0], .bool false]) (by simp [results, Tryz.results21, go_sem]) rfl ⟨[.int .i64 0, .bool false, .string ⟨#[]⟩, .slice none 0 0, .slice none 0 0], by rw [HGN.out]; rfl, by rw [HGN.out]; exact JAt.plain, HB2.out⟩
      · obtain ⟨k, hk⟩ : ∃ k, ks[i]? = some k := ⟨ks[i]'(by omega), List.getElem?_eq_getElem _⟩
        have HGN : Hid (Cx.get (.mk 6 is t ns ks) n = some k) := Lib.hid (by
          show (if (6 : Int) = 6 ∧ n ∈ ns then ks[ns.idxOf n]? else none) = some k
          rw [if_pos ⟨rfl, HM.out⟩, ← HI.out]
          exact hk)
        obtain ⟨g, o, cap, hv, _, hgl, kb0, kb1, kb2, kb3, hkj, d0, d1, d2, d3, d4⟩ := J.out.kid' hk
        injection hv with ha _ hc
        subst ha hc
        have hged : decide ((ks.length : Int) ≤ (i : Int)) = false := by simp; omega
        have hlt : (i : Int) < (ks.length : Int) := by omega
        have KJ := Lib.hid hkj
        clear hkj hge hk
        go_wp2_with fail
        have hb3 : Below w.heap.size w ((w.alloc (.cells #[.int .i64 6, .bool is, .string ⟨t.toArray⟩, .slice a ns.length nc, .slice (some ⟨g, o, none⟩) ks.length kc] 48)).alloc (.cells #[.int .i64 k.kind, .bool k.is, .string ⟨k.text.toArray⟩, .slice kb0 k.names.length kb1, .slice kb2 k.kids.length kb3] 48)) := ((Below.refl w.heap.size w).alloc (Nat.le_refl _) _).alloc (by simp) _
        exact bodyPost_ret (v := .tuple #[.agg #[.int .i64 k.kind, .bool k.is, .string ⟨k.text.toArray⟩, .slice kb0 k.names.length kb1, .slice kb2 k.kids.length kb3], .bool true]) (by simp [results, Tryz.results21, go_sem]) rfl ⟨[.int .i64 k.kind, .bool k.is, .string ⟨k.text.toArray⟩, .slice kb0 k.names.length kb1, .slice kb2 k.kids.length kb3], by rw [HGN.out]; rfl, by rw [HGN.out]; exact (KJ.out.below hb3).all, hb3⟩
  · have HGN : Hid (Cx.get (.mk k is t ns ks) n = none) := Lib.hid (by
      show (if k = 6 ∧ n ∈ ns then ks[ns.idxOf n]? else none) = none
      rw [if_neg]
      rintro ⟨h6, _⟩
      exact hk h6)
    have hkd : (k != 6) = true := by simpa using hk
    go_wp2_with fail
    exact bodyPost_ret (v := .tuple #[.agg #[.int .i64 0, .bool false, .string ⟨#[]⟩, .slice none 0 0, .slice none 0 0], .bool false]) (by simp [results, Tryz.results21, go_sem]) rfl ⟨[.int .i64 0, .bool false, .string ⟨#[]⟩, .slice none 0 0, .slice none 0 0], by rw [HGN.out]; rfl, by rw [HGN.out]; exact JAt.plain, HB2.out⟩
end Go.Proofs.YtejlddimokmgjaaGreatDoor
namespace Go.Proofs.YtejlddimokmgjaaGreatDoor
open Go.RowKit

theorem dropWhile_nil (p : UInt8 → Bool) : ∀ l : List UInt8, l.dropWhile p = [] ↔ ∀ x ∈ l, p x = true
  | [] => by simp
  | a :: l => by
    rw [List.dropWhile_cons]
    by_cases h : p a = true
    · rw [if_pos h, dropWhile_nil p l]; simp [h]
    · rw [if_neg h]; simp [h]
theorem dropWhile_cons_head (p : UInt8 → Bool) : ∀ (l : List UInt8) (a : UInt8) (r : List UInt8), l.dropWhile p = a :: r → p a = false ∧ a ∈ l
  | [], a, r, h => by simp at h
  | b :: l, a, r, h => by
    rw [List.dropWhile_cons] at h
    by_cases hb : p b = true
    · rw [if_pos hb] at h
      have := dropWhile_cons_head p l a r h
      exact ⟨this.1, by simp [this.2]⟩
    · rw [if_neg hb] at h
      injection h with h1 h2
      subst h1
      exact ⟨by simpa using hb, by simp⟩
theorem trimS_nil (l cs : List UInt8) : Lib.trimS l cs = [] ↔ ∀ b ∈ l, cs.contains b = true := by
  unfold Lib.trimS Lib.trimLeftS Lib.trimRightS
  constructor
  · intro h
    rw [dropWhile_nil] at h
    cases hx : l.reverse.dropWhile (cs.contains ·) with
    | nil => intro b hb; exact (dropWhile_nil _ _).1 hx b (by simpa using hb)
    | cons a r =>
      have h1 := (dropWhile_cons_head _ _ _ _ hx).1
      rw [h a (by rw [hx]; simp)] at h1
      cases h1
  · intro h
    have e : l.reverse.dropWhile (cs.contains ·) = [] := by
      rw [dropWhile_nil]
      intro x hx; exact h x (by simpa using hx)
    rw [e]; rfl
theorem digs_iff (c : UInt8) : ([48, 49, 50, 51, 52, 53, 54, 55, 56, 57] : List UInt8).contains c = Cx.isDig c := by
  have : ∀ c : Fin 256, ([48, 49, 50, 51, 52, 53, 54, 55, 56, 57] : List UInt8).contains (UInt8.ofNat c.val) = Cx.isDig (UInt8.ofNat c.val) := by decide +kernel
  have h := this ⟨c.toNat, c.toNat_lt⟩
  simpa using h
theorem trim_digs (l : List UInt8) : Lib.trimS l [48, 49, 50, 51, 52, 53, 54, 55, 56, 57] = [] ↔ l.all Cx.isDig = true := by
  rw [trimS_nil, List.all_eq_true]
  constructor
  · intro h b hb; rw [← digs_iff]; exact h b hb
  · intro h b hb; rw [digs_iff]; exact h b hb
theorem trimPrefix_unsign (t : List UInt8) : Lib.trimPrefix t [45] = Cx.unsign t := by
  unfold Cx.unsign
  split
  · rename_i r; simp [Lib.trimPrefix, Lib.hasPrefix]
  · rename_i h
    cases t with
    | nil => rfl
    | cons c r =>
      have hc : c ≠ 45 := by rintro rfl; exact h r rfl
      simp [Lib.trimPrefix, Lib.hasPrefix, hc.symm]
theorem parseUint_dig : ∀ (l : List UInt8) (acc k : Nat), (∀ c ∈ l, Cx.isDig c = true) → acc < 10 ^ k → k + l.length ≤ 18 → Lib.parseUint10 acc l = .ok (l.foldl (fun n c => 10 * n + (c.toNat - 48)) acc)
  | [], acc, k, _, _, _ => rfl
  | c :: r, acc, k, hd, ha, hk => by
    have hc := hd c (by simp)
    simp only [Cx.isDig, Bool.and_eq_true, decide_eq_true_eq, UInt8.le_iff_toNat_le] at hc
    have hc' : 48 ≤ c.toNat ∧ c.toNat ≤ 57 := hc
    simp only [List.length_cons] at hk
    have hp : 10 ^ k ≤ 10 ^ 17 := Nat.pow_le_pow_right (by omega) (by omega)
    have ha' : acc < 100000000000000000 := Nat.lt_of_lt_of_le ha hp
    simp only [Lib.parseUint10]
    rw [if_pos hc', if_neg (by omega), if_neg (by omega)]
    rw [parseUint_dig r _ (k + 1) (fun x hx => hd x (by simp [hx])) (by rw [Nat.pow_succ]; omega) (by omega)]
    simp only [List.foldl_cons]
    rw [Nat.mul_comm acc 10]
theorem atoi_ok {t : List UInt8} {v : Int} (h : Cx.toIntT t = some v) : Lib.atoiAll t = .ok v := by
  unfold Cx.toIntT at h
  split at h
  · rename_i hc
    obtain ⟨hne, hl, hd⟩ := hc
    injection h with h
    subst h
    rw [List.all_eq_true] at hd
    have hp := parseUint_dig (Cx.unsign t) 0 0 hd (by decide) (by omega)
    have hlt := Lib.parseUint10_lt _ _ _ (by decide) hp
    have hsm : ∀ (l : List UInt8) (acc k : Nat), (∀ c ∈ l, Cx.isDig c = true) → acc < 10 ^ k → l.foldl (fun n c => 10 * n + (c.toNat - 48)) acc < 10 ^ (k + l.length) := by
      intro l
      induction l with
      | nil => intro acc k _ h; simpa using h
      | cons c r ih =>
        intro acc k hd ha
        have hc := hd c (by simp)
        simp only [Cx.isDig, Bool.and_eq_true, decide_eq_true_eq, UInt8.le_iff_toNat_le] at hc
        have hc' : 48 ≤ c.toNat ∧ c.toNat ≤ 57 := hc
        simp only [List.foldl_cons, List.length_cons]
        have := ih (10 * acc + (c.toNat - 48)) (k + 1) (fun x hx => hd x (by simp [hx])) (by rw [Nat.pow_succ]; omega)
        rw [show k + (r.length + 1) = k + 1 + r.length by omega]; exact this
    have hs := hsm (Cx.unsign t) 0 0 hd (by decide)
    have hs2 : (10 : Nat) ^ (0 + (Cx.unsign t).length) ≤ 10 ^ 15 := Nat.pow_le_pow_right (by omega) (by omega)
    have hs3 : (Cx.unsign t).foldl (fun n c => 10 * n + (c.toNat - 48)) 0 < 1000000000000000 := Nat.lt_of_lt_of_le hs hs2
    clear hs hs2 hsm hlt
    unfold Cx.digVal
    generalize hV : (Cx.unsign t).foldl (fun n c => 10 * n + (c.toNat - 48)) 0 = V at hp hs3 ⊢
    cases t with
    | nil => exact absurd rfl hne
    | cons c r =>
      by_cases h45 : c = 45
      · subst h45
        have hu : Cx.unsign (45 :: r) = r := rfl
        rw [hu] at hp hne
        unfold Lib.atoiAll Lib.parseMag
        simp only [show (45 : UInt8).toNat = 45 from rfl, or_true, if_true]
        rw [if_neg hne, hp]
        simp only [not_true_eq_false, false_and, if_false, true_and, List.head?_cons, if_true]
        rw [if_neg (by omega)]
      · have hu : Cx.unsign (c :: r) = c :: r := by
          unfold Cx.unsign
          split
          · rename_i r' he; injection he with he _; exact absurd he h45
          · rfl
        rw [hu] at hp hne hd
        have hc := hd c (by simp)
        simp only [Cx.isDig, Bool.and_eq_true, decide_eq_true_eq, UInt8.le_iff_toNat_le] at hc
        have hc' : 48 ≤ c.toNat ∧ c.toNat ≤ 57 := hc
        have hn1 : ¬ (c.toNat = 43 ∨ c.toNat = 45) := by omega
        have hn2 : ¬ c.toNat = 45 := by omega
        unfold Lib.atoiAll Lib.parseMag
        simp only
        rw [if_neg hn1, if_neg hne, hp]
        simp only
        rw [if_neg (by omega), if_neg (by omega), if_neg hn2]
        have : (c :: r).head? ≠ some 45 := by simpa using h45
        rw [if_neg this]
  · cases h
/-- What 'Int' hands back. -/
def IntPost (v : Cx.J) (w : World) (e : Ending) (w' : World) : Prop :=
  e = .returned (.tuple #[.int .i64 ((Cx.toInt v).getD 0), .bool (Cx.toInt v).isSome]) ∧ Below w.heap.size w w'

theorem unsign_le (t : List UInt8) : (Cx.unsign t).length ≤ t.length ∧ t.length ≤ (Cx.unsign t).length + 1 := by
  unfold Cx.unsign
  split
  · simp
  · exact ⟨Nat.le_refl _, Nat.le_succ _⟩

set_option maxRecDepth 100000 in
set_option maxHeartbeats 1000000 in
theorem int_calls (v : Cx.J) (cs : List Value) (w : World) (ok : Nat → Prop) (hj : JAt w ok v cs) (hf : fit maxLen v) :
    Calls Tryz.prog 23 #[.agg cs.toArray] w (IntPost v w) := by
  cases v with
  | mk k is t ns ks =>
  obtain ⟨a, nc, a', kc, rfl⟩ := hj.shape
  have htl : t.length ≤ maxLen := hf.1
  unfold maxLen at htl
  have hts : (⟨t.toArray⟩ : ByteArray).size = t.length := by simp [ByteArray.size]
  have htd : (⟨t.toArray⟩ : ByteArray).data.toList = t := by simp
  obtain ⟨R, hR⟩ : ∃ R, R = Cx.toInt (.mk k is t ns ks) := ⟨_, rfl⟩
  unfold IntPost
  rw [← hR]
  have HR := Lib.hid hR
  have HB := Lib.hid ((Below.refl w.heap.size w).alloc (Nat.le_refl _) (.cells #[.int .i64 k, .bool is, .string ⟨t.toArray⟩, .slice a ns.length nc, .slice a' ks.length kc] 48))
  obtain ⟨U, hU⟩ : ∃ U : List UInt8, U = Cx.unsign t := ⟨_, rfl⟩
  have hUl : U.length ≤ t.length ∧ t.length ≤ U.length + 1 := by rw [hU]; exact unsign_le t
  have hus : (⟨U.toArray⟩ : ByteArray).size = U.length := by simp [ByteArray.size]
  have hud : (⟨U.toArray⟩ : ByteArray).data.toList = U := by simp
  have HU := Lib.hid hU;
  have hp : Lib.trimPrefix (⟨t.toArray⟩ : ByteArray).data.toList (⟨#[45]⟩ : ByteArray).data.toList = U := by rw [htd, hU]; exact trimPrefix_unsign t
  have HP := Lib.hid hp
  clear hR hj hf hU htd hud hp
  by_cases hk : k = 3
  rotate_left
  · have hkd : (k != 3) = true := by simpa using hk
    have HN : Hid (R = none) := Lib.hid (by rw [HR.out]; simp [Cx.toInt, hk])
    clear hk
    go_enter Tryz.func23, Tryz.ntmps23
    go_wp2_with fail
    refine (Tryz.strings_TrimPrefix _ _ _).mono ?_
    rintro e w' ⟨rfl, rfl⟩
    rw [HP.out]
    go_wp2_with fail
    go_ret2
    rw [HN.out]
    exact ⟨rfl, HB.out⟩
  subst hk
  have hRT : R = Cx.toIntT t := by rw [HR.out]; simp [Cx.toInt]
  have HRT := Lib.hid hRT
  clear hRT HR
  by_cases h0 : U = []
  · subst h0
    have HN : Hid (R = none) := Lib.hid (by rw [HRT.out]; unfold Cx.toIntT; rw [← HU.out]; simp)
    go_enter Tryz.func23, Tryz.ntmps23
    go_wp2_with fail
    refine (Tryz.strings_TrimPrefix _ _ _).mono ?_
    rintro e w' ⟨rfl, rfl⟩
    rw [HP.out]
    go_wp2_with fail
    go_ret2
    rw [HN.out]
    exact ⟨rfl, HB.out⟩
  have h0d : (U == []) = false := by simpa using h0
  by_cases h15 : U.length ≤ 15
  rotate_left
  · have HN : Hid (R = none) := Lib.hid (by rw [HRT.out]; unfold Cx.toIntT; rw [← HU.out, if_neg]; rintro ⟨_, h, _⟩; exact h15 h)
    have h15i : (15 : Int) < (U.length : Int) := by omega
    clear h15
    go_enter Tryz.func23, Tryz.ntmps23
    go_wp2_with fail
    refine (Tryz.strings_TrimPrefix _ _ _).mono ?_
    rintro e w' ⟨rfl, rfl⟩
    rw [HP.out]
    go_wp2_with fail
    go_ret2
    rw [HN.out]
    exact ⟨rfl, HB.out⟩
  have h15i : ¬ (15 : Int) < (U.length : Int) := by omega
  by_cases hd : U.all Cx.isDig = true
  rotate_left
  · have HN : Hid (R = none) := Lib.hid (by rw [HRT.out]; unfold Cx.toIntT; rw [← HU.out, if_neg]; rintro ⟨_, _, h⟩; exact hd h)
    have htn : Lib.trimS U [48, 49, 50, 51, 52, 53, 54, 55, 56, 57] ≠ [] := fun e => hd ((trim_digs U).1 e)
    have HTN := Lib.hid htn
    clear hd htn
    go_enter Tryz.func23, Tryz.ntmps23
    go_wp2_with fail
    refine (Tryz.strings_TrimPrefix _ _ _).mono ?_
    rintro e w' ⟨rfl, rfl⟩
    rw [HP.out]
    go_wp2_with fail
    refine (Any.strings_Trim_laid Tryz.lays160 (by kernel_rfl) ⟨U.toArray⟩ ⟨#[48, 49, 50, 51, 52, 53, 54, 55, 56, 57]⟩ _ (by omega) (by decide) (ascii_of_all (by decide))).mono ?_
    rintro e w2 ⟨rfl, hb⟩
    have HB2 := Lib.hid (HB.out.trans (hb.mono HB.out.size))
    clear hb
    rw [show (⟨U.toArray⟩ : ByteArray).data.toList = U by simp, show (⟨#[48, 49, 50, 51, 52, 53, 54, 55, 56, 57]⟩ : ByteArray).data.toList = [48, 49, 50, 51, 52, 53, 54, 55, 56, 57] from rfl]
    generalize hT : Lib.trimS U [48, 49, 50, 51, 52, 53, 54, 55, 56, 57] = T at HTN
    have htn := HTN.out
    have hTd : (T != []) = true := by simpa using htn
    have hTd2 : (T == []) = false := by simpa using htn
    go_wp2_with fail
    go_ret2
    rw [HN.out]
    exact ⟨rfl, HB2.out⟩
  have htn : Lib.trimS U [48, 49, 50, 51, 52, 53, 54, 55, 56, 57] = [] := (trim_digs U).2 hd
  have HTN := Lib.hid htn
  obtain ⟨n, hn⟩ : ∃ n, R = some n := by
    rw [HRT.out]; unfold Cx.toIntT; rw [← HU.out, if_pos ⟨h0, h15, hd⟩]; exact ⟨_, rfl⟩
  have HA := Lib.hid (atoi_ok (HRT.out.symm.trans hn))
  have HN := Lib.hid hn
  obtain ⟨c0, c1, c2, c3, c4, _⟩ := cells5 (heap_alloc_new w (.cells #[.int .i64 3, .bool is, .string ⟨t.toArray⟩, .slice a ns.length nc, .slice a' ks.length kc] 48))
  clear htn hd hn h0
  go_enter Tryz.func23, Tryz.ntmps23
  go_wp2_with fail
  refine (Tryz.strings_TrimPrefix _ _ _).mono ?_
  rintro e w' ⟨rfl, rfl⟩
  rw [HP.out]
  go_wp2_with fail
  refine (Any.strings_Trim_laid Tryz.lays160 (by kernel_rfl) ⟨U.toArray⟩ ⟨#[48, 49, 50, 51, 52, 53, 54, 55, 56, 57]⟩ _ (by omega) (by decide) (ascii_of_all (by decide))).mono ?_
  rintro e w2 ⟨rfl, hb⟩
  rw [show (⟨U.toArray⟩ : ByteArray).data.toList = U by simp, show (⟨#[48, 49, 50, 51, 52, 53, 54, 55, 56, 57]⟩ : ByteArray).data.toList = [48, 49, 50, 51, 52, 53, 54, 55, 56, 57] from rfl, HTN.out]
  have HB2 := Lib.hid (HB.out.trans (hb.mono HB.out.size))
  have d2 := (hb.cell (p := ⟨w.heap.size, 2, none⟩) (by simp)).trans c2
  clear hb c0 c1 c2 c3 c4
  go_wp2_with fail
  refine (Tryz.strconv_Atoi_ok ⟨t.toArray⟩ (by omega) n (by rw [show (⟨t.toArray⟩ : ByteArray).data.toList = t by simp]; exact HA.out) _).mono ?_
  rintro e w3 ⟨rfl, hw⟩
  have HB3 : Hid (Below w.heap.size w w3) := Lib.hid (by
    rcases hw with rfl | ⟨x, rfl⟩
    · exact HB2.out
    · exact HB2.out.trans ((Joins.below_bytesWorld _ _ _ _ (Nat.le_refl _)).mono HB2.out.size))
  clear hw
  go_wp2_with fail
  go_ret2
  rw [HN.out]
  exact ⟨rfl, HB3.out⟩

end Go.Proofs.YtejlddimokmgjaaGreatDoor
