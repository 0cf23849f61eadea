/- WALKS: text, Print, as the document's answer has them. -/
import Derived.Test.YtbdmepilmoomeaaGreatDoorCxLaws
import Derived.Test.YtbdmepilmoomeaaGreatDoorLt
import Derived.Test.YtbdmepilmoomeaaGreatDoorMp0
import Derived.Lib.SlBytesRow
import Derived.Test.YtbdmepilmoomeaaGreatDoorSm
namespace Cx

/-- The value behind a name, of an object. -/
def get : J → Bytes → Option J
  | .mk k _ _ ns ks, n => if k = 6 ∧ n ∈ ns then ks[ns.idxOf n]? else none

mutual
theorem right_mono : ∀ (v : J) (d : Nat), right (d + 1) v = true → right d v = true
  | .mk k is t ns ks, d, h => by
    unfold right at h ⊢
    by_cases h1 : k = 1
    · rw [if_pos h1] at h ⊢; exact h
    rw [if_neg h1] at h ⊢
    by_cases h2 : k = 2
    · rw [if_pos h2] at h ⊢; exact h
    rw [if_neg h2] at h ⊢
    by_cases h3 : k = 3
    · rw [if_pos h3] at h ⊢; exact h
    rw [if_neg h3] at h ⊢
    by_cases h4 : k = 4
    · rw [if_pos h4] at h ⊢; exact h
    rw [if_neg h4] at h ⊢
    by_cases h5 : k = 5
    · rw [if_pos h5] at h ⊢
      simp only [Bool.and_eq_true, decide_eq_true_eq] at h ⊢
      exact ⟨⟨h.1.1, by omega⟩, rightK_mono ks (d + 1) h.2⟩
    rw [if_neg h5] at h ⊢
    by_cases h6 : k = 6
    · rw [if_pos h6] at h ⊢
      simp only [Bool.and_eq_true, decide_eq_true_eq] at h ⊢
      exact ⟨⟨h.1.1, by omega⟩, rightK_mono ks (d + 1) h.2⟩
    rw [if_neg h6] at h
    cases h
theorem rightK_mono : ∀ (ks : List J) (d : Nat), rightK (d + 1) ks = true → rightK d ks = true
  | [], d, _ => by unfold rightK; rfl
  | k :: ks, d, h => by
    unfold rightK at h ⊢
    simp only [Bool.and_eq_true] at h ⊢
    exact ⟨right_mono k d h.1, rightK_mono ks d h.2⟩
end

def list2 (a b : J) : J := .mk 5 false [] [] [a, b]
def obj2 (n m : Bytes) (a b : J) : J := .mk 6 false [] [n, m] [a, b]
theorem list2_wrong {a b : J} (h : right 0 a = false ∨ right 0 b = false) : print (list2 a b) = [] := by
  unfold print
  rw [if_neg]
  intro hr
  unfold Right list2 right at hr
  simp [rightK] at hr
  have := hr.2
  rcases h with h | h
  · rw [right_mono a 0 this.1] at h; cases h
  · rw [right_mono b 0 this.2] at h; cases h
theorem obj2_wrong {n m : Bytes} {a b : J} (h : right 0 a = false ∨ right 0 b = false) : print (obj2 n m a b) = [] := by
  unfold print
  rw [if_neg]
  intro hr
  unfold Right obj2 right at hr
  simp [rightK] at hr
  have := hr.2.2
  rcases h with h | h
  · rw [right_mono a 0 this.1] at h; cases h
  · rw [right_mono b 0 this.2] at h; cases h
theorem right_of_light {a : J} (hn : nodes a ≤ 2000) : Right a = right 0 a := by
  unfold Right
  rw [decide_eq_true (by omega), Bool.true_and]
theorem print_nil_iff (v : J) : print v = [] ↔ Right v = false := by
  have := @print_ne v
  constructor
  · intro h
    cases hr : Right v with
    | false => rfl
    | true => exact absurd h (this.2 hr)
  · intro h
    unfold print; rw [h]; rfl
theorem print_list2 {a b : J} (h : Right (list2 a b) = true) : print (list2 a b) = 91 :: (pr a ++ 44 :: (pr b ++ [93])) := by
  unfold print
  rw [h]
  simp [list2, pr, prK]
theorem print_obj2 {n m : Bytes} {a b : J} (h : Right (obj2 n m a b) = true) : print (obj2 n m a b) = 123 :: (jtext n ++ 58 :: (pr a ++ 44 :: (jtext m ++ 58 :: (pr b ++ [125])))) := by
  unfold print
  rw [h]
  simp [obj2, pr, prK]
theorem get_first (n m : Bytes) (a b : J) : get (obj2 n m a b) n = some a := by
  simp [get, obj2]
theorem get_second {n m : Bytes} (h : n ≠ m) (a b : J) : get (obj2 n m a b) m = some b := by
  have h' : (n == m) = false := by simpa using h
  simp [get, obj2, List.idxOf_cons, h']
theorem get_list (n : Bytes) (a b : J) : get (list2 a b) n = none := by simp [get, list2]
theorem get_none {n m x : Bytes} (h1 : x ≠ n) (h2 : x ≠ m) (a b : J) : get (obj2 n m a b) x = none := by
  simp [get, obj2, h1, h2]
end Cx

namespace Cx

/-- Is a node right by itself? -/
def nodeOk : J → Bool
  | .mk k is t ns ks =>
    if k = 1 then !is && decide (t = []) && decide (ns = []) && ks.isEmpty
    else if k = 2 then decide (t = []) && decide (ns = []) && ks.isEmpty
    else if k = 3 then !is && decide (ns = []) && ks.isEmpty && decide (isNum t)
    else if k = 4 then !is && decide (ns = []) && ks.isEmpty && valid t
    else if k = 5 then !is && decide (t = []) && decide (ns = [])
    else if k = 6 then !is && decide (t = []) && namesOk [] ns && decide (ns.length = ks.length)
    else false

theorem nodeOk_other {k : Int} {is : Bool} {t : Bytes} {ns : List Bytes} {ks : List J} (h1 : k ≠ 1) (h2 : k ≠ 2) (h3 : k ≠ 3) (h4 : k ≠ 4) (h5 : k ≠ 5) (h6 : k ≠ 6) : nodeOk (.mk k is t ns ks) = false := by
  simp [nodeOk, h1, h2, h3, h4, h5, h6]
theorem right_leaf {k : Int} {is : Bool} {t : Bytes} {ns : List Bytes} {ks : List J} (h5 : k ≠ 5) (h6 : k ≠ 6) (d : Nat) : right d (.mk k is t ns ks) = nodeOk (.mk k is t ns ks) := by
  unfold right
  simp [nodeOk, h5, h6]
theorem nodeOk_leaf {k : Int} {is : Bool} {t : Bytes} {ns : List Bytes} {ks : List J} (h5 : k ≠ 5) (h6 : k ≠ 6) (h : nodeOk (.mk k is t ns ks) = true) : ks = [] := by
  by_cases h1 : k = 1
  · subst h1; simp [nodeOk] at h; exact h.2
  by_cases h2 : k = 2
  · subst h2; simp [nodeOk] at h; exact h.2
  by_cases h3 : k = 3
  · subst h3; simp [nodeOk] at h; exact h.1.2
  by_cases h4 : k = 4
  · subst h4; simp [nodeOk] at h; exact h.1.2
  rw [nodeOk_other h1 h2 h3 h4 h5 h6] at h
  cases h
theorem right_group {k : Int} {is : Bool} {t : Bytes} {ns : List Bytes} {ks : List J} (h : k = 5 ∨ k = 6) (d : Nat) : right d (.mk k is t ns ks) = (nodeOk (.mk k is t ns ks) && (decide (d < 20) && rightK (d + 1) ks)) := by
  rcases h with rfl | rfl
  · unfold right
    simp [nodeOk]
    cases is <;> cases decide (t = []) <;> cases decide (ns = []) <;> cases decide (d < 20) <;> cases rightK (d + 1) ks <;> rfl
  · unfold right
    simp [nodeOk]
    cases is <;> cases decide (t = []) <;> cases namesOk [] ns <;> cases decide (ns.length = ks.length) <;> cases decide (d < 20) <;> cases rightK (d + 1) ks <;> rfl
end Cx

namespace Go.Proofs.YtbdmepilmoomeaaGreatDoor
open Go.RowKit

set_option maxRecDepth 100000 in
set_option maxHeartbeats 2000000 in
theorem count2_calls : ∀ (N : Nat) (v : Cx.J) (cs : List Value) (most : Nat) (w : World) (ok : Nat → Prop), Cx.nodes v ≤ N → JAt w ok v cs → most ≤ 100000 → fit maxLen v →
    Calls Tryz.prog 43 #[.agg cs.toArray, .int .i64 most] w fun e w' => e = .returned (.int .i64 (min (Cx.nodes v) (most + 1) : Nat)) ∧ Below w.heap.size w w' := by
  intro N
  induction N with
  | zero => intro v _ _ _ _ h; have := nodes_pos v; omega
  | succ N ih =>
    intro v cs most w ok hN hj hm hf
    cases v with
    | mk x is t ns ks =>
    obtain ⟨a, nc, a', kc, rfl⟩ := hj.shape
    have hkl : ks.length ≤ maxLen := hf.2.2.2.1
    unfold maxLen at hkl
    have HBX := Lib.hid (heap_alloc_new w (.cells #[.int .i64 x, .bool is, .string ⟨t.toArray⟩, .slice a ns.length nc, .slice a' ks.length kc] 26))
    have IH := Lib.hid ih; have J := Lib.hid hj.all; have F := Lib.hid hf; have HN := Lib.hid hN
    clear ih hj hf hN
    go_enter Tryz.func43, Tryz.ntmps43
    go_wp2_with fail
    go_loopg [5, 6] (ks.length) (fun q y z wr => ∃ (i n : Nat), y = .int .i64 n ∧ z = .int .i64 i ∧ q = ks.length - i ∧ i ≤ ks.length ∧ n ≤ most + 1 ∧ n = min (1 + Cx.nodesK (ks.take i)) (most + 1) ∧ Hid (Below w.heap.size w wr) ∧ Hid (wr.heap[w.heap.size]? = some (.cells #[.int .i64 x, .bool is, .string ⟨t.toArray⟩, .slice a ns.length nc, .slice a' ks.length kc] 26 (0, 0))))
    case atStart => exact ⟨0, 1, rfl, rfl, rfl, Nat.zero_le _, by omega, by simp [Cx.nodesK], Lib.hid ((Below.refl _ w).alloc (Nat.le_refl _) _), HBX⟩
    case round =>
      clear HBX
      obtain ⟨i, n, rfl, rfl, hq, hi, hn, hnn, hb, HBX⟩ := hrel
      obtain ⟨q0, q1, q2, q3, q4, _⟩ := cells5 HBX.out
      have hsz : w.heap.size < wr.heap.size := heap_lt HBX.out
      have HQ := Lib.hid hq; have HNN := Lib.hid hnn
      clear hq hnn
      rcases Nat.lt_or_ge i ks.length with hlt | hge
      · obtain ⟨k, hk⟩ : ∃ k, ks[i]? = some k := ⟨ks[i], by simp [hlt]⟩
        have hltI : decide ((i : Int) < (ks.length : Int)) = true := by simp; omega
        by_cases hnm : most < n
        · have hnmi : decide ((n : Int) ≤ (most : Int)) = false := by simp; omega
          have hfin : min (Cx.nodes (.mk x is t ns ks)) (most + 1) = min n (most + 1) := by
            have := HNN.out; have := nodesK_get hk
            simp only [Cx.nodes]; omega
          have HFIN : Hid (n = most + 1) := Lib.hid (by omega)
          have HFIN2 := Lib.hid hfin
          clear hfin hk
          go_wp2_with fail
          go_ret
          exact ⟨ret_int (by rw [HFIN2.out]; omega), hb.out⟩
        · have hnmi : decide ((n : Int) ≤ (most : Int)) = true := by simp; omega
          obtain ⟨g, o, cap, hv, _, hgl, kb0, kb1, kb2, kb3, hkj, d0, d1, d2, d3, d4⟩ := J.out.kid' hk
          injection hv with ha _ hc
          subst ha hc
          have b0 := (hb.out.cell (p := ⟨g, o + i * 5, none⟩) hgl).trans d0
          have b1 := (hb.out.cell (p := ⟨g, o + i * 5 + 1, none⟩) hgl).trans d1
          have b2 := (hb.out.cell (p := ⟨g, o + i * 5 + 2, none⟩) hgl).trans d2
          have b3 := (hb.out.cell (p := ⟨g, o + i * 5 + 3, none⟩) hgl).trans d3
          have b4 := (hb.out.cell (p := ⟨g, o + i * 5 + 4, none⟩) hgl).trans d4
          have KJ := Lib.hid hkj; have HK := Lib.hid hk
          clear hkj d0 d1 d2 d3 d4 hk
          go_wp2_with fail
          have hc := IH.out k [.int .i64 k.kind, .bool k.is, .string ⟨k.text.toArray⟩, .slice kb0 k.names.length kb1, .slice kb2 k.kids.length kb3] (most - n) wr _ (by have := HN.out; have := nodesK_get HK.out; simp only [Cx.nodes] at *; omega) (KJ.out.below hb.out) (by omega) (fitK_get F.out.2.2.2.2 HK.out)
          rw [show (((most - n : Nat) : Nat) : Int) = (most : Int) - (n : Int) by omega] at hc
          refine hc.mono ?_
          rintro e w5 ⟨rfl, hb5⟩
          have HB5 := Lib.hid (hb.out.trans (hb5.mono hb.out.size))
          have HBX5 := Lib.hid ((hb5.block _ hsz).trans HBX.out)
          obtain ⟨r, hr⟩ : ∃ r, r = min (Cx.nodes k) (most - n + 1) := ⟨_, rfl⟩
          rw [← hr]
          have hrl : r ≤ most - n + 1 := by omega
          have HR := Lib.hid hr
          clear hb5 hc hr b0 b1 b2 b3 b4
          go_wp2
          go_roundg (ks.length - (i + 1))
          case measure => have := HQ.out; omega
          case rel =>
            refine ⟨i + 1, n + r, by go_num, by go_num, rfl, by omega, by omega, ?_, HB5, HBX5⟩
            have := HR.out; have := HNN.out; have h2 := (nodesK_get HK.out).1
            rw [h2]; omega
      · have hik : i = ks.length := by omega
        subst hik
        have hltI : decide ((ks.length : Int) < (ks.length : Int)) = false := by simp
        have hfin : min (Cx.nodes (.mk x is t ns ks)) (most + 1) = n := by
          have := HNN.out
          rw [List.take_length] at this
          simp only [Cx.nodes]; omega
        have HFIN2 := Lib.hid hfin
        clear hfin
        go_wp2_with fail
        go_ret
        exact ⟨ret_int (by rw [HFIN2.out]; omega), hb.out⟩


theorem ref_ne_byte {c : UInt8} {k : Nat} (hk : k < 256) (h : c ≠ UInt8.ofNat k) : ((c.toNat : Int) == (k : Int)) = false := by
  rw [beq_eq_false_iff_ne]
  intro e
  refine h (UInt8.toNat_inj.1 ?_)
  rw [UInt8.toNat_ofNat_of_lt' (by simpa using hk)]
  omega
theorem ref_hex_digit (n : Nat) (h : n < 16) : ((⟨#[48, 49, 50, 51, 52, 53, 54, 55, 56, 57, 97, 98, 99, 100, 101, 102]⟩ : ByteArray)[n]'(by simp [ByteArray.size]; omega)).toNat = (Cx.lowHex (UInt8.ofNat n)).toNat := by
  have key : ∀ k : Fin 16, (([48, 49, 50, 51, 52, 53, 54, 55, 56, 57, 97, 98, 99, 100, 101, 102] : List UInt8).getD k.val 0).toNat = (Cx.lowHex (UInt8.ofNat k.val)).toNat := by decide +kernel
  have := key ⟨n, h⟩
  rw [← this, List.getD, List.getElem?_eq_getElem (by simp; omega)]
  rfl

set_option maxRecDepth 100000 in
set_option maxHeartbeats 2000000 in
theorem control2_calls (c : UInt8) (w : World) (h32 : c < 32) :
    Calls Tryz.prog 48 #[.int .u8 c.toNat] w fun e w' => e = .returned (.string ⟨(Cx.escB c).toArray⟩) ∧ Below w.heap.size w w' := by
  by_cases h8 : c = 8
  · subst h8
    go_enter Tryz.func48, Tryz.ntmps48
    go_wp2_with fail
    go_ret
    exact ⟨rfl, Below.refl _ w⟩
  by_cases h12 : c = 12
  · subst h12
    go_enter Tryz.func48, Tryz.ntmps48
    go_wp2_with fail
    go_ret
    exact ⟨rfl, Below.refl _ w⟩
  by_cases h10 : c = 10
  · subst h10
    go_enter Tryz.func48, Tryz.ntmps48
    go_wp2_with fail
    go_ret
    exact ⟨rfl, Below.refl _ w⟩
  by_cases h13 : c = 13
  · subst h13
    go_enter Tryz.func48, Tryz.ntmps48
    go_wp2_with fail
    go_ret
    exact ⟨rfl, Below.refl _ w⟩
  by_cases h9 : c = 9
  · subst h9
    go_enter Tryz.func48, Tryz.ntmps48
    go_wp2_with fail
    go_ret
    exact ⟨rfl, Below.refl _ w⟩
  have hE : Cx.escB c = [92, 117, 48, 48, Cx.lowHex (UInt8.ofNat (c.toNat / 16)), Cx.lowHex (UInt8.ofNat (c.toNat % 16))] := by
    rw [← shr4, ← and15']
    unfold Cx.escB
    have n34 : c ≠ 34 := by rintro rfl; exact absurd h32 (by decide)
    have n92 : c ≠ 92 := by rintro rfl; exact absurd h32 (by decide)
    rw [if_neg n34, if_neg n92, if_neg h8, if_neg h12, if_neg h10, if_neg h13, if_neg h9, if_pos h32]
  rw [hE]
  have n8 : ((c.toNat : Int) == 8) = false := u8ne (k := 8) h8
  have n12 : ((c.toNat : Int) == 12) = false := u8ne (k := 12) h12
  have n10 : ((c.toNat : Int) == 10) = false := u8ne (k := 10) h10
  have n13 : ((c.toNat : Int) == 13) = false := u8ne (k := 13) h13
  have n9 : ((c.toNat : Int) == 9) = false := u8ne (k := 9) h9
  obtain ⟨p, hp⟩ : ∃ p : Nat, p = c.toNat / 16 := ⟨_, rfl⟩
  obtain ⟨q, hq⟩ : ∃ q : Nat, q = c.toNat % 16 := ⟨_, rfl⟩
  have hc := c.toNat_lt
  have hA : (c.toNat : Int) / 16 = (p : Int) := by rw [hp]; rfl
  have hA2 : (c.toNat : Int).tdiv 16 = (p : Int) := by rw [hp]; rfl
  have hB : (c.toNat : Int) % 16 = (q : Int) := by rw [hq]; rfl
  have hB2 : (c.toNat : Int).tmod 16 = (q : Int) := by rw [hq]; rfl
  have hp16 : p < 16 := by omega
  have hq16 : q < 16 := by omega
  rw [← hp, ← hq]
  have hX : (((⟨#[48, 49, 50, 51, 52, 53, 54, 55, 56, 57, 97, 98, 99, 100, 101, 102]⟩ : ByteArray)[p]'(by simp [ByteArray.size]; omega)).toNat : Int) = ((Cx.lowHex (UInt8.ofNat p)).toNat : Int) := by rw [ref_hex_digit p hp16]
  have hX2 : (((⟨#[48, 49, 50, 51, 52, 53, 54, 55, 56, 57, 97, 98, 99, 100, 101, 102]⟩ : ByteArray)[q]'(by simp [ByteArray.size]; omega)).toNat : Int) = ((Cx.lowHex (UInt8.ofNat q)).toNat : Int) := by rw [ref_hex_digit q hq16]
  obtain ⟨a, ha⟩ : ∃ a : UInt8, a = Cx.lowHex (UInt8.ofNat p) := ⟨_, rfl⟩
  obtain ⟨b, hb⟩ : ∃ b : UInt8, b = Cx.lowHex (UInt8.ofNat q) := ⟨_, rfl⟩
  rw [← ha] at hX ⊢
  rw [← hb] at hX2 ⊢
  clear h32 h8 h12 h10 h13 h9 hE ha hb hp hq
  have hW : IntKind.u8.wrap (p : Int) = (p : Int) := by unfold IntKind.wrap; simp [IntKind.signed, IntKind.bits]; omega
  have hW2 : IntKind.u8.wrap (q : Int) = (q : Int) := by unfold IntKind.wrap; simp [IntKind.signed, IntKind.bits]; omega
  have hpt : ((p : Int)).toNat = p := by omega
  have hqt : ((q : Int)).toNat = q := by omega
  have hpi : (p : Int) < 16 := by omega
  have hqi : (q : Int) < 16 := by omega
  have hcv : (convert 61 9 (.slice (some ⟨w.heap.size, 0, none⟩) 2 2)).run Tryz.prog (w.alloc (.cells #[.int .u8 a.toNat, .int .u8 b.toNat] 5)).drew = .ok (.string ⟨#[a, b]⟩) (w.alloc (.cells #[.int .u8 a.toNat, .int .u8 b.toNat] 5)).drew := by
    refine Lib.run_convert_whole (P := Tryz.prog) _ 61 5 9 Tryz.underlying61 Tryz.underlying5 Tryz.underlying9 w.heap.size 0 ⟨#[a, b]⟩ ?_ 2
    intro i hi
    have hh := heap_alloc_new w (.cells #[.int .u8 a.toNat, .int .u8 b.toNat] 5)
    have hi2 : i < 2 := hi
    match i, hi2 with
    | 0, _ => show (match (w.alloc (.cells #[.int .u8 a.toNat, .int .u8 b.toNat] 5)).heap[w.heap.size]? with | some (.cells c _ _) => c[0]? | _ => none) = _; rw [hh]; rfl
    | 1, _ => show (match (w.alloc (.cells #[.int .u8 a.toNat, .int .u8 b.toNat] 5)).heap[w.heap.size]? with | some (.cells c _ _) => c[1]? | _ => none) = _; rw [hh]; rfl
  go_enter Tryz.func48, Tryz.ntmps48
  go_wp2_with fail
  go_region
  go_wp2_with fail
  go_ret
  exact ⟨rfl, ((Below.refl _ w).alloc (Nat.le_refl _) _).drew⟩
end Go.Proofs.YtbdmepilmoomeaaGreatDoor

namespace Go.Proofs.YtbdmepilmoomeaaGreatDoor
open Go.RowKit

set_option maxRecDepth 100000 in
theorem has3_calls (sn : Value) (ns : List (List UInt8)) (t : List UInt8) (ok : Nat → Prop) (w : World) (h : Row w ok sn ns.length (ns.map strV)) (hn : ns.length ≤ 200000) :
    Calls Tryz.prog 89 #[sn, .string ⟨t.toArray⟩] w fun e w' => e = .returned (.bool (decide (t ∈ ns))) ∧ w' = w := by
  rcases h with ⟨hz, _, a, cap, rfl⟩ | ⟨hpos, g, o, cap, rfl, _, _, hgl, hc⟩
  · have hns : ns = [] := List.length_eq_zero_iff.1 hz
    subst hns
    rw [show decide (t ∈ ([] : List (List UInt8))) = false by simp]
    go_enter Tryz.func89, Tryz.ntmps89
    go_wp2
    go_loop [5] (fun z => z = .int .i64 0) (fun _ => 0)
    case atStart => rfl
    case round =>
      subst hrel
      go_wp2_with fail
      go_ret
      exact ⟨rfl, rfl⟩
  · obtain ⟨R, hR⟩ : ∃ R, R = decide (t ∈ ns) := ⟨_, rfl⟩
    rw [← hR]
    have HR := Lib.hid hR; have HC := Lib.hid hc
    clear hR hc
    go_enter Tryz.func89, Tryz.ntmps89
    go_wp2
    go_loop [5] (fun z => ∃ i : Nat, z = .int .i64 i ∧ i ≤ ns.length ∧ Hid (t ∉ ns.take i)) (fun z => ns.length - (intOf z).toNat)
    case atStart => exact ⟨0, rfl, Nat.zero_le _, Lib.hid (by simp)⟩
    case round =>
      obtain ⟨i, rfl, hi, HT⟩ := hrel
      rcases Nat.lt_or_ge i ns.length with hlt | hge
      · obtain ⟨n, hnn⟩ : ∃ n, ns[i]? = some n := ⟨ns[i], by simp [hlt]⟩
        have b0 := HC.out i (strV n) (by simp [hnn])
        have hltI : (i : Int) < (ns.length : Int) := by omega
        have HN := Lib.hid hnn
        unfold strV at b0
        clear hnn
        by_cases he : n = t
        · subst he
          have hRt : R = true := by rw [HR.out, decide_eq_true_iff]; exact List.mem_of_getElem? HN.out
          have HRT := Lib.hid hRt
          clear hRt
          go_wp2_with fail
          go_ret
          rw [HRT.out]
          exact ⟨rfl, rfl⟩
        · have heb : (n == t) = false := by simpa using he
          have HE := Lib.hid he
          clear he
          go_wp2_with fail
          go_round
          case rel => exact ⟨i + 1, by go_num, by omega, Lib.hid (by rw [List.take_add_one, HN.out]; simp only [Option.toList_some, List.mem_append, List.mem_singleton, not_or]; exact ⟨HT.out, fun h => HE.out h.symm⟩)⟩
          case measure => simp [intOf]; omega
      · have hik : i = ns.length := by omega
        subst hik
        have hRf : R = false := by
          have := HT.out; rw [List.take_length] at this
          rw [HR.out, decide_eq_false_iff_not]; exact this
        have HRF := Lib.hid hRf
        clear hRf
        go_wp2_with fail
        go_ret
        rw [HRF.out]
        exact ⟨rfl, rfl⟩

set_option maxRecDepth 100000 in
set_option maxHeartbeats 2000000 in
theorem node_null (is : Bool) (t : List UInt8) (ns : List (List UInt8)) (ks : List Cx.J) (a : Option Addr) (nc : Nat) (a' : Option Addr) (kc : Nat) (w : World) (ok : Nat → Prop) (hj : JAt w ok (.mk 1 is t ns ks) [.int .i64 1, .bool is, .string ⟨t.toArray⟩, .slice a ns.length nc, .slice a' ks.length kc]) (hf : fit 100000 (.mk 1 is t ns ks)) :
    Calls Tryz.prog 77 #[.agg #[.int .i64 1, .bool is, .string ⟨t.toArray⟩, .slice a ns.length nc, .slice a' ks.length kc]] w fun e w' => e = .returned (.bool (Cx.nodeOk (.mk 1 is t ns ks))) ∧ Below w.heap.size w w' := by
  have hnl : ns.length ≤ 100000 := hf.2.1
  have hkl : ks.length ≤ 100000 := hf.2.2.2.1
  have htl : t.length ≤ 100000 := hf.1
  obtain ⟨RES, hRES⟩ : ∃ RES, RES = Cx.nodeOk (.mk 1 is t ns ks) := ⟨_, rfl⟩
  rw [← hRES]
  have HB := Lib.hid ((Below.refl w.heap.size w).alloc (Nat.le_refl _) (.cells #[.int .i64 1, .bool is, .string ⟨t.toArray⟩, .slice a ns.length nc, .slice a' ks.length kc] 26))
  have HBX := Lib.hid (heap_alloc_new w (.cells #[.int .i64 1, .bool is, .string ⟨t.toArray⟩, .slice a ns.length nc, .slice a' ks.length kc] 26))
  have J := Lib.hid hj.all; have F := Lib.hid hf
  have HR := Lib.hid hRES
  clear hRES hj hf
  cases is with
  | true =>
    have hr : RES = false := by rw [HR.out]; simp [Cx.nodeOk]
    subst hr
    skip
    go_enter Tryz.func77, Tryz.ntmps77
    go_wp2_with fail
    go_ret
    exact ⟨rfl, HB.out⟩
  | false =>
  by_cases ht : t = []
  rotate_left
  · have hr : RES = false := by rw [HR.out]; simp [Cx.nodeOk, ht]
    subst hr
    have hte : (t == []) = false := by simpa using ht
    have hte2 : (t != []) = true := by rw [bne, hte]; rfl
    clear ht
    go_enter Tryz.func77, Tryz.ntmps77
    go_wp2_with fail
    go_ret
    exact ⟨rfl, HB.out⟩
  subst ht
  by_cases hn : ns = []
  rotate_left
  · have hr : RES = false := by rw [HR.out]; simp [Cx.nodeOk, hn]
    subst hr
    have hnp : 0 < ns.length := List.length_pos_iff.2 hn
    have hni : (0 : Int) < (ns.length : Int) := by omega
    clear hn
    go_enter Tryz.func77, Tryz.ntmps77
    go_wp2_with fail
    go_ret
    exact ⟨rfl, HB.out⟩
  subst hn
  by_cases hks : ks = []
  rotate_left
  · have hr : RES = false := by rw [HR.out]; simp [Cx.nodeOk, hks]
    subst hr
    have hkp : 0 < ks.length := List.length_pos_iff.2 hks
    have hki : (0 : Int) < (ks.length : Int) := by omega
    clear hks
    go_enter Tryz.func77, Tryz.ntmps77
    go_wp2_with fail
    go_ret
    exact ⟨rfl, HB.out⟩
  subst hks
  have hr : RES = true := by rw [HR.out]; simp [Cx.nodeOk]
  subst hr
  go_enter Tryz.func77, Tryz.ntmps77
  go_wp2_with fail
  go_ret
  exact ⟨rfl, HB.out⟩

set_option maxRecDepth 100000 in
set_option maxHeartbeats 2000000 in
theorem node_bool (is : Bool) (t : List UInt8) (ns : List (List UInt8)) (ks : List Cx.J) (a : Option Addr) (nc : Nat) (a' : Option Addr) (kc : Nat) (w : World) (ok : Nat → Prop) (hj : JAt w ok (.mk 2 is t ns ks) [.int .i64 2, .bool is, .string ⟨t.toArray⟩, .slice a ns.length nc, .slice a' ks.length kc]) (hf : fit 100000 (.mk 2 is t ns ks)) :
    Calls Tryz.prog 77 #[.agg #[.int .i64 2, .bool is, .string ⟨t.toArray⟩, .slice a ns.length nc, .slice a' ks.length kc]] w fun e w' => e = .returned (.bool (Cx.nodeOk (.mk 2 is t ns ks))) ∧ Below w.heap.size w w' := by
  have hnl : ns.length ≤ 100000 := hf.2.1
  have hkl : ks.length ≤ 100000 := hf.2.2.2.1
  have htl : t.length ≤ 100000 := hf.1
  obtain ⟨RES, hRES⟩ : ∃ RES, RES = Cx.nodeOk (.mk 2 is t ns ks) := ⟨_, rfl⟩
  rw [← hRES]
  have HB := Lib.hid ((Below.refl w.heap.size w).alloc (Nat.le_refl _) (.cells #[.int .i64 2, .bool is, .string ⟨t.toArray⟩, .slice a ns.length nc, .slice a' ks.length kc] 26))
  have HBX := Lib.hid (heap_alloc_new w (.cells #[.int .i64 2, .bool is, .string ⟨t.toArray⟩, .slice a ns.length nc, .slice a' ks.length kc] 26))
  have J := Lib.hid hj.all; have F := Lib.hid hf
  have HR := Lib.hid hRES
  clear hRES hj hf
  by_cases ht : t = []
  rotate_left
  · have hr : RES = false := by rw [HR.out]; simp [Cx.nodeOk, ht]
    subst hr
    have hte : (t == []) = false := by simpa using ht
    have hte2 : (t != []) = true := by rw [bne, hte]; rfl
    clear ht
    go_enter Tryz.func77, Tryz.ntmps77
    go_wp2_with fail
    go_ret
    exact ⟨rfl, HB.out⟩
  subst ht
  by_cases hn : ns = []
  rotate_left
  · have hr : RES = false := by rw [HR.out]; simp [Cx.nodeOk, hn]
    subst hr
    have hnp : 0 < ns.length := List.length_pos_iff.2 hn
    have hni : (0 : Int) < (ns.length : Int) := by omega
    clear hn
    go_enter Tryz.func77, Tryz.ntmps77
    go_wp2_with fail
    go_ret
    exact ⟨rfl, HB.out⟩
  subst hn
  by_cases hks : ks = []
  rotate_left
  · have hr : RES = false := by rw [HR.out]; simp [Cx.nodeOk, hks]
    subst hr
    have hkp : 0 < ks.length := List.length_pos_iff.2 hks
    have hki : (0 : Int) < (ks.length : Int) := by omega
    clear hks
    go_enter Tryz.func77, Tryz.ntmps77
    go_wp2_with fail
    go_ret
    exact ⟨rfl, HB.out⟩
  subst hks
  have hr : RES = true := by rw [HR.out]; simp [Cx.nodeOk]
  subst hr
  go_enter Tryz.func77, Tryz.ntmps77
  go_wp2_with fail
  go_ret
  exact ⟨rfl, HB.out⟩

set_option maxRecDepth 100000 in
set_option maxHeartbeats 2000000 in
theorem node_num (is : Bool) (t : List UInt8) (ns : List (List UInt8)) (ks : List Cx.J) (a : Option Addr) (nc : Nat) (a' : Option Addr) (kc : Nat) (w : World) (ok : Nat → Prop) (hj : JAt w ok (.mk 3 is t ns ks) [.int .i64 3, .bool is, .string ⟨t.toArray⟩, .slice a ns.length nc, .slice a' ks.length kc]) (hf : fit 100000 (.mk 3 is t ns ks)) :
    Calls Tryz.prog 77 #[.agg #[.int .i64 3, .bool is, .string ⟨t.toArray⟩, .slice a ns.length nc, .slice a' ks.length kc]] w fun e w' => e = .returned (.bool (Cx.nodeOk (.mk 3 is t ns ks))) ∧ Below w.heap.size w w' := by
  have hnl : ns.length ≤ 100000 := hf.2.1
  have hkl : ks.length ≤ 100000 := hf.2.2.2.1
  have htl : t.length ≤ 100000 := hf.1
  obtain ⟨RES, hRES⟩ : ∃ RES, RES = Cx.nodeOk (.mk 3 is t ns ks) := ⟨_, rfl⟩
  rw [← hRES]
  have HB := Lib.hid ((Below.refl w.heap.size w).alloc (Nat.le_refl _) (.cells #[.int .i64 3, .bool is, .string ⟨t.toArray⟩, .slice a ns.length nc, .slice a' ks.length kc] 26))
  have HBX := Lib.hid (heap_alloc_new w (.cells #[.int .i64 3, .bool is, .string ⟨t.toArray⟩, .slice a ns.length nc, .slice a' ks.length kc] 26))
  have J := Lib.hid hj.all; have F := Lib.hid hf
  have HR := Lib.hid hRES
  clear hRES hj hf
  cases is with
  | true =>
    have hr : RES = false := by rw [HR.out]; simp [Cx.nodeOk]
    subst hr
    skip
    go_enter Tryz.func77, Tryz.ntmps77
    go_wp2_with fail
    go_ret
    exact ⟨rfl, HB.out⟩
  | false =>
  by_cases hn : ns = []
  rotate_left
  · have hr : RES = false := by rw [HR.out]; simp [Cx.nodeOk, hn]
    subst hr
    have hnp : 0 < ns.length := List.length_pos_iff.2 hn
    have hni : (0 : Int) < (ns.length : Int) := by omega
    clear hn
    go_enter Tryz.func77, Tryz.ntmps77
    go_wp2_with fail
    go_ret
    exact ⟨rfl, HB.out⟩
  subst hn
  by_cases hks : ks = []
  rotate_left
  · have hr : RES = false := by rw [HR.out]; simp [Cx.nodeOk, hks]
    subst hr
    have hkp : 0 < ks.length := List.length_pos_iff.2 hks
    have hki : (0 : Int) < (ks.length : Int) := by omega
    clear hks
    go_enter Tryz.func77, Tryz.ntmps77
    go_wp2_with fail
    go_ret
    exact ⟨rfl, HB.out⟩
  subst hks
  have hr : RES = decide (Cx.isNum t) := by rw [HR.out]; simp [Cx.nodeOk]
  have HRN := Lib.hid hr
  clear hr
  go_enter Tryz.func77, Tryz.ntmps77
  go_wp2_with fail
  refine (isNumber2_calls t _ (by unfold maxLen; omega)).mono ?_
  rintro e w5 ⟨rfl, hb5⟩
  have HB5 := Lib.hid (HB.out.trans (hb5.mono HB.out.size))
  clear hb5
  go_wp2_with fail
  go_ret
  rw [HRN.out]
  exact ⟨rfl, HB5.out⟩

set_option maxRecDepth 100000 in
set_option maxHeartbeats 2000000 in
theorem node_text (is : Bool) (t : List UInt8) (ns : List (List UInt8)) (ks : List Cx.J) (a : Option Addr) (nc : Nat) (a' : Option Addr) (kc : Nat) (w : World) (ok : Nat → Prop) (hj : JAt w ok (.mk 4 is t ns ks) [.int .i64 4, .bool is, .string ⟨t.toArray⟩, .slice a ns.length nc, .slice a' ks.length kc]) (hf : fit 100000 (.mk 4 is t ns ks)) :
    Calls Tryz.prog 77 #[.agg #[.int .i64 4, .bool is, .string ⟨t.toArray⟩, .slice a ns.length nc, .slice a' ks.length kc]] w fun e w' => e = .returned (.bool (Cx.nodeOk (.mk 4 is t ns ks))) ∧ Below w.heap.size w w' := by
  have hnl : ns.length ≤ 100000 := hf.2.1
  have hkl : ks.length ≤ 100000 := hf.2.2.2.1
  have htl : t.length ≤ 100000 := hf.1
  obtain ⟨RES, hRES⟩ : ∃ RES, RES = Cx.nodeOk (.mk 4 is t ns ks) := ⟨_, rfl⟩
  rw [← hRES]
  have HB := Lib.hid ((Below.refl w.heap.size w).alloc (Nat.le_refl _) (.cells #[.int .i64 4, .bool is, .string ⟨t.toArray⟩, .slice a ns.length nc, .slice a' ks.length kc] 26))
  have HBX := Lib.hid (heap_alloc_new w (.cells #[.int .i64 4, .bool is, .string ⟨t.toArray⟩, .slice a ns.length nc, .slice a' ks.length kc] 26))
  have J := Lib.hid hj.all; have F := Lib.hid hf
  have HR := Lib.hid hRES
  clear hRES hj hf
  cases is with
  | true =>
    have hr : RES = false := by rw [HR.out]; simp [Cx.nodeOk]
    subst hr
    skip
    go_enter Tryz.func77, Tryz.ntmps77
    go_wp2_with fail
    go_ret
    exact ⟨rfl, HB.out⟩
  | false =>
  by_cases hn : ns = []
  rotate_left
  · have hr : RES = false := by rw [HR.out]; simp [Cx.nodeOk, hn]
    subst hr
    have hnp : 0 < ns.length := List.length_pos_iff.2 hn
    have hni : (0 : Int) < (ns.length : Int) := by omega
    clear hn
    go_enter Tryz.func77, Tryz.ntmps77
    go_wp2_with fail
    go_ret
    exact ⟨rfl, HB.out⟩
  subst hn
  by_cases hks : ks = []
  rotate_left
  · have hr : RES = false := by rw [HR.out]; simp [Cx.nodeOk, hks]
    subst hr
    have hkp : 0 < ks.length := List.length_pos_iff.2 hks
    have hki : (0 : Int) < (ks.length : Int) := by omega
    clear hks
    go_enter Tryz.func77, Tryz.ntmps77
    go_wp2_with fail
    go_ret
    exact ⟨rfl, HB.out⟩
  subst hks
  have hr : RES = Cx.valid t := by rw [HR.out]; simp [Cx.nodeOk]
  have HRN := Lib.hid hr
  clear hr
  go_enter Tryz.func77, Tryz.ntmps77
  go_wp2_with fail
  refine (valid10_calls ⟨t.toArray⟩ _ (by show t.toArray.size ≤ maxLen; unfold maxLen; simp; omega)).mono ?_
  rintro e w5 ⟨rfl, hb5⟩
  have HB5 := Lib.hid (HB.out.trans (hb5.mono HB.out.size))
  clear hb5
  go_wp2_with fail
  go_ret
  rw [HRN.out]
  exact ⟨by simp, HB5.out⟩

set_option maxRecDepth 100000 in
set_option maxHeartbeats 2000000 in
theorem node_list (is : Bool) (t : List UInt8) (ns : List (List UInt8)) (ks : List Cx.J) (a : Option Addr) (nc : Nat) (a' : Option Addr) (kc : Nat) (w : World) (ok : Nat → Prop) (hj : JAt w ok (.mk 5 is t ns ks) [.int .i64 5, .bool is, .string ⟨t.toArray⟩, .slice a ns.length nc, .slice a' ks.length kc]) (hf : fit 100000 (.mk 5 is t ns ks)) :
    Calls Tryz.prog 77 #[.agg #[.int .i64 5, .bool is, .string ⟨t.toArray⟩, .slice a ns.length nc, .slice a' ks.length kc]] w fun e w' => e = .returned (.bool (Cx.nodeOk (.mk 5 is t ns ks))) ∧ Below w.heap.size w w' := by
  have hnl : ns.length ≤ 100000 := hf.2.1
  have hkl : ks.length ≤ 100000 := hf.2.2.2.1
  have htl : t.length ≤ 100000 := hf.1
  obtain ⟨RES, hRES⟩ : ∃ RES, RES = Cx.nodeOk (.mk 5 is t ns ks) := ⟨_, rfl⟩
  rw [← hRES]
  have HB := Lib.hid ((Below.refl w.heap.size w).alloc (Nat.le_refl _) (.cells #[.int .i64 5, .bool is, .string ⟨t.toArray⟩, .slice a ns.length nc, .slice a' ks.length kc] 26))
  have HBX := Lib.hid (heap_alloc_new w (.cells #[.int .i64 5, .bool is, .string ⟨t.toArray⟩, .slice a ns.length nc, .slice a' ks.length kc] 26))
  have J := Lib.hid hj.all; have F := Lib.hid hf
  have HR := Lib.hid hRES
  clear hRES hj hf
  cases is with
  | true =>
    have hr : RES = false := by rw [HR.out]; simp [Cx.nodeOk]
    subst hr
    skip
    go_enter Tryz.func77, Tryz.ntmps77
    go_wp2_with fail
    go_ret
    exact ⟨rfl, HB.out⟩
  | false =>
  by_cases ht : t = []
  rotate_left
  · have hr : RES = false := by rw [HR.out]; simp [Cx.nodeOk, ht]
    subst hr
    have hte : (t == []) = false := by simpa using ht
    have hte2 : (t != []) = true := by rw [bne, hte]; rfl
    clear ht
    go_enter Tryz.func77, Tryz.ntmps77
    go_wp2_with fail
    go_ret
    exact ⟨rfl, HB.out⟩
  subst ht
  by_cases hn : ns = []
  rotate_left
  · have hr : RES = false := by rw [HR.out]; simp [Cx.nodeOk, hn]
    subst hr
    have hnp : 0 < ns.length := List.length_pos_iff.2 hn
    have hni : (0 : Int) < (ns.length : Int) := by omega
    clear hn
    go_enter Tryz.func77, Tryz.ntmps77
    go_wp2_with fail
    go_ret
    exact ⟨rfl, HB.out⟩
  subst hn
  have hr : RES = true := by rw [HR.out]; simp [Cx.nodeOk]
  subst hr
  go_enter Tryz.func77, Tryz.ntmps77
  go_wp2_with fail
  go_ret
  exact ⟨rfl, HB.out⟩

set_option maxRecDepth 100000 in
set_option maxHeartbeats 2000000 in
theorem node_other (x : Int) (h1 : x ≠ 1) (h2 : x ≠ 2) (h3 : x ≠ 3) (h4 : x ≠ 4) (h5 : x ≠ 5) (h6 : x ≠ 6) (is : Bool) (t : List UInt8) (ns : List (List UInt8)) (ks : List Cx.J) (a : Option Addr) (nc : Nat) (a' : Option Addr) (kc : Nat) (w : World) (ok : Nat → Prop) (hj : JAt w ok (.mk x is t ns ks) [.int .i64 x, .bool is, .string ⟨t.toArray⟩, .slice a ns.length nc, .slice a' ks.length kc]) (hf : fit 100000 (.mk x is t ns ks)) :
    Calls Tryz.prog 77 #[.agg #[.int .i64 x, .bool is, .string ⟨t.toArray⟩, .slice a ns.length nc, .slice a' ks.length kc]] w fun e w' => e = .returned (.bool (Cx.nodeOk (.mk x is t ns ks))) ∧ Below w.heap.size w w' := by
  have hnl : ns.length ≤ 100000 := hf.2.1
  have hkl : ks.length ≤ 100000 := hf.2.2.2.1
  have htl : t.length ≤ 100000 := hf.1
  obtain ⟨RES, hRES⟩ : ∃ RES, RES = Cx.nodeOk (.mk x is t ns ks) := ⟨_, rfl⟩
  rw [← hRES]
  have HB := Lib.hid ((Below.refl w.heap.size w).alloc (Nat.le_refl _) (.cells #[.int .i64 x, .bool is, .string ⟨t.toArray⟩, .slice a ns.length nc, .slice a' ks.length kc] 26))
  have HBX := Lib.hid (heap_alloc_new w (.cells #[.int .i64 x, .bool is, .string ⟨t.toArray⟩, .slice a ns.length nc, .slice a' ks.length kc] 26))
  have J := Lib.hid hj.all; have F := Lib.hid hf
  have n1 : (x == 1) = false := by simpa using h1
  have m1 : (x != 1) = true := by simpa using h1
  have n2 : (x == 2) = false := by simpa using h2
  have m2 : (x != 2) = true := by simpa using h2
  have n3 : (x == 3) = false := by simpa using h3
  have m3 : (x != 3) = true := by simpa using h3
  have n4 : (x == 4) = false := by simpa using h4
  have m4 : (x != 4) = true := by simpa using h4
  have n5 : (x == 5) = false := by simpa using h5
  have m5 : (x != 5) = true := by simpa using h5
  have n6 : (x == 6) = false := by simpa using h6
  have m6 : (x != 6) = true := by simpa using h6
  have HNO := Lib.hid (Cx.nodeOk_other (is := is) (t := t) (ns := ns) (ks := ks) h1 h2 h3 h4 h5 h6)
  have HR := Lib.hid hRES
  clear hRES hj hf
  cases is with
  | true =>
    have hr : RES = false := by rw [HR.out]; exact HNO.out
    subst hr
    clear h1 h2 h3 h4 h5 h6
    go_enter Tryz.func77, Tryz.ntmps77
    go_wp2_with fail
    go_ret
    exact ⟨rfl, HB.out⟩
  | false =>
  by_cases ht : t = []
  rotate_left
  · have hr : RES = false := by rw [HR.out]; exact HNO.out
    subst hr
    have hte : (t == []) = false := by simpa using ht
    have hte2 : (t != []) = true := by rw [bne, hte]; rfl
    clear ht h1 h2 h3 h4 h5 h6
    go_enter Tryz.func77, Tryz.ntmps77
    go_wp2_with fail
    go_ret
    exact ⟨rfl, HB.out⟩
  subst ht
  by_cases hn : ns = []
  rotate_left
  · have hr : RES = false := by rw [HR.out]; exact HNO.out
    subst hr
    have hnp : 0 < ns.length := List.length_pos_iff.2 hn
    have hni : (0 : Int) < (ns.length : Int) := by omega
    clear hn h1 h2 h3 h4 h5 h6
    go_enter Tryz.func77, Tryz.ntmps77
    go_wp2_with fail
    go_ret
    exact ⟨rfl, HB.out⟩
  subst hn
  by_cases hks : ks = []
  rotate_left
  · have hr : RES = false := by rw [HR.out]; exact HNO.out
    subst hr
    have hkp : 0 < ks.length := List.length_pos_iff.2 hks
    have hki : (0 : Int) < (ks.length : Int) := by omega
    clear hks h1 h2 h3 h4 h5 h6
    go_enter Tryz.func77, Tryz.ntmps77
    go_wp2_with fail
    go_ret
    exact ⟨rfl, HB.out⟩
  subst hks
  have hr : RES = false := by rw [HR.out]; exact HNO.out
  subst hr
  clear h1 h2 h3 h4 h5 h6
  go_enter Tryz.func77, Tryz.ntmps77
  go_wp2_with fail
  go_ret
  exact ⟨rfl, HB.out⟩

set_option maxRecDepth 100000 in
set_option maxHeartbeats 2000000 in
theorem node_object (is : Bool) (t : List UInt8) (ns : List (List UInt8)) (ks : List Cx.J) (a : Option Addr) (nc : Nat) (a' : Option Addr) (kc : Nat) (w : World) (ok : Nat → Prop) (hj : JAt w ok (.mk 6 is t ns ks) [.int .i64 6, .bool is, .string ⟨t.toArray⟩, .slice a ns.length nc, .slice a' ks.length kc]) (hf : fit 100000 (.mk 6 is t ns ks)) :
    Calls Tryz.prog 77 #[.agg #[.int .i64 6, .bool is, .string ⟨t.toArray⟩, .slice a ns.length nc, .slice a' ks.length kc]] w fun e w' => e = .returned (.bool (Cx.nodeOk (.mk 6 is t ns ks))) ∧ Below w.heap.size w w' := by
  have hnl : ns.length ≤ 100000 := hf.2.1
  have hkl : ks.length ≤ 100000 := hf.2.2.2.1
  have htl : t.length ≤ 100000 := hf.1
  obtain ⟨RES, hRES⟩ : ∃ RES, RES = Cx.nodeOk (.mk 6 is t ns ks) := ⟨_, rfl⟩
  rw [← hRES]
  have HB := Lib.hid ((Below.refl w.heap.size w).alloc (Nat.le_refl _) (.cells #[.int .i64 6, .bool is, .string ⟨t.toArray⟩, .slice a ns.length nc, .slice a' ks.length kc] 26))
  have HBX := Lib.hid (heap_alloc_new w (.cells #[.int .i64 6, .bool is, .string ⟨t.toArray⟩, .slice a ns.length nc, .slice a' ks.length kc] 26))
  have J := Lib.hid hj.all; have F := Lib.hid hf
  have HR := Lib.hid hRES
  clear hRES hj hf
  cases is with
  | true =>
    have hr : RES = false := by rw [HR.out]; simp [Cx.nodeOk]
    subst hr
    skip
    go_enter Tryz.func77, Tryz.ntmps77
    go_wp2_with fail
    go_ret
    exact ⟨rfl, HB.out⟩
  | false =>
  by_cases ht : t = []
  rotate_left
  · have hr : RES = false := by rw [HR.out]; simp [Cx.nodeOk, ht]
    subst hr
    have hte : (t == []) = false := by simpa using ht
    have hte2 : (t != []) = true := by rw [bne, hte]; rfl
    clear ht
    go_enter Tryz.func77, Tryz.ntmps77
    go_wp2_with fail
    go_ret
    exact ⟨rfl, HB.out⟩
  subst ht
  have hrs : RES = (Cx.namesOk [] ns && decide (ns.length = ks.length)) := by rw [HR.out]; simp [Cx.nodeOk]
  have HRS := Lib.hid hrs
  clear hrs HR
  go_enter Tryz.func77, Tryz.ntmps77
  go_wp2_with fail
  go_loopg [5] (ns.length) (fun q z wr => ∃ (i : Nat), z = .int .i64 i ∧ q = ns.length - i ∧ i ≤ ns.length ∧ Hid (RES = (Cx.namesOk (ns.take i) (ns.drop i) && decide (ns.length = ks.length))) ∧ Hid (Below w.heap.size w wr) ∧ Hid (wr.heap[w.heap.size]? = some (.cells #[.int .i64 6, .bool false, .string ⟨#[]⟩, .slice a ns.length nc, .slice a' ks.length kc] 26 (0, 0))))
  case atStart => exact ⟨0, rfl, rfl, Nat.zero_le _, Lib.hid HRS.out, HB, HBX⟩
  case round =>
    clear HRS HB HBX
    obtain ⟨i, rfl, hq, hi, hr, hb, HBX⟩ := hrel
    obtain ⟨q0, q1, q2, q3, q4, _⟩ := cells5 HBX.out
    have hsz := heap_lt HBX.out
    have HQ := Lib.hid hq
    clear hq
    rcases Nat.lt_or_ge i ns.length with hlt | hge
    · obtain ⟨s, hs⟩ : ∃ s, ns[i]? = some s := ⟨ns[i], by simp [hlt]⟩
      have hdr : ns.drop i = s :: ns.drop (i + 1) := drop_get hs
      have hrow0 : Row w (fun g => g < w.heap.size) (.slice a ns.length nc) ns.length (ns.map strV) := by
        have hj := J.out
        unfold JAt at hj
        obtain ⟨sn, sk, hcs, h1, _⟩ := hj
        injection hcs with _ hcs; injection hcs with _ hcs; injection hcs with _ hcs; injection hcs with e3 hcs
        rw [e3]; exact h1
      rcases hrow0 with ⟨hz, _⟩ | ⟨_, g, o, cap, hv, hnc, hg, hgl, hc⟩
      · omega
      injection hv with ha _ hcap
      subst ha hcap
      have b0 := (hb.out.cell (p := ⟨g, o + i, none⟩) hgl).trans (hc i (strV s) (by simp [hs]))
      unfold strV at b0
      have hrow : Row wr (fun g => g < w.heap.size) (.slice (some ⟨g, o, none⟩) i nc) (ns.take i).length ((ns.take i).map strV) := by
        have hti : (ns.take i).length = i := by simp; omega
        rw [hti]
        rcases Nat.eq_zero_or_pos i with h0 | h0
        · subst h0; exact .inl ⟨rfl, by simp, _, _, rfl⟩
        · refine .inr ⟨h0, g, o, nc, rfl, by omega, hgl, Nat.lt_of_lt_of_le hgl hb.out.size, fun j u hu => (hb.out.cell (p := ⟨g, o + j, none⟩) hgl).trans (hc j u ?_)⟩
          rw [List.map_take, List.getElem?_take] at hu
          split at hu
          · exact hu
          · cases hu
      have hltI : (i : Int) < (ns.length : Int) := by omega
      have HROW := Lib.hid hrow; have HD := Lib.hid hdr; have HS := Lib.hid hs; have B0 := Lib.hid b0
      have HGL := Lib.hid hgl
      have hsl : s.length ≤ 100000 := F.out.2.2.1 s (List.mem_of_getElem? hs)
      have HSL := Lib.hid hsl
      clear hrow hdr hs hc hsl hg
      go_wp2_with fail
      refine (valid10_calls ⟨s.toArray⟩ _ (by show s.toArray.size ≤ maxLen; have := HSL.out; unfold maxLen; simp; omega)).mono ?_
      rintro e w5 ⟨rfl, hb5⟩
      rw [show (⟨s.toArray⟩ : ByteArray).data.toList = s by simp]
      have hr2 := hr.out
      rw [HD.out] at hr2
      unfold Cx.namesOk at hr2
      have HB5 := Lib.hid (hb.out.trans (hb5.mono hb.out.size))
      have HROW5 := Lib.hid (HROW.out.below (hb5.mono hb.out.size))
      have HBX5 := Lib.hid ((hb5.block _ hsz).trans HBX.out)
      have b5 := (hb5.cell (p := ⟨g, o + i, none⟩) (Nat.lt_of_lt_of_le HGL.out hb.out.size)).trans B0.out
      have hr2x := Lib.hid hr2
      clear hb5 b0 q0 q1 q2 q3 q4 hr2
      obtain ⟨q0, q1, q2, q3, q4, _⟩ := cells5 HBX5.out
      obtain ⟨V, hV⟩ : ∃ V, V = Cx.valid s := ⟨_, rfl⟩
      rw [← hV]
      have HV := Lib.hid hV
      clear hV
      obtain ⟨M, hM⟩ : ∃ M, M = decide (s ∈ ns.take i) := ⟨_, rfl⟩
      have HAS := Lib.hid (fun wq (hq : Below w5.heap.size w5 wq) => show Calls Tryz.prog 89 #[.slice (some ⟨g, o, none⟩) i nc, .string ⟨s.toArray⟩] wq fun e w' => e = .returned (.bool M) ∧ w' = wq from hM ▸ has3_calls _ (ns.take i) s _ wq (HROW5.out.below (hq.mono HB5.out.size)) (by simp; omega))
      go_wp2_with fail
      go_quiet ((go_at_call 89; exact Calls.quiet_of_same (HAS.out (w5.drewN _) (below_dN (Below.refl _ _) _))))
      have hr3 := hr2x.out
      rw [← HV.out, ← hM] at hr3
      have HR3 := Lib.hid hr3
      clear hr3 hM
      cases V with
      | false =>
        have hfin : RES = false := by rw [HR3.out]; rfl
        have HFIN := Lib.hid hfin
        clear hfin
        go_wp2_with fail
        go_ret
        rw [HFIN.out]
        exact ⟨rfl, below_dN HB5.out _⟩
      | true =>
        cases M with
        | true =>
          have hfin : RES = false := by rw [HR3.out]; rfl
          have HFIN := Lib.hid hfin
          clear hfin
          go_wp2_with fail
          go_ret
          rw [HFIN.out]
          exact ⟨rfl, below_dN HB5.out _⟩
        | false =>
          have hfin : RES = (Cx.namesOk (ns.take (i + 1)) (ns.drop (i + 1)) && decide (ns.length = ks.length)) := by
            rw [List.take_add_one, HS.out, HR3.out]
            rfl
          have HFIN := Lib.hid hfin
          clear hfin
          go_wp2_with fail
          go_roundg (ns.length - (i + 1))
          case measure => have := HQ.out; omega
          case rel => exact ⟨i + 1, by go_num, rfl, by omega, HFIN, Lib.hid (below_dN HB5.out _), HBX5⟩
    · have hik : i = ns.length := by omega
      subst hik
      have hltI : ¬ (ns.length : Int) < (ns.length : Int) := by omega
      have hfin : RES = decide (ns.length = ks.length) := by
        have := hr.out
        rw [List.drop_length] at this
        simpa [Cx.namesOk] using this
      have hei : ((ns.length : Int) == (ks.length : Int)) = decide (ns.length = ks.length) := by
        rw [Bool.eq_iff_iff, beq_iff_eq, decide_eq_true_iff]; omega
      have HFIN := Lib.hid (hfin.trans hei.symm)
      clear hfin hei
      go_wp2_with fail
      go_ret
      rw [HFIN.out]
      exact ⟨rfl, hb.out⟩

theorem node2_calls (v : Cx.J) (cs : List Value) (w : World) (ok : Nat → Prop) (hj : JAt w ok v cs) (hf : fit 100000 v) :
    Calls Tryz.prog 77 #[.agg cs.toArray] w fun e w' => e = .returned (.bool (Cx.nodeOk v)) ∧ Below w.heap.size w w' := by
  cases v with
  | mk k is t ns ks =>
  obtain ⟨a, nc, a', kc, rfl⟩ := hj.shape
  by_cases h1 : k = 1
  · subst h1; exact node_null is t ns ks a nc a' kc w ok hj hf
  by_cases h2 : k = 2
  · subst h2; exact node_bool is t ns ks a nc a' kc w ok hj hf
  by_cases h3 : k = 3
  · subst h3; exact node_num is t ns ks a nc a' kc w ok hj hf
  by_cases h4 : k = 4
  · subst h4; exact node_text is t ns ks a nc a' kc w ok hj hf
  by_cases h5 : k = 5
  · subst h5; exact node_list is t ns ks a nc a' kc w ok hj hf
  by_cases h6 : k = 6
  · subst h6; exact node_object is t ns ks a nc a' kc w ok hj hf
  exact node_other k h1 h2 h3 h4 h5 h6 is t ns ks a nc a' kc w ok hj hf
end Go.Proofs.YtbdmepilmoomeaaGreatDoor

namespace Go.Proofs.YtbdmepilmoomeaaGreatDoor
open Go.RowKit

/-- What 'all' does one deeper. -/
def AllIH (d : Nat) : Prop := d < 20 → ∀ (v : Cx.J) (cs : List Value) (w : World) (ok : Nat → Prop), JAt w ok v cs → fit 100000 v →
    Calls Tryz.prog 44 #[.agg cs.toArray, .int .i64 ((d : Int) + 1)] w fun e w' => e = .returned (.bool (Cx.right (d + 1) v)) ∧ Below w.heap.size w w'

set_option maxRecDepth 100000 in
set_option maxHeartbeats 2000000 in
theorem all_group5 (d : Nat) (hd : d ≤ 20) (ih : AllIH d) (is : Bool) (t : List UInt8) (ns : List (List UInt8)) (ks : List Cx.J) (a : Option Addr) (nc : Nat) (a' : Option Addr) (kc : Nat) (w : World) (ok : Nat → Prop) (hj : JAt w ok (.mk 5 is t ns ks) [.int .i64 5, .bool is, .string ⟨t.toArray⟩, .slice a ns.length nc, .slice a' ks.length kc]) (hf : fit 100000 (.mk 5 is t ns ks)) :
    Calls Tryz.prog 44 #[.agg #[.int .i64 5, .bool is, .string ⟨t.toArray⟩, .slice a ns.length nc, .slice a' ks.length kc], .int .i64 d] w fun e w' => e = .returned (.bool (Cx.right d (.mk 5 is t ns ks))) ∧ Below w.heap.size w w' := by
  have hkl : ks.length ≤ 100000 := hf.2.2.2.1
  have HBX := Lib.hid (heap_alloc_new w (.cells #[.int .i64 5, .bool is, .string ⟨t.toArray⟩, .slice a ns.length nc, .slice a' ks.length kc] 26))
  have HB := Lib.hid ((Below.refl w.heap.size w).alloc (Nat.le_refl _) (.cells #[.int .i64 5, .bool is, .string ⟨t.toArray⟩, .slice a ns.length nc, .slice a' ks.length kc] 26))
  obtain ⟨RES, hRES⟩ : ∃ RES, RES = Cx.right d (.mk 5 is t ns ks) := ⟨_, rfl⟩
  rw [← hRES]
  rw [Cx.right_group (by decide)] at hRES
  obtain ⟨N, hN⟩ : ∃ N, N = Cx.nodeOk (.mk 5 is t ns ks) := ⟨_, rfl⟩
  rw [← hN] at hRES
  have HR := Lib.hid hRES; have HN := Lib.hid hN
  have IH := Lib.hid ih; have J := Lib.hid hj.all; have F := Lib.hid hf
  clear ih hj hf hRES hN
  go_enter Tryz.func44, Tryz.ntmps44
  go_wp2_with fail
  refine (node2_calls (.mk 5 is t ns ks) [.int .i64 5, .bool is, .string ⟨t.toArray⟩, .slice a ns.length nc, .slice a' ks.length kc] _ _ (J.out.below HB.out) F.out).mono ?_
  rintro e w5 ⟨rfl, hb5⟩
  rw [← HN.out]
  have HB5 := Lib.hid (HB.out.trans (hb5.mono HB.out.size))
  have HBX5 := Lib.hid ((hb5.block _ (by simp)).trans HBX.out)
  clear hb5 HB HBX HN
  obtain ⟨q0, q1, q2, q3, q4, _⟩ := cells5 HBX5.out
  go_wp2_with fail
  go_loopg [5, 6] (ks.length) (fun q y z wr => ∃ (i : Nat) (okb : Bool), y = .bool okb ∧ z = .int .i64 i ∧ q = ks.length - i ∧ i ≤ ks.length ∧ Hid (RES = (okb && (decide (d < 20) && Cx.rightK (d + 1) (ks.drop i)))) ∧ Hid (Below w.heap.size w wr) ∧ Hid (wr.heap[w.heap.size]? = some (.cells #[.int .i64 5, .bool is, .string ⟨t.toArray⟩, .slice a ns.length nc, .slice a' ks.length kc] 26 (0, 0))))
  case atStart => exact ⟨0, N, rfl, rfl, rfl, Nat.zero_le _, Lib.hid HR.out, HB5, HBX5⟩
  case round =>
    clear HB5 HBX5 HR q0 q1 q2 q3 q4
    obtain ⟨i, okb, rfl, rfl, hq, hi, hr, hb, HBX⟩ := hrel
    obtain ⟨q0, q1, q2, q3, q4, _⟩ := cells5 HBX.out
    have hsz : w.heap.size < wr.heap.size := heap_lt HBX.out
    have HQ := Lib.hid hq
    clear hq
    rcases Nat.lt_or_ge i ks.length with hlt | hge
    · have hltI : (i : Int) < (ks.length : Int) := by omega
      cases okb with
      | false =>
        have hfin : RES = false := by rw [hr.out]; rfl
        have HFIN := Lib.hid hfin
        clear hfin
        go_wp2_with fail
        go_ret
        rw [HFIN.out]
        exact ⟨rfl, hb.out⟩
      | true =>
        obtain ⟨k, hk⟩ : ∃ k, ks[i]? = some k := ⟨ks[i], by simp [hlt]⟩
        by_cases h20 : d < 20
        rotate_left
        · have hd20 : ¬ ((d : Int) + 1 ≤ 20) := by omega
          have hfin : RES = false := by rw [hr.out, decide_eq_false h20]; rfl
          have HFIN := Lib.hid hfin
          clear hfin hk h20
          go_wp2_with fail
          go_roundg (ks.length - (i + 1))
          case measure => have := HQ.out; omega
          case rel => exact ⟨i + 1, false, rfl, by go_num, rfl, by omega, Lib.hid (by rw [HFIN.out]; rfl), hb, HBX⟩
        have hd20 : (d : Int) + 1 ≤ 20 := by omega
        obtain ⟨g, o, cap, hv, _, hgl, kb0, kb1, kb2, kb3, hkj, d0, d1, d2, d3, d4⟩ := J.out.kid' hk
        injection hv with ha _ hc
        subst ha hc
        have b0 := (hb.out.cell (p := ⟨g, o + i * 5, none⟩) hgl).trans d0
        have b1 := (hb.out.cell (p := ⟨g, o + i * 5 + 1, none⟩) hgl).trans d1
        have b2 := (hb.out.cell (p := ⟨g, o + i * 5 + 2, none⟩) hgl).trans d2
        have b3 := (hb.out.cell (p := ⟨g, o + i * 5 + 3, none⟩) hgl).trans d3
        have b4 := (hb.out.cell (p := ⟨g, o + i * 5 + 4, none⟩) hgl).trans d4
        have KJ := Lib.hid hkj; have HK := Lib.hid hk; have H20 := Lib.hid h20
        clear hkj d0 d1 d2 d3 d4 hk h20
        go_wp2_with fail
        refine (IH.out H20.out k [.int .i64 k.kind, .bool k.is, .string ⟨k.text.toArray⟩, .slice kb0 k.names.length kb1, .slice kb2 k.kids.length kb3] _ _ (KJ.out.below hb.out) (fitK_get F.out.2.2.2.2 HK.out)).mono ?_
        rintro e w6 ⟨rfl, hb6⟩
        have HB6 := Lib.hid (hb.out.trans (hb6.mono hb.out.size))
        have HBX6 := Lib.hid ((hb6.block _ hsz).trans HBX.out)
        obtain ⟨R, hR⟩ : ∃ R, R = Cx.right (d + 1) k := ⟨_, rfl⟩
        rw [← hR]
        have hfin : RES = (R && (decide (d < 20) && Cx.rightK (d + 1) (ks.drop (i + 1)))) := by
          rw [hr.out, drop_get HK.out]
          conv => lhs; unfold Cx.rightK
          rw [← hR]
          cases R <;> cases decide (d < 20) <;> cases Cx.rightK (d + 1) (ks.drop (i + 1)) <;> rfl
        have HFIN := Lib.hid hfin
        clear hb6 hR hfin b0 b1 b2 b3 b4
        go_wp2_with fail
        go_roundg (ks.length - (i + 1))
        case measure => have := HQ.out; omega
        case rel => exact ⟨i + 1, R, rfl, by go_num, rfl, by omega, HFIN, HB6, HBX6⟩
    · have hik : i = ks.length := by omega
      subst hik
      have hltI : ¬ (ks.length : Int) < (ks.length : Int) := by omega
      have hfin : RES = (okb && decide (d < 20)) := by
        have := hr.out
        rw [List.drop_length] at this
        rw [this]
        unfold Cx.rightK
        rw [Bool.and_true]
      have hdi : decide ((d : Int) + 1 ≤ 20) = decide (d < 20) := decide_eq_decide.2 (by omega)
      have HFIN := Lib.hid (hfin.trans (by rw [← hdi]))
      clear hfin hdi
      cases okb with
      | false =>
        go_wp2_with fail
        go_ret
        rw [HFIN.out]
        exact ⟨rfl, hb.out⟩
      | true =>
        go_wp2_with fail
        go_ret
        rw [HFIN.out]
        exact ⟨rfl, hb.out⟩

set_option maxRecDepth 100000 in
set_option maxHeartbeats 2000000 in
theorem all_group6 (d : Nat) (hd : d ≤ 20) (ih : AllIH d) (is : Bool) (t : List UInt8) (ns : List (List UInt8)) (ks : List Cx.J) (a : Option Addr) (nc : Nat) (a' : Option Addr) (kc : Nat) (w : World) (ok : Nat → Prop) (hj : JAt w ok (.mk 6 is t ns ks) [.int .i64 6, .bool is, .string ⟨t.toArray⟩, .slice a ns.length nc, .slice a' ks.length kc]) (hf : fit 100000 (.mk 6 is t ns ks)) :
    Calls Tryz.prog 44 #[.agg #[.int .i64 6, .bool is, .string ⟨t.toArray⟩, .slice a ns.length nc, .slice a' ks.length kc], .int .i64 d] w fun e w' => e = .returned (.bool (Cx.right d (.mk 6 is t ns ks))) ∧ Below w.heap.size w w' := by
  have hkl : ks.length ≤ 100000 := hf.2.2.2.1
  have HBX := Lib.hid (heap_alloc_new w (.cells #[.int .i64 6, .bool is, .string ⟨t.toArray⟩, .slice a ns.length nc, .slice a' ks.length kc] 26))
  have HB := Lib.hid ((Below.refl w.heap.size w).alloc (Nat.le_refl _) (.cells #[.int .i64 6, .bool is, .string ⟨t.toArray⟩, .slice a ns.length nc, .slice a' ks.length kc] 26))
  obtain ⟨RES, hRES⟩ : ∃ RES, RES = Cx.right d (.mk 6 is t ns ks) := ⟨_, rfl⟩
  rw [← hRES]
  rw [Cx.right_group (by decide)] at hRES
  obtain ⟨N, hN⟩ : ∃ N, N = Cx.nodeOk (.mk 6 is t ns ks) := ⟨_, rfl⟩
  rw [← hN] at hRES
  have HR := Lib.hid hRES; have HN := Lib.hid hN
  have IH := Lib.hid ih; have J := Lib.hid hj.all; have F := Lib.hid hf
  clear ih hj hf hRES hN
  go_enter Tryz.func44, Tryz.ntmps44
  go_wp2_with fail
  refine (node2_calls (.mk 6 is t ns ks) [.int .i64 6, .bool is, .string ⟨t.toArray⟩, .slice a ns.length nc, .slice a' ks.length kc] _ _ (J.out.below HB.out) F.out).mono ?_
  rintro e w5 ⟨rfl, hb5⟩
  rw [← HN.out]
  have HB5 := Lib.hid (HB.out.trans (hb5.mono HB.out.size))
  have HBX5 := Lib.hid ((hb5.block _ (by simp)).trans HBX.out)
  clear hb5 HB HBX HN
  obtain ⟨q0, q1, q2, q3, q4, _⟩ := cells5 HBX5.out
  go_wp2_with fail
  go_loopg [5, 6] (ks.length) (fun q y z wr => ∃ (i : Nat) (okb : Bool), y = .bool okb ∧ z = .int .i64 i ∧ q = ks.length - i ∧ i ≤ ks.length ∧ Hid (RES = (okb && (decide (d < 20) && Cx.rightK (d + 1) (ks.drop i)))) ∧ Hid (Below w.heap.size w wr) ∧ Hid (wr.heap[w.heap.size]? = some (.cells #[.int .i64 6, .bool is, .string ⟨t.toArray⟩, .slice a ns.length nc, .slice a' ks.length kc] 26 (0, 0))))
  case atStart => exact ⟨0, N, rfl, rfl, rfl, Nat.zero_le _, Lib.hid HR.out, HB5, HBX5⟩
  case round =>
    clear HB5 HBX5 HR q0 q1 q2 q3 q4
    obtain ⟨i, okb, rfl, rfl, hq, hi, hr, hb, HBX⟩ := hrel
    obtain ⟨q0, q1, q2, q3, q4, _⟩ := cells5 HBX.out
    have hsz : w.heap.size < wr.heap.size := heap_lt HBX.out
    have HQ := Lib.hid hq
    clear hq
    rcases Nat.lt_or_ge i ks.length with hlt | hge
    · have hltI : (i : Int) < (ks.length : Int) := by omega
      cases okb with
      | false =>
        have hfin : RES = false := by rw [hr.out]; rfl
        have HFIN := Lib.hid hfin
        clear hfin
        go_wp2_with fail
        go_ret
        rw [HFIN.out]
        exact ⟨rfl, hb.out⟩
      | true =>
        obtain ⟨k, hk⟩ : ∃ k, ks[i]? = some k := ⟨ks[i], by simp [hlt]⟩
        by_cases h20 : d < 20
        rotate_left
        · have hd20 : ¬ ((d : Int) + 1 ≤ 20) := by omega
          have hfin : RES = false := by rw [hr.out, decide_eq_false h20]; rfl
          have HFIN := Lib.hid hfin
          clear hfin hk h20
          go_wp2_with fail
          go_roundg (ks.length - (i + 1))
          case measure => have := HQ.out; omega
          case rel => exact ⟨i + 1, false, rfl, by go_num, rfl, by omega, Lib.hid (by rw [HFIN.out]; rfl), hb, HBX⟩
        have hd20 : (d : Int) + 1 ≤ 20 := by omega
        obtain ⟨g, o, cap, hv, _, hgl, kb0, kb1, kb2, kb3, hkj, d0, d1, d2, d3, d4⟩ := J.out.kid' hk
        injection hv with ha _ hc
        subst ha hc
        have b0 := (hb.out.cell (p := ⟨g, o + i * 5, none⟩) hgl).trans d0
        have b1 := (hb.out.cell (p := ⟨g, o + i * 5 + 1, none⟩) hgl).trans d1
        have b2 := (hb.out.cell (p := ⟨g, o + i * 5 + 2, none⟩) hgl).trans d2
        have b3 := (hb.out.cell (p := ⟨g, o + i * 5 + 3, none⟩) hgl).trans d3
        have b4 := (hb.out.cell (p := ⟨g, o + i * 5 + 4, none⟩) hgl).trans d4
        have KJ := Lib.hid hkj; have HK := Lib.hid hk; have H20 := Lib.hid h20
        clear hkj d0 d1 d2 d3 d4 hk h20
        go_wp2_with fail
        refine (IH.out H20.out k [.int .i64 k.kind, .bool k.is, .string ⟨k.text.toArray⟩, .slice kb0 k.names.length kb1, .slice kb2 k.kids.length kb3] _ _ (KJ.out.below hb.out) (fitK_get F.out.2.2.2.2 HK.out)).mono ?_
        rintro e w6 ⟨rfl, hb6⟩
        have HB6 := Lib.hid (hb.out.trans (hb6.mono hb.out.size))
        have HBX6 := Lib.hid ((hb6.block _ hsz).trans HBX.out)
        obtain ⟨R, hR⟩ : ∃ R, R = Cx.right (d + 1) k := ⟨_, rfl⟩
        rw [← hR]
        have hfin : RES = (R && (decide (d < 20) && Cx.rightK (d + 1) (ks.drop (i + 1)))) := by
          rw [hr.out, drop_get HK.out]
          conv => lhs; unfold Cx.rightK
          rw [← hR]
          cases R <;> cases decide (d < 20) <;> cases Cx.rightK (d + 1) (ks.drop (i + 1)) <;> rfl
        have HFIN := Lib.hid hfin
        clear hb6 hR hfin b0 b1 b2 b3 b4
        go_wp2_with fail
        go_roundg (ks.length - (i + 1))
        case measure => have := HQ.out; omega
        case rel => exact ⟨i + 1, R, rfl, by go_num, rfl, by omega, HFIN, HB6, HBX6⟩
    · have hik : i = ks.length := by omega
      subst hik
      have hltI : ¬ (ks.length : Int) < (ks.length : Int) := by omega
      have hfin : RES = (okb && decide (d < 20)) := by
        have := hr.out
        rw [List.drop_length] at this
        rw [this]
        unfold Cx.rightK
        rw [Bool.and_true]
      have hdi : decide ((d : Int) + 1 ≤ 20) = decide (d < 20) := decide_eq_decide.2 (by omega)
      have HFIN := Lib.hid (hfin.trans (by rw [← hdi]))
      clear hfin hdi
      cases okb with
      | false =>
        go_wp2_with fail
        go_ret
        rw [HFIN.out]
        exact ⟨rfl, hb.out⟩
      | true =>
        go_wp2_with fail
        go_ret
        rw [HFIN.out]
        exact ⟨rfl, hb.out⟩

set_option maxRecDepth 100000 in
set_option maxHeartbeats 2000000 in
theorem all_leaf (d : Nat) (hd : d ≤ 20) (x : Int) (h5 : x ≠ 5) (h6 : x ≠ 6) (is : Bool) (t : List UInt8) (ns : List (List UInt8)) (ks : List Cx.J) (a : Option Addr) (nc : Nat) (a' : Option Addr) (kc : Nat) (w : World) (ok : Nat → Prop) (hj : JAt w ok (.mk x is t ns ks) [.int .i64 x, .bool is, .string ⟨t.toArray⟩, .slice a ns.length nc, .slice a' ks.length kc]) (hf : fit 100000 (.mk x is t ns ks)) :
    Calls Tryz.prog 44 #[.agg #[.int .i64 x, .bool is, .string ⟨t.toArray⟩, .slice a ns.length nc, .slice a' ks.length kc], .int .i64 d] w fun e w' => e = .returned (.bool (Cx.right d (.mk x is t ns ks))) ∧ Below w.heap.size w w' := by
  have hkl : ks.length ≤ 100000 := hf.2.2.2.1
  have HBX := Lib.hid (heap_alloc_new w (.cells #[.int .i64 x, .bool is, .string ⟨t.toArray⟩, .slice a ns.length nc, .slice a' ks.length kc] 26))
  have HB := Lib.hid ((Below.refl w.heap.size w).alloc (Nat.le_refl _) (.cells #[.int .i64 x, .bool is, .string ⟨t.toArray⟩, .slice a ns.length nc, .slice a' ks.length kc] 26))
  rw [Cx.right_leaf h5 h6]
  have n5 : (x == 5) = false := by simpa using h5
  have n6 : (x == 6) = false := by simpa using h6
  have hd20 : (d : Int) ≤ 20 := by omega
  have J := Lib.hid hj.all; have F := Lib.hid hf
  have HL := Lib.hid (Cx.nodeOk_leaf (is := is) (t := t) (ns := ns) (ks := ks) h5 h6)
  clear hj hf h5 h6
  go_enter Tryz.func44, Tryz.ntmps44
  go_wp2_with fail
  refine (node2_calls (.mk x is t ns ks) [.int .i64 x, .bool is, .string ⟨t.toArray⟩, .slice a ns.length nc, .slice a' ks.length kc] _ _ (J.out.below HB.out) F.out).mono ?_
  rintro e w5 ⟨rfl, hb5⟩
  have HB5 := Lib.hid (HB.out.trans (hb5.mono HB.out.size))
  have HBX5 := Lib.hid ((hb5.block _ (by simp)).trans HBX.out)
  clear hb5 HB HBX
  obtain ⟨q0, q1, q2, q3, q4, _⟩ := cells5 HBX5.out
  obtain ⟨N, hN⟩ : ∃ N, N = Cx.nodeOk (.mk x is t ns ks) := ⟨_, rfl⟩
  rw [← hN]
  have HN := Lib.hid hN
  clear hN
  cases N with
  | true =>
    have hk0 : ks = [] := HL.out HN.out.symm
    have hk0i : ¬ (0 : Int) < (ks.length : Int) := by rw [hk0]; simp
    clear hk0
    go_wp2_with fail
    go_loopg [5, 6] 0 (fun q y z wr => y = .bool true ∧ z = .int .i64 0 ∧ wr = w5)
    case atStart => exact ⟨rfl, rfl, rfl⟩
    case round =>
      obtain ⟨rfl, rfl, rfl⟩ := hrel
      go_wp2_with fail
      go_ret
      rw [← HN.out]
      exact ⟨rfl, HB5.out⟩
  | false =>
    go_wp2_with fail
    go_loopg [5, 6] 0 (fun q y z wr => y = .bool false ∧ z = .int .i64 0 ∧ wr = w5)
    case atStart => exact ⟨rfl, rfl, rfl⟩
    case round =>
      obtain ⟨rfl, rfl, rfl⟩ := hrel
      by_cases hk0i : (0 : Int) < (ks.length : Int)
      · go_wp2_with fail
        go_ret
        rw [← HN.out]
        exact ⟨rfl, HB5.out⟩
      · go_wp2_with fail
        go_ret
        rw [← HN.out]
        exact ⟨rfl, HB5.out⟩

theorem all_step (d : Nat) (hd : d ≤ 20) (ih : AllIH d) (v : Cx.J) (cs : List Value) (w : World) (ok : Nat → Prop) (hj : JAt w ok v cs) (hf : fit 100000 v) :
    Calls Tryz.prog 44 #[.agg cs.toArray, .int .i64 d] w fun e w' => e = .returned (.bool (Cx.right d v)) ∧ Below w.heap.size w w' := by
  cases v with
  | mk k is t ns ks =>
  obtain ⟨a, nc, a', kc, rfl⟩ := hj.shape
  by_cases h5 : k = 5
  · subst h5; exact all_group5 d hd ih is t ns ks a nc a' kc w ok hj hf
  by_cases h6 : k = 6
  · subst h6; exact all_group6 d hd ih is t ns ks a nc a' kc w ok hj hf
  exact all_leaf d hd k h5 h6 is t ns ks a nc a' kc w ok hj hf

theorem all2_calls : ∀ (m d : Nat), d + m = 20 → ∀ (v : Cx.J) (cs : List Value) (w : World) (ok : Nat → Prop), JAt w ok v cs → fit 100000 v →
    Calls Tryz.prog 44 #[.agg cs.toArray, .int .i64 d] w fun e w' => e = .returned (.bool (Cx.right d v)) ∧ Below w.heap.size w w'
  | 0, d, hm, v, cs, w, ok, hj, hf => all_step d (by omega) (fun h => by omega) v cs w ok hj hf
  | m + 1, d, hm, v, cs, w, ok, hj, hf => all_step d (by omega) (fun _ v cs w ok hj hf => by
      have := all2_calls m (d + 1) (by omega) v cs w ok hj hf
      rw [show ((d + 1 : Nat) : Int) = (d : Int) + 1 by omega] at this
      exact this) v cs w ok hj hf

set_option maxRecDepth 100000 in
set_option maxHeartbeats 2000000 in
theorem right2_calls (v : Cx.J) (cs : List Value) (w : World) (ok : Nat → Prop) (hj : JAt w ok v cs) (hf : fit 100000 v) :
    Calls Tryz.prog 19 #[.agg cs.toArray] w fun e w' => e = .returned (.bool (Cx.Right v)) ∧ Below w.heap.size w w' := by
  cases v with
  | mk k is t ns ks =>
  obtain ⟨a, nc, a', kc, rfl⟩ := hj.shape
  have J := Lib.hid hj.all; have F := Lib.hid hf
  have HB := Lib.hid ((Below.refl w.heap.size w).alloc (Nat.le_refl _) (.cells #[.int .i64 k, .bool is, .string ⟨t.toArray⟩, .slice a ns.length nc, .slice a' ks.length kc] 26))
  have HBX := Lib.hid (heap_alloc_new w (.cells #[.int .i64 k, .bool is, .string ⟨t.toArray⟩, .slice a ns.length nc, .slice a' ks.length kc] 26))
  clear hj hf
  obtain ⟨RES, hRES⟩ : ∃ RES, RES = Cx.Right (.mk k is t ns ks) := ⟨_, rfl⟩
  rw [← hRES]
  have HR := Lib.hid hRES
  clear hRES
  go_enter Tryz.func19, Tryz.ntmps19
  go_wp2_with fail
  refine (count2_calls _ (.mk k is t ns ks) [.int .i64 k, .bool is, .string ⟨t.toArray⟩, .slice a ns.length nc, .slice a' ks.length kc] 5000 _ _ (Nat.le_refl _) (J.out.below HB.out) (by omega) (fit_le (by unfold maxLen; omega) _ F.out)).mono ?_
  rintro e w5 ⟨rfl, hb5⟩
  have HB5 := Lib.hid (HB.out.trans (hb5.mono HB.out.size))
  obtain ⟨q0, q1, q2, q3, q4, _⟩ := cells5 ((hb5.block _ (by simp)).trans HBX.out)
  clear hb5
  by_cases hn : Cx.nodes (.mk k is t ns ks) ≤ 5000
  · have hfin : RES = Cx.right 0 (.mk k is t ns ks) := by rw [HR.out]; unfold Cx.Right; rw [decide_eq_true hn, Bool.true_and]
    have HFIN := Lib.hid hfin; have HN := Lib.hid hn
    obtain ⟨N, hNe⟩ : ∃ N : Nat, N = min (Cx.nodes (.mk k is t ns ks)) (5000 + 1) := ⟨_, rfl⟩
    rw [← hNe]
    have hnl : (N : Int) ≤ 5000 := by omega
    clear hn hfin hNe
    go_wp2_with fail
    refine (show Calls Tryz.prog 44 #[.agg #[.int .i64 k, .bool is, .string ⟨t.toArray⟩, .slice a ns.length nc, .slice a' ks.length kc], .int .i64 0] _ _ from all2_calls 20 0 (by omega) (.mk k is t ns ks) [.int .i64 k, .bool is, .string ⟨t.toArray⟩, .slice a ns.length nc, .slice a' ks.length kc] _ _ (J.out.below HB5.out) F.out).mono ?_
    rintro e w6 ⟨rfl, hb6⟩
    have HB6 := Lib.hid (HB5.out.trans (hb6.mono HB5.out.size))
    clear hb6
    rw [← HFIN.out]
    go_wp2
    go_ret
    exact ⟨rfl, HB6.out⟩
  · have hfin : RES = false := by rw [HR.out]; unfold Cx.Right; rw [decide_eq_false hn, Bool.false_and]
    obtain ⟨N, hNe⟩ : ∃ N : Nat, N = min (Cx.nodes (.mk k is t ns ks)) (5000 + 1) := ⟨_, rfl⟩
    rw [← hNe]
    have hnl : ¬ (N : Int) ≤ 5000 := by omega
    clear hn hNe
    subst hfin
    go_wp2_with fail
    go_ret
    exact ⟨rfl, HB5.out⟩
end Go.Proofs.YtbdmepilmoomeaaGreatDoor

namespace Go.Proofs.YtbdmepilmoomeaaGreatDoor
open Go.RowKit

/-- A row of bytes of the call's own. -/
def BJ (w : World) (v : Value) (acc : List UInt8) (w' : World) : Prop :=
  w'.ownsRowF w.heap.size 5 1 v acc.length (Lib.byteCells acc) ∧ Below w.heap.size w w'
theorem BJ.shape {w : World} {v : Value} {acc : List UInt8} {w' : World} (h : BJ w v acc w') : ∃ ao cap, v = .slice ao acc.length cap := by
  rcases h.1.2 with ⟨hv, hn⟩ | ⟨g, cap, cur, fz, hv, _⟩
  · exact ⟨none, 0, by rw [hv, hn]⟩
  · exact ⟨_, _, hv⟩
theorem BJ.alloc {w : World} {v : Value} {acc : List UInt8} {w' : World} (h : BJ w v acc w') (o : Obj) : BJ w v acc (w'.alloc o) :=
  ⟨h.1.alloc o, h.2.alloc h.2.size o⟩
theorem BJ.drew {w : World} {v : Value} {acc : List UInt8} {w' : World} (h : BJ w v acc w') : BJ w v acc w'.drew := ⟨h.1, h.2.drew⟩
theorem BJ.below {w : World} {v : Value} {acc : List UInt8} {w' w2 : World} (h : BJ w v acc w') (k : Below w'.heap.size w' w2) : BJ w v acc w2 := by
  refine ⟨?_, h.2.trans (k.mono h.2.size)⟩
  refine h.1.kept (row := some w'.heap.size) ⟨k.os, k.tape, k.output, k.size, fun i hi _ => k.block i hi⟩ (.inr ?_)
  intro e
  have := h.1.lt _ e; omega
theorem BJ.grow {w : World} {v v2 : Value} {acc x : List UInt8} {n : Nat} {xs : List Value} {w' w2 : World} (h : BJ w v acc w') (hown : w2.ownsRowF w.heap.size 5 1 v2 n xs) (hg : w'.grownBy w2 v.ownBlock)
    (hn : n = acc.length + x.length) (hx : xs = Lib.byteCells acc ++ Lib.byteCells x) : BJ w v2 (acc ++ x) w2 := by
  have hb : ∀ g, v.ownBlock = some g → w.heap.size ≤ g := fun g hg => (h.1.lt g hg).1
  refine ⟨?_, h.2.grown hg h.2.size (fun g hg => by have := hb g hg; omega)⟩
  rw [List.length_append, Lib.byteCells_append, ← hn, ← hx]; exact hown
theorem BJ.first (w : World) (c : UInt8) : BJ w (.slice (some ⟨w.heap.size, 0, none⟩) 1 1) [c] (w.alloc (.cells #[.int .u8 c.toNat] 5)) := by
  refine ⟨⟨rfl, .inr ⟨w.heap.size, 1, #[.int .u8 c.toNat], (0, 0), rfl, Nat.le_refl _, heap_alloc_new w _, by simp, by simp, by decide, by simp, ?_⟩⟩, (Below.refl _ w).alloc (Nat.le_refl _) _⟩
  simp [Lib.byteCells]
theorem BJ.bytes {w : World} {acc : List UInt8} {g o cap : Nat} {w' : World} (h : BJ w (.slice (some ⟨g, o, none⟩) acc.length cap) acc w') : o = 0 ∧ Lib.Bytes w' g 0 ⟨acc.toArray⟩ := by
  rcases h.1.2 with ⟨hv, _⟩ | ⟨g', cap', cur, fz, hv, _⟩
  · cases hv
  · injection hv with hv
    injection hv with hv
    injection hv with e1 e2 _
    subst e1; subst e2
    refine ⟨rfl, fun i hi => ?_⟩
    have hi' : i < acc.length := by simpa [ByteArray.size] using hi
    have := h.1.cells (g := g) rfl i (.int .u8 (acc[i]'hi').toNat) (by simp [Lib.byteCells, hi'])
    rw [add_plain0] at this
    rw [this]; rfl
where
  add_plain0 {b o i : Nat} : (⟨b, o, none⟩ : Addr).add i = ⟨b, o + i, none⟩ := by
    unfold Addr.add
    by_cases h : i = 0
    · subst h; simp
    · rw [if_neg h]

theorem BJ.conv {w : World} {acc : List UInt8} {ao : Option Addr} {cap : Nat} {w' : World} (h : BJ w (.slice ao acc.length cap) acc w') :
    (convert 61 9 (.slice ao acc.length cap)).run Tryz.prog w' = .ok (.string ⟨acc.toArray⟩) w' := by
  cases ao with
  | none =>
    rcases h.1.2 with ⟨hv, hn⟩ | ⟨g, cap', cur, fz, hv, _⟩
    · have : acc = [] := List.length_eq_zero_iff.1 hn
      subst this
      exact run_convert_bytes_nil w' 61 5 Tryz.underlying61 Tryz.underlying5 _ _ 9 Tryz.underlying9
    · cases hv
  | some x =>
    obtain ⟨g, o, sp⟩ := x
    have hsp : sp = none := by
      rcases h.1.2 with ⟨hv, hn⟩ | ⟨g', cap', cur, fz, hv, _⟩
      · cases hv
      · injection hv with hv; injection hv with hv; injection hv with _ _ e3
    subst hsp
    obtain ⟨rfl, hb⟩ := h.bytes
    have := Lib.run_convert_whole (P := Tryz.prog) w' 61 5 9 Tryz.underlying61 Tryz.underlying5 Tryz.underlying9 g 0 ⟨acc.toArray⟩ hb cap
    rw [show (⟨acc.toArray⟩ : ByteArray).size = acc.length by simp [ByteArray.size]] at this
    exact this

set_option maxRecDepth 100000 in
set_option maxHeartbeats 4000000 in
theorem jtext2_calls (t : List UInt8) (w : World) (hs : t.length ≤ 100000000) :
    Calls Tryz.prog 21 #[.string ⟨t.toArray⟩] w fun e w' => e = .returned (.string ⟨(Cx.jtext t).toArray⟩) ∧ Below w.heap.size w w' := by
  have hts : (⟨t.toArray⟩ : ByteArray).size = t.length := by simp [ByteArray.size]
  have HI0 := Lib.hid (BJ.first w 34)
  obtain ⟨i0, hi0, hz0, hz1, hz2⟩ := info_parts infoByte
  go_enter Tryz.func21, Tryz.ntmps21
  go_wp2_with fail
  go_loopg [3, 4] (t.length) (fun q y z wr => ∃ (i : Nat) (acc : List UInt8) (ao : Option Addr) (cap : Nat), y = .slice ao acc.length cap ∧ z = .int .i64 i ∧ q = t.length - i ∧ i ≤ t.length ∧ acc.length ≤ 6 * i + 1 ∧ Hid (acc = 34 :: Cx.esc (t.take i)) ∧ Hid (BJ w (.slice ao acc.length cap) acc wr))
  case atStart => exact ⟨0, [34], _, _, rfl, rfl, rfl, Nat.zero_le _, by simp, Lib.hid rfl, HI0⟩
  case round =>
    clear HI0
    obtain ⟨i, acc, ao, cap, rfl, rfl, hq, hi, hal, HA, HI⟩ := hrel
    have HQ := Lib.hid hq
    clear hq
    rcases Nat.lt_or_ge i t.length with hlt | hge
    · obtain ⟨c, hc⟩ : ∃ c : UInt8, t[i]? = some c := ⟨t[i], by simp [hlt]⟩
      have hcp : Cx.peek t i = c := by unfold Cx.peek; rw [List.getD, hc]; rfl
      have hci : (((⟨t.toArray⟩ : ByteArray)[i]'(by rw [hts]; exact hlt)).toNat : Int) = (c.toNat : Int) := by
        have := peek_size (s := ⟨t.toArray⟩) (i := i) (by rw [hts]; exact hlt)
        rw [← this, ← hcp]
      have hltI : (i : Int) < (t.length : Int) := by omega
      have he : Cx.esc (t.take (i + 1)) = Cx.esc (t.take i) ++ Cx.escB c := by
        rw [List.take_add_one, hc]
        show List.flatMap _ _ = _
        rw [List.flatMap_append]
        simp [Cx.esc]
      have HE := Lib.hid he
      clear he hc hcp
      by_cases h34 : c = 34
      · have n34 : ((c.toNat : Int) == 34) = true := by rw [h34]; rfl
        have hes : Cx.escB c = [92, c] := by rw [h34]; rfl
        have HES := Lib.hid hes
        clear hes
        clear h34
        go_wp2_with (at_builtin; refine wpList_append_ownF _ rfl _ _ 61 rfl w.heap.size 5 i0 (.int .u8 0) 1 1 Tryz.underlying61 hi0 hz0 hz1 hz2 rfl (by decide) _ _ _ rfl ((HI.out).1.alloc _) ⟨wr.heap.size, 0, none⟩ 2 2 [.int .u8 92, .int .u8 c.toNat] rfl rfl ?c1 ?c2 ?c3 ?c4 ?c5 ?_)
        case c1 =>
          intro j u hj
          match j, hj with
          | 0, hj => simp at hj; subst hj; simp [Addr.add]
          | 1, hj => simp at hj; subst hj; simp [Addr.add]
        case c2 => intro u hu; simp at hu; rcases hu with rfl | rfl <;> rfl
        case c3 => unfold maxLen; omega
        case c4 => omega
        case c5 => have := HI.out.2.size; simp; omega
        intro vw5 w5 hown hgrow _
        have hI2 : BJ w vw5 (acc ++ [92, c]) w5 := ((HI.out).alloc _).grow hown (by simpa using hgrow) (by simp) rfl
        clear hown hgrow
        obtain ⟨aow5, capw5, rfl⟩ := hI2.shape
        have HI2 := Lib.hid hI2
        clear hI2
        go_wp2
        go_roundg (t.length - (i + 1))
        case measure => have := HQ.out; omega
        case rel => exact ⟨i + 1, acc ++ [92, c], _, _, rfl, by go_num, rfl, by omega, by simp only [List.length_append, List.length_cons, List.length_nil]; omega, Lib.hid (by rw [HE.out, HA.out, HES.out]; rfl), HI2⟩
      by_cases h92 : c = 92
      · have n34 : ((c.toNat : Int) == 34) = false := by rw [h92]; rfl
        have n92 : ((c.toNat : Int) == 92) = true := by rw [h92]; rfl
        have hes : Cx.escB c = [92, c] := by rw [h92]; rfl
        have HES := Lib.hid hes
        clear hes
        clear h34 h92
        go_wp2_with (at_builtin; refine wpList_append_ownF _ rfl _ _ 61 rfl w.heap.size 5 i0 (.int .u8 0) 1 1 Tryz.underlying61 hi0 hz0 hz1 hz2 rfl (by decide) _ _ _ rfl ((HI.out).1.alloc _) ⟨wr.heap.size, 0, none⟩ 2 2 [.int .u8 92, .int .u8 c.toNat] rfl rfl ?c1 ?c2 ?c3 ?c4 ?c5 ?_)
        case c1 =>
          intro j u hj
          match j, hj with
          | 0, hj => simp at hj; subst hj; simp [Addr.add]
          | 1, hj => simp at hj; subst hj; simp [Addr.add]
        case c2 => intro u hu; simp at hu; rcases hu with rfl | rfl <;> rfl
        case c3 => unfold maxLen; omega
        case c4 => omega
        case c5 => have := HI.out.2.size; simp; omega
        intro vw5 w5 hown hgrow _
        have hI2 : BJ w vw5 (acc ++ [92, c]) w5 := ((HI.out).alloc _).grow hown (by simpa using hgrow) (by simp) rfl
        clear hown hgrow
        obtain ⟨aow5, capw5, rfl⟩ := hI2.shape
        have HI2 := Lib.hid hI2
        clear hI2
        go_wp2
        go_roundg (t.length - (i + 1))
        case measure => have := HQ.out; omega
        case rel => exact ⟨i + 1, acc ++ [92, c], _, _, rfl, by go_num, rfl, by omega, by simp only [List.length_append, List.length_cons, List.length_nil]; omega, Lib.hid (by rw [HE.out, HA.out, HES.out]; rfl), HI2⟩
      have n34 : ((c.toNat : Int) == 34) = false := u8ne (k := 34) h34
      have n92 : ((c.toNat : Int) == 92) = false := u8ne (k := 92) h92
      by_cases h32 : c < 32
      · have i32 : ¬ (32 : Int) ≤ (c.toNat : Int) := by rw [UInt8.lt_iff_toNat_lt] at h32; simp at h32; omega
        have H32 := Lib.hid h32
        have hes : (Cx.escB c).length ≤ 6 := by
          unfold Cx.escB; repeat' split
          all_goals simp
        have HES := Lib.hid hes
        clear hes h32 h34 h92
        go_wp2_with fail
        refine (control2_calls c _ H32.out).mono ?_
        rintro e w3 ⟨rfl, hb⟩
        have HI3 := Lib.hid (HI.out.below hb)
        obtain ⟨x, hx⟩ : ∃ x : List UInt8, x = Cx.escB c := ⟨_, rfl⟩
        rw [← hx]
        have hxl : x.length ≤ 6 := by rw [hx]; exact HES.out
        have hxs : (⟨x.toArray⟩ : ByteArray).size = x.length := by simp [ByteArray.size]
        have HX := Lib.hid hx
        clear hb hx
        go_wp2_with (at_builtin; refine Lib.wpList_append_own_stringF _ rfl _ _ 61 9 rfl w.heap.size 5 i0 Tryz.underlying61 Tryz.underlying9 hi0 hz0 hz1 hz2 _ _ _ rfl (HI3.out).1 ⟨x.toArray⟩ rfl ?c3 ?c4 ?c5 ?_)
        case c3 => unfold maxLen; rw [hxs]; omega
        case c4 => rw [hxs]; omega
        case c5 => exact HI3.out.2.size
        intro vw5 w5 hown hgrow _
        have hI2 : BJ w vw5 (acc ++ x) w5 := (HI3.out).grow hown (by simpa using hgrow) (by first | rfl | rw [hxs]) (by simp [Lib.strCells_eq, Lib.byteCells])
        clear hown hgrow
        obtain ⟨aow5, capw5, rfl⟩ := hI2.shape
        have HI2 := Lib.hid hI2
        clear hI2
        go_wp2
        go_roundg (t.length - (i + 1))
        case measure => have := HQ.out; omega
        case rel => exact ⟨i + 1, acc ++ x, _, _, rfl, by go_num, rfl, by omega, by simp only [List.length_append]; omega, Lib.hid (by rw [HE.out, HA.out, HX.out]; rfl), HI2⟩
      · have i32 : (32 : Int) ≤ (c.toNat : Int) := by rw [UInt8.lt_iff_toNat_lt] at h32; simp at h32; omega
        have hes : Cx.escB c = [c] := by
          unfold Cx.escB
          rw [if_neg h34, if_neg h92, if_neg, if_neg, if_neg, if_neg, if_neg, if_neg h32]
          all_goals (rintro rfl; exact h32 (by decide))
        have HES := Lib.hid hes
        clear hes h32 h34 h92
        go_wp2_with (at_builtin; refine wpList_append_ownF _ rfl _ _ 61 rfl w.heap.size 5 i0 (.int .u8 0) 1 1 Tryz.underlying61 hi0 hz0 hz1 hz2 rfl (by decide) _ _ _ rfl ((HI.out).1.alloc _) ⟨wr.heap.size, 0, none⟩ 1 1 [.int .u8 c.toNat] rfl rfl ?c1 ?c2 ?c3 ?c4 ?c5 ?_)
        case c1 =>
          intro j u hj
          match j, hj with
          | 0, hj => simp at hj; subst hj; simp [Addr.add]
        case c2 => intro u hu; simp at hu; subst hu; rfl
        case c3 => unfold maxLen; omega
        case c4 => omega
        case c5 => have := HI.out.2.size; simp; omega
        intro vw5 w5 hown hgrow _
        have hI2 : BJ w vw5 (acc ++ [c]) w5 := ((HI.out).alloc _).grow hown (by simpa using hgrow) (by simp) rfl
        clear hown hgrow
        obtain ⟨aow5, capw5, rfl⟩ := hI2.shape
        have HI2 := Lib.hid hI2
        clear hI2
        go_wp2
        go_roundg (t.length - (i + 1))
        case measure => have := HQ.out; omega
        case rel => exact ⟨i + 1, acc ++ [c], _, _, rfl, by go_num, rfl, by omega, by simp only [List.length_append, List.length_singleton]; omega, Lib.hid (by rw [HE.out, HA.out, HES.out]; rfl), HI2⟩
    · have hik : i = t.length := by omega
      subst hik
      have hltI : ¬ (t.length : Int) < (t.length : Int) := by omega
      have hfin : acc ++ [34] = Cx.jtext t := by rw [HA.out, List.take_length]; rfl
      have HF := Lib.hid hfin
      clear hfin
      go_wp2_with (at_builtin; refine wpList_append_ownF _ rfl _ _ 61 rfl w.heap.size 5 i0 (.int .u8 0) 1 1 Tryz.underlying61 hi0 hz0 hz1 hz2 rfl (by decide) _ _ _ rfl ((HI.out).1.alloc _) ⟨wr.heap.size, 0, none⟩ 1 1 [.int .u8 34] rfl rfl ?c1 ?c2 ?c3 ?c4 ?c5 ?_)
      case c2 => first | rfl | (intro u hu; simp at hu; subst hu; rfl)
      case c3 => unfold maxLen; omega
      case c4 => omega
      case c5 => have := HI.out.2.size; simp; omega
      intro vw5 w5 hown hgrow _
      have hI2 : BJ w vw5 (acc ++ [34]) w5 := ((HI.out).alloc _).grow hown (by simpa using hgrow) (by simp) rfl
      clear hown hgrow
      rw [HF.out] at hI2
      obtain ⟨T, hT⟩ : ∃ T, T = Cx.jtext t := ⟨_, rfl⟩
      rw [← hT] at hI2
      obtain ⟨aow5, capw5, rfl⟩ := hI2.shape
      have HI2 := Lib.hid hI2; have HT := Lib.hid hT
      have hconv := hI2.conv
      clear hI2 hT
      go_wp2_with fail
      go_ret
      rw [← HT.out]
      exact ⟨rfl, HI2.out.2⟩
end Go.Proofs.YtbdmepilmoomeaaGreatDoor

namespace Go.Proofs.YtbdmepilmoomeaaGreatDoor
open Go.RowKit

theorem app3 (a b c : List UInt8) : (((⟨a.toArray⟩ : ByteArray) ++ ⟨b.toArray⟩) ++ ⟨c.toArray⟩) = ⟨(a ++ b ++ c).toArray⟩ := by rw [app_bytes2, app_bytes2]
theorem app4 (a b c d : List UInt8) : ((((⟨a.toArray⟩ : ByteArray) ++ ⟨b.toArray⟩) ++ ⟨c.toArray⟩) ++ ⟨d.toArray⟩) = ⟨(a ++ b ++ c ++ d).toArray⟩ := by rw [app3, app_bytes2]
theorem app5 (a b c d e : List UInt8) : (((((⟨a.toArray⟩ : ByteArray) ++ ⟨b.toArray⟩) ++ ⟨c.toArray⟩) ++ ⟨d.toArray⟩) ++ ⟨e.toArray⟩) = ⟨(a ++ b ++ c ++ d ++ e).toArray⟩ := by rw [app4, app_bytes2]

/-- Later, and what was there is as it was. -/
def Kp (wr w' : World) : Prop := Below wr.heap.size wr w'
theorem Kp.drew0 {wr : World} : Kp wr wr.drew := (Below.refl _ wr).drew
theorem Kp.drew {wr w' : World} (h : Kp wr w') : Kp wr w'.drew := Below.drew h
theorem Kp.next {wr w' w2 : World} (h : Kp wr w') (k : Below w'.heap.size w' w2) : Kp wr w2 := Below.trans h (k.mono (Below.size h))
theorem Kp.ck {wr w' : World} {p : Addr} {v : Value} (h : Kp wr w') (hc : wr.cell? p = some v) : w'.cell? p = some v := (Below.cell h (World.block_lt_of_cell? wr _ hc)).trans hc
def TxPost (v : Cx.J) (w : World) (e : Ending) (w' : World) : Prop := e = .returned (.string ⟨(Cx.pr v).toArray⟩) ∧ Below w.heap.size w w'
/-- What 'text' does with values of at most so many nodes. -/
def TxIH (N : Nat) : Prop := ∀ (v : Cx.J) (cs : List Value) (d : Nat) (w : World) (ok : Nat → Prop), Cx.nodes v ≤ N → Cx.right d v = true → fit 100000 v → JAt w ok v cs → (Cx.pr v).length ≤ 140737488355328 →
    Calls Tryz.prog 40 #[.agg cs.toArray] w (TxPost v w)

set_option maxRecDepth 100000 in
set_option maxHeartbeats 2000000 in
theorem text_leaf (k : Int) (is : Bool) (t : List UInt8) (ns : List (List UInt8)) (ks : List Cx.J) (a : Option Addr) (nc : Nat) (a' : Option Addr) (kc : Nat) (w : World) (hk : k = 1 ∨ k = 2 ∨ k = 3 ∨ k = 4) (hf : fit 100000 (.mk k is t ns ks)) :
    Calls Tryz.prog 40 #[.agg #[.int .i64 k, .bool is, .string ⟨t.toArray⟩, .slice a ns.length nc, .slice a' ks.length kc]] w (TxPost (.mk k is t ns ks) w) := by
  have htl : t.length ≤ 100000 := hf.1
  have HB := Lib.hid ((Below.refl w.heap.size w).alloc (Nat.le_refl _) (.cells #[.int .i64 k, .bool is, .string ⟨t.toArray⟩, .slice a ns.length nc, .slice a' ks.length kc] 26))
  clear hf
  rcases hk with rfl | rfl | rfl | rfl
  · have HP := Lib.hid (show Cx.pr (.mk 1 is t ns ks) = [110, 117, 108, 108] by unfold Cx.pr; simp)
    go_enter Tryz.func40, Tryz.ntmps40
    go_wp2_with fail
    go_ret
    exact ⟨by rw [HP.out]; rfl, HB.out⟩
  · have HP := Lib.hid (show Cx.pr (.mk 2 is t ns ks) = (if is then [116, 114, 117, 101] else [102, 97, 108, 115, 101]) by unfold Cx.pr; simp)
    cases is with
    | true =>
      go_enter Tryz.func40, Tryz.ntmps40
      go_wp2_with fail
      go_ret
      exact ⟨by rw [HP.out]; rfl, HB.out⟩
    | false =>
      go_enter Tryz.func40, Tryz.ntmps40
      go_wp2_with fail
      go_ret
      exact ⟨by rw [HP.out]; rfl, HB.out⟩
  · have HP := Lib.hid (show Cx.pr (.mk 3 is t ns ks) = t by unfold Cx.pr; simp)
    go_enter Tryz.func40, Tryz.ntmps40
    go_wp2_with fail
    go_ret
    exact ⟨by rw [HP.out]; rfl, HB.out⟩
  · have HP := Lib.hid (show Cx.pr (.mk 4 is t ns ks) = Cx.jtext t by unfold Cx.pr; simp)
    go_enter Tryz.func40, Tryz.ntmps40
    go_wp2_with fail
    refine (jtext2_calls t _ (by omega)).mono ?_
    rintro e w4 ⟨rfl, hb4⟩
    have HB4 := Lib.hid (HB.out.trans (hb4.mono HB.out.size))
    clear hb4
    go_wp2_with fail
    go_ret
    exact ⟨by rw [HP.out]; rfl, HB4.out⟩

set_option maxRecDepth 100000 in
set_option maxHeartbeats 4000000 in
theorem text_list (N : Nat) (ih : TxIH N) (is : Bool) (t : List UInt8) (ns : List (List UInt8)) (ks : List Cx.J) (a : Option Addr) (nc : Nat) (a' : Option Addr) (kc : Nat) (d : Nat) (w : World) (ok : Nat → Prop)
    (hN : Cx.nodes (.mk 5 is t ns ks) ≤ N + 1) (hr : Cx.right d (.mk 5 is t ns ks) = true) (hf : fit 100000 (.mk 5 is t ns ks)) (hj : JAt w ok (.mk 5 is t ns ks) [.int .i64 5, .bool is, .string ⟨t.toArray⟩, .slice a ns.length nc, .slice a' ks.length kc])
    (hlen : (Cx.pr (.mk 5 is t ns ks)).length ≤ 140737488355328) :
    Calls Tryz.prog 40 #[.agg #[.int .i64 5, .bool is, .string ⟨t.toArray⟩, .slice a ns.length nc, .slice a' ks.length kc]] w (TxPost (.mk 5 is t ns ks) w) := by
  have hrk : Cx.rightK (d + 1) ks = true := by
    unfold Cx.right at hr
    simp at hr
    exact hr.2
  have hp : Cx.pr (.mk 5 is t ns ks) = 91 :: (Cx.prK false true ns ks ++ [93]) := by unfold Cx.pr; simp
  unfold TxPost
  rw [hp] at hlen ⊢
  obtain ⟨TOT, hTOT⟩ : ∃ TOT, TOT = 91 :: (Cx.prK false true ns ks ++ [93]) := ⟨_, rfl⟩
  rw [← hTOT] at hlen ⊢
  have hbb := (Below.refl w.heap.size w).alloc (Nat.le_refl _) (.cells #[.int .i64 5, .bool is, .string ⟨t.toArray⟩, .slice a ns.length nc, .slice a' ks.length kc] 26)
  have hbox := heap_alloc_new w (.cells #[.int .i64 5, .bool is, .string ⟨t.toArray⟩, .slice a ns.length nc, .slice a' ks.length kc] 26)
  have hkl : ks.length ≤ 100000 := hf.2.2.2.1
  have hnl : ns.length ≤ 100000 := hf.2.1
  have HB := Lib.hid hbb; have HBX := Lib.hid hbox; have HRK := Lib.hid hrk; have HTOT := Lib.hid hTOT; have HTL := Lib.hid hlen
  have IH := Lib.hid ih; have HN := Lib.hid hN; have F := Lib.hid hf; have J := Lib.hid hj.all
  clear hbb hlen hf hbox hrk hp hTOT ih hN hr hj 
  go_enter Tryz.func40, Tryz.ntmps40
  go_wp2_with fail
  go_loopg [3, 4] (ks.length) (fun q y z wr => ∃ (i : Nat) (acc : List UInt8), y = .string ⟨acc.toArray⟩ ∧ z = .int .i64 i ∧ q = ks.length - i ∧ i ≤ ks.length ∧ Hid (acc ++ (Cx.prK false (decide (i = 0)) (ns.drop i) (ks.drop i) ++ [93]) = TOT) ∧ Hid (Below w.heap.size w wr) ∧ Hid (wr.heap[w.heap.size]? = some (.cells #[.int .i64 5, .bool is, .string ⟨t.toArray⟩, .slice a ns.length nc, .slice a' ks.length kc] 26 (0, 0))))
  case atStart => exact ⟨0, [91], rfl, rfl, rfl, Nat.zero_le _, Lib.hid (by rw [HTOT.out]; simp), HB, HBX⟩
  case round =>
    clear HB HBX
    obtain ⟨i, acc, rfl, rfl, hq, hi, HACC, HBW, HBX⟩ := hrel
    have HQ := Lib.hid hq
    clear hq
    obtain ⟨q0, q1, q2, q3, q4, qf⟩ := cells5 HBX.out
    have hsz : w.heap.size < wr.heap.size := heap_lt HBX.out
    rcases Nat.lt_or_ge i ks.length with hlt | hge
    · obtain ⟨k, hk⟩ : ∃ k, ks[i]? = some k := ⟨ks[i], by simp [hlt]⟩
      have hdr := drop_get hk
      have hltI : (i : Int) < (ks.length : Int) := by omega
      obtain ⟨g, o, cap, hv, hgB, hgl, kb0, kb1, kb2, kb3, hkj, d0, d1, d2, d3, d4⟩ := J.out.kid' hk
      injection hv with ha _ hc
      subst ha hc
      have hacc := HACC.out
      rw [hdr] at hacc
      unfold Cx.prK at hacc
      rw [if_neg (show ¬ (false = true) by decide), List.nil_append] at hacc
      have KJ := Lib.hid hkj; have HK := Lib.hid hk
      have HRK1 := Lib.hid (rightK_get HRK.out hk)
      have HF1 := Lib.hid (fitK_get F.out.2.2.2.2 hk)
      have HN1 : Hid (Cx.nodes k ≤ N) := Lib.hid (by have h1 := HN.out; have h2 := (nodesK_get hk).2; simp only [Cx.nodes] at h1; omega)
      have b0 := (HBW.out.cell (p := ⟨g, o + i * 5, none⟩) hgB).trans d0
      have b1 := (HBW.out.cell (p := ⟨g, o + i * 5 + 1, none⟩) hgB).trans d1
      have b2 := (HBW.out.cell (p := ⟨g, o + i * 5 + 2, none⟩) hgB).trans d2
      have b3 := (HBW.out.cell (p := ⟨g, o + i * 5 + 3, none⟩) hgB).trans d3
      have b4 := (HBW.out.cell (p := ⟨g, o + i * 5 + 4, none⟩) hgB).trans d4
      obtain ⟨x, hx⟩ : ∃ x, x = Cx.pr k := ⟨_, rfl⟩
      have HX := Lib.hid hx
      rw [← hx] at hacc
      by_cases h0 : i = 0
      · have hz : ¬ ((0 : Int) < (i : Int)) := by omega
        have hacc2 : (acc ++ x) ++ (Cx.prK false false (ns.drop i).tail (ks.drop (i + 1)) ++ [93]) = TOT := by
          rw [← hacc]; simp [h0]
        have hal : acc.length + x.length ≤ 140737488355328 := by
          have := congrArg List.length hacc2; have := HTL.out
          simp only [List.length_append, List.length_singleton] at *; omega
        have hxl : x.length ≤ 140737488355328 := by omega
        have HXL := Lib.hid hxl
        have HACC2 := Lib.hid hacc2
        clear hacc HACC hkj hk hdr d0 d1 d2 d3 d4 h0 hx hacc2 hxl
        go_wp2_with fail
        refine (IH.out k [.int .i64 k.kind, .bool k.is, .string ⟨k.text.toArray⟩, .slice kb0 k.names.length kb1, .slice kb2 k.kids.length kb3] (d + 1) _ _ HN1.out HRK1.out HF1.out (KJ.out.below HBW.out) (by rw [← HX.out]; exact HXL.out)).mono ?_
        rintro e w5 ⟨rfl, c2⟩
        rw [← HX.out]
        have C2 := Lib.hid (HBW.out.trans (c2.mono HBW.out.size))
        have C4 := Lib.hid ((c2.block _ (heap_lt HBX.out)).trans HBX.out)
        clear c2 b0 b1 b2 b3 b4
        go_wp2
        go_roundg (ks.length - (i + 1))
        case measure => have := HQ.out; omega
        case rel =>
          refine ⟨i + 1, acc ++ x, congrArg Value.string (app_bytes2 acc x), by go_num, rfl, by omega, Lib.hid ?_, C2, C4⟩
          rw [← HACC2.out, decide_eq_false (by omega), ← List.tail_drop]
      · have hz : (0 : Int) < (i : Int) := by omega
        have hacc2 : (acc ++ [44] ++ x) ++ (Cx.prK false false (ns.drop i).tail (ks.drop (i + 1)) ++ [93]) = TOT := by
          rw [← hacc, decide_eq_false h0]; simp
        have hal : acc.length + 1 + x.length ≤ 140737488355328 := by
          have := congrArg List.length hacc2; have := HTL.out
          simp only [List.length_append, List.length_singleton] at *; omega
        have hxl : x.length ≤ 140737488355328 := by omega
        have HXL := Lib.hid hxl
        have HACC2 := Lib.hid hacc2
        clear hacc HACC hkj hk hdr d0 d1 d2 d3 d4 h0 hx hacc2 hxl
        go_wp2_with fail
        refine (IH.out k [.int .i64 k.kind, .bool k.is, .string ⟨k.text.toArray⟩, .slice kb0 k.names.length kb1, .slice kb2 k.kids.length kb3] (d + 1) _ _ HN1.out HRK1.out HF1.out (KJ.out.below HBW.out) (by rw [← HX.out]; exact HXL.out)).mono ?_
        rintro e w5 ⟨rfl, c2⟩
        rw [← HX.out]
        have C2 := Lib.hid (HBW.out.trans (c2.mono HBW.out.size))
        have C4 := Lib.hid ((c2.block _ (heap_lt HBX.out)).trans HBX.out)
        clear c2 b0 b1 b2 b3 b4
        go_wp2
        go_roundg (ks.length - (i + 1))
        case measure => have := HQ.out; omega
        case rel =>
          refine ⟨i + 1, acc ++ [44] ++ x, congrArg Value.string (app3 acc [44] x), by go_num, rfl, by omega, Lib.hid ?_, C2, C4⟩
          rw [← HACC2.out, decide_eq_false (by omega), ← List.tail_drop]
    · have hik : i = ks.length := by omega
      subst hik
      have hltI : ¬ (ks.length : Int) < (ks.length : Int) := by omega
      have hacc := HACC.out
      rw [List.drop_length] at hacc
      unfold Cx.prK at hacc
      rw [List.nil_append] at hacc
      have hal : acc.length + 1 ≤ 140737488355328 := by
        have := congrArg List.length hacc; have := HTL.out
        simp only [List.length_append, List.length_singleton] at *; omega
      have HACC2 := Lib.hid hacc
      clear hacc
      go_wp2_with fail
      go_ret
      exact ⟨by rw [← HACC2.out]; exact ret_str (app_bytes2 acc [93]), HBW.out⟩

set_option maxRecDepth 100000 in
set_option maxHeartbeats 4000000 in
theorem text_object (N : Nat) (ih : TxIH N) (is : Bool) (t : List UInt8) (ns : List (List UInt8)) (ks : List Cx.J) (a : Option Addr) (nc : Nat) (a' : Option Addr) (kc : Nat) (d : Nat) (w : World) (ok : Nat → Prop)
    (hN : Cx.nodes (.mk 6 is t ns ks) ≤ N + 1) (hr : Cx.right d (.mk 6 is t ns ks) = true) (hf : fit 100000 (.mk 6 is t ns ks)) (hj : JAt w ok (.mk 6 is t ns ks) [.int .i64 6, .bool is, .string ⟨t.toArray⟩, .slice a ns.length nc, .slice a' ks.length kc])
    (hlen : (Cx.pr (.mk 6 is t ns ks)).length ≤ 140737488355328) :
    Calls Tryz.prog 40 #[.agg #[.int .i64 6, .bool is, .string ⟨t.toArray⟩, .slice a ns.length nc, .slice a' ks.length kc]] w (TxPost (.mk 6 is t ns ks) w) := by
  have hrk : Cx.rightK (d + 1) ks = true := by
    unfold Cx.right at hr
    simp at hr
    exact hr.2
  have hnk : ns.length = ks.length := by
    unfold Cx.right at hr
    simp at hr
    exact hr.1.1.1.1.1
  have hp : Cx.pr (.mk 6 is t ns ks) = 123 :: (Cx.prK true true ns ks ++ [125]) := by unfold Cx.pr; simp
  unfold TxPost
  rw [hp] at hlen ⊢
  obtain ⟨TOT, hTOT⟩ : ∃ TOT, TOT = 123 :: (Cx.prK true true ns ks ++ [125]) := ⟨_, rfl⟩
  rw [← hTOT] at hlen ⊢
  have hbb := (Below.refl w.heap.size w).alloc (Nat.le_refl _) (.cells #[.int .i64 6, .bool is, .string ⟨t.toArray⟩, .slice a ns.length nc, .slice a' ks.length kc] 26)
  have hbox := heap_alloc_new w (.cells #[.int .i64 6, .bool is, .string ⟨t.toArray⟩, .slice a ns.length nc, .slice a' ks.length kc] 26)
  have hkl : ks.length ≤ 100000 := hf.2.2.2.1
  have hnl : ns.length ≤ 100000 := hf.2.1
  have HB := Lib.hid hbb; have HBX := Lib.hid hbox; have HRK := Lib.hid hrk; have HTOT := Lib.hid hTOT; have HTL := Lib.hid hlen
  have IH := Lib.hid ih; have HN := Lib.hid hN; have F := Lib.hid hf; have J := Lib.hid hj.all
  have HNK := Lib.hid hnk
  clear hbb hlen hf hbox hrk hp hTOT ih hN hr hj hnk
  go_enter Tryz.func40, Tryz.ntmps40
  go_wp2_with fail
  go_loopg [5, 6] (ks.length) (fun q y z wr => ∃ (i : Nat) (acc : List UInt8), y = .string ⟨acc.toArray⟩ ∧ z = .int .i64 i ∧ q = ks.length - i ∧ i ≤ ks.length ∧ Hid (acc ++ (Cx.prK true (decide (i = 0)) (ns.drop i) (ks.drop i) ++ [125]) = TOT) ∧ Hid (Below w.heap.size w wr) ∧ Hid (wr.heap[w.heap.size]? = some (.cells #[.int .i64 6, .bool is, .string ⟨t.toArray⟩, .slice a ns.length nc, .slice a' ks.length kc] 26 (0, 0))))
  case atStart => exact ⟨0, [123], rfl, rfl, rfl, Nat.zero_le _, Lib.hid (by rw [HTOT.out]; simp), HB, HBX⟩
  case round =>
    clear HB HBX
    obtain ⟨i, acc, rfl, rfl, hq, hi, HACC, HBW, HBX⟩ := hrel
    have HQ := Lib.hid hq
    clear hq
    obtain ⟨q0, q1, q2, q3, q4, qf⟩ := cells5 HBX.out
    have hsz : w.heap.size < wr.heap.size := heap_lt HBX.out
    rcases Nat.lt_or_ge i ks.length with hlt | hge
    · obtain ⟨k, hk⟩ : ∃ k, ks[i]? = some k := ⟨ks[i], by simp [hlt]⟩
      have hdr := drop_get hk
      have hltI : (i : Int) < (ks.length : Int) := by omega
      obtain ⟨g, o, cap, hv, hgB, hgl, kb0, kb1, kb2, kb3, hkj, d0, d1, d2, d3, d4⟩ := J.out.kid' hk
      injection hv with ha _ hc
      subst ha hc
      have hacc := HACC.out
      obtain ⟨n, hn⟩ : ∃ n, ns[i]? = some n := ⟨ns[i]'(by have := HNK.out; omega), List.getElem?_eq_getElem _⟩
      obtain ⟨g', o', cap', hv', hgB', hgl', hnc⟩ := J.out.name' hn
      injection hv' with ha' _ hc'
      subst ha' hc'
      have hdn := drop_get hn
      rw [hdr, hdn] at hacc
      unfold Cx.prK at hacc
      rw [if_pos rfl, List.headD_cons, List.tail_cons] at hacc
      have hnl1 : n.length ≤ 100000 := F.out.2.2.1 n (List.mem_of_getElem? hn)
      have b5 := (HBW.out.cell (p := ⟨g', o' + i, none⟩) hgB').trans hnc
      have hin : (i : Int) < (ns.length : Int) := by have := HNK.out; omega
      have KJ := Lib.hid hkj; have HK := Lib.hid hk
      have HRK1 := Lib.hid (rightK_get HRK.out hk)
      have HF1 := Lib.hid (fitK_get F.out.2.2.2.2 hk)
      have HN1 : Hid (Cx.nodes k ≤ N) := Lib.hid (by have h1 := HN.out; have h2 := (nodesK_get hk).2; simp only [Cx.nodes] at h1; omega)
      have b0 := (HBW.out.cell (p := ⟨g, o + i * 5, none⟩) hgB).trans d0
      have b1 := (HBW.out.cell (p := ⟨g, o + i * 5 + 1, none⟩) hgB).trans d1
      have b2 := (HBW.out.cell (p := ⟨g, o + i * 5 + 2, none⟩) hgB).trans d2
      have b3 := (HBW.out.cell (p := ⟨g, o + i * 5 + 3, none⟩) hgB).trans d3
      have b4 := (HBW.out.cell (p := ⟨g, o + i * 5 + 4, none⟩) hgB).trans d4
      obtain ⟨x, hx⟩ : ∃ x, x = Cx.pr k := ⟨_, rfl⟩
      have HX := Lib.hid hx
      obtain ⟨jn, hjn⟩ : ∃ jn, jn = Cx.jtext n := ⟨_, rfl⟩
      have HJN := Lib.hid hjn
      rw [← hx, ← hjn] at hacc
      by_cases h0 : i = 0
      · have hz : ¬ ((0 : Int) < (i : Int)) := by omega
        have hacc2 : (acc ++ jn ++ [58] ++ x) ++ (Cx.prK true false (ns.drop (i + 1)) (ks.drop (i + 1)) ++ [125]) = TOT := by
          rw [← hacc]; simp [h0]
        have hal : acc.length + jn.length + 1 + x.length ≤ 140737488355328 := by
          have := congrArg List.length hacc2; have := HTL.out
          simp only [List.length_append, List.length_singleton] at *; omega
        have hxl : x.length ≤ 140737488355328 := by omega
        have HXL := Lib.hid hxl
        have HACC2 := Lib.hid hacc2
        clear hacc HACC hkj hk hdr d0 d1 d2 d3 d4 h0 hx hn hnc hdn hjn hacc2 hxl
        go_wp2_with fail
        have z0 : ¬ 9223372036854775807 < acc.length + jn.length := by omega
        have z1 : ¬ 9223372036854775807 < acc.length + jn.length + 1 := by omega
        have z2 : ¬ 9223372036854775807 < acc.length + jn.length + 1 + x.length := by omega
        have TW : Kp wr wr.drew := Kp.drew0
        go_region_held3 (fun w' => w'.cell? ⟨w.heap.size, 3, none⟩ = some (.slice (some ⟨g', o', none⟩) ns.length nc) ∧ w'.cell? ⟨w.heap.size, 4, none⟩ = some (.slice (some ⟨g, o, none⟩) ks.length kc) ∧ w'.cell? ⟨g', o' + i, none⟩ = some (.string ⟨n.toArray⟩) ∧ w'.cell? ⟨g, o + i * 5, none⟩ = some (.int .i64 k.kind) ∧ w'.cell? ⟨g, o + i * 5 + 1, none⟩ = some (.bool k.is) ∧ w'.cell? ⟨g, o + i * 5 + 2, none⟩ = some (.string ⟨k.text.toArray⟩) ∧ w'.cell? ⟨g, o + i * 5 + 3, none⟩ = some (.slice kb0 k.names.length kb1) ∧ w'.cell? ⟨g, o + i * 5 + 4, none⟩ = some (.slice kb2 k.kids.length kb3)) (exact ⟨Kp.ck ‹Kp wr _› q3, Kp.ck ‹Kp wr _› q4, Kp.ck ‹Kp wr _› b5, Kp.ck ‹Kp wr _› b0, Kp.ck ‹Kp wr _› b1, Kp.ck ‹Kp wr _› b2, Kp.ck ‹Kp wr _› b3, Kp.ck ‹Kp wr _› b4⟩)
          (first
            | (go_at_call 21; refine (jtext2_calls n _ (by omega)).mono ?_; rintro e w6 ⟨rfl, hb⟩; have TW8 := Kp.next ‹Kp wr _› hb; rw [← HJN.out])
            | (go_at_call 40; refine (IH.out k [.int .i64 k.kind, .bool k.is, .string ⟨k.text.toArray⟩, .slice kb0 k.names.length kb1, .slice kb2 k.kids.length kb3] (d + 1) _ _ HN1.out HRK1.out HF1.out (KJ.out.below (HBW.out.trans (Below.mono ‹Kp wr _› HBW.out.size))) (by rw [← HX.out]; exact HXL.out)).mono ?_; rintro e w6 ⟨rfl, hb⟩; have TW8 := Kp.next ‹Kp wr _› hb; rw [← HX.out]))
        have C2 : Hid (Below w.heap.size w _) := Lib.hid (HBW.out.trans (Below.mono ‹Kp wr _› HBW.out.size))
        have C4 := Lib.hid ((Below.block ‹Kp wr _› _ hsz).trans HBX.out)
        clear z0 z1 z2 b0 b1 b2 b3 b4 b5 q0 q1 q2 q3 q4
        go_wp2
        go_roundg (ks.length - (i + 1))
        case measure => have := HQ.out; omega
        case rel =>
          refine ⟨i + 1, acc ++ jn ++ [58] ++ x, congrArg Value.string (app4 acc jn [58] x), by go_num, rfl, by omega, Lib.hid ?_, C2, C4⟩
          rw [← HACC2.out, decide_eq_false (by omega)]
      · have hz : (0 : Int) < (i : Int) := by omega
        have hacc2 : (acc ++ [44] ++ jn ++ [58] ++ x) ++ (Cx.prK true false (ns.drop (i + 1)) (ks.drop (i + 1)) ++ [125]) = TOT := by
          rw [← hacc, decide_eq_false h0]; simp
        have hal : acc.length + 1 + jn.length + 1 + x.length ≤ 140737488355328 := by
          have := congrArg List.length hacc2; have := HTL.out
          simp only [List.length_append, List.length_singleton] at *; omega
        have hxl : x.length ≤ 140737488355328 := by omega
        have HXL := Lib.hid hxl
        have HACC2 := Lib.hid hacc2
        clear hacc HACC hkj hk hdr d0 d1 d2 d3 d4 h0 hx hn hnc hdn hjn hacc2 hxl
        go_wp2_with fail
        have z0 : ¬ 9223372036854775807 < acc.length + 1 := by omega
        have z1 : ¬ 9223372036854775807 < acc.length + 1 + jn.length := by omega
        have z2 : ¬ 9223372036854775807 < acc.length + 1 + jn.length + 1 := by omega
        have z3 : ¬ 9223372036854775807 < acc.length + 1 + jn.length + 1 + x.length := by omega
        have TW : Kp wr wr.drew := Kp.drew0
        go_region_held3 (fun w' => w'.cell? ⟨w.heap.size, 3, none⟩ = some (.slice (some ⟨g', o', none⟩) ns.length nc) ∧ w'.cell? ⟨w.heap.size, 4, none⟩ = some (.slice (some ⟨g, o, none⟩) ks.length kc) ∧ w'.cell? ⟨g', o' + i, none⟩ = some (.string ⟨n.toArray⟩) ∧ w'.cell? ⟨g, o + i * 5, none⟩ = some (.int .i64 k.kind) ∧ w'.cell? ⟨g, o + i * 5 + 1, none⟩ = some (.bool k.is) ∧ w'.cell? ⟨g, o + i * 5 + 2, none⟩ = some (.string ⟨k.text.toArray⟩) ∧ w'.cell? ⟨g, o + i * 5 + 3, none⟩ = some (.slice kb0 k.names.length kb1) ∧ w'.cell? ⟨g, o + i * 5 + 4, none⟩ = some (.slice kb2 k.kids.length kb3)) (exact ⟨Kp.ck ‹Kp wr _› q3, Kp.ck ‹Kp wr _› q4, Kp.ck ‹Kp wr _› b5, Kp.ck ‹Kp wr _› b0, Kp.ck ‹Kp wr _› b1, Kp.ck ‹Kp wr _› b2, Kp.ck ‹Kp wr _› b3, Kp.ck ‹Kp wr _› b4⟩)
          (first
            | (go_at_call 21; refine (jtext2_calls n _ (by omega)).mono ?_; rintro e w6 ⟨rfl, hb⟩; have TW8 := Kp.next ‹Kp wr _› hb; rw [← HJN.out])
            | (go_at_call 40; refine (IH.out k [.int .i64 k.kind, .bool k.is, .string ⟨k.text.toArray⟩, .slice kb0 k.names.length kb1, .slice kb2 k.kids.length kb3] (d + 1) _ _ HN1.out HRK1.out HF1.out (KJ.out.below (HBW.out.trans (Below.mono ‹Kp wr _› HBW.out.size))) (by rw [← HX.out]; exact HXL.out)).mono ?_; rintro e w6 ⟨rfl, hb⟩; have TW8 := Kp.next ‹Kp wr _› hb; rw [← HX.out]))
        have C2 : Hid (Below w.heap.size w _) := Lib.hid (HBW.out.trans (Below.mono ‹Kp wr _› HBW.out.size))
        have C4 := Lib.hid ((Below.block ‹Kp wr _› _ hsz).trans HBX.out)
        clear z0 z1 z2 z3 b0 b1 b2 b3 b4 b5 q0 q1 q2 q3 q4
        go_wp2
        go_roundg (ks.length - (i + 1))
        case measure => have := HQ.out; omega
        case rel =>
          refine ⟨i + 1, acc ++ [44] ++ jn ++ [58] ++ x, congrArg Value.string (app5 acc [44] jn [58] x), by go_num, rfl, by omega, Lib.hid ?_, C2, C4⟩
          rw [← HACC2.out, decide_eq_false (by omega)]
    · have hik : i = ks.length := by omega
      subst hik
      have hltI : ¬ (ks.length : Int) < (ks.length : Int) := by omega
      have hacc := HACC.out
      rw [List.drop_length] at hacc
      unfold Cx.prK at hacc
      rw [List.nil_append] at hacc
      have hal : acc.length + 1 ≤ 140737488355328 := by
        have := congrArg List.length hacc; have := HTL.out
        simp only [List.length_append, List.length_singleton] at *; omega
      have HACC2 := Lib.hid hacc
      clear hacc
      go_wp2_with fail
      go_ret
      exact ⟨by rw [← HACC2.out]; exact ret_str (app_bytes2 acc [125]), HBW.out⟩

theorem text_all : ∀ (N : Nat), TxIH N
  | 0, v, _, _, _, _, h, _, _, _, _ => by have := nodes_pos v; omega
  | N + 1, v, cs, d, w, ok, hN, hr, hf, hj, hlen => by
    cases v with
    | mk k is t ns ks =>
    obtain ⟨a, nc, a', kc, rfl⟩ := hj.shape
    by_cases h5 : k = 5
    · subst h5; exact text_list N (text_all N) is t ns ks a nc a' kc d w ok hN hr hf hj hlen
    by_cases h6 : k = 6
    · subst h6; exact text_object N (text_all N) is t ns ks a nc a' kc d w ok hN hr hf hj hlen
    refine text_leaf k is t ns ks a nc a' kc w ?_ hf
    unfold Cx.right at hr
    by_cases h1 : k = 1
    · exact .inl h1
    by_cases h2 : k = 2
    · exact .inr (.inl h2)
    by_cases h3 : k = 3
    · exact .inr (.inr (.inl h3))
    by_cases h4 : k = 4
    · exact .inr (.inr (.inr h4))
    rw [if_neg h1, if_neg h2, if_neg h3, if_neg h4, if_neg h5, if_neg h6] at hr
    cases hr

set_option maxRecDepth 100000 in
set_option maxHeartbeats 2000000 in
theorem print2_calls (v : Cx.J) (cs : List Value) (w : World) (ok : Nat → Prop) (hj : JAt w ok v cs) (hf : fit 100000 v) :
    Calls Tryz.prog 17 #[.agg cs.toArray] w fun e w' => e = .returned (.string ⟨(Cx.print v).toArray⟩) ∧ Below w.heap.size w w' := by
  cases v with
  | mk k is t ns ks =>
  obtain ⟨a, nc, a', kc, rfl⟩ := hj.shape
  have J := Lib.hid hj.all; have F := Lib.hid hf
  have HB := Lib.hid ((Below.refl w.heap.size w).alloc (Nat.le_refl _) (.cells #[.int .i64 k, .bool is, .string ⟨t.toArray⟩, .slice a ns.length nc, .slice a' ks.length kc] 26))
  have HBX := Lib.hid (heap_alloc_new w (.cells #[.int .i64 k, .bool is, .string ⟨t.toArray⟩, .slice a ns.length nc, .slice a' ks.length kc] 26))
  clear hj hf
  cases hR : Cx.Right (.mk k is t ns ks) with
  | false =>
    have hp : Cx.print (.mk k is t ns ks) = [] := by unfold Cx.print; rw [hR]; rfl
    rw [hp]
    have HR := Lib.hid hR
    clear hR hp
    go_enter Tryz.func17, Tryz.ntmps17
    go_wp2_with fail
    refine (right2_calls (.mk k is t ns ks) [.int .i64 k, .bool is, .string ⟨t.toArray⟩, .slice a ns.length nc, .slice a' ks.length kc] _ _ (J.out.below HB.out) F.out).mono ?_
    rintro e w5 ⟨rfl, hb5⟩
    have HB5 := Lib.hid (HB.out.trans (hb5.mono HB.out.size))
    rw [HR.out]
    clear hb5
    go_wp2
    go_ret
    exact ⟨rfl, HB5.out⟩
  | true =>
    have hp : Cx.print (.mk k is t ns ks) = Cx.pr (.mk k is t ns ks) := by unfold Cx.print; rw [hR]; rfl
    rw [hp]
    have hlen : (Cx.pr (.mk k is t ns ks)).length ≤ 140737488355328 := by
      have h1 := Cx.pr_length 100000 _ F.out
      unfold Cx.Right at hR
      simp only [Bool.and_eq_true, decide_eq_true_eq] at hR
      have h2 := hR.1
      have h3 : (12 * 100000 + 20) * Cx.nodes (.mk k is t ns ks) ≤ (12 * 100000 + 20) * 5000 := Nat.mul_le_mul_left _ h2
      omega
    have hr0 : Cx.right 0 (.mk k is t ns ks) = true := by
      unfold Cx.Right at hR
      simp only [Bool.and_eq_true] at hR
      exact hR.2
    have HL := Lib.hid hlen; have HR0 := Lib.hid hr0
    have HR := Lib.hid hR
    clear hR hp hlen hr0
    go_enter Tryz.func17, Tryz.ntmps17
    go_wp2_with fail
    refine (right2_calls (.mk k is t ns ks) [.int .i64 k, .bool is, .string ⟨t.toArray⟩, .slice a ns.length nc, .slice a' ks.length kc] _ _ (J.out.below HB.out) F.out).mono ?_
    rintro e w5 ⟨rfl, hb5⟩
    have HB5 := Lib.hid (HB.out.trans (hb5.mono HB.out.size))
    obtain ⟨q0, q1, q2, q3, q4, _⟩ := cells5 ((hb5.block _ (by simp)).trans HBX.out)
    rw [HR.out]
    clear hb5
    go_wp2_with fail
    refine (text_all _ (.mk k is t ns ks) [.int .i64 k, .bool is, .string ⟨t.toArray⟩, .slice a ns.length nc, .slice a' ks.length kc] 0 _ _ (Nat.le_refl _) HR0.out F.out (J.out.below HB5.out) HL.out).mono ?_
    rintro e w8 ⟨rfl, hb8⟩
    have HB8 := Lib.hid (HB5.out.trans (hb8.mono HB5.out.size))
    clear hb8
    go_wp2
    go_ret
    exact ⟨rfl, HB8.out⟩
end Go.Proofs.YtbdmepilmoomeaaGreatDoor

