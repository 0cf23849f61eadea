/- WALKS: Text, of dsl and of codexref21. -/
import Derived.Test.YtejlddimokmgjaaGreatDoorYDfs
namespace Go.Proofs.YtejlddimokmgjaaGreatDoor
open Go.RowKit

def txtE (s : List UInt8) : Nat := match Dx.textB s with | .ok _ => 0 | .error n => n
def txtT (s : List UInt8) : List UInt8 := match Dx.textB s with | .ok t => t | .error _ => []
/-- What 'Text' answers. -/
def TxtPost (s : List UInt8) (w : World) (e : Ending) (w' : World) : Prop :=
  e = .returned (.tuple #[.string ⟨(txtT s).toArray⟩, .int .i64 (txtE s : Nat)]) ∧ Below w.heap.size w w'
theorem txt_form {s : List UInt8} {e : Nat × Nat} (h : Cx.parse s = .error e) : txtT s = [] ∧ txtE s = 7 := by
  unfold txtT txtE Dx.textB; rw [h]; exact ⟨rfl, rfl⟩
theorem txt_ok {s : List UInt8} {v : Cx.J} (h : Cx.parse s = .ok v) (hk : v.kind = 4) : txtT s = v.text ∧ txtE s = 0 := by
  unfold txtT txtE Dx.textB; rw [h]; simp only; rw [if_pos hk]; exact ⟨rfl, rfl⟩
theorem txt_query {s : List UInt8} {k : Int} {is : Bool} {t : List UInt8} {ns : List (List UInt8)} {ks : List Cx.J} (h : Cx.parse s = .ok (.mk k is t ns ks)) (hk : k ≠ 4) : txtT s = [] ∧ txtE s = 18 := by
  unfold txtT txtE Dx.textB; rw [h]; simp only; rw [if_neg (show ¬ (Cx.J.mk k is t ns ks).kind = 4 from hk)]; exact ⟨rfl, rfl⟩

set_option maxRecDepth 100000 in
set_option maxHeartbeats 4000000 in
theorem rtextB_calls (s : List UInt8) (w : World) (hs : s.length ≤ maxLen) :
    Calls Tryz.prog 17 #[.string ⟨s.toArray⟩] w (TxtPost s w) := by
  have PC := Lib.hid (refParse_callsL s w hs)
  clear hs
  go_enter Tryz.func17, Tryz.ntmps17
  go_wp2_with fail
  refine PC.out.mono ?_
  rintro e w1 ⟨cs, rfl, hj, hb⟩
  cases hp : Cx.parse s with
  | error er =>
    have hne := Cx.parse_errne hp
    have ST := Lib.hid (txt_form hp)
    rw [parseT_error hp] at hj ⊢
    obtain ⟨b, nb, b', kb, rfl⟩ := hj.shape
    have hei : ((er.1 : Int) != 0) = true := by rw [bne_iff_ne]; omega
    have HB2 := Lib.hid (hb.alloc hb.size (.cells #[.int .i64 0, .bool false, .string ⟨#[]⟩, .slice b 0 nb, .slice b' 0 kb] 48))
    clear hj hb hp hne PC
    simp only
    go_wp2_with fail
    go_ret2
    exact ⟨by rw [ST.out.1, ST.out.2]; rfl, HB2.out⟩
  | ok v =>
    have HP := Lib.hid hp
    rw [parseT_ok hp] at hj ⊢
    simp only at hj ⊢
    clear hp
    cases v with
    | mk k is t ns ks =>
    obtain ⟨a, nc, a', kc, rfl⟩ := hj.shape
    obtain ⟨W2, hW2⟩ : ∃ W2, W2 = w1.alloc (.cells #[.int .i64 k, .bool is, .string ⟨t.toArray⟩, .slice a ns.length nc, .slice a' ks.length kc] 48) := ⟨_, rfl⟩
    have HB2 := Lib.hid (show Below w.heap.size w W2 by rw [hW2]; exact hb.alloc hb.size _)
    have BV2 := Lib.hid (show W2.heap[w1.heap.size]? = some (.cells #[.int .i64 k, .bool is, .string ⟨t.toArray⟩, .slice a ns.length nc, .slice a' ks.length kc] 48 (0, 0)) by rw [hW2]; exact heap_alloc_new w1 _)
    have HW2 := Lib.hid hW2
    clear hj hb hW2 PC
    go_upto_region 2 with fail
    rw [← HW2.out]
    obtain ⟨q0, q1, q2, q3, q4, _⟩ := cells5 BV2.out
    clear HW2
    by_cases h4 : k = 4
    · subst h4
      have ST := Lib.hid (txt_ok HP.out rfl)
      go_wp2_with fail
      go_ret2
      exact ⟨by rw [ST.out.1, ST.out.2]; rfl, HB2.out⟩
    · have hk : (k != 4) = true := bne_iff_ne.2 h4
      have ST := Lib.hid (txt_query HP.out h4)
      clear h4
      go_wp2_with fail
      go_ret2
      exact ⟨by rw [ST.out.1, ST.out.2]; rfl, HB2.out⟩

set_option maxRecDepth 100000 in
set_option maxHeartbeats 4000000 in
theorem dtextB_calls (s : List UInt8) (w : World) (hg : Glb w) (h8 : 8 ≤ w.heap.size) :
    Calls Tryz.prog 16 #[.string ⟨s.toArray⟩] w (TxtPost s w) := by
  have PC := Lib.hid (parse_callsL s w hg h8)
  clear hg h8
  go_enter Tryz.func16, Tryz.ntmps16
  go_wp2_with fail
  refine PC.out.mono ?_
  rintro e w1 ⟨cs, rfl, hj, hb⟩
  cases hp : Cx.parse s with
  | error er =>
    have hne := Cx.parse_errne hp
    have ST := Lib.hid (txt_form hp)
    rw [parseT_error hp] at hj ⊢
    obtain ⟨b, nb, b', kb, rfl⟩ := hj.shape
    have hei : ((er.1 : Int) != 0) = true := by rw [bne_iff_ne]; omega
    have HB2 := Lib.hid (hb.alloc hb.size (.cells #[.int .i64 0, .bool false, .string ⟨#[]⟩, .slice b 0 nb, .slice b' 0 kb] 48))
    clear hj hb hp hne PC
    simp only
    go_wp2_with fail
    go_ret2
    exact ⟨by rw [ST.out.1, ST.out.2]; rfl, HB2.out⟩
  | ok v =>
    have HP := Lib.hid hp
    rw [parseT_ok hp] at hj ⊢
    simp only at hj ⊢
    clear hp
    cases v with
    | mk k is t ns ks =>
    obtain ⟨a, nc, a', kc, rfl⟩ := hj.shape
    obtain ⟨W2, hW2⟩ : ∃ W2, W2 = w1.alloc (.cells #[.int .i64 k, .bool is, .string ⟨t.toArray⟩, .slice a ns.length nc, .slice a' ks.length kc] 48) := ⟨_, rfl⟩
    have HB2 := Lib.hid (show Below w.heap.size w W2 by rw [hW2]; exact hb.alloc hb.size _)
    have BV2 := Lib.hid (show W2.heap[w1.heap.size]? = some (.cells #[.int .i64 k, .bool is, .string ⟨t.toArray⟩, .slice a ns.length nc, .slice a' ks.length kc] 48 (0, 0)) by rw [hW2]; exact heap_alloc_new w1 _)
    have HW2 := Lib.hid hW2
    clear hj hb hW2 PC
    go_upto_region 3 with fail
    rw [← HW2.out]
    obtain ⟨q0, q1, q2, q3, q4, _⟩ := cells5 BV2.out
    clear HW2
    by_cases h4 : k = 4
    · subst h4
      have ST := Lib.hid (txt_ok HP.out rfl)
      go_wp2_with fail
      go_ret2
      exact ⟨by rw [ST.out.1, ST.out.2]; rfl, HB2.out⟩
    · have hk : (k != 4) = true := bne_iff_ne.2 h4
      have ST := Lib.hid (txt_query HP.out h4)
      clear h4
      go_wp2_with fail
      go_ret2
      exact ⟨by rw [ST.out.1, ST.out.2]; rfl, HB2.out⟩
end Go.Proofs.YtejlddimokmgjaaGreatDoor
