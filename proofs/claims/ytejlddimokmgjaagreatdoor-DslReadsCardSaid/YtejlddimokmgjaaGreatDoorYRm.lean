/- WALKS: is a name there. -/
import Derived.Test.YtejlddimokmgjaaGreatDoorYRl
namespace Go.Proofs.YtejlddimokmgjaaGreatDoor
open Go.RowKit

set_option maxRecDepth 100000 in
theorem has2_calls (sn : Value) (ns : List (List UInt8)) (t : List UInt8) (ok : Nat → Prop) (w : World) (h : Row w ok sn ns.length (ns.map strV)) (hn : ns.length ≤ 200000) :
    Calls Tryz.prog 163 #[sn, .string ⟨t.toArray⟩] w fun e w' => e = .returned (.bool (decide (t ∈ ns))) ∧ w' = w := by
  rcases h with ⟨hz, _, a, cap, rfl⟩ | ⟨hpos, g, o, cap, rfl, _, _, hgl, hc⟩
  · have hns : ns = [] := List.length_eq_zero_iff.1 hz
    subst hns
    rw [show decide (t ∈ ([] : List (List UInt8))) = false by simp]
    go_enter Tryz.func163, Tryz.ntmps163
    go_wp2
    go_loop [5] (fun z => z = .int .i64 0) (fun _ => 0)
    case atStart => rfl
    case round =>
      subst hrel
      go_wp2_with fail
      go_ret
      exact ⟨rfl, rfl⟩
  · obtain ⟨R, hR⟩ : ∃ R, R = decide (t ∈ ns) := ⟨_, rfl⟩
    rw [← hR]
    have HR := Lib.hid hR; have HC := Lib.hid hc
    clear hR hc
    go_enter Tryz.func163, Tryz.ntmps163
    go_wp2
    go_loop [5] (fun z => ∃ i : Nat, z = .int .i64 i ∧ i ≤ ns.length ∧ Hid (t ∉ ns.take i)) (fun z => ns.length - (intOf z).toNat)
    case atStart => exact ⟨0, rfl, Nat.zero_le _, Lib.hid (by simp)⟩
    case round =>
      obtain ⟨i, rfl, hi, HT⟩ := hrel
      rcases Nat.lt_or_ge i ns.length with hlt | hge
      · obtain ⟨n, hnn⟩ : ∃ n, ns[i]? = some n := ⟨ns[i], by simp [hlt]⟩
        have b0 := HC.out i (strV n) (by simp [hnn])
        have hltI : (i : Int) < (ns.length : Int) := by omega
        have HN := Lib.hid hnn
        unfold strV at b0
        clear hnn
        by_cases he : n = t
        · subst he
          have hRt : R = true := by rw [HR.out, decide_eq_true_iff]; exact List.mem_of_getElem? HN.out
          have HRT := Lib.hid hRt
          clear hRt
          go_wp2_with fail
          go_ret
          rw [HRT.out]
          exact ⟨rfl, rfl⟩
        · have heb : (n == t) = false := by simpa using he
          have HE := Lib.hid he
          clear he
          go_wp2_with fail
          go_round
          case rel => exact ⟨i + 1, by go_num, by omega, Lib.hid (by rw [List.take_add_one, HN.out]; simp only [Option.toList_some, List.mem_append, List.mem_singleton, not_or]; exact ⟨HT.out, fun h => HE.out h.symm⟩)⟩
          case measure => simp [intOf]; omega
      · have hik : i = ns.length := by omega
        subst hik
        have hRf : R = false := by
          have := HT.out; rw [List.take_length] at this
          rw [HR.out, decide_eq_false_iff_not]; exact this
        have HRF := Lib.hid hRf
        clear hRf
        go_wp2_with fail
        go_ret
        rw [HRF.out]
        exact ⟨rfl, rfl⟩
/-- .. that was read before a name was appended. -/
theorem PJ.addKid2 {b B : Nat} {kind : Int} {s : ByteArray} {w0 : World} {j j' : Nat} {m e p m' e' p' : Int} {ns : List (List UInt8)} {ks : List Cx.J} {sn sk : Value} {css : List (List Value)} {w wA w3 : World} {k : Cx.J} {c : List Value} {g cap : Nat}
    (h : PJ b B kind s w0 j m e p ns ks sn sk css w) (hb : b < B) (hmv : Mv b w wA) (hrd : R2 b s j' m' e' p' wA) (hk : JAt wA (fun g => B + 2 ≤ g ∧ some g ≠ sn.ownBlock ∧ some g ≠ sk.ownBlock) k c)
    (hown : w3.ownsRow (B + 2) 48 5 (.slice (some ⟨g, 0, none⟩) (ks.length + 1) cap) (ks.length + 1) (css.flatten ++ c)) (hgrow : wA.grownBy w3 sk.ownBlock) (hg : sk.ownBlock = some g ∨ g = wA.heap.size) :
    PJ b B kind s w0 j' m' e' p' ns (ks ++ [k]) sn (.slice (some ⟨g, 0, none⟩) (ks.length + 1) cap) (css ++ [c]) (w3.setCell ⟨B + 1, 4, none⟩ (.slice (some ⟨g, 0, none⟩) (ks.length + 1) cap)) := by
  have hA := h.move hb hmv hrd
  have hsz := h.size; have hszA := hmv.size
  have hlt2 : ∀ k, sk.ownBlock = some k → B + 2 ≤ k ∧ k < w.heap.size := h.own2.lt
  have hlt1 : ∀ k, sn.ownBlock = some k → B + 2 ≤ k ∧ k < w.heap.size := h.own1.lt
  have hgB : B + 2 ≤ g := by
    rcases hg with e | e
    · exact (hlt2 g e).1
    · omega
  have hskip : ∀ k, k < wA.heap.size → some k ≠ sk.ownBlock → k ≠ B + 1 → (w3.setCell ⟨B + 1, 4, none⟩ (.slice (some ⟨g, 0, none⟩) (ks.length + 1) cap)).heap[k]? = wA.heap[k]? := fun k h1 h2 h3 => by
    rw [Below.heap_setCell _ _ _ _ h3]; exact hgrow.block k h1 h2
  have hbox : w3.heap[B + 1]? = some (.cells #[.int .i64 kind, .bool false, .string ⟨#[]⟩, sn, sk] 48 (0, 0)) := by
    rw [hgrow.block (B + 1) (by omega) (fun e => by have := hlt2 _ e.symm; omega)]; exact hA.box
  have hsize : (w3.setCell ⟨B + 1, 4, none⟩ (.slice (some ⟨g, 0, none⟩) (ks.length + 1) cap)).heap.size = w3.heap.size := by simp [World.setCell]
  have hs3 := hgrow.size
  refine ⟨h.base, ?_, ?_, ?_, ?_, ?_, ?_, ?_⟩
  · unfold R2; rw [hskip b (by have := hA.rd.lt; omega) (fun e => by have := hlt2 _ e.symm; omega) (by omega)]; exact hA.rd
  · refine ⟨hgrow.os.trans hA.mv.os, hgrow.tape.trans hA.mv.tape, hgrow.output.trans hA.mv.output, by rw [hsize]; have := hA.mv.size; omega, fun i hi hn => ?_⟩
    have hm0 := hA.mv.size
    have hB0 := h.base
    rw [← hA.mv.block i hi hn]
    exact hskip i (by omega) (fun e => by have := hlt2 _ e.symm; omega) (by omega)
  · rw [hskip B (by omega) (fun e => by have := hlt2 _ e.symm; omega) (by omega)]; exact hA.res
  · simp [World.setCell, Array.getElem?_modify, hbox]
  · refine (hA.own1.kept hgrow ?_).kept (row := some (B + 1)) ⟨rfl, rfl, rfl, by simp [World.setCell], fun k _ hk => Below.heap_setCell _ _ _ _ (fun e => hk (by simp [e]))⟩ ?_
    · rcases hs : sn.ownBlock with _ | x
      · exact .inl rfl
      · right; intro e; exact own_ne h.own1 h.own2 (by decide) hs e.symm
    · right; intro e; have := hlt1 _ e; omega
  · have := hown.kept (w' := w3.setCell ⟨B + 1, 4, none⟩ (.slice (some ⟨g, 0, none⟩) (ks.length + 1) cap)) (row := some (B + 1)) ⟨rfl, rfl, rfl, by simp [World.setCell], fun k _ hk => Below.heap_setCell _ _ _ _ (fun e => hk (by simp [e]))⟩ (by right; simp [Value.ownBlock]; omega)
    simpa using this
  · refine JsAt.snoc ?_ ?_
    · refine JAt.kept (by rw [hsize]; exact hs3) (fun x hx hl => ⟨hskip x hl hx.2.2 (by omega), hx.1, hx.2.1, ?_⟩) _ _ hk
      simp only [Value.ownBlock, ne_eq, Option.some.injEq]
      rintro rfl
      rcases hg with e | e
      · exact hx.2.2 e.symm
      · omega
    · refine JsAt.kept (by rw [hsize]; omega) (fun x hx hl => ⟨?_, hx.1, hx.2.1, ?_⟩) _ _ h.kids
      · rw [hskip x (by omega) hx.2.2 (by omega), hmv.block x hl (by simp; omega)]
      · simp only [Value.ownBlock, ne_eq, Option.some.injEq]
        rintro rfl
        rcases hg with e | e
        · exact hx.2.2 e.symm
        · omega

end Go.Proofs.YtejlddimokmgjaaGreatDoor
