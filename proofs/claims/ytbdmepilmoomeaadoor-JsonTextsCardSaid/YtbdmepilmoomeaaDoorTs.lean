/- WALKS: the law JsonTexts. -/
import Derived.Test.YtbdmepilmoomeaaDoorSh
import Derived.Test.YtbdmepilmoomeaaDoorCxTexts
namespace Go.Proofs.YtbdmepilmoomeaaDoor
open Go.RowKit

set_option maxRecDepth 100000 in
set_option maxHeartbeats 2000000 in
theorem texts_calls (t : List UInt8) (w : World) (hg : Glb w) (h8 : 8 ≤ w.heap.size) (htl : t.length ≤ maxLen) :
    Calls Tryd.prog 5 #[.string ⟨t.toArray⟩] w fun e w' => e = .returned (.bool true) ∧ Below w.heap.size w w' := by
  unfold maxLen at htl
  have HG := Lib.hid hg
  clear hg
  by_cases hl : t.length ≤ 3000
  · have hl1 : ¬ (3000 : Int) < (t.length : Int) := by omega
    obtain ⟨T, hT⟩ : ∃ T : ByteArray, T = ⟨(Cx.jtext t).toArray⟩ := ⟨_, rfl⟩
    have hTl : T.data.toList = Cx.jtext t := by rw [hT]
    have hTs : T.size = (Cx.jtext t).length := by rw [hT]; simp [ByteArray.size]
    have h1 := Cx.jtext_length t
    have h2 := Cx.esc_length t
    have h3 : (Cx.jtext t).length = (Cx.esc t).length + 2 := by simp [Cx.jtext]
    have hTm : T.size ≤ 100000 := by omega
    have hTm2 : t.length + 2 ≤ T.size := by omega
    have HT := Lib.hid hT; have HTL := Lib.hid hTl
    have HTS := Lib.hid hTs
    clear hT hTl h1 h2 h3 hTs
    go_enter Tryd.func5, Tryd.ntmps5
    go_wp2_with fail
    refine (shown_calls _ HG.out h8).mono ?_
    rintro e w1 ⟨rfl, hb⟩
    have B1 := Lib.hid hb
    clear hb
    go_wp2_with fail
    refine (jtext_calls ⟨t.toArray⟩ _ (by simp [ByteArray.size]; omega)).mono ?_
    rintro e w2 ⟨rfl, hb⟩
    rw [show (⟨t.toArray⟩ : ByteArray).data.toList = t by simp, ← HT.out]
    have B2 := Lib.hid (B1.out.trans (hb.mono B1.out.size))
    clear hb
    go_wp2_with fail
    go_loop [5] (fun z => ∃ i : Nat, z = .int .i64 i ∧ i ≤ T.size) (fun z => T.size - (intOf z).toNat)
    case atStart => exact ⟨0, rfl, Nat.zero_le _⟩
    case round =>
      obtain ⟨i, rfl, hi⟩ := hrel
      rcases Nat.lt_or_ge i T.size with hlt | hge
      · have hc : ¬ ((T[i].toNat : Int) < 32) := by
          have h := Cx.jtext_printable t T[i] (by rw [← HTL.out]; exact List.getElem_mem (show i < T.data.toList.length from hlt))
          rw [UInt8.le_iff_toNat_le] at h
          simp at h; omega
        go_wp2_with fail
        go_round
        case rel => exact ⟨i + 1, by go_num, by omega⟩
        case measure => simp [intOf]; omega
      · have hik : i = T.size := by omega
        subst hik
        go_wp2_with fail
        refine (parse_calls T _ (HG.out.below B2.out) (Nat.le_trans h8 B2.out.size)).mono ?_
        rintro e w3 ⟨cs, rfl, hj, hb⟩
        have B3 := Lib.hid (B2.out.trans (hb.mono B2.out.size))
        clear hb
        have hpt := Cx.parse_text t (by rw [← HTL.out]; exact hTm)
        rw [← HTL.out] at hpt
        have hb0 : ((T[0]'(by omega)).toNat : Int) = 34 := by
          have h0 : T.data.toList[0]? = some 34 := by rw [HTL.out]; rfl
          have h1 : T.data.toList[0]? = some (T[0]'(by omega)) := List.getElem?_eq_getElem (show 0 < T.data.toList.length from by show 0 < T.size; omega)
          rw [h1] at h0
          injection h0 with h0
          rw [h0]; rfl
        have hb1 : ((T[T.size - 1]'(by omega)).toNat : Int) = 34 := by
          have h0 : T.data.toList[T.size - 1]? = some 34 := by
            have hs : T.size = (34 :: Cx.esc t).length + 1 := by rw [HTS.out]; simp [Cx.jtext]
            rw [HTL.out, hs]
            show ((34 :: Cx.esc t) ++ [34])[(34 :: Cx.esc t).length]? = some 34
            simp
          have h1 : T.data.toList[T.size - 1]? = some (T[T.size - 1]'(by omega)) := List.getElem?_eq_getElem (show T.size - 1 < T.data.toList.length from by show T.size - 1 < T.size; omega)
          rw [h1] at h0
          injection h0 with h0
          rw [h0]; rfl
        generalize hgP : parseT T.data.toList = P at hj ⊢
        obtain ⟨v, er, pp⟩ := P
        have hcase : (v = .mk 4 false t [] [] ∧ er = 0) ∨ (v = .mk 0 false [] [] [] ∧ er = 17) := by
          unfold parseT at hgP
          rcases hpt with h | ⟨q, h⟩
          · rw [h] at hgP; injection hgP with h1 h2; injection h2 with h2 h3; exact .inl ⟨h1.symm, h2.symm⟩
          · rw [h] at hgP; injection hgP with h1 h2; injection h2 with h2 h3; exact .inr ⟨h1.symm, h2.symm⟩
        simp only at hj ⊢
        have hf : fit maxLen v := by
          rcases hcase with ⟨rfl, _⟩ | ⟨rfl, _⟩
          · exact Cx.fit_leaf (by unfold maxLen; omega)
          · exact Cx.fit_leaf (by simp)
        clear hpt hgP
        cases v with
        | mk k is x ns ks =>
        have HC := Lib.hid hcase
        clear hcase
        obtain ⟨a, nc, a', kc, rfl⟩ := hj.shape
        have J3 := Lib.hid (hj.all.below ((Below.refl w3.heap.size w3).alloc (Nat.le_refl _) (.cells #[.int .i64 k, .bool is, .string ⟨x.toArray⟩, .slice a ns.length nc, .slice a' ks.length kc] 25)))
        have HF := Lib.hid hf
        have B4 := Lib.hid (B3.out.alloc B3.out.size (.cells #[.int .i64 k, .bool is, .string ⟨x.toArray⟩, .slice a ns.length nc, .slice a' ks.length kc] 25))
        have HB0 := Lib.hid hb0; have HB1 := Lib.hid hb1
        clear hj hf hb0 hb1
        go_wp2_with fail
        refine (same_calls _ (.mk k is x ns ks) (.mk 4 false t [] []) [.int .i64 k, .bool is, .string ⟨x.toArray⟩, .slice a ns.length nc, .slice a' ks.length kc] [.int .i64 4, .bool false, .string ⟨t.toArray⟩, .slice none 0 0, .slice none 0 0] _ _ (Nat.le_refl _) J3.out JAt.plain HF.out (Cx.fit_leaf (by unfold maxLen; omega))).mono ?_
        rintro e w5 ⟨r, rfl, hr, hb⟩
        have B5 := Lib.hid (B4.out.trans (hb.mono B4.out.size))
        have HRC : Hid ((r = true ∧ er = 0) ∨ er = 17) := Lib.hid (by
          rcases HC.out with ⟨h1, h2⟩ | ⟨h1, h2⟩
          · exact .inl ⟨hr.2 h1, h2⟩
          · exact .inr h2)
        clear hb hr HC
        have hb0 : (((T[0]'(by omega)).toNat : Int) == 34) = true := by rw [HB0.out]; rfl
        have hb1 : (((T[T.size - 1]'(by omega)).toNat : Int) == 34) = true := by rw [HB1.out]; rfl
        rcases HRC.out with ⟨h1, h2⟩ | h2
        · subst h1; subst h2
          go_wp2_with fail
          go_ret
          exact ⟨rfl, B5.out⟩
        · subst h2
          cases r
          · go_wp2_with fail
            go_ret
            exact ⟨rfl, B5.out⟩
          · go_wp2_with fail
            go_ret
            exact ⟨rfl, B5.out⟩
  · have hl1 : (3000 : Int) < (t.length : Int) := by omega
    go_enter Tryd.func5, Tryd.ntmps5
    go_wp2_with fail
    refine (shown_calls _ HG.out h8).mono ?_
    rintro e w1 ⟨rfl, hb⟩
    have B1 := Lib.hid hb
    clear hb
    go_wp2
    go_ret
    exact ⟨rfl, B1.out⟩
end Go.Proofs.YtbdmepilmoomeaaDoor
