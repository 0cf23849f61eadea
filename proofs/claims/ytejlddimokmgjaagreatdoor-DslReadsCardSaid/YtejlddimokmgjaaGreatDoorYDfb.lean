/- WALKS: codexref21's Bulk. -/
import Derived.Test.YtejlddimokmgjaaGreatDoorYDlf
import Derived.Test.YtejlddimokmgjaaGreatDoorYDfo
import Derived.Test.YtejlddimokmgjaaGreatDoorYDfs
namespace Go.Proofs.YtejlddimokmgjaaGreatDoor
open Go.RowKit

theorem rlines_bulk (s : List UInt8) : Dx.bulkL (Dx.lines s) = Dx.bulkL (Dx.rlines s) := (Dx.bulk_rlines s).symm
theorem rlines_callsL (s : List UInt8) (w : World) (hs : s.length ≤ 1000000) :
    Calls Tryz.prog 43 #[.string ⟨s.toArray⟩] w (LinesPost s w) := by
  have h := rlines_calls ⟨s.toArray⟩ w hs
  rw [show (⟨s.toArray⟩ : ByteArray).data.toList = s by simp] at h
  exact h

set_option maxRecDepth 100000 in
set_option maxHeartbeats 4000000 in
theorem rbulk_calls (s : List UInt8) (w : World) (hs : s.length ≤ 1000000) :
    Calls Tryz.prog 15 #[.string ⟨s.toArray⟩] w (BulkPost s w) := by
  obtain ⟨L, hL⟩ : ∃ L, L = Dx.rlines s := ⟨_, rfl⟩
  have hLn : L.length ≤ 1000001 := by have := Dx.rl_length s []; rw [hL]; unfold Dx.rlines; omega
  have HL := Lib.hid hL; have HS := Lib.hid hs
  clear hL hs
  go_enter Tryz.func15, Tryz.ntmps15
  go_wp2_with fail
  refine (rlines_callsL s _ HS.out).mono ?_
  unfold LinesPost
  rw [← HL.out]
  rintro e w2 ⟨sv, rfl, hrow, hb2⟩
  obtain ⟨la, lc, rfl⟩ := hrow.shape
  have B2 := Lib.hid hb2
  have HROW := Lib.hid (hrow.kept (w' := w2) (ok' := fun g => g < w2.heap.size) (Nat.le_refl _) (fun g _ hl => ⟨rfl, hl⟩))
  have hz0 := hb2.size
  clear hrow hb2
  go_wp2_with fail
  go_loopg [4, 6] (L.length) (fun g y z wr => ∃ (i : Nat) (ops : List Dx.Op), z = .int .i64 i ∧ g = L.length - i ∧ i ≤ L.length ∧ ops.length ≤ i ∧ Hid (wr.ownsRow w2.heap.size 64 3 y ops.length (opsCells ops)) ∧ Hid (Dx.bulkL L = catE ops (Dx.bulkL (L.drop i))) ∧ Hid (Below w2.heap.size w2 wr))
  case atStart => exact ⟨0, [], rfl, rfl, Nat.zero_le _, Nat.le_refl _, Lib.hid (World.ownsRow_nil _ _ _ _), Lib.hid (by simp only [List.drop_zero]; cases Dx.bulkL L <;> rfl), Lib.hid (Below.refl _ _)⟩
  case round =>
    obtain ⟨i, ops, rfl, hq, hi, hol, OWN, BL, hb⟩ := hrel
    have HQ := Lib.hid hq
    clear hq
    rcases Nat.lt_or_ge i L.length with hlt | hge
    · obtain ⟨l, hl⟩ : ∃ l, L[i]? = some l := ⟨L[i], by simp [hlt]⟩
      have hdr : L.drop i = l :: L.drop (i + 1) := by
        rw [List.drop_eq_getElem_cons hlt]; congr 1
        rw [List.getElem?_eq_getElem hlt] at hl; exact Option.some.inj hl
      obtain ⟨lg, lo, rfl, _, hlg, b00⟩ := HROW.out.at_ (i := i) (u := strV l) (by rw [List.getElem?_map, hl]; rfl)
      have b0 : wr.cell? ⟨lg, lo + i, none⟩ = some (.string ⟨l.toArray⟩) := (hb.out.cell (p := ⟨lg, lo + i, none⟩) hlg).trans b00
      have hll : l.length ≤ 1000000 := by
        have h1 := HS.out
        have h2 := Dx.rl_part s [] (l := l) (by have h3 := HL.out; unfold Dx.rlines at h3; rw [← h3]; exact List.mem_of_getElem? hl)
        simp at h2; omega
      have bl := BL.out
      rw [hdr] at bl
      have BL2 := Lib.hid bl; have HLI := Lib.hid hl; have HLL := Lib.hid hll
      clear hdr bl hl BL hll b00
      obtain ⟨ao, no, co, rfl⟩ := own_shape OWN.out
      by_cases hsk : l = [] ∨ l = [13]
      · have bl := BL2.out
        rw [bulkL_skip hsk] at bl
        have BL3 := Lib.hid bl
        clear bl
        rcases hsk with rfl | rfl
        · go_wp2_with fail
          go_roundg (L.length - (i + 1))
          case measure => have := HQ.out; omega
          case rel => exact ⟨i + 1, ops, by go_num, rfl, by omega, by omega, OWN, BL3, hb⟩
        · go_wp2_with fail
          go_roundg (L.length - (i + 1))
          case measure => have := HQ.out; omega
          case rel => exact ⟨i + 1, ops, by go_num, rfl, by omega, by omega, OWN, BL3, hb⟩
      · have hn1 : (l == []) = false := beq_eq_false_iff_ne.2 fun h => hsk (.inl h)
        have hn2 : (l == [13]) = false := beq_eq_false_iff_ne.2 fun h => hsk (.inr h)
        have HSK := Lib.hid hsk
        clear hsk
        go_wp2_with fail
        refine (refParse_callsL l wr (by have := HLL.out; unfold maxLen; omega)).mono ?_
        rintro e w4 ⟨cs, rfl, hj, hb4⟩
        have hz4 := hb4.size
        have hz2 := hb.out.size
        cases hp : Cx.parse l with
        | error er =>
          have hne := Cx.parse_errne hp
          have bl := BL2.out
          rw [bulkL_form HSK.out hp] at bl
          have BE := Lib.hid (bulk_of_error (s := s) (by rw [rlines_bulk, ← HL.out]; exact bl))
          rw [parseT_error hp] at hj ⊢
          obtain ⟨b, nb, b', kb, rfl⟩ := hj.shape
          have hei : ((er.1 : Int) != 0) = true := by rw [bne_iff_ne]; omega
          have HB5 := Lib.hid (show Below w.heap.size w (w4.alloc (.cells #[.int .i64 0, .bool false, .string ⟨#[]⟩, .slice b 0 nb, .slice b' 0 kb] 48)) from by
            have h3 := B2.out.trans ((hb.out.trans (hb4.mono (by omega))).mono (by omega))
            exact h3.alloc h3.size _)
          clear hj hb4 hp hne bl
          simp only
          go_wp2_with fail
          go_ret2
          exact ⟨.slice none 0 0, by rw [BE.out.1]; rfl, by rw [BE.out.2]; exact .inl ⟨rfl, rfl, none, 0, rfl⟩, HB5.out⟩
        | ok v =>
          have HP := Lib.hid hp
          have F := Lib.hid (to_maxLen (parse_fits hp)); have HRT := Lib.hid (Dx.Rt.parse hp)
          rw [parseT_ok hp] at hj ⊢
          simp only at hj ⊢
          clear hp
          obtain ⟨V, hV⟩ : ∃ V, V = v := ⟨_, rfl⟩
          cases v with
          | mk k is t ns ks =>
          obtain ⟨a, nc, a', kc, rfl⟩ := hj.shape
          rw [← hV] at hj HP F HRT
          clear hV
          obtain ⟨W5, hW5⟩ : ∃ W5, W5 = w4.alloc (.cells #[.int .i64 k, .bool is, .string ⟨t.toArray⟩, .slice a ns.length nc, .slice a' ks.length kc] 48) := ⟨_, rfl⟩
          have b45 : Below w4.heap.size w4 W5 := by rw [hW5]; exact (Below.refl _ _).alloc (Nat.le_refl _) _
          have HB5 := Lib.hid (hb4.trans (b45.mono (by omega)))
          have J5 := Lib.hid ((hj.all.below b45).all)
          have BX5 := Lib.hid (show W5.heap[w4.heap.size]? = some (.cells #[.int .i64 k, .bool is, .string ⟨t.toArray⟩, .slice a ns.length nc, .slice a' ks.length kc] 48 (0, 0)) by rw [hW5]; exact heap_alloc_new w4 _)
          have hz5 := b45.size
          have HW5 := Lib.hid hW5
          clear hj hb4 hW5 b45 b0
          go_upto_region 8 with fail
          rw [← HW5.out]
          obtain ⟨q0, q1, q2, q3, q4, _⟩ := cells5 BX5.out
          go_wp2_with fail
          refine (rop_calls V [.int .i64 k, .bool is, .string ⟨t.toArray⟩, .slice a ns.length nc, .slice a' ks.length kc] W5 _ J5.out F.out HRT.out).mono ?_
          rintro e w6 ⟨o, rfl, hop, hb6⟩
          have hz6 := hb6.size
          obtain ⟨ob, hob⟩ : ∃ ob, ob = (Dx.op V).isSome := ⟨_, rfl⟩
          rw [← hob]
          have HOP := Lib.hid hop; have HOB := Lib.hid hob
          have HB6 := Lib.hid (HB5.out.trans (hb6.mono (by omega)))
          clear q0 q1 q2 q3 q4 hb6 hop hob
          cases ob with
          | false =>
            have bl := BL2.out
            rw [bulkL_none HSK.out HP.out (isSome_false HOB.out)] at bl
            have BE := Lib.hid (bulk_of_error (s := s) (by rw [rlines_bulk, ← HL.out]; exact bl))
            have HB7 := Lib.hid (show Below w.heap.size w (w6.alloc (.cells #[.bool o.del, .string ⟨o.id.toArray⟩, .string ⟨o.text.toArray⟩] 64)) from by
              have h3 := B2.out.trans ((hb.out.trans (HB6.out.mono (by omega))).mono (by omega))
              exact h3.alloc h3.size _)
            clear bl
            go_wp2_with fail
            go_ret2
            exact ⟨.slice none 0 0, by rw [BE.out.1]; rfl, by rw [BE.out.2]; exact .inl ⟨rfl, rfl, none, 0, rfl⟩, HB7.out⟩
          | true =>
            obtain ⟨oo, hoo⟩ : ∃ oo, Dx.op V = some oo := Option.isSome_iff_exists.1 HOB.out.symm
            have HOO := Lib.hid (show Dx.op V = some o by rw [HOP.out oo hoo]; exact hoo)
            have bl := BL2.out
            rw [bulkL_some HSK.out HP.out HOO.out ops] at bl
            have BL3 := Lib.hid bl
            obtain ⟨i0, hi0, hz0, hz1, hz7⟩ := info_parts infoOp
            obtain ⟨W7, hW7⟩ : ∃ W7, W7 = w6.alloc (.cells #[.bool o.del, .string ⟨o.id.toArray⟩, .string ⟨o.text.toArray⟩] 64) := ⟨_, rfl⟩
            have b67 : Below w6.heap.size w6 W7 := by rw [hW7]; exact (Below.refl _ _).alloc (Nat.le_refl _) _
            have HB7 := Lib.hid (HB6.out.trans (b67.mono (by omega)))
            have BO7 := Lib.hid (show W7.heap[w6.heap.size]? = some (.cells #[.bool o.del, .string ⟨o.id.toArray⟩, .string ⟨o.text.toArray⟩] 64 (0, 0)) by rw [hW7]; exact heap_alloc_new w6 _)
            have OWN7 := Lib.hid (ownsRow_below OWN.out HB7.out)
            have hz8 := b67.size
            have HW7 := Lib.hid hW7
            clear bl hoo hW7 b67
            go_upto_region 11 with fail
            rw [← HW7.out]
            obtain ⟨q0, q1, q2, _⟩ := cells3 BO7.out
            have OWN8 := Lib.hid (OWN7.out.alloc (.cells #[.bool o.del, .string ⟨o.id.toArray⟩, .string ⟨o.text.toArray⟩] 64))
            have JO := Lib.hid (show ∀ u ∈ [Value.bool o.del, .string ⟨o.id.toArray⟩, .string ⟨o.text.toArray⟩], u.oneCell' = true from by
              intro u hu; simp only [List.mem_cons, List.not_mem_nil, or_false] at hu; rcases hu with rfl | rfl | rfl <;> rfl)
            have NEWS := Lib.hid (World.news_of_block (cs := #[.bool o.del, .string ⟨o.id.toArray⟩, .string ⟨o.text.toArray⟩]) (t := 64) (fr := (0, 0)) (heap_alloc_new W7 (.cells #[.bool o.del, .string ⟨o.id.toArray⟩, .string ⟨o.text.toArray⟩] 64)))
            have hz9 := HB7.out.size
            have SZ := Lib.hid (show w2.heap.size ≤ (W7.alloc (.cells #[.bool o.del, .string ⟨o.id.toArray⟩, .string ⟨o.text.toArray⟩] 64)).heap.size by simp; omega)
            go_wp2_with (at_builtin; refine wpList_append_lies _ rfl _ _ 31 rfl (w2.heap.size) 64 i0 _ 3 40 Tryz.underlying31 hi0 hz0 hz1 hz7 rfl (by decide) (.slice ao no co) ops.length (opsCells ops) rfl OWN8.out ⟨W7.heap.size, 0, none⟩ 1 1 [.bool o.del, .string ⟨o.id.toArray⟩, .string ⟨o.text.toArray⟩] rfl rfl NEWS.out JO.out (by decide) (by unfold maxLen; omega) (by omega) SZ.out (W7.heap.size + 1) (by simp) ?_; intro gg cap w9 hown9 hgrow9 hat9 hlt9)
            have OWN9 := Lib.hid (show w9.ownsRow w2.heap.size 64 3 (.slice (some ⟨gg, 0, none⟩) (ops.length + 1) cap) (ops ++ [o]).length (opsCells (ops ++ [o])) from by
              rw [opsCells_snoc, List.length_append]
              exact hown9)
            have HB9 := Lib.hid (show Below w2.heap.size w2 w9 from by
              have h1 : Below w2.heap.size w2 (W7.alloc (.cells #[.bool o.del, .string ⟨o.id.toArray⟩, .string ⟨o.text.toArray⟩] 64)) := (hb.out.trans (HB7.out.mono (by omega))).alloc (by omega) _
              exact h1.grown hgrow9 h1.size (fun g hg => (OWN.out.lt g hg).1))
            clear hown9 hgrow9 hat9 hlt9 q0 q1 q2 OWN8 JO NEWS SZ hi0 hz0 hz1 hz7 hz8 hz9
            go_wp2_with fail
            go_roundg (L.length - (i + 1))
            case measure => have := HQ.out; omega
            case rel => exact ⟨i + 1, ops ++ [o], by go_num, rfl, by omega, by rw [List.length_append]; simp; omega, OWN9, BL3, HB9⟩
    · have hik : i = L.length := by omega
      subst hik
      have bl := BL.out
      rw [List.drop_length] at bl
      have BE := Lib.hid (bulk_of_ok (s := s) (l := ops) (by rw [rlines_bulk, ← HL.out, bl]; simp [catE, Dx.bulkL]))
      have HB3 := Lib.hid (B2.out.trans (hb.out.mono (by omega)))
      clear bl BL
      go_wp2_with fail
      go_ret2
      exact ⟨_, by rw [BE.out.1]; rfl, by rw [BE.out.2]; exact Row.of_own OWN.out (fun g hg => by have := (OWN.out.lt g hg).1; omega), HB3.out⟩
end Go.Proofs.YtejlddimokmgjaaGreatDoor
