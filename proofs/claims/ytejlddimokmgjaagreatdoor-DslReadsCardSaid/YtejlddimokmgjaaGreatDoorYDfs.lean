/- WALKS: codexref21's Search. -/
import Derived.Test.YtejlddimokmgjaaGreatDoorYDee
import Derived.Test.YtejlddimokmgjaaGreatDoorYRp
namespace Go.Proofs.YtejlddimokmgjaaGreatDoor
open Go.RowKit

theorem refParse_callsL (s : List UInt8) (w : World) (hs : s.length ≤ maxLen) : Calls Tryz.prog 38 #[.string ⟨s.toArray⟩] w fun e w' =>
    ∃ cs : List Value, e = .returned (.tuple #[.agg cs.toArray, .int .i64 ((parseT s).2.1 : Nat), .int .i64 ((parseT s).2.2 : Nat)]) ∧ JAt w' (fun g => w.heap.size ≤ g) (parseT s).1 cs ∧ Below w.heap.size w w' := by
  have h := refParse_calls ⟨s.toArray⟩ w hs
  unfold PRet at h
  rw [show (⟨s.toArray⟩ : ByteArray).data.toList = s by simp] at h
  exact h
theorem search_only {s : List UInt8} {v : Cx.J} (h : Cx.parse s = .ok v) (hf : Dx.only v [Dx.tQuery, Dx.tFrom, Dx.tSize] = false) : Dx.search s = .error 18 := search_flag h (by rw [hf]; rfl)
theorem search_from {s : List UInt8} {v : Cx.J} (h : Cx.parse s = .ok v) (hf : (Dx.number v Dx.tFrom 0 10000).isSome = false) : Dx.search s = .error 18 := search_flag h (by rw [hf]; simp)
theorem search_size {s : List UInt8} {v : Cx.J} (h : Cx.parse s = .ok v) (hf : (Dx.number v Dx.tSize 10 100).isSome = false) : Dx.search s = .error 18 := search_flag h (by rw [hf]; simp)

set_option maxRecDepth 100000 in
set_option maxHeartbeats 4000000 in
theorem rsearch_calls (s : List UInt8) (w : World) (hs : s.length ≤ maxLen) :
    Calls Tryz.prog 14 #[.string ⟨s.toArray⟩] w (SearchPost s w) := by
  obtain ⟨W, hW⟩ : ∃ W, W = w.alloc (.cells #[.int .i64 0, .string ⟨#[]⟩, .slice none 0 0, .slice none 0 0, .slice none 0 0] 26) := ⟨_, rfl⟩
  have HB0 := Lib.hid (show Below w.heap.size w W by rw [hW]; exact (Below.refl w.heap.size w).alloc (Nat.le_refl _) _)
  have BR0 := Lib.hid (show W.heap[w.heap.size]? = some (.cells #[.int .i64 0, .string ⟨#[]⟩, .slice none 0 0, .slice none 0 0, .slice none 0 0] 26 (0, 0)) by rw [hW]; exact heap_alloc_new w _)
  have hWs : w.heap.size + 1 = W.heap.size := by rw [hW]; simp
  have hWs2 : w.heap.size + 1 ≤ W.heap.size := by omega
  have HWS := Lib.hid hWs
  have HW := Lib.hid hW
  have HS := Lib.hid hs
  clear hW hWs hs
  go_enter Tryz.func14, Tryz.ntmps14
  go_wp2_with fail
  rw [← HW.out]
  refine (refParse_callsL s W HS.out).mono ?_
  rintro e w1 ⟨cs, rfl, hj, hb⟩
  have hs1 := hb.size
  have HB1 := Lib.hid (HB0.out.trans (hb.mono (by omega)))
  have BR1 := Lib.hid ((hb.block _ (by omega)).trans BR0.out)
  have l1 : w.heap.size < w1.heap.size := by omega
  have l2 : w.heap.size ≠ w1.heap.size := by omega
  cases hp : Cx.parse s with
  | error er =>
    have hne := Cx.parse_errne hp
    have ST0 := Lib.hid (search_form hp)
    rw [parseT_error hp] at hj ⊢
    obtain ⟨b, nb, b', kb, rfl⟩ := hj.shape
    have hei : ((er.1 : Int) != 0) = true := by rw [bne_iff_ne]; omega
    clear hj hb hp hne
    simp only
    obtain ⟨W2, hW2⟩ : ∃ W2, W2 = w1.alloc (.cells #[.int .i64 0, .bool false, .string ⟨#[]⟩, .slice b 0 nb, .slice b' 0 kb] 48) := ⟨_, rfl⟩
    have HB2 := Lib.hid (show Below w.heap.size w W2 by rw [hW2]; exact HB1.out.alloc HB1.out.size _)
    have BR2 := Lib.hid (show W2.heap[w.heap.size]? = some (.cells #[.int .i64 0, .string ⟨#[]⟩, .slice none 0 0, .slice none 0 0, .slice none 0 0] 26 (0, 0)) by rw [hW2, Below.heap_alloc _ _ _ l1]; exact BR1.out)
    have HW2 := Lib.hid hW2
    clear hW2
    go_upto_region 2 with fail
    rw [← HW2.out]
    have ST := Lib.hid (searchT_error (ST0.out))
    obtain ⟨p0, p1, p2, p3, p4, pf⟩ := cells5 BR2.out
    have pf0 := pf 0; have pf1 := pf 1; have pf2 := pf 2; have pf3 := pf 3; have pf4 := pf 4
    clear pf
    have FIN := Lib.hid (search_fin (Q := .mk 0 [] [] [] []) HB2.out BR2.out QyAt.plain)
    go_wp2_with fail
    obtain ⟨fq, zb, fb⟩ := FIN.out
    obtain ⟨z0, z1, z2, z3, z4, _⟩ := cells5 zb
    exact bodyPost_ret (v := .tuple #[.agg #[.int .i64 0, .string ⟨#[]⟩, .slice none 0 0, .slice none 0 0, .slice none 0 0], .int .i64 0, .int .i64 0, .int .i64 7]) (by simp [results, Tryz.results14, go_sem, z0, z1, z2, z3, z4]) rfl ⟨_, by rw [ST.out]; rfl, by rw [ST.out]; exact fq, fb⟩
  | ok v =>
    have HP := Lib.hid hp
    have F := Lib.hid (parse_fits hp); have HRT := Lib.hid (Dx.Rt.parse hp); have HND := Lib.hid (parse_nodes hp)
    rw [parseT_ok hp] at hj ⊢
    simp only at hj ⊢
    clear hp
    obtain ⟨V, hV⟩ : ∃ V, V = v := ⟨_, rfl⟩
    cases v with
    | mk k is t ns ks =>
    obtain ⟨a, nc, a', kc, rfl⟩ := hj.shape
    rw [← hV] at hj HP F HRT HND
    clear hV
    obtain ⟨W2, hW2⟩ : ∃ W2, W2 = w1.alloc (.cells #[.int .i64 k, .bool is, .string ⟨t.toArray⟩, .slice a ns.length nc, .slice a' ks.length kc] 48) := ⟨_, rfl⟩
    have b12 : Below w1.heap.size w1 W2 := by rw [hW2]; exact (Below.refl _ _).alloc (Nat.le_refl _) _
    have HB2 := Lib.hid (HB1.out.trans (b12.mono (by omega)))
    have BR2 := Lib.hid ((b12.block _ l1).trans BR1.out)
    have BV2 := Lib.hid (show W2.heap[w1.heap.size]? = some (.cells #[.int .i64 k, .bool is, .string ⟨t.toArray⟩, .slice a ns.length nc, .slice a' ks.length kc] 48 (0, 0)) by rw [hW2]; exact heap_alloc_new w1 _)
    have J2 := Lib.hid ((hj.all.below b12).all)
    have hz2 : w1.heap.size < W2.heap.size := by rw [hW2]; simp
    have HW2 := Lib.hid hW2
    clear hj hb hW2 b12
    go_upto_region 2 with fail
    rw [← HW2.out]
    obtain ⟨q0, q1, q2, q3, q4, _⟩ := cells5 BV2.out
    clear HW2
    go_wp2_with fail
    refine (show Calls Tryz.prog 39 #[.agg #[.int .i64 k, .bool is, .string ⟨t.toArray⟩, .slice a ns.length nc, .slice a' ks.length kc], .string ⟨#[113, 117, 101, 114, 121]⟩] _ _ from get2_calls V [.int .i64 k, .bool is, .string ⟨t.toArray⟩, .slice a ns.length nc, .slice a' ks.length kc] Dx.tQuery W2 _ J2.out (to_maxLen F.out)).mono ?_
    rintro e x3 ⟨cs8, rfl, hj8, hb⟩
    have hz3 := hb.size
    have HB3 := Lib.hid (HB2.out.trans (hb.mono (by omega)))
    have BR3 := Lib.hid ((hb.block _ (heap_lt BR2.out)).trans BR2.out)
    have BV3 := Lib.hid ((hb.block _ (heap_lt BV2.out)).trans BV2.out)
    have J3 := Lib.hid ((J2.out.below hb).all)
    obtain ⟨K, hK⟩ : ∃ K, K = (Cx.get V Dx.tQuery).getD (.mk 0 false [] [] []) := ⟨_, rfl⟩
    obtain ⟨g, hg⟩ : ∃ g, g = (Cx.get V Dx.tQuery).isSome := ⟨_, rfl⟩
    rw [← hK] at hj8
    rw [← hg]
    have FK := Lib.hid (show fit 100000 K by
      rw [hK]
      cases h : Cx.get V Dx.tQuery with
      | none => exact Cx.fit_leaf (by simp)
      | some k => exact Dx.get_fit F.out h)
    have NK := Lib.hid (show NR K by
      rw [hK]
      cases h : Cx.get V Dx.tQuery with
      | none => exact ⟨fun _ => rfl, fun _ h => by cases h⟩
      | some k => exact NR.of (Dx.get_right HRT.out h))
    have HK := Lib.hid hK; have HGG := Lib.hid hg
    clear q0 q1 q2 q3 q4 hb hK hg BR2 BV2 J2 HB2
    obtain ⟨K', hK'⟩ : ∃ K', K' = K := ⟨_, rfl⟩
    cases K with
    | mk k2 is2 t2 ns2 ks2 =>
    obtain ⟨a2, nc2, a2', kc2, rfl⟩ := hj8.shape
    rw [← hK'] at hj8 FK NK HK
    clear hK'
    obtain ⟨W4, hW4⟩ : ∃ W4, W4 = x3.alloc (.cells #[.int .i64 k2, .bool is2, .string ⟨t2.toArray⟩, .slice a2 ns2.length nc2, .slice a2' ks2.length kc2] 48) := ⟨_, rfl⟩
    have b34 : Below x3.heap.size x3 W4 := by rw [hW4]; exact (Below.refl _ _).alloc (Nat.le_refl _) _
    have HB4 := Lib.hid (HB3.out.trans (b34.mono (by omega)))
    have BR4 := Lib.hid ((b34.block _ (heap_lt BR3.out)).trans BR3.out)
    have BV4 := Lib.hid ((b34.block _ (heap_lt BV3.out)).trans BV3.out)
    have BX4 := Lib.hid (show W4.heap[x3.heap.size]? = some (.cells #[.int .i64 k2, .bool is2, .string ⟨t2.toArray⟩, .slice a2 ns2.length nc2, .slice a2' ks2.length kc2] 48 (0, 0)) by rw [hW4]; exact heap_alloc_new x3 _)
    have J4 := Lib.hid ((J3.out.below b34).all)
    have K4 := Lib.hid ((hj8.all.below b34).all)
    have hz4 : x3.heap.size < W4.heap.size := by rw [hW4]; simp
    have HW4 := Lib.hid hW4
    obtain ⟨W5, hW5⟩ : ∃ W5, W5 = W4.alloc (.cells #[.string ⟨#[113, 117, 101, 114, 121]⟩, .string ⟨#[102, 114, 111, 109]⟩, .string ⟨#[115, 105, 122, 101]⟩] 9) := ⟨_, rfl⟩
    have ROW := Lib.hid (show Row W5 (fun b => b < W5.heap.size) (.slice (some ⟨W4.heap.size, 0, none⟩) 3 3) 3 ([Dx.tQuery, Dx.tFrom, Dx.tSize].map strV) by
      rw [hW5]
      exact Row.laid (l := [Dx.tQuery, Dx.tFrom, Dx.tSize]) (heap_alloc_new W4 _) rfl (by decide))
    have b45 : Below W4.heap.size W4 W5 := by rw [hW5]; exact (Below.refl _ _).alloc (Nat.le_refl _) _
    have HB5 := Lib.hid (HB4.out.trans (b45.mono (by omega)))
    have BR5 := Lib.hid ((b45.block _ (heap_lt BR4.out)).trans BR4.out)
    have BV5 := Lib.hid ((b45.block _ (heap_lt BV4.out)).trans BV4.out)
    have BX5 := Lib.hid ((b45.block _ (heap_lt BX4.out)).trans BX4.out)
    have J5 := Lib.hid ((J4.out.below b45).all)
    have K5 := Lib.hid ((K4.out.below b45).all)
    have hz5 := b45.size
    have HW5 := Lib.hid hW5
    clear hj8 b34 b45 hW4 hW5 J3 BR3 BV3 HB3
    go_upto_region 5 with fail
    rw [← HW4.out]
    obtain ⟨q0, q1, q2, q3, q4, _⟩ := cells5 BV4.out
    clear HW4
    go_wp2_with fail
    rw [← HW5.out]
    clear HW5 J4 K4 BR4 BV4 BX4 HB4
    refine (show Calls Tryz.prog 40 #[.agg #[.int .i64 k, .bool is, .string ⟨t.toArray⟩, .slice a ns.length nc, .slice a' ks.length kc], .slice (some ⟨W4.heap.size, 0, none⟩) 3 3] _ _ from rOnly_calls V [.int .i64 k, .bool is, .string ⟨t.toArray⟩, .slice a ns.length nc, .slice a' ks.length kc] (.slice (some ⟨W4.heap.size, 0, none⟩) 3 3) [Dx.tQuery, Dx.tFrom, Dx.tSize] W5 _ _ J5.out (to_maxLen F.out) ROW.out (by decide)).mono ?_
    rintro e x6 ⟨rfl, hb⟩
    obtain ⟨r0, hr0⟩ : ∃ r, r = Dx.only V [Dx.tQuery, Dx.tFrom, Dx.tSize] := ⟨_, rfl⟩
    rw [← hr0]
    have HR0 := Lib.hid hr0
    have hz6 := hb.size
    have HB6 := Lib.hid (HB5.out.trans (hb.mono (by omega)))
    have BR6 := Lib.hid ((hb.block _ (heap_lt BR5.out)).trans BR5.out)
    have BV6 := Lib.hid ((hb.block _ (heap_lt BV5.out)).trans BV5.out)
    have BX6 := Lib.hid ((hb.block _ (heap_lt BX5.out)).trans BX5.out)
    have J6 := Lib.hid ((J5.out.below hb).all)
    have K6 := Lib.hid ((K5.out.below hb).all)
    clear q0 q1 q2 q3 q4 hb hr0 J5 K5 BR5 BV5 BX5 HB5 ROW
    cases g with
    | false =>
      have ST := Lib.hid (searchT_error (search_none HP.out (isSome_false HGG.out)))
      obtain ⟨p0, p1, p2, p3, p4, pf⟩ := cells5 BR6.out
      have pf0 := pf 0; have pf1 := pf 1; have pf2 := pf 2; have pf3 := pf 3; have pf4 := pf 4
      clear pf
      have FIN := Lib.hid (search_fin (Q := .mk 0 [] [] [] []) HB6.out BR6.out QyAt.plain)
      go_wp2_with fail
      obtain ⟨fq, zb, fb⟩ := FIN.out
      obtain ⟨z0, z1, z2, z3, z4, _⟩ := cells5 zb
      exact bodyPost_ret (v := .tuple #[.agg #[.int .i64 0, .string ⟨#[]⟩, .slice none 0 0, .slice none 0 0, .slice none 0 0], .int .i64 0, .int .i64 0, .int .i64 18]) (by simp [results, Tryz.results14, go_sem, z0, z1, z2, z3, z4]) rfl ⟨_, by rw [ST.out]; rfl, by rw [ST.out]; exact fq, fb⟩
    | true =>
    obtain ⟨kk, hkk⟩ : ∃ kk, Cx.get V Dx.tQuery = some kk := Option.isSome_iff_exists.1 HGG.out.symm
    have HKK := Lib.hid (show Cx.get V Dx.tQuery = some K' by rw [HK.out, hkk]; rfl)
    clear hkk
    cases r0 with
    | false =>
      have ST := Lib.hid (searchT_error (search_only HP.out HR0.out.symm))
      obtain ⟨p0, p1, p2, p3, p4, pf⟩ := cells5 BR6.out
      have pf0 := pf 0; have pf1 := pf 1; have pf2 := pf 2; have pf3 := pf 3; have pf4 := pf 4
      clear pf
      have FIN := Lib.hid (search_fin (Q := .mk 0 [] [] [] []) HB6.out BR6.out QyAt.plain)
      go_wp2_with fail
      obtain ⟨fq, zb, fb⟩ := FIN.out
      obtain ⟨z0, z1, z2, z3, z4, _⟩ := cells5 zb
      exact bodyPost_ret (v := .tuple #[.agg #[.int .i64 0, .string ⟨#[]⟩, .slice none 0 0, .slice none 0 0, .slice none 0 0], .int .i64 0, .int .i64 0, .int .i64 18]) (by simp [results, Tryz.results14, go_sem, z0, z1, z2, z3, z4]) rfl ⟨_, by rw [ST.out]; rfl, by rw [ST.out]; exact fq, fb⟩
    | true =>
    obtain ⟨q0, q1, q2, q3, q4, _⟩ := cells5 BX6.out
    go_wp2_with fail
    refine (rquery_calls K' [.int .i64 k2, .bool is2, .string ⟨t2.toArray⟩, .slice a2 ns2.length nc2, .slice a2' ks2.length kc2] x6 _ K6.out FK.out NK.out).mono ?_
    rintro e x7 ⟨Q, qcs, rfl, hqa, hqp, hqf, hb⟩
    obtain ⟨QQ, hQQ⟩ : ∃ QQ, QQ = Q := ⟨_, rfl⟩
    obtain ⟨xk, xt, A, B, C⟩ := Q
    obtain ⟨c1, c2, c3, rfl, r1, r2, r3⟩ := hqa.rows
    obtain ⟨xa1, xc1, rfl⟩ := r1.shape
    obtain ⟨xa2, xc2, rfl⟩ := r2.shape
    obtain ⟨xa3, xc3, rfl⟩ := r3.shape
    rw [← hQQ] at hqa hqp hqf
    obtain ⟨nb, hnb⟩ : ∃ f, f = (Dx.nodeQ K').isSome := ⟨_, rfl⟩
    rw [← hnb]
    have hz7 := hb.size
    have HB7 := Lib.hid (HB6.out.trans (hb.mono (by omega)))
    have BR7 := Lib.hid ((hb.block _ (heap_lt BR6.out)).trans BR6.out)
    have BV7 := Lib.hid ((hb.block _ (heap_lt BV6.out)).trans BV6.out)
    have J7 := Lib.hid ((J6.out.below hb).all)
    have HQP := Lib.hid hqp; have HNB := Lib.hid hnb; have HQF := Lib.hid hqf
    obtain ⟨W8, hW8⟩ : ∃ W8, W8 = x7.alloc (.cells #[.int .i64 xk, .string ⟨xt.toArray⟩, .slice xa1 A.length xc1, .slice xa2 B.length xc2, .slice xa3 C.length xc3] 26) := ⟨_, rfl⟩
    have b78 : Below x7.heap.size x7 W8 := by rw [hW8]; exact (Below.refl _ _).alloc (Nat.le_refl _) _
    have HB8 := Lib.hid (HB7.out.trans (b78.mono (by omega)))
    have BR8 := Lib.hid ((b78.block _ (heap_lt BR7.out)).trans BR7.out)
    have BV8 := Lib.hid ((b78.block _ (heap_lt BV7.out)).trans BV7.out)
    have BQ8 := Lib.hid (show W8.heap[x7.heap.size]? = some (.cells #[.int .i64 xk, .string ⟨xt.toArray⟩, .slice xa1 A.length xc1, .slice xa2 B.length xc2, .slice xa3 C.length xc3] 26 (0, 0)) by rw [hW8]; exact heap_alloc_new x7 _)
    have J8 := Lib.hid ((J7.out.below b78).all)
    have Q8 := Lib.hid (show QyAt W8 (fun g => w.heap.size + 1 ≤ g) QQ [.int .i64 xk, .string ⟨xt.toArray⟩, .slice xa1 A.length xc1, .slice xa2 B.length xc2, .slice xa3 C.length xc3] from QyAt.kept b78.size (fun g hg hl => ⟨b78.block g hl, by omega⟩) _ _ hqa)
    have hz8 := b78.size
    have HW8 := Lib.hid hW8
    clear q0 q1 q2 q3 q4 hb hqa hqp hqf hnb r1 r2 r3 hQQ b78 hW8 HB7 BR7 BV7 J7 HB6 BR6 BV6 BX6 J6 K6
    go_upto_region 9 with fail
    rw [← HW8.out]
    obtain ⟨q0, q1, q2, q3, q4, _⟩ := cells5 BV8.out
    clear HW8
    go_wp2_with fail
    refine (show Calls Tryz.prog 42 #[.agg #[.int .i64 k, .bool is, .string ⟨t.toArray⟩, .slice a ns.length nc, .slice a' ks.length kc], .string ⟨#[102, 114, 111, 109]⟩, .int .i64 0, .int .i64 10000] _ _ from rnumber_calls V [.int .i64 k, .bool is, .string ⟨t.toArray⟩, .slice a ns.length nc, .slice a' ks.length kc] Dx.tFrom 0 10000 W8 _ J8.out (to_maxLen F.out)).mono ?_
    rintro e x9 ⟨n1, rfl, hn1, hb⟩
    have HN1 := Lib.hid hn1
    obtain ⟨s1, hs1⟩ : ∃ s, s = (Dx.number V Dx.tFrom 0 10000).isSome := ⟨_, rfl⟩
    rw [← hs1]
    have HS1 := Lib.hid hs1
    have hz9 := hb.size
    have HB9 := Lib.hid (HB8.out.trans (hb.mono (by omega)))
    have BR9 := Lib.hid ((hb.block _ (heap_lt BR8.out)).trans BR8.out)
    have BV9 := Lib.hid ((hb.block _ (heap_lt BV8.out)).trans BV8.out)
    have BQ9 := Lib.hid ((hb.block _ (heap_lt BQ8.out)).trans BQ8.out)
    have J9 := Lib.hid ((J8.out.below hb).all)
    have Q9 := Lib.hid (QyAt.kept (ok' := fun g => w.heap.size + 1 ≤ g) hb.size (fun g hg hl => ⟨hb.block g hl, hg⟩) _ _ Q8.out)
    clear q0 q1 q2 q3 q4 hb hn1 hs1 HB8 BR8 BV8 BQ8 J8 Q8
    obtain ⟨q0, q1, q2, q3, q4, _⟩ := cells5 BV9.out
    go_wp2_with fail
    refine (show Calls Tryz.prog 42 #[.agg #[.int .i64 k, .bool is, .string ⟨t.toArray⟩, .slice a ns.length nc, .slice a' ks.length kc], .string ⟨#[115, 105, 122, 101]⟩, .int .i64 10, .int .i64 100] _ _ from rnumber_calls V [.int .i64 k, .bool is, .string ⟨t.toArray⟩, .slice a ns.length nc, .slice a' ks.length kc] Dx.tSize 10 100 x9 _ J9.out (to_maxLen F.out)).mono ?_
    rintro e x10 ⟨n2, rfl, hn2, hb⟩
    have HN2 := Lib.hid hn2
    obtain ⟨s2, hs2⟩ : ∃ s, s = (Dx.number V Dx.tSize 10 100).isSome := ⟨_, rfl⟩
    rw [← hs2]
    have HS2 := Lib.hid hs2
    have hz10 := hb.size
    have HB10 := Lib.hid (HB9.out.trans (hb.mono (by omega)))
    have BR10 := Lib.hid ((hb.block _ (heap_lt BR9.out)).trans BR9.out)
    have BQ10 := Lib.hid ((hb.block _ (heap_lt BQ9.out)).trans BQ9.out)
    have Q10 := Lib.hid (QyAt.kept (ok' := fun g => w.heap.size + 1 ≤ g) hb.size (fun g hg hl => ⟨hb.block g hl, hg⟩) _ _ Q9.out)
    clear q0 q1 q2 q3 q4 hb hn2 hs2 HB9 BR9 BV9 BQ9 J9 Q9
    obtain ⟨q0, q1, q2, q3, q4, _⟩ := cells5 BQ10.out
    go_wp2_with fail
    refine (show Calls Tryz.prog 26 #[.agg #[.int .i64 xk, .string ⟨xt.toArray⟩, .slice xa1 A.length xc1, .slice xa2 B.length xc2, .slice xa3 C.length xc3]] _ _ from rRight_calls QQ [.int .i64 xk, .string ⟨xt.toArray⟩, .slice xa1 A.length xc1, .slice xa2 B.length xc2, .slice xa3 C.length xc3] x10 _ HQF.out Q10.out).mono ?_
    rintro e x11 ⟨rfl, hb⟩
    obtain ⟨rr, hrr⟩ : ∃ r, r = Dx.right QQ := ⟨_, rfl⟩
    rw [← hrr]
    have HRR := Lib.hid hrr
    have hz11 := hb.size
    have HB11 := Lib.hid (HB10.out.trans (hb.mono (by omega)))
    have BR11 := Lib.hid ((hb.block _ (heap_lt BR10.out)).trans BR10.out)
    have BQ11 := Lib.hid ((hb.block _ (heap_lt BQ10.out)).trans BQ10.out)
    have Q11 := Lib.hid (QyAt.kept (ok' := fun g => w.heap.size + 1 ≤ g) hb.size (fun g hg hl => ⟨hb.block g hl, hg⟩) _ _ Q10.out)
    clear q0 q1 q2 q3 q4 hb hrr HB10 BR10 BQ10 Q10
    cases nb with
    | false =>
      have ST := Lib.hid (searchT_error (search_no HP.out HKK.out (isSome_false HNB.out)))
      obtain ⟨p0, p1, p2, p3, p4, pf⟩ := cells5 BR11.out
      have pf0 := pf 0; have pf1 := pf 1; have pf2 := pf 2; have pf3 := pf 3; have pf4 := pf 4
      clear pf
      have FIN := Lib.hid (search_fin (Q := .mk 0 [] [] [] []) HB11.out BR11.out QyAt.plain)
      go_wp2_with fail
      obtain ⟨fq, zb, fb⟩ := FIN.out
      obtain ⟨z0, z1, z2, z3, z4, _⟩ := cells5 zb
      exact bodyPost_ret (v := .tuple #[.agg #[.int .i64 0, .string ⟨#[]⟩, .slice none 0 0, .slice none 0 0, .slice none 0 0], .int .i64 0, .int .i64 0, .int .i64 18]) (by simp [results, Tryz.results14, go_sem, z0, z1, z2, z3, z4]) rfl ⟨_, by rw [ST.out]; rfl, by rw [ST.out]; exact fq, fb⟩
    | true =>
    obtain ⟨qq, hqq⟩ : ∃ qq, Dx.nodeQ K' = some qq := Option.isSome_iff_exists.1 HNB.out.symm
    have HQQ := Lib.hid (show Dx.nodeQ K' = some QQ by rw [HQP.out qq hqq]; exact hqq)
    clear hqq
    cases s1 with
    | false =>
      have ST := Lib.hid (searchT_error (search_from HP.out HS1.out.symm))
      obtain ⟨p0, p1, p2, p3, p4, pf⟩ := cells5 BR11.out
      have pf0 := pf 0; have pf1 := pf 1; have pf2 := pf 2; have pf3 := pf 3; have pf4 := pf 4
      clear pf
      have FIN := Lib.hid (search_fin (Q := .mk 0 [] [] [] []) HB11.out BR11.out QyAt.plain)
      go_wp2_with fail
      obtain ⟨fq, zb, fb⟩ := FIN.out
      obtain ⟨z0, z1, z2, z3, z4, _⟩ := cells5 zb
      exact bodyPost_ret (v := .tuple #[.agg #[.int .i64 0, .string ⟨#[]⟩, .slice none 0 0, .slice none 0 0, .slice none 0 0], .int .i64 0, .int .i64 0, .int .i64 18]) (by simp [results, Tryz.results14, go_sem, z0, z1, z2, z3, z4]) rfl ⟨_, by rw [ST.out]; rfl, by rw [ST.out]; exact fq, fb⟩
    | true =>
    cases s2 with
    | false =>
      have ST := Lib.hid (searchT_error (search_size HP.out HS2.out.symm))
      obtain ⟨p0, p1, p2, p3, p4, pf⟩ := cells5 BR11.out
      have pf0 := pf 0; have pf1 := pf 1; have pf2 := pf 2; have pf3 := pf 3; have pf4 := pf 4
      clear pf
      have FIN := Lib.hid (search_fin (Q := .mk 0 [] [] [] []) HB11.out BR11.out QyAt.plain)
      go_wp2_with fail
      obtain ⟨fq, zb, fb⟩ := FIN.out
      obtain ⟨z0, z1, z2, z3, z4, _⟩ := cells5 zb
      exact bodyPost_ret (v := .tuple #[.agg #[.int .i64 0, .string ⟨#[]⟩, .slice none 0 0, .slice none 0 0, .slice none 0 0], .int .i64 0, .int .i64 0, .int .i64 18]) (by simp [results, Tryz.results14, go_sem, z0, z1, z2, z3, z4]) rfl ⟨_, by rw [ST.out]; rfl, by rw [ST.out]; exact fq, fb⟩
    | true =>
    cases rr with
    | false =>
      have ST := Lib.hid (searchT_error (search_wrong HP.out HKK.out HQQ.out HRR.out.symm))
      obtain ⟨p0, p1, p2, p3, p4, pf⟩ := cells5 BR11.out
      have pf0 := pf 0; have pf1 := pf 1; have pf2 := pf 2; have pf3 := pf 3; have pf4 := pf 4
      clear pf
      have FIN := Lib.hid (search_fin (Q := .mk 0 [] [] [] []) HB11.out BR11.out QyAt.plain)
      go_wp2_with fail
      obtain ⟨fq, zb, fb⟩ := FIN.out
      obtain ⟨z0, z1, z2, z3, z4, _⟩ := cells5 zb
      exact bodyPost_ret (v := .tuple #[.agg #[.int .i64 0, .string ⟨#[]⟩, .slice none 0 0, .slice none 0 0, .slice none 0 0], .int .i64 0, .int .i64 0, .int .i64 18]) (by simp [results, Tryz.results14, go_sem, z0, z1, z2, z3, z4]) rfl ⟨_, by rw [ST.out]; rfl, by rw [ST.out]; exact fq, fb⟩
    | true =>
    have ST := Lib.hid (searchT_ok (search_good HP.out HN1.out HN2.out (by rw [← HR0.out, ← HS1.out, ← HS2.out]; rfl) HKK.out HQQ.out HRR.out.symm))
    obtain ⟨q0, q1, q2, q3, q4, _⟩ := cells5 BQ11.out
    obtain ⟨p0, p1, p2, p3, p4, pf⟩ := cells5 BR11.out
    have pf0 := pf 0; have pf1 := pf 1; have pf2 := pf 2; have pf3 := pf 3; have pf4 := pf 4
    clear pf
    have FIN := Lib.hid (search_fin HB11.out BR11.out Q11.out)
    go_wp2_with fail
    obtain ⟨fq, zb, fb⟩ := FIN.out
    obtain ⟨z0, z1, z2, z3, z4, _⟩ := cells5 zb
    exact bodyPost_ret (v := .tuple #[.agg #[.int .i64 xk, .string ⟨xt.toArray⟩, .slice xa1 A.length xc1, .slice xa2 B.length xc2, .slice xa3 C.length xc3], .int .i64 n1, .int .i64 n2, .int .i64 0]) (by simp [results, Tryz.results14, go_sem, z0, z1, z2, z3, z4]) rfl ⟨_, by rw [ST.out]; rfl, by rw [ST.out]; exact fq, fb⟩
end Go.Proofs.YtejlddimokmgjaaGreatDoor
