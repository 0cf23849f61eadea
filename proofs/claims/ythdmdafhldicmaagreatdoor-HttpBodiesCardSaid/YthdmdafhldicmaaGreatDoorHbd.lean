/- WALKS: the law HttpBodies. -/
import Derived.Test.YthdmdafhldicmaaGreatDoorHsh
import Derived.Test.YthdmdafhldicmaaGreatDoorHmp
import Derived.Test.YthdmdafhldicmaaGreatDoorHsr
import Derived.Test.YthdmdafhldicmaaGreatDoorHxBd
namespace Go.Proofs.YthdmdafhldicmaaGreatDoor
open Go.RowKit Go.Maps Go.WideMaps

set_option maxRecDepth 100000 in
set_option maxHeartbeats 4000000 in
theorem bodies_out (m p body : Hx.Bytes) (sizes : List Int) (a : Option Addr) (cp : Nat) (cl : Bool) (w : World) (hg : Glb w) (ht : Tb w) (h8 : 8 ≤ w.heap.size) (ho : 8000 < body.length ∨ 100 < sizes.length) :
    Calls Tryz.prog 4 #[.string ⟨m.toArray⟩, .string ⟨p.toArray⟩, .string ⟨body.toArray⟩, .slice a sizes.length cp, .bool cl] w (LawPost w) := by
  have hz1 := size_list body
  have hc : (8000 : Int) < body.length ∨ (¬ (8000 : Int) < body.length ∧ (100 : Int) < sizes.length) := by omega
  clear ho
  have HG := Lib.hid hg; have HT := Lib.hid ht
  clear hg ht
  go_enter Tryz.func4, Tryz.ntmps4
  go_wp2_with fail
  refine (shown_calls _ HG.out HT.out h8).mono ?_
  rintro E w2 ⟨rfl, k⟩
  have B2 := Lib.hid k
  clear k HT
  rcases hc with h1 | ⟨h1, h2⟩
  all_goals
    go_wp2_with fail
    go_ret
    exact ⟨rfl, B2.out⟩

/-- Texts of the law, in the words of the plain model. -/
theorem text_one (m p body : Hx.Bytes) (cl : Bool) : (m ++ [32] ++ p ++ [32, 72, 84, 84, 80, 47, 49, 46, 49, 13, 10, 104, 79, 115, 116, 58, 9, 120, 32, 121, 32, 13, 10]) ++ (if cl then [67, 111, 110, 110, 101, 99, 116, 105, 111, 110, 58, 32, 107, 101, 101, 112, 45, 97, 108, 105, 118, 101, 32, 44, 32, 67, 76, 79, 83, 69, 13, 10] else []) ++ [67, 111, 110, 116, 101, 110, 116, 45, 76, 101, 110, 103, 116, 104, 58, 32] ++ Hx.dec body.length ++ [13, 10, 13, 10] ++ body = Hx.bdHead m p cl (Hx.bdL body.length) ++ body := by
  cases cl <;> simp [Hx.bdHead, Hx.bdF, Hx.bdH, Hx.bdC, Hx.bdL, Hx.rows, Hx.fl, Hx.lf, Hx.tVersion]
theorem text_two (m p : Hx.Bytes) (cl : Bool) : (m ++ [32] ++ p ++ [32, 72, 84, 84, 80, 47, 49, 46, 49, 13, 10, 104, 79, 115, 116, 58, 9, 120, 32, 121, 32, 13, 10]) ++ (if cl then [67, 111, 110, 110, 101, 99, 116, 105, 111, 110, 58, 32, 107, 101, 101, 112, 45, 97, 108, 105, 118, 101, 32, 44, 32, 67, 76, 79, 83, 69, 13, 10] else []) ++ [116, 114, 97, 110, 115, 102, 101, 114, 45, 101, 110, 99, 111, 100, 105, 110, 103, 58, 67, 104, 117, 110, 107, 101, 100, 13, 10, 13, 10] = Hx.bdHead m p cl Hx.bdT := by
  cases cl <;> simp [Hx.bdHead, Hx.bdF, Hx.bdH, Hx.bdC, Hx.bdT, Hx.rows, Hx.fl, Hx.lf, Hx.tVersion]
theorem text_tail : [48, 59, 97, 61, 98, 13, 10, 88, 58, 32, 121, 13, 10, 13, 10] = (Hx.tLast ++ 13 :: 10 :: Hx.rows (Hx.tTail.map Hx.fl) : Hx.Bytes) := by decide


set_option maxRecDepth 100000 in
set_option maxHeartbeats 8000000 in
theorem bodies_f (m p body : Hx.Bytes) (sizes : List Int) (a : Option Addr) (cp : Nat) (w : World) (hl : IRow w a sizes) (hg : Glb w) (ht : Tb w) (h8 : 8 ≤ w.heap.size) (hb : body.length ≤ 8000) (hn : sizes.length ≤ 100) :
    Calls Tryz.prog 4 #[.string ⟨m.toArray⟩, .string ⟨p.toArray⟩, .string ⟨body.toArray⟩, .slice a sizes.length cp, .bool false] w (LawPost w) := by
  have hz1 := size_list body
  have h1 : ¬ (8000 : Int) < body.length := by omega
  have h2 : ¬ (100 : Int) < sizes.length := by omega
  have HL := Lib.hid hl
  obtain ⟨M, hM⟩ : ∃ M : ByteArray, M = ⟨(Hx.methodOf m).toArray⟩ := ⟨_, rfl⟩
  obtain ⟨P, hP⟩ : ∃ P : ByteArray, P = ⟨(Hx.pathOf p).toArray⟩ := ⟨_, rfl⟩
  obtain ⟨D, hD⟩ : ∃ D : ByteArray, D = ⟨(Hx.dec body.length).toArray⟩ := ⟨_, rfl⟩
  obtain ⟨okm0, okm1, okm2⟩ := Hx.methodOf_ok m
  obtain ⟨okp0, okp1, okp2⟩ := Hx.pathOf_ok p
  have sM : M.size ≤ 10 := by rw [hM, size_list]; exact okm1
  have sP : P.size ≤ 301 := by rw [hP, size_list]; exact okp1
  have sD : D.size ≤ 10 := by rw [hD, size_list]; exact Hx.dec_len 9 _ (by omega)
  have CM : Hid (∀ wq, Calls Tryz.prog 13 #[.string ⟨m.toArray⟩] wq fun e w' => e = .returned (.string M) ∧ Below wq.heap.size wq w') := Lib.hid fun wq => by rw [hM]; exact method_calls m wq
  have CP : Hid (∀ wq, Calls Tryz.prog 14 #[.string ⟨p.toArray⟩] wq fun e w' => e = .returned (.string P) ∧ Below wq.heap.size wq w') := Lib.hid fun wq => by rw [hP]; exact path_calls p wq
  have CD : Hid (∀ wq, Calls Tryz.prog 15 #[.int .i64 body.length] wq fun e w' => e = .returned (.string D) ∧ w' = wq) := Lib.hid fun wq => by rw [hD]; exact digits_calls body.length wq (by omega)
  obtain ⟨S, hS⟩ : ∃ S : ByteArray, S = M ++ ⟨#[32]⟩ ++ P ++ ⟨#[32, 72, 84, 84, 80, 47, 49, 46, 49, 13, 10, 104, 79, 115, 116, 58, 9, 120, 32, 121, 32, 13, 10]⟩ := ⟨_, rfl⟩
  have sS : S.size ≤ 500 := by
    rw [hS]; simp only [ByteArray.size_append]
    show M.size + 1 + P.size + 23 ≤ 500; omega
  obtain ⟨O, hO⟩ : ∃ O : ByteArray, O = S ++ ⟨#[67, 111, 110, 116, 101, 110, 116, 45, 76, 101, 110, 103, 116, 104, 58, 32]⟩ ++ D ++ ⟨#[13, 10, 13, 10]⟩ ++ ⟨body.toArray⟩ := ⟨_, rfl⟩
  obtain ⟨T0, hT0⟩ : ∃ T : ByteArray, T = S ++ ⟨#[116, 114, 97, 110, 115, 102, 101, 114, 45, 101, 110, 99, 111, 100, 105, 110, 103, 58, 67, 104, 117, 110, 107, 101, 100, 13, 10, 13, 10]⟩ := ⟨_, rfl⟩
  obtain ⟨HD, hHD⟩ : ∃ HD, HD = Hx.bdHead (Hx.methodOf m) (Hx.pathOf p) false Hx.bdT := ⟨_, rfl⟩
  have oT : O.data.toList = Hx.bdHead (Hx.methodOf m) (Hx.pathOf p) false (Hx.bdL body.length) ++ body := by
    rw [← text_one, hO, hS, hM, hP, hD]; simp [ByteArray.data_append]
  have tT : T0.data.toList = HD := by
    rw [hHD, ← text_two, hT0, hS, hM, hP]; simp [ByteArray.data_append]
  have sO : O.size ≤ 9000 := by
    rw [hO]; simp only [ByteArray.size_append]
    show S.size + 16 + D.size + 4 + body.length ≤ 9000; omega
  have sT : T0.size ≤ 600 := by
    rw [hT0]; simp only [ByteArray.size_append]
    show S.size + 29 ≤ 600; omega
  have u1 : ¬ 9223372036854775807 < M.size + 1 := by omega
  have u2 : ¬ 9223372036854775807 < M.size + 1 + P.size := by omega
  have u3 : ¬ 9223372036854775807 < M.size + 1 + P.size + 23 := by omega
  have u4 : ¬ 9223372036854775807 < M.size + 1 + P.size + 23 + 32 := by omega
  have u5 : ¬ 9223372036854775807 < S.size + 16 := by omega
  have u6 : ¬ 9223372036854775807 < S.size + 16 + D.size := by omega
  have u7 : ¬ 9223372036854775807 < S.size + 16 + D.size + 4 := by omega
  have u8 : ¬ 9223372036854775807 < S.size + 16 + D.size + 4 + body.length := by omega
  have u9 : ¬ 9223372036854775807 < S.size + 29 := by omega
  have r1 := Hx.read_one okm0 okm1 okm2 okp0 okp1 okp2 false body hb
  have r2 := fun cs hc hd => Hx.read_two okm0 okm1 okm2 okp0 okp1 okp2 false cs hc hd
  rw [← hHD] at r2
  have HO := Lib.hid hO; have HT0 := Lib.hid hT0; have OT := Lib.hid oT; have TT := Lib.hid tT; have R1 := Lib.hid r1; have R2 := Lib.hid r2; have HM := Lib.hid hM; have HP := Lib.hid hP; have HS := Lib.hid hS
  clear hM hP hD okm0 okm1 okm2 okp0 okp1 okp2 hS hO hT0 hHD oT tT r1 r2 hl
  have HG := Lib.hid hg; have HT := Lib.hid ht
  clear hg ht
  go_enter Tryz.func4, Tryz.ntmps4
  go_wp2_with fail
  refine (shown_calls _ HG.out HT.out h8).mono ?_
  rintro E w2 ⟨rfl, k⟩
  have B2 := Lib.hid k
  clear k HT
  go_wp2_with fail
  refine (CM.out _).mono ?_
  rintro E w3 ⟨rfl, k⟩
  have B3 := Lib.hid (B2.out.trans (k.mono B2.out.size))
  clear k B2
  go_wp2_with fail
  refine (CP.out _).mono ?_
  rintro E w4 ⟨rfl, k⟩
  have B4 := Lib.hid (B3.out.trans (k.mono B3.out.size))
  clear k B3
  go_upto_region 7 with fail
  rw [← HS.out]
  clear u1 u2 u3 u4
  go_wp2_with fail
  refine (CD.out _).mono ?_
  rintro E w' ⟨rfl, hw'⟩
  have hw' := hw'.symm
  subst hw'
  go_upto_region 9 with fail
  rw [← HO.out, ← HT0.out]
  clear u5 u6 u7 u8 u9 CD
  go_wp2_with fail
  go_loopg [14, 15, 16] (sizes.length + 1) (fun q z y i wr => ∃ (k : Nat) (cs : List (Hx.Bytes × Hx.Bytes)) (rest : Hx.Bytes) (T : ByteArray), z = .string T ∧ y = .string ⟨rest.toArray⟩ ∧ i = .int .i64 k ∧ k ≤ sizes.length ∧ sizes.length < k + q ∧ T.size + rest.length ≤ 8600 + 10 * k ∧ rest.length ≤ 8000 ∧ Hid (∀ c ∈ cs, Hx.ChunkOk c) ∧ Hid (Hx.chunkData cs ++ rest = body) ∧ Hid (T.data.toList = HD ++ Hx.chunkText cs) ∧ Hid (Below w.heap.size w wr))
  case atStart => exact ⟨0, [], body, T0, rfl, rfl, rfl, Nat.zero_le _, by omega, by omega, hb, Lib.hid (fun c hc => by cases hc), Lib.hid rfl, Lib.hid (by rw [TT.out]; simp [Hx.chunkText]), B4⟩
  case round =>
    clear B4
    obtain ⟨k, cs, rest, T, rfl, rfl, rfl, hk, hq, hT, hrl, HC, HDA, HTT, HB⟩ := hrel
    obtain ⟨q, rfl⟩ : ∃ q, gk = q + 1 := ⟨gk - 1, by omega⟩
    have hzr := size_list rest
    by_cases hgo : k < sizes.length ∧ rest ≠ []
    · obtain ⟨hlt, hne⟩ := hgo
      obtain ⟨x, hx⟩ : ∃ x, sizes[k]? = some x := ⟨sizes[k], by simp [hlt]⟩
      obtain ⟨⟨xb0, xb1⟩, g, o, rfl, hgl, hcell⟩ := HL.out k x hx
      have hc2 : wr.cell? ⟨g, o + k, none⟩ = some (.int .i64 x) := (HB.out.cell (p := ⟨g, o + k, none⟩) hgl).trans hcell
      have hltI : (k : Int) < (sizes.length : Int) := by omega
      have hre : (rest == []) = false := by simpa using hne
      have hre2 : (rest != []) = true := by rw [bne, hre]; rfl
      have hr0 : 0 < rest.length := List.length_pos_iff.2 hne
      have PK := Lib.hid (fun (wq : World) => pick_calls x rest.length wq xb0 xb1 hr0 (by omega))
      clear hx hcell xb0 xb1 hne
      go_wp2_with fail
      refine (PK.out _).mono ?_
      rintro E w' ⟨hw', j, hj, rfl⟩
      have hw' := hw'.symm
      subst hw'
      clear PK hc2 hre hre2
      obtain ⟨N, hN⟩ : ∃ N : Nat, N = j + 1 := ⟨_, rfl⟩
      have hNI : (1 : Int) + (j : Int) = (N : Int) := by omega
      have hNr : N ≤ rest.length := by omega
      have hN0 : 0 < N := by omega
      have hN64 : IntKind.i64.wrap (N : Int) = (N : Int) := IntWalk.i64_in _ (by omega)
      obtain ⟨X, hX⟩ : ∃ X : ByteArray, X = ⟨(Hx.hexs N).toArray⟩ := ⟨_, rfl⟩
      have sX : X.size ≤ 4 := by rw [hX, size_list]; exact Hx.hexs_len 3 N (by omega)
      have CX : Hid (∀ wq, Calls Tryz.prog 16 #[.int .i64 N] wq fun e w' => e = .returned (.string X) ∧ w' = wq) := Lib.hid fun wq => by rw [hX]; exact hex_calls N wq (by omega)
      obtain ⟨d, hd⟩ : ∃ d, d = rest.take N := ⟨_, rfl⟩
      obtain ⟨r2, hr2⟩ : ∃ r, r = rest.drop N := ⟨_, rfl⟩
      have hdl : d.length = N := by rw [hd, List.length_take]; omega
      have hr2l : r2.length = rest.length - N := by rw [hr2, List.length_drop]
      have x1 : (⟨rest.toArray⟩ : ByteArray).extract 0 N = ⟨d.toArray⟩ := by rw [extract_list, hd]; simp
      have x2 : (⟨rest.toArray⟩ : ByteArray).extract N rest.length = ⟨r2.toArray⟩ := by
        rw [extract_list, hr2, List.take_of_length_le (by rw [List.length_drop]; exact Nat.le_refl _)]
      have hT2 : (T ++ X ++ ⟨#[13, 10]⟩ ++ ⟨d.toArray⟩ ++ ⟨#[13, 10]⟩ : ByteArray).data.toList = HD ++ Hx.chunkText (cs ++ [(Hx.hexs N, d)]) := by
        rw [Hx.chunkText_snoc, ← List.append_assoc, ← HTT.out, hX]
        simp [ByteArray.data_append]
      have hda2 : Hx.chunkData (cs ++ [(Hx.hexs N, d)]) ++ r2 = body := by
        rw [Hx.chunkData_snoc, List.append_assoc, hd, hr2, List.take_append_drop]; exact HDA.out
      have hok : ∀ c ∈ cs ++ [(Hx.hexs N, d)], Hx.ChunkOk c := by
        intro c hc
        rcases List.mem_append.1 hc with hc | hc
        · exact HC.out c hc
        · obtain rfl := List.mem_singleton.1 hc
          exact (Hx.chunk_ok (fun e => by rw [e] at hdl; simp at hdl; omega) hdl (by omega)).1
      have n1 : ¬ 9223372036854775807 < T.size + X.size := by omega
      have n2 : ¬ 9223372036854775807 < T.size + X.size + 2 := by omega
      have n3 : ¬ 9223372036854775807 < T.size + X.size + 2 + d.length := by omega
      have n4 : ¬ 9223372036854775807 < T.size + X.size + 2 + d.length + 2 := by omega
      have hsz2 : (T ++ X ++ ⟨#[13, 10]⟩ ++ ⟨d.toArray⟩ ++ ⟨#[13, 10]⟩ : ByteArray).size + r2.length ≤ 8600 + 10 * (k + 1) := by
        simp only [ByteArray.size_append]
        show T.size + X.size + 2 + d.length + 2 + r2.length ≤ 8600 + 10 * (k + 1)
        omega
      have hr28 : r2.length ≤ 8000 := by omega
      have HT2 := Lib.hid hT2; have HDA2 := Lib.hid hda2; have HOK := Lib.hid hok; have HS2 := Lib.hid hsz2; have HR28 := Lib.hid hr28
      clear hd hr2 hdl hr2l hT2 hda2 hok hsz2 hr28 hX hN hj HC HDA HTT hT hrl hr0
      go_wp2_with fail
      go_quiet ((go_at_call 16; exact Calls.quiet_of_same (CX.out _)))
      clear n1 n2 n3 n4 CX hNI
      go_wp2_with fail
      go_roundg q
      case measure => omega
      case rel => exact ⟨k + 1, cs ++ [(Hx.hexs N, d)], r2, _, rfl, rfl, by go_num, by omega, by omega, HS2.out, HR28.out, HOK, HDA2, HT2, Lib.hid (below_dN HB.out nq)⟩
    · have hex : ¬ (k : Int) < (sizes.length : Int) ∨ ((k : Int) < (sizes.length : Int) ∧ rest = []) := by
        by_cases h : k < sizes.length
        · exact .inr ⟨by omega, Classical.byContradiction fun h2 => hgo ⟨h, h2⟩⟩
        · exact .inl (by omega)
      -- what the last chunks are
      have hlast : ∃ cs2, (∀ c ∈ cs2, Hx.ChunkOk c) ∧ Hx.chunkData cs2 = body ∧ (rest = [] → T.data.toList = HD ++ Hx.chunkText cs2) ∧ (rest ≠ [] → T.data.toList ++ (48 :: Hx.hexs rest.length) ++ [13, 10] ++ rest ++ [13, 10] = HD ++ Hx.chunkText cs2) := by
        by_cases hr0 : rest = []
        · exact ⟨cs, HC.out, by have := HDA.out; rw [hr0, List.append_nil] at this; exact this, fun _ => HTT.out, fun h => absurd hr0 h⟩
        · refine ⟨cs ++ [(48 :: Hx.hexs rest.length, rest)], ?_, by rw [Hx.chunkData_snoc]; exact HDA.out, fun h => absurd h hr0, fun _ => ?_⟩
          · intro c hc
            rcases List.mem_append.1 hc with hc | hc
            · exact HC.out c hc
            · obtain rfl := List.mem_singleton.1 hc
              exact (Hx.chunk_ok hr0 rfl (by omega)).2
          · rw [Hx.chunkText_snoc, HTT.out]; simp
      obtain ⟨cs2, l1, l2, l3, l4⟩ := hlast
      have L1 := Lib.hid l1; have L2 := Lib.hid l2; have L3 := Lib.hid l3; have L4 := Lib.hid l4
      clear l1 l2 l3 l4 HC HDA HTT hgo
      have hT9 : T.size + rest.length ≤ 9600 := by omega
      clear hT hk hq
      by_cases hr0 : rest = []
      · have hex2 : ¬ (k : Int) < (sizes.length : Int) ∨ (k : Int) < (sizes.length : Int) := by omega
        have HT2 := Lib.hid (L3.out hr0)
        clear hex L3 L4
        subst hr0
        have hT2 : T.size ≤ 9700 := by simp only [List.length_nil] at hT9; omega
        have HB2 := HB
        clear HB hT9 hzr hrl
        rcases hex2 with i1 | i1
        all_goals
          go_upto_region 19 with fail
          clear i1
          obtain ⟨T2, hTT⟩ : ∃ T2, T2 = T := ⟨_, rfl⟩
          rw [← hTT] at HT2 hT2 ⊢
          clear hTT
          obtain ⟨W, hW⟩ : ∃ W : ByteArray, W = T2 ++ ⟨#[48, 59, 97, 61, 98, 13, 10, 88, 58, 32, 121, 13, 10, 13, 10]⟩ := ⟨_, rfl⟩
          have wT : W.data.toList = HD ++ (Hx.chunkText cs2 ++ (Hx.tLast ++ 13 :: 10 :: Hx.rows (Hx.tTail.map Hx.fl))) := by
            rw [← text_tail, ← List.append_assoc, ← HT2.out, hW]; simp [ByteArray.data_append]
          have sW : W.size ≤ 9800 := by
            rw [hW]; simp only [ByteArray.size_append]; show T2.size + 15 ≤ 9800; omega
          have n1 : ¬ 9223372036854775807 < T2.size + 15 := by omega
          have n2 : ¬ 9223372036854775807 < O.size + W.size := by omega
          have n3 : ¬ 9223372036854775807 < W.size + O.size := by omega
          have r1 := R1.out
          have r2 := R2.out cs2 L1.out (by rw [L2.out]; exact hb)
          rw [← OT.out] at r1
          rw [← wT, L2.out] at r2
          have l1 : O.data.toList.length = O.size := rfl
          have l2 : W.data.toList.length = W.size := rfl
          have hO1 : 1 ≤ O.size := by
            have := Hx.read_le (s := O.data.toList) (by rw [r1])
            rw [r1] at this; simp only at this; omega
          have r3 := Hx.read_less r1 (by omega)
          have ra := Hx.read_app W.data.toList (s := O.data.toList) (by rw [r1]; simp)
          have rb := Hx.read_app O.data.toList (s := W.data.toList) (by rw [r2]; simp)
          rw [r1, l1] at ra; rw [r2, l2] at rb
          rw [l1] at r3
          obtain ⟨V, hV⟩ : ∃ V : Nat, V = O.size - 1 := ⟨_, rfl⟩
          rw [← hV] at r3
          have v1 : (O.size : Int) - 1 = (V : Int) := by omega
          have v2 : V ≤ O.size := by omega
          obtain ⟨U, hU⟩ : ∃ U : ByteArray, U = O.extract 0 V := ⟨_, rfl⟩
          have uT : U.data.toList = O.data.toList.take V := by rw [hU, extract_list]; simp
          have sU : (O.data.toList.take V).length ≤ 9000 := Nat.le_trans (List.length_take_le _ _) (by omega)
          have RA : Hid (∀ wq, Glb wq → 8 ≤ wq.heap.size → Calls Tryz.prog 11 #[.string (O ++ W)] wq fun E w' => E = .returned (.tuple #[.agg #[.string M, .string P, .string ⟨body.toArray⟩, .bool false], .int .i64 O.size, .int .i64 200]) ∧ Below wq.heap.size wq w') := Lib.hid fun wq hq h8 => by
            rw [HM.out, HP.out]
            exact readN _ (O ++ W) wq (by simp [ByteArray.data_append]) (by rw [List.length_append, l1, l2]; omega) hq h8 _ _ body false O.size 200 ra
          have RB : Hid (∀ wq, Glb wq → 8 ≤ wq.heap.size → Calls Tryz.prog 11 #[.string (W ++ O)] wq fun E w' => E = .returned (.tuple #[.agg #[.string M, .string P, .string ⟨body.toArray⟩, .bool false], .int .i64 W.size, .int .i64 200]) ∧ Below wq.heap.size wq w') := Lib.hid fun wq hq h8 => by
            rw [HM.out, HP.out]
            exact readN _ (W ++ O) wq (by simp [ByteArray.data_append]) (by rw [List.length_append, l1, l2]; omega) hq h8 _ _ body false W.size 200 rb
          have RC : Hid (∀ wq, Glb wq → 8 ≤ wq.heap.size → Calls Tryz.prog 11 #[.string U] wq fun E w' => E = .returned (.tuple #[.agg #[.string ⟨#[]⟩, .string ⟨#[]⟩, .string ⟨#[]⟩, .bool false], .int .i64 0, .int .i64 0]) ∧ Below wq.heap.size wq w') := Lib.hid fun wq hq h8 =>
            readN _ U wq uT (by omega) hq h8 [] [] [] false 0 0 r3
          have HU := Lib.hid hU; have HW := Lib.hid hW
          clear wT hW r1 r2 r3 ra rb l1 l2 hV hU uT sU L1 L2 HT2
          go_upto_region 20 with fail
          rw [← HW.out]
          clear n1
          go_wp2_with fail
          refine (CM.out _).mono ?_
          rintro E w5 ⟨rfl, k5⟩
          have B5 := Lib.hid (HB2.out.trans (k5.mono HB2.out.size))
          clear k5 HB2
          go_wp2_with fail
          refine (CP.out _).mono ?_
          rintro E w6 ⟨rfl, k6⟩
          obtain ⟨a6, ha6⟩ : ∃ a6, a6 = w6.alloc (.cells #[.string M, .string P, .string ⟨body.toArray⟩, .bool false] 24) := ⟨_, rfl⟩
          obtain ⟨g6, hg6⟩ : ∃ g, g = (w6 : World).heap.size := ⟨_, rfl⟩
          have B6 : Hid (Below w.heap.size w a6) := Lib.hid (by rw [ha6]; have b := B5.out.trans (k6.mono B5.out.size); exact b.alloc b.size _)
          have Q6 : Hid (a6.heap[g6]? = some (.cells #[.string M, .string P, .string ⟨body.toArray⟩, .bool false] 24 (0, 0))) := Lib.hid (by rw [ha6, hg6]; exact heap_alloc_new w6 _)
          clear k6 B5
          go_wp2_with fail
          rw [← hg6, ← ha6]
          clear hg6 ha6
          refine (RA.out _ (HG.out.below B6.out) (Nat.le_trans h8 B6.out.size)).mono ?_
          rintro E w7 ⟨rfl, k7⟩
          obtain ⟨a7, ha7⟩ : ∃ a7, a7 = w7.alloc (.cells #[.string M, .string P, .string ⟨body.toArray⟩, .bool false] 24) := ⟨_, rfl⟩
          obtain ⟨g7, hg7⟩ : ∃ g, g = (w7 : World).heap.size := ⟨_, rfl⟩
          have B7 : Hid (Below w.heap.size w a7) := Lib.hid (by rw [ha7]; have b := B6.out.trans (k7.mono B6.out.size); exact b.alloc b.size _)
          have kp7 : ∀ g o, a6.heap[g]? = some o → a7.heap[g]? = some o := fun g o h => by rw [ha7]; exact (Below.heap_alloc _ _ _ (Nat.lt_of_lt_of_le (heap_lt h) k7.size)).trans ((k7.block _ (heap_lt h)).trans h)
          have Q7 : Hid (a7.heap[g6]? = some (.cells #[.string M, .string P, .string ⟨body.toArray⟩, .bool false] 24 (0, 0))) := Lib.hid (kp7 _ _ Q6.out)
          have P7 : Hid (a7.heap[g7]? = some (.cells #[.string M, .string P, .string ⟨body.toArray⟩, .bool false] 24 (0, 0))) := Lib.hid (by rw [ha7, hg7]; exact heap_alloc_new w7 _)
          clear k7 B6 Q6 RA kp7
          go_wp2_with fail
          rw [← hg7, ← ha7]
          clear hg7 ha7
          refine (RB.out _ (HG.out.below B7.out) (Nat.le_trans h8 B7.out.size)).mono ?_
          rintro E w8 ⟨rfl, k8⟩
          obtain ⟨a8, ha8⟩ : ∃ a8, a8 = w8.alloc (.cells #[.string M, .string P, .string ⟨body.toArray⟩, .bool false] 24) := ⟨_, rfl⟩
          obtain ⟨g8, hg8⟩ : ∃ g, g = (w8 : World).heap.size := ⟨_, rfl⟩
          have B8 : Hid (Below w.heap.size w a8) := Lib.hid (by rw [ha8]; have b := B7.out.trans (k8.mono B7.out.size); exact b.alloc b.size _)
          have kp8 : ∀ g o, a7.heap[g]? = some o → a8.heap[g]? = some o := fun g o h => by rw [ha8]; exact (Below.heap_alloc _ _ _ (Nat.lt_of_lt_of_le (heap_lt h) k8.size)).trans ((k8.block _ (heap_lt h)).trans h)
          have Q8 := Lib.hid (kp8 _ _ Q7.out); have P8 := Lib.hid (kp8 _ _ P7.out)
          have O8 : Hid (a8.heap[g8]? = some (.cells #[.string M, .string P, .string ⟨body.toArray⟩, .bool false] 24 (0, 0))) := Lib.hid (by rw [ha8, hg8]; exact heap_alloc_new w8 _)
          clear k8 B7 Q7 P7 RB kp8
          go_wp2_with fail
          rw [← hg8, ← ha8]
          try rw [← HU.out]
          clear hg8 ha8
          refine (RC.out _ (HG.out.below B8.out) (Nat.le_trans h8 B8.out.size)).mono ?_
          rintro E w9 ⟨rfl, k9⟩
          obtain ⟨a9, ha9⟩ : ∃ a9, a9 = w9.alloc (.cells #[.string ⟨#[]⟩, .string ⟨#[]⟩, .string ⟨#[]⟩, .bool false] 24) := ⟨_, rfl⟩
          obtain ⟨g9, hg9⟩ : ∃ g, g = (w9 : World).heap.size := ⟨_, rfl⟩
          have B9 : Hid (Below w.heap.size w a9) := Lib.hid (by rw [ha9]; have b := B8.out.trans (k9.mono B8.out.size); exact b.alloc b.size _)
          have kp9 : ∀ g o, a8.heap[g]? = some o → a9.heap[g]? = some o := fun g o h => by rw [ha9]; exact (Below.heap_alloc _ _ _ (Nat.lt_of_lt_of_le (heap_lt h) k9.size)).trans ((k9.block _ (heap_lt h)).trans h)
          have Q9 := Lib.hid (kp9 _ _ Q8.out); have P9 := Lib.hid (kp9 _ _ P8.out); have O9 := Lib.hid (kp9 _ _ O8.out)
          have N9 : Hid (a9.heap[g9]? = some (.cells #[.string ⟨#[]⟩, .string ⟨#[]⟩, .string ⟨#[]⟩, .bool false] 24 (0, 0))) := Lib.hid (by rw [ha9, hg9]; exact heap_alloc_new w9 _)
          clear k9 B8 Q8 P8 O8 RC kp9 n2 n3 v1 v2
          go_upto_region 24 with fail
          rw [← hg9, ← ha9]
          clear hg9 ha9
          obtain ⟨q0, q1, q2, q3, _⟩ := cells4 Q9.out
          obtain ⟨p0, p1, p2, p3, _⟩ := cells4 P9.out
          obtain ⟨o0, o1, o2, o3, _⟩ := cells4 O9.out
          obtain ⟨n0, n1, n2, n3, _⟩ := cells4 N9.out
          go_wp2_with fail
          go_ret
          exact ⟨rfl, B9.out⟩
      · have i1 : ¬ (k : Int) < (sizes.length : Int) := by
          rcases hex with h | ⟨_, h⟩
          · exact h
          · exact absurd h hr0
        have hl4 := L4.out hr0
        clear hex L3 L4
        have hre : (rest == []) = false := by simpa using hr0
        have hre2 : (rest != []) = true := by rw [bne, hre]; rfl
        obtain ⟨X, hX⟩ : ∃ X : ByteArray, X = ⟨(Hx.hexs rest.length).toArray⟩ := ⟨_, rfl⟩
        have sX : X.size ≤ 4 := by rw [hX, size_list]; exact Hx.hexs_len 3 _ (by omega)
        have CX : Hid (∀ wq, Calls Tryz.prog 16 #[.int .i64 rest.length] wq fun e w' => e = .returned (.string X) ∧ w' = wq) := Lib.hid fun wq => by rw [hX]; exact hex_calls rest.length wq (by omega)
        obtain ⟨Y, hY⟩ : ∃ Y : ByteArray, Y = T ++ ⟨#[48]⟩ ++ X ++ ⟨#[32, 13, 10]⟩ := ⟨_, rfl⟩
        obtain ⟨V, hV⟩ : ∃ V : Nat, V = T.size + 1 + X.size := ⟨_, rfl⟩
        have hYs : Y.size = V + 3 := by
          rw [hY]; simp only [ByteArray.size_append]; show T.size + 1 + X.size + 3 = V + 3; omega
        have hyx : Y.extract 0 V = T ++ ⟨#[48]⟩ ++ X := by
          rw [extract_list, hY]
          have e : (T ++ ⟨#[48]⟩ ++ X ++ ⟨#[32, 13, 10]⟩ : ByteArray).data.toList = (T ++ ⟨#[48]⟩ ++ X : ByteArray).data.toList ++ [32, 13, 10] := by simp [ByteArray.data_append]
          have e2 : (T ++ ⟨#[48]⟩ ++ X : ByteArray).data.toList.length = V := by
            show (T ++ ⟨#[48]⟩ ++ X : ByteArray).size = V
            simp only [ByteArray.size_append]; show T.size + 1 + X.size = V; omega
          rw [e, List.drop_zero, Nat.sub_zero, ← e2, List.take_left]
        obtain ⟨Z, hZ⟩ : ∃ Z : ByteArray, Z = T ++ ⟨#[48]⟩ ++ X := ⟨_, rfl⟩
        rw [← hZ] at hyx
        have hZs : Z.size = V := by rw [hZ]; simp only [ByteArray.size_append]; show T.size + 1 + X.size = V; omega
        have hfin : (Z ++ ⟨#[13, 10]⟩ ++ ⟨rest.toArray⟩ ++ ⟨#[13, 10]⟩ : ByteArray).data.toList = HD ++ Hx.chunkText cs2 := by
          rw [← hl4, hZ, hX]; simp [ByteArray.data_append]
        have hfs : (Z ++ ⟨#[13, 10]⟩ ++ ⟨rest.toArray⟩ ++ ⟨#[13, 10]⟩ : ByteArray).size ≤ 9700 := by
          simp only [ByteArray.size_append]; show Z.size + 2 + rest.length + 2 ≤ 9700; omega
        have n1 : ¬ 9223372036854775807 < T.size + 1 := by omega
        have n2 : ¬ 9223372036854775807 < T.size + 1 + X.size := by omega
        have n3 : ¬ 9223372036854775807 < T.size + 1 + X.size + 3 := by omega
        have v1 : (Y.size : Int) - 3 = (V : Int) := by omega
        have v2 : V ≤ Y.size := by omega
        have v3 : IntKind.i64.wrap (V : Int) = (V : Int) := IntWalk.i64_in _ (by omega)
        have v4 : (V : Int) ≤ 10000 := by omega
        have n4 : ¬ 9223372036854775807 < Z.size + 2 := by omega
        have n5 : ¬ 9223372036854775807 < Z.size + 2 + rest.length := by omega
        have n6 : ¬ 9223372036854775807 < Z.size + 2 + rest.length + 2 := by omega
        have HF := Lib.hid hfin; have HFS := Lib.hid hfs; have HY := Lib.hid hY
        clear hl4 hr0 hX hY hV hYs hZ hZs hfin hfs
        go_wp2_with fail
        refine (CX.out _).mono ?_
        rintro E w' ⟨rfl, hw'⟩
        have hw' := hw'.symm
        subst hw'
        go_upto_region 18 with fail
        rw [← HY.out]
        clear n1 n2 n3 CX
        go_upto_region 19 with fail
        obtain ⟨T2, hTT⟩ : ∃ T2 : ByteArray, T2 = Z ++ ⟨#[13, 10]⟩ ++ ⟨rest.toArray⟩ ++ ⟨#[13, 10]⟩ := ⟨_, rfl⟩
        have HT2 : Hid (T2.data.toList = HD ++ Hx.chunkText cs2) := Lib.hid (by rw [hTT]; exact HF.out)
        have hT2 : T2.size ≤ 9700 := by rw [hTT]; exact HFS.out
        rw [← hTT]
        have HB2 := HB
        clear hTT HF HFS HB n4 n5 n6 v1 v2 v3 v4 i1 hre hre2 hT9 hzr hrl
        obtain ⟨W, hW⟩ : ∃ W : ByteArray, W = T2 ++ ⟨#[48, 59, 97, 61, 98, 13, 10, 88, 58, 32, 121, 13, 10, 13, 10]⟩ := ⟨_, rfl⟩
        have wT : W.data.toList = HD ++ (Hx.chunkText cs2 ++ (Hx.tLast ++ 13 :: 10 :: Hx.rows (Hx.tTail.map Hx.fl))) := by
          rw [← text_tail, ← List.append_assoc, ← HT2.out, hW]; simp [ByteArray.data_append]
        have sW : W.size ≤ 9800 := by
          rw [hW]; simp only [ByteArray.size_append]; show T2.size + 15 ≤ 9800; omega
        have n1 : ¬ 9223372036854775807 < T2.size + 15 := by omega
        have n2 : ¬ 9223372036854775807 < O.size + W.size := by omega
        have n3 : ¬ 9223372036854775807 < W.size + O.size := by omega
        have r1 := R1.out
        have r2 := R2.out cs2 L1.out (by rw [L2.out]; exact hb)
        rw [← OT.out] at r1
        rw [← wT, L2.out] at r2
        have l1 : O.data.toList.length = O.size := rfl
        have l2 : W.data.toList.length = W.size := rfl
        have hO1 : 1 ≤ O.size := by
          have := Hx.read_le (s := O.data.toList) (by rw [r1])
          rw [r1] at this; simp only at this; omega
        have r3 := Hx.read_less r1 (by omega)
        have ra := Hx.read_app W.data.toList (s := O.data.toList) (by rw [r1]; simp)
        have rb := Hx.read_app O.data.toList (s := W.data.toList) (by rw [r2]; simp)
        rw [r1, l1] at ra; rw [r2, l2] at rb
        rw [l1] at r3
        obtain ⟨V, hV⟩ : ∃ V : Nat, V = O.size - 1 := ⟨_, rfl⟩
        rw [← hV] at r3
        have v1 : (O.size : Int) - 1 = (V : Int) := by omega
        have v2 : V ≤ O.size := by omega
        obtain ⟨U, hU⟩ : ∃ U : ByteArray, U = O.extract 0 V := ⟨_, rfl⟩
        have uT : U.data.toList = O.data.toList.take V := by rw [hU, extract_list]; simp
        have sU : (O.data.toList.take V).length ≤ 9000 := Nat.le_trans (List.length_take_le _ _) (by omega)
        have RA : Hid (∀ wq, Glb wq → 8 ≤ wq.heap.size → Calls Tryz.prog 11 #[.string (O ++ W)] wq fun E w' => E = .returned (.tuple #[.agg #[.string M, .string P, .string ⟨body.toArray⟩, .bool false], .int .i64 O.size, .int .i64 200]) ∧ Below wq.heap.size wq w') := Lib.hid fun wq hq h8 => by
          rw [HM.out, HP.out]
          exact readN _ (O ++ W) wq (by simp [ByteArray.data_append]) (by rw [List.length_append, l1, l2]; omega) hq h8 _ _ body false O.size 200 ra
        have RB : Hid (∀ wq, Glb wq → 8 ≤ wq.heap.size → Calls Tryz.prog 11 #[.string (W ++ O)] wq fun E w' => E = .returned (.tuple #[.agg #[.string M, .string P, .string ⟨body.toArray⟩, .bool false], .int .i64 W.size, .int .i64 200]) ∧ Below wq.heap.size wq w') := Lib.hid fun wq hq h8 => by
          rw [HM.out, HP.out]
          exact readN _ (W ++ O) wq (by simp [ByteArray.data_append]) (by rw [List.length_append, l1, l2]; omega) hq h8 _ _ body false W.size 200 rb
        have RC : Hid (∀ wq, Glb wq → 8 ≤ wq.heap.size → Calls Tryz.prog 11 #[.string U] wq fun E w' => E = .returned (.tuple #[.agg #[.string ⟨#[]⟩, .string ⟨#[]⟩, .string ⟨#[]⟩, .bool false], .int .i64 0, .int .i64 0]) ∧ Below wq.heap.size wq w') := Lib.hid fun wq hq h8 =>
          readN _ U wq uT (by omega) hq h8 [] [] [] false 0 0 r3
        have HU := Lib.hid hU; have HW := Lib.hid hW
        clear wT hW r1 r2 r3 ra rb l1 l2 hV hU uT sU L1 L2 HT2
        go_upto_region 20 with fail
        rw [← HW.out]
        clear n1
        go_wp2_with fail
        refine (CM.out _).mono ?_
        rintro E w5 ⟨rfl, k5⟩
        have B5 := Lib.hid (HB2.out.trans (k5.mono HB2.out.size))
        clear k5 HB2
        go_wp2_with fail
        refine (CP.out _).mono ?_
        rintro E w6 ⟨rfl, k6⟩
        obtain ⟨a6, ha6⟩ : ∃ a6, a6 = w6.alloc (.cells #[.string M, .string P, .string ⟨body.toArray⟩, .bool false] 24) := ⟨_, rfl⟩
        obtain ⟨g6, hg6⟩ : ∃ g, g = (w6 : World).heap.size := ⟨_, rfl⟩
        have B6 : Hid (Below w.heap.size w a6) := Lib.hid (by rw [ha6]; have b := B5.out.trans (k6.mono B5.out.size); exact b.alloc b.size _)
        have Q6 : Hid (a6.heap[g6]? = some (.cells #[.string M, .string P, .string ⟨body.toArray⟩, .bool false] 24 (0, 0))) := Lib.hid (by rw [ha6, hg6]; exact heap_alloc_new w6 _)
        clear k6 B5
        go_wp2_with fail
        rw [← hg6, ← ha6]
        clear hg6 ha6
        refine (RA.out _ (HG.out.below B6.out) (Nat.le_trans h8 B6.out.size)).mono ?_
        rintro E w7 ⟨rfl, k7⟩
        obtain ⟨a7, ha7⟩ : ∃ a7, a7 = w7.alloc (.cells #[.string M, .string P, .string ⟨body.toArray⟩, .bool false] 24) := ⟨_, rfl⟩
        obtain ⟨g7, hg7⟩ : ∃ g, g = (w7 : World).heap.size := ⟨_, rfl⟩
        have B7 : Hid (Below w.heap.size w a7) := Lib.hid (by rw [ha7]; have b := B6.out.trans (k7.mono B6.out.size); exact b.alloc b.size _)
        have kp7 : ∀ g o, a6.heap[g]? = some o → a7.heap[g]? = some o := fun g o h => by rw [ha7]; exact (Below.heap_alloc _ _ _ (Nat.lt_of_lt_of_le (heap_lt h) k7.size)).trans ((k7.block _ (heap_lt h)).trans h)
        have Q7 : Hid (a7.heap[g6]? = some (.cells #[.string M, .string P, .string ⟨body.toArray⟩, .bool false] 24 (0, 0))) := Lib.hid (kp7 _ _ Q6.out)
        have P7 : Hid (a7.heap[g7]? = some (.cells #[.string M, .string P, .string ⟨body.toArray⟩, .bool false] 24 (0, 0))) := Lib.hid (by rw [ha7, hg7]; exact heap_alloc_new w7 _)
        clear k7 B6 Q6 RA kp7
        go_wp2_with fail
        rw [← hg7, ← ha7]
        clear hg7 ha7
        refine (RB.out _ (HG.out.below B7.out) (Nat.le_trans h8 B7.out.size)).mono ?_
        rintro E w8 ⟨rfl, k8⟩
        obtain ⟨a8, ha8⟩ : ∃ a8, a8 = w8.alloc (.cells #[.string M, .string P, .string ⟨body.toArray⟩, .bool false] 24) := ⟨_, rfl⟩
        obtain ⟨g8, hg8⟩ : ∃ g, g = (w8 : World).heap.size := ⟨_, rfl⟩
        have B8 : Hid (Below w.heap.size w a8) := Lib.hid (by rw [ha8]; have b := B7.out.trans (k8.mono B7.out.size); exact b.alloc b.size _)
        have kp8 : ∀ g o, a7.heap[g]? = some o → a8.heap[g]? = some o := fun g o h => by rw [ha8]; exact (Below.heap_alloc _ _ _ (Nat.lt_of_lt_of_le (heap_lt h) k8.size)).trans ((k8.block _ (heap_lt h)).trans h)
        have Q8 := Lib.hid (kp8 _ _ Q7.out); have P8 := Lib.hid (kp8 _ _ P7.out)
        have O8 : Hid (a8.heap[g8]? = some (.cells #[.string M, .string P, .string ⟨body.toArray⟩, .bool false] 24 (0, 0))) := Lib.hid (by rw [ha8, hg8]; exact heap_alloc_new w8 _)
        clear k8 B7 Q7 P7 RB kp8
        go_wp2_with fail
        rw [← hg8, ← ha8]
        try rw [← HU.out]
        clear hg8 ha8
        refine (RC.out _ (HG.out.below B8.out) (Nat.le_trans h8 B8.out.size)).mono ?_
        rintro E w9 ⟨rfl, k9⟩
        obtain ⟨a9, ha9⟩ : ∃ a9, a9 = w9.alloc (.cells #[.string ⟨#[]⟩, .string ⟨#[]⟩, .string ⟨#[]⟩, .bool false] 24) := ⟨_, rfl⟩
        obtain ⟨g9, hg9⟩ : ∃ g, g = (w9 : World).heap.size := ⟨_, rfl⟩
        have B9 : Hid (Below w.heap.size w a9) := Lib.hid (by rw [ha9]; have b := B8.out.trans (k9.mono B8.out.size); exact b.alloc b.size _)
        have kp9 : ∀ g o, a8.heap[g]? = some o → a9.heap[g]? = some o := fun g o h => by rw [ha9]; exact (Below.heap_alloc _ _ _ (Nat.lt_of_lt_of_le (heap_lt h) k9.size)).trans ((k9.block _ (heap_lt h)).trans h)
        have Q9 := Lib.hid (kp9 _ _ Q8.out); have P9 := Lib.hid (kp9 _ _ P8.out); have O9 := Lib.hid (kp9 _ _ O8.out)
        have N9 : Hid (a9.heap[g9]? = some (.cells #[.string ⟨#[]⟩, .string ⟨#[]⟩, .string ⟨#[]⟩, .bool false] 24 (0, 0))) := Lib.hid (by rw [ha9, hg9]; exact heap_alloc_new w9 _)
        clear k9 B8 Q8 P8 O8 RC kp9 n2 n3 v1 v2
        go_upto_region 24 with fail
        rw [← hg9, ← ha9]
        clear hg9 ha9
        obtain ⟨q0, q1, q2, q3, _⟩ := cells4 Q9.out
        obtain ⟨p0, p1, p2, p3, _⟩ := cells4 P9.out
        obtain ⟨o0, o1, o2, o3, _⟩ := cells4 O9.out
        obtain ⟨n0, n1, n2, n3, _⟩ := cells4 N9.out
        go_wp2_with fail
        go_ret
        exact ⟨rfl, B9.out⟩

set_option maxRecDepth 100000 in
set_option maxHeartbeats 8000000 in
theorem bodies_t (m p body : Hx.Bytes) (sizes : List Int) (a : Option Addr) (cp : Nat) (w : World) (hl : IRow w a sizes) (hg : Glb w) (ht : Tb w) (h8 : 8 ≤ w.heap.size) (hb : body.length ≤ 8000) (hn : sizes.length ≤ 100) :
    Calls Tryz.prog 4 #[.string ⟨m.toArray⟩, .string ⟨p.toArray⟩, .string ⟨body.toArray⟩, .slice a sizes.length cp, .bool true] w (LawPost w) := by
  have hz1 := size_list body
  have h1 : ¬ (8000 : Int) < body.length := by omega
  have h2 : ¬ (100 : Int) < sizes.length := by omega
  have HL := Lib.hid hl
  obtain ⟨M, hM⟩ : ∃ M : ByteArray, M = ⟨(Hx.methodOf m).toArray⟩ := ⟨_, rfl⟩
  obtain ⟨P, hP⟩ : ∃ P : ByteArray, P = ⟨(Hx.pathOf p).toArray⟩ := ⟨_, rfl⟩
  obtain ⟨D, hD⟩ : ∃ D : ByteArray, D = ⟨(Hx.dec body.length).toArray⟩ := ⟨_, rfl⟩
  obtain ⟨okm0, okm1, okm2⟩ := Hx.methodOf_ok m
  obtain ⟨okp0, okp1, okp2⟩ := Hx.pathOf_ok p
  have sM : M.size ≤ 10 := by rw [hM, size_list]; exact okm1
  have sP : P.size ≤ 301 := by rw [hP, size_list]; exact okp1
  have sD : D.size ≤ 10 := by rw [hD, size_list]; exact Hx.dec_len 9 _ (by omega)
  have CM : Hid (∀ wq, Calls Tryz.prog 13 #[.string ⟨m.toArray⟩] wq fun e w' => e = .returned (.string M) ∧ Below wq.heap.size wq w') := Lib.hid fun wq => by rw [hM]; exact method_calls m wq
  have CP : Hid (∀ wq, Calls Tryz.prog 14 #[.string ⟨p.toArray⟩] wq fun e w' => e = .returned (.string P) ∧ Below wq.heap.size wq w') := Lib.hid fun wq => by rw [hP]; exact path_calls p wq
  have CD : Hid (∀ wq, Calls Tryz.prog 15 #[.int .i64 body.length] wq fun e w' => e = .returned (.string D) ∧ w' = wq) := Lib.hid fun wq => by rw [hD]; exact digits_calls body.length wq (by omega)
  obtain ⟨S, hS⟩ : ∃ S : ByteArray, S = M ++ ⟨#[32]⟩ ++ P ++ ⟨#[32, 72, 84, 84, 80, 47, 49, 46, 49, 13, 10, 104, 79, 115, 116, 58, 9, 120, 32, 121, 32, 13, 10]⟩ ++ ⟨#[67, 111, 110, 110, 101, 99, 116, 105, 111, 110, 58, 32, 107, 101, 101, 112, 45, 97, 108, 105, 118, 101, 32, 44, 32, 67, 76, 79, 83, 69, 13, 10]⟩ := ⟨_, rfl⟩
  have sS : S.size ≤ 500 := by
    rw [hS]; simp only [ByteArray.size_append]
    show M.size + 1 + P.size + 23 + 32 ≤ 500; omega
  obtain ⟨O, hO⟩ : ∃ O : ByteArray, O = S ++ ⟨#[67, 111, 110, 116, 101, 110, 116, 45, 76, 101, 110, 103, 116, 104, 58, 32]⟩ ++ D ++ ⟨#[13, 10, 13, 10]⟩ ++ ⟨body.toArray⟩ := ⟨_, rfl⟩
  obtain ⟨T0, hT0⟩ : ∃ T : ByteArray, T = S ++ ⟨#[116, 114, 97, 110, 115, 102, 101, 114, 45, 101, 110, 99, 111, 100, 105, 110, 103, 58, 67, 104, 117, 110, 107, 101, 100, 13, 10, 13, 10]⟩ := ⟨_, rfl⟩
  obtain ⟨HD, hHD⟩ : ∃ HD, HD = Hx.bdHead (Hx.methodOf m) (Hx.pathOf p) true Hx.bdT := ⟨_, rfl⟩
  have oT : O.data.toList = Hx.bdHead (Hx.methodOf m) (Hx.pathOf p) true (Hx.bdL body.length) ++ body := by
    rw [← text_one, hO, hS, hM, hP, hD]; simp [ByteArray.data_append]
  have tT : T0.data.toList = HD := by
    rw [hHD, ← text_two, hT0, hS, hM, hP]; simp [ByteArray.data_append]
  have sO : O.size ≤ 9000 := by
    rw [hO]; simp only [ByteArray.size_append]
    show S.size + 16 + D.size + 4 + body.length ≤ 9000; omega
  have sT : T0.size ≤ 600 := by
    rw [hT0]; simp only [ByteArray.size_append]
    show S.size + 29 ≤ 600; omega
  have u1 : ¬ 9223372036854775807 < M.size + 1 := by omega
  have u2 : ¬ 9223372036854775807 < M.size + 1 + P.size := by omega
  have u3 : ¬ 9223372036854775807 < M.size + 1 + P.size + 23 := by omega
  have u4 : ¬ 9223372036854775807 < M.size + 1 + P.size + 23 + 32 := by omega
  have u5 : ¬ 9223372036854775807 < S.size + 16 := by omega
  have u6 : ¬ 9223372036854775807 < S.size + 16 + D.size := by omega
  have u7 : ¬ 9223372036854775807 < S.size + 16 + D.size + 4 := by omega
  have u8 : ¬ 9223372036854775807 < S.size + 16 + D.size + 4 + body.length := by omega
  have u9 : ¬ 9223372036854775807 < S.size + 29 := by omega
  have r1 := Hx.read_one okm0 okm1 okm2 okp0 okp1 okp2 true body hb
  have r2 := fun cs hc hd => Hx.read_two okm0 okm1 okm2 okp0 okp1 okp2 true cs hc hd
  rw [← hHD] at r2
  have HO := Lib.hid hO; have HT0 := Lib.hid hT0; have OT := Lib.hid oT; have TT := Lib.hid tT; have R1 := Lib.hid r1; have R2 := Lib.hid r2; have HM := Lib.hid hM; have HP := Lib.hid hP; have HS := Lib.hid hS
  clear hM hP hD okm0 okm1 okm2 okp0 okp1 okp2 hS hO hT0 hHD oT tT r1 r2 hl
  have HG := Lib.hid hg; have HT := Lib.hid ht
  clear hg ht
  go_enter Tryz.func4, Tryz.ntmps4
  go_wp2_with fail
  refine (shown_calls _ HG.out HT.out h8).mono ?_
  rintro E w2 ⟨rfl, k⟩
  have B2 := Lib.hid k
  clear k HT
  go_wp2_with fail
  refine (CM.out _).mono ?_
  rintro E w3 ⟨rfl, k⟩
  have B3 := Lib.hid (B2.out.trans (k.mono B2.out.size))
  clear k B2
  go_wp2_with fail
  refine (CP.out _).mono ?_
  rintro E w4 ⟨rfl, k⟩
  have B4 := Lib.hid (B3.out.trans (k.mono B3.out.size))
  clear k B3
  go_upto_region 7 with fail
  rw [← HS.out]
  clear u1 u2 u3 u4
  go_wp2_with fail
  refine (CD.out _).mono ?_
  rintro E w' ⟨rfl, hw'⟩
  have hw' := hw'.symm
  subst hw'
  go_upto_region 9 with fail
  rw [← HO.out, ← HT0.out]
  clear u5 u6 u7 u8 u9 CD
  go_wp2_with fail
  go_loopg [14, 15, 16] (sizes.length + 1) (fun q z y i wr => ∃ (k : Nat) (cs : List (Hx.Bytes × Hx.Bytes)) (rest : Hx.Bytes) (T : ByteArray), z = .string T ∧ y = .string ⟨rest.toArray⟩ ∧ i = .int .i64 k ∧ k ≤ sizes.length ∧ sizes.length < k + q ∧ T.size + rest.length ≤ 8600 + 10 * k ∧ rest.length ≤ 8000 ∧ Hid (∀ c ∈ cs, Hx.ChunkOk c) ∧ Hid (Hx.chunkData cs ++ rest = body) ∧ Hid (T.data.toList = HD ++ Hx.chunkText cs) ∧ Hid (Below w.heap.size w wr))
  case atStart => exact ⟨0, [], body, T0, rfl, rfl, rfl, Nat.zero_le _, by omega, by omega, hb, Lib.hid (fun c hc => by cases hc), Lib.hid rfl, Lib.hid (by rw [TT.out]; simp [Hx.chunkText]), B4⟩
  case round =>
    clear B4
    obtain ⟨k, cs, rest, T, rfl, rfl, rfl, hk, hq, hT, hrl, HC, HDA, HTT, HB⟩ := hrel
    obtain ⟨q, rfl⟩ : ∃ q, gk = q + 1 := ⟨gk - 1, by omega⟩
    have hzr := size_list rest
    by_cases hgo : k < sizes.length ∧ rest ≠ []
    · obtain ⟨hlt, hne⟩ := hgo
      obtain ⟨x, hx⟩ : ∃ x, sizes[k]? = some x := ⟨sizes[k], by simp [hlt]⟩
      obtain ⟨⟨xb0, xb1⟩, g, o, rfl, hgl, hcell⟩ := HL.out k x hx
      have hc2 : wr.cell? ⟨g, o + k, none⟩ = some (.int .i64 x) := (HB.out.cell (p := ⟨g, o + k, none⟩) hgl).trans hcell
      have hltI : (k : Int) < (sizes.length : Int) := by omega
      have hre : (rest == []) = false := by simpa using hne
      have hre2 : (rest != []) = true := by rw [bne, hre]; rfl
      have hr0 : 0 < rest.length := List.length_pos_iff.2 hne
      have PK := Lib.hid (fun (wq : World) => pick_calls x rest.length wq xb0 xb1 hr0 (by omega))
      clear hx hcell xb0 xb1 hne
      go_wp2_with fail
      refine (PK.out _).mono ?_
      rintro E w' ⟨hw', j, hj, rfl⟩
      have hw' := hw'.symm
      subst hw'
      clear PK hc2 hre hre2
      obtain ⟨N, hN⟩ : ∃ N : Nat, N = j + 1 := ⟨_, rfl⟩
      have hNI : (1 : Int) + (j : Int) = (N : Int) := by omega
      have hNr : N ≤ rest.length := by omega
      have hN0 : 0 < N := by omega
      have hN64 : IntKind.i64.wrap (N : Int) = (N : Int) := IntWalk.i64_in _ (by omega)
      obtain ⟨X, hX⟩ : ∃ X : ByteArray, X = ⟨(Hx.hexs N).toArray⟩ := ⟨_, rfl⟩
      have sX : X.size ≤ 4 := by rw [hX, size_list]; exact Hx.hexs_len 3 N (by omega)
      have CX : Hid (∀ wq, Calls Tryz.prog 16 #[.int .i64 N] wq fun e w' => e = .returned (.string X) ∧ w' = wq) := Lib.hid fun wq => by rw [hX]; exact hex_calls N wq (by omega)
      obtain ⟨d, hd⟩ : ∃ d, d = rest.take N := ⟨_, rfl⟩
      obtain ⟨r2, hr2⟩ : ∃ r, r = rest.drop N := ⟨_, rfl⟩
      have hdl : d.length = N := by rw [hd, List.length_take]; omega
      have hr2l : r2.length = rest.length - N := by rw [hr2, List.length_drop]
      have x1 : (⟨rest.toArray⟩ : ByteArray).extract 0 N = ⟨d.toArray⟩ := by rw [extract_list, hd]; simp
      have x2 : (⟨rest.toArray⟩ : ByteArray).extract N rest.length = ⟨r2.toArray⟩ := by
        rw [extract_list, hr2, List.take_of_length_le (by rw [List.length_drop]; exact Nat.le_refl _)]
      have hT2 : (T ++ X ++ ⟨#[13, 10]⟩ ++ ⟨d.toArray⟩ ++ ⟨#[13, 10]⟩ : ByteArray).data.toList = HD ++ Hx.chunkText (cs ++ [(Hx.hexs N, d)]) := by
        rw [Hx.chunkText_snoc, ← List.append_assoc, ← HTT.out, hX]
        simp [ByteArray.data_append]
      have hda2 : Hx.chunkData (cs ++ [(Hx.hexs N, d)]) ++ r2 = body := by
        rw [Hx.chunkData_snoc, List.append_assoc, hd, hr2, List.take_append_drop]; exact HDA.out
      have hok : ∀ c ∈ cs ++ [(Hx.hexs N, d)], Hx.ChunkOk c := by
        intro c hc
        rcases List.mem_append.1 hc with hc | hc
        · exact HC.out c hc
        · obtain rfl := List.mem_singleton.1 hc
          exact (Hx.chunk_ok (fun e => by rw [e] at hdl; simp at hdl; omega) hdl (by omega)).1
      have n1 : ¬ 9223372036854775807 < T.size + X.size := by omega
      have n2 : ¬ 9223372036854775807 < T.size + X.size + 2 := by omega
      have n3 : ¬ 9223372036854775807 < T.size + X.size + 2 + d.length := by omega
      have n4 : ¬ 9223372036854775807 < T.size + X.size + 2 + d.length + 2 := by omega
      have hsz2 : (T ++ X ++ ⟨#[13, 10]⟩ ++ ⟨d.toArray⟩ ++ ⟨#[13, 10]⟩ : ByteArray).size + r2.length ≤ 8600 + 10 * (k + 1) := by
        simp only [ByteArray.size_append]
        show T.size + X.size + 2 + d.length + 2 + r2.length ≤ 8600 + 10 * (k + 1)
        omega
      have hr28 : r2.length ≤ 8000 := by omega
      have HT2 := Lib.hid hT2; have HDA2 := Lib.hid hda2; have HOK := Lib.hid hok; have HS2 := Lib.hid hsz2; have HR28 := Lib.hid hr28
      clear hd hr2 hdl hr2l hT2 hda2 hok hsz2 hr28 hX hN hj HC HDA HTT hT hrl hr0
      go_wp2_with fail
      go_quiet ((go_at_call 16; exact Calls.quiet_of_same (CX.out _)))
      clear n1 n2 n3 n4 CX hNI
      go_wp2_with fail
      go_roundg q
      case measure => omega
      case rel => exact ⟨k + 1, cs ++ [(Hx.hexs N, d)], r2, _, rfl, rfl, by go_num, by omega, by omega, HS2.out, HR28.out, HOK, HDA2, HT2, Lib.hid (below_dN HB.out nq)⟩
    · have hex : ¬ (k : Int) < (sizes.length : Int) ∨ ((k : Int) < (sizes.length : Int) ∧ rest = []) := by
        by_cases h : k < sizes.length
        · exact .inr ⟨by omega, Classical.byContradiction fun h2 => hgo ⟨h, h2⟩⟩
        · exact .inl (by omega)
      -- what the last chunks are
      have hlast : ∃ cs2, (∀ c ∈ cs2, Hx.ChunkOk c) ∧ Hx.chunkData cs2 = body ∧ (rest = [] → T.data.toList = HD ++ Hx.chunkText cs2) ∧ (rest ≠ [] → T.data.toList ++ (48 :: Hx.hexs rest.length) ++ [13, 10] ++ rest ++ [13, 10] = HD ++ Hx.chunkText cs2) := by
        by_cases hr0 : rest = []
        · exact ⟨cs, HC.out, by have := HDA.out; rw [hr0, List.append_nil] at this; exact this, fun _ => HTT.out, fun h => absurd hr0 h⟩
        · refine ⟨cs ++ [(48 :: Hx.hexs rest.length, rest)], ?_, by rw [Hx.chunkData_snoc]; exact HDA.out, fun h => absurd h hr0, fun _ => ?_⟩
          · intro c hc
            rcases List.mem_append.1 hc with hc | hc
            · exact HC.out c hc
            · obtain rfl := List.mem_singleton.1 hc
              exact (Hx.chunk_ok hr0 rfl (by omega)).2
          · rw [Hx.chunkText_snoc, HTT.out]; simp
      obtain ⟨cs2, l1, l2, l3, l4⟩ := hlast
      have L1 := Lib.hid l1; have L2 := Lib.hid l2; have L3 := Lib.hid l3; have L4 := Lib.hid l4
      clear l1 l2 l3 l4 HC HDA HTT hgo
      have hT9 : T.size + rest.length ≤ 9600 := by omega
      clear hT hk hq
      by_cases hr0 : rest = []
      · have hex2 : ¬ (k : Int) < (sizes.length : Int) ∨ (k : Int) < (sizes.length : Int) := by omega
        have HT2 := Lib.hid (L3.out hr0)
        clear hex L3 L4
        subst hr0
        have hT2 : T.size ≤ 9700 := by simp only [List.length_nil] at hT9; omega
        have HB2 := HB
        clear HB hT9 hzr hrl
        rcases hex2 with i1 | i1
        all_goals
          go_upto_region 19 with fail
          clear i1
          obtain ⟨T2, hTT⟩ : ∃ T2, T2 = T := ⟨_, rfl⟩
          rw [← hTT] at HT2 hT2 ⊢
          clear hTT
          obtain ⟨W, hW⟩ : ∃ W : ByteArray, W = T2 ++ ⟨#[48, 59, 97, 61, 98, 13, 10, 88, 58, 32, 121, 13, 10, 13, 10]⟩ := ⟨_, rfl⟩
          have wT : W.data.toList = HD ++ (Hx.chunkText cs2 ++ (Hx.tLast ++ 13 :: 10 :: Hx.rows (Hx.tTail.map Hx.fl))) := by
            rw [← text_tail, ← List.append_assoc, ← HT2.out, hW]; simp [ByteArray.data_append]
          have sW : W.size ≤ 9800 := by
            rw [hW]; simp only [ByteArray.size_append]; show T2.size + 15 ≤ 9800; omega
          have n1 : ¬ 9223372036854775807 < T2.size + 15 := by omega
          have n2 : ¬ 9223372036854775807 < O.size + W.size := by omega
          have n3 : ¬ 9223372036854775807 < W.size + O.size := by omega
          have r1 := R1.out
          have r2 := R2.out cs2 L1.out (by rw [L2.out]; exact hb)
          rw [← OT.out] at r1
          rw [← wT, L2.out] at r2
          have l1 : O.data.toList.length = O.size := rfl
          have l2 : W.data.toList.length = W.size := rfl
          have hO1 : 1 ≤ O.size := by
            have := Hx.read_le (s := O.data.toList) (by rw [r1])
            rw [r1] at this; simp only at this; omega
          have r3 := Hx.read_less r1 (by omega)
          have ra := Hx.read_app W.data.toList (s := O.data.toList) (by rw [r1]; simp)
          have rb := Hx.read_app O.data.toList (s := W.data.toList) (by rw [r2]; simp)
          rw [r1, l1] at ra; rw [r2, l2] at rb
          rw [l1] at r3
          obtain ⟨V, hV⟩ : ∃ V : Nat, V = O.size - 1 := ⟨_, rfl⟩
          rw [← hV] at r3
          have v1 : (O.size : Int) - 1 = (V : Int) := by omega
          have v2 : V ≤ O.size := by omega
          obtain ⟨U, hU⟩ : ∃ U : ByteArray, U = O.extract 0 V := ⟨_, rfl⟩
          have uT : U.data.toList = O.data.toList.take V := by rw [hU, extract_list]; simp
          have sU : (O.data.toList.take V).length ≤ 9000 := Nat.le_trans (List.length_take_le _ _) (by omega)
          have RA : Hid (∀ wq, Glb wq → 8 ≤ wq.heap.size → Calls Tryz.prog 11 #[.string (O ++ W)] wq fun E w' => E = .returned (.tuple #[.agg #[.string M, .string P, .string ⟨body.toArray⟩, .bool true], .int .i64 O.size, .int .i64 200]) ∧ Below wq.heap.size wq w') := Lib.hid fun wq hq h8 => by
            rw [HM.out, HP.out]
            exact readN _ (O ++ W) wq (by simp [ByteArray.data_append]) (by rw [List.length_append, l1, l2]; omega) hq h8 _ _ body true O.size 200 ra
          have RB : Hid (∀ wq, Glb wq → 8 ≤ wq.heap.size → Calls Tryz.prog 11 #[.string (W ++ O)] wq fun E w' => E = .returned (.tuple #[.agg #[.string M, .string P, .string ⟨body.toArray⟩, .bool true], .int .i64 W.size, .int .i64 200]) ∧ Below wq.heap.size wq w') := Lib.hid fun wq hq h8 => by
            rw [HM.out, HP.out]
            exact readN _ (W ++ O) wq (by simp [ByteArray.data_append]) (by rw [List.length_append, l1, l2]; omega) hq h8 _ _ body true W.size 200 rb
          have RC : Hid (∀ wq, Glb wq → 8 ≤ wq.heap.size → Calls Tryz.prog 11 #[.string U] wq fun E w' => E = .returned (.tuple #[.agg #[.string ⟨#[]⟩, .string ⟨#[]⟩, .string ⟨#[]⟩, .bool false], .int .i64 0, .int .i64 0]) ∧ Below wq.heap.size wq w') := Lib.hid fun wq hq h8 =>
            readN _ U wq uT (by omega) hq h8 [] [] [] false 0 0 r3
          have HU := Lib.hid hU; have HW := Lib.hid hW
          clear wT hW r1 r2 r3 ra rb l1 l2 hV hU uT sU L1 L2 HT2
          go_upto_region 20 with fail
          rw [← HW.out]
          clear n1
          go_wp2_with fail
          refine (CM.out _).mono ?_
          rintro E w5 ⟨rfl, k5⟩
          have B5 := Lib.hid (HB2.out.trans (k5.mono HB2.out.size))
          clear k5 HB2
          go_wp2_with fail
          refine (CP.out _).mono ?_
          rintro E w6 ⟨rfl, k6⟩
          obtain ⟨a6, ha6⟩ : ∃ a6, a6 = w6.alloc (.cells #[.string M, .string P, .string ⟨body.toArray⟩, .bool true] 24) := ⟨_, rfl⟩
          obtain ⟨g6, hg6⟩ : ∃ g, g = (w6 : World).heap.size := ⟨_, rfl⟩
          have B6 : Hid (Below w.heap.size w a6) := Lib.hid (by rw [ha6]; have b := B5.out.trans (k6.mono B5.out.size); exact b.alloc b.size _)
          have Q6 : Hid (a6.heap[g6]? = some (.cells #[.string M, .string P, .string ⟨body.toArray⟩, .bool true] 24 (0, 0))) := Lib.hid (by rw [ha6, hg6]; exact heap_alloc_new w6 _)
          clear k6 B5
          go_wp2_with fail
          rw [← hg6, ← ha6]
          clear hg6 ha6
          refine (RA.out _ (HG.out.below B6.out) (Nat.le_trans h8 B6.out.size)).mono ?_
          rintro E w7 ⟨rfl, k7⟩
          obtain ⟨a7, ha7⟩ : ∃ a7, a7 = w7.alloc (.cells #[.string M, .string P, .string ⟨body.toArray⟩, .bool true] 24) := ⟨_, rfl⟩
          obtain ⟨g7, hg7⟩ : ∃ g, g = (w7 : World).heap.size := ⟨_, rfl⟩
          have B7 : Hid (Below w.heap.size w a7) := Lib.hid (by rw [ha7]; have b := B6.out.trans (k7.mono B6.out.size); exact b.alloc b.size _)
          have kp7 : ∀ g o, a6.heap[g]? = some o → a7.heap[g]? = some o := fun g o h => by rw [ha7]; exact (Below.heap_alloc _ _ _ (Nat.lt_of_lt_of_le (heap_lt h) k7.size)).trans ((k7.block _ (heap_lt h)).trans h)
          have Q7 : Hid (a7.heap[g6]? = some (.cells #[.string M, .string P, .string ⟨body.toArray⟩, .bool true] 24 (0, 0))) := Lib.hid (kp7 _ _ Q6.out)
          have P7 : Hid (a7.heap[g7]? = some (.cells #[.string M, .string P, .string ⟨body.toArray⟩, .bool true] 24 (0, 0))) := Lib.hid (by rw [ha7, hg7]; exact heap_alloc_new w7 _)
          clear k7 B6 Q6 RA kp7
          go_wp2_with fail
          rw [← hg7, ← ha7]
          clear hg7 ha7
          refine (RB.out _ (HG.out.below B7.out) (Nat.le_trans h8 B7.out.size)).mono ?_
          rintro E w8 ⟨rfl, k8⟩
          obtain ⟨a8, ha8⟩ : ∃ a8, a8 = w8.alloc (.cells #[.string M, .string P, .string ⟨body.toArray⟩, .bool true] 24) := ⟨_, rfl⟩
          obtain ⟨g8, hg8⟩ : ∃ g, g = (w8 : World).heap.size := ⟨_, rfl⟩
          have B8 : Hid (Below w.heap.size w a8) := Lib.hid (by rw [ha8]; have b := B7.out.trans (k8.mono B7.out.size); exact b.alloc b.size _)
          have kp8 : ∀ g o, a7.heap[g]? = some o → a8.heap[g]? = some o := fun g o h => by rw [ha8]; exact (Below.heap_alloc _ _ _ (Nat.lt_of_lt_of_le (heap_lt h) k8.size)).trans ((k8.block _ (heap_lt h)).trans h)
          have Q8 := Lib.hid (kp8 _ _ Q7.out); have P8 := Lib.hid (kp8 _ _ P7.out)
          have O8 : Hid (a8.heap[g8]? = some (.cells #[.string M, .string P, .string ⟨body.toArray⟩, .bool true] 24 (0, 0))) := Lib.hid (by rw [ha8, hg8]; exact heap_alloc_new w8 _)
          clear k8 B7 Q7 P7 RB kp8
          go_wp2_with fail
          rw [← hg8, ← ha8]
          try rw [← HU.out]
          clear hg8 ha8
          refine (RC.out _ (HG.out.below B8.out) (Nat.le_trans h8 B8.out.size)).mono ?_
          rintro E w9 ⟨rfl, k9⟩
          obtain ⟨a9, ha9⟩ : ∃ a9, a9 = w9.alloc (.cells #[.string ⟨#[]⟩, .string ⟨#[]⟩, .string ⟨#[]⟩, .bool false] 24) := ⟨_, rfl⟩
          obtain ⟨g9, hg9⟩ : ∃ g, g = (w9 : World).heap.size := ⟨_, rfl⟩
          have B9 : Hid (Below w.heap.size w a9) := Lib.hid (by rw [ha9]; have b := B8.out.trans (k9.mono B8.out.size); exact b.alloc b.size _)
          have kp9 : ∀ g o, a8.heap[g]? = some o → a9.heap[g]? = some o := fun g o h => by rw [ha9]; exact (Below.heap_alloc _ _ _ (Nat.lt_of_lt_of_le (heap_lt h) k9.size)).trans ((k9.block _ (heap_lt h)).trans h)
          have Q9 := Lib.hid (kp9 _ _ Q8.out); have P9 := Lib.hid (kp9 _ _ P8.out); have O9 := Lib.hid (kp9 _ _ O8.out)
          have N9 : Hid (a9.heap[g9]? = some (.cells #[.string ⟨#[]⟩, .string ⟨#[]⟩, .string ⟨#[]⟩, .bool false] 24 (0, 0))) := Lib.hid (by rw [ha9, hg9]; exact heap_alloc_new w9 _)
          clear k9 B8 Q8 P8 O8 RC kp9 n2 n3 v1 v2
          go_upto_region 24 with fail
          rw [← hg9, ← ha9]
          clear hg9 ha9
          obtain ⟨q0, q1, q2, q3, _⟩ := cells4 Q9.out
          obtain ⟨p0, p1, p2, p3, _⟩ := cells4 P9.out
          obtain ⟨o0, o1, o2, o3, _⟩ := cells4 O9.out
          obtain ⟨n0, n1, n2, n3, _⟩ := cells4 N9.out
          go_wp2_with fail
          go_ret
          exact ⟨rfl, B9.out⟩
      · have i1 : ¬ (k : Int) < (sizes.length : Int) := by
          rcases hex with h | ⟨_, h⟩
          · exact h
          · exact absurd h hr0
        have hl4 := L4.out hr0
        clear hex L3 L4
        have hre : (rest == []) = false := by simpa using hr0
        have hre2 : (rest != []) = true := by rw [bne, hre]; rfl
        obtain ⟨X, hX⟩ : ∃ X : ByteArray, X = ⟨(Hx.hexs rest.length).toArray⟩ := ⟨_, rfl⟩
        have sX : X.size ≤ 4 := by rw [hX, size_list]; exact Hx.hexs_len 3 _ (by omega)
        have CX : Hid (∀ wq, Calls Tryz.prog 16 #[.int .i64 rest.length] wq fun e w' => e = .returned (.string X) ∧ w' = wq) := Lib.hid fun wq => by rw [hX]; exact hex_calls rest.length wq (by omega)
        obtain ⟨Y, hY⟩ : ∃ Y : ByteArray, Y = T ++ ⟨#[48]⟩ ++ X ++ ⟨#[32, 13, 10]⟩ := ⟨_, rfl⟩
        obtain ⟨V, hV⟩ : ∃ V : Nat, V = T.size + 1 + X.size := ⟨_, rfl⟩
        have hYs : Y.size = V + 3 := by
          rw [hY]; simp only [ByteArray.size_append]; show T.size + 1 + X.size + 3 = V + 3; omega
        have hyx : Y.extract 0 V = T ++ ⟨#[48]⟩ ++ X := by
          rw [extract_list, hY]
          have e : (T ++ ⟨#[48]⟩ ++ X ++ ⟨#[32, 13, 10]⟩ : ByteArray).data.toList = (T ++ ⟨#[48]⟩ ++ X : ByteArray).data.toList ++ [32, 13, 10] := by simp [ByteArray.data_append]
          have e2 : (T ++ ⟨#[48]⟩ ++ X : ByteArray).data.toList.length = V := by
            show (T ++ ⟨#[48]⟩ ++ X : ByteArray).size = V
            simp only [ByteArray.size_append]; show T.size + 1 + X.size = V; omega
          rw [e, List.drop_zero, Nat.sub_zero, ← e2, List.take_left]
        obtain ⟨Z, hZ⟩ : ∃ Z : ByteArray, Z = T ++ ⟨#[48]⟩ ++ X := ⟨_, rfl⟩
        rw [← hZ] at hyx
        have hZs : Z.size = V := by rw [hZ]; simp only [ByteArray.size_append]; show T.size + 1 + X.size = V; omega
        have hfin : (Z ++ ⟨#[13, 10]⟩ ++ ⟨rest.toArray⟩ ++ ⟨#[13, 10]⟩ : ByteArray).data.toList = HD ++ Hx.chunkText cs2 := by
          rw [← hl4, hZ, hX]; simp [ByteArray.data_append]
        have hfs : (Z ++ ⟨#[13, 10]⟩ ++ ⟨rest.toArray⟩ ++ ⟨#[13, 10]⟩ : ByteArray).size ≤ 9700 := by
          simp only [ByteArray.size_append]; show Z.size + 2 + rest.length + 2 ≤ 9700; omega
        have n1 : ¬ 9223372036854775807 < T.size + 1 := by omega
        have n2 : ¬ 9223372036854775807 < T.size + 1 + X.size := by omega
        have n3 : ¬ 9223372036854775807 < T.size + 1 + X.size + 3 := by omega
        have v1 : (Y.size : Int) - 3 = (V : Int) := by omega
        have v2 : V ≤ Y.size := by omega
        have v3 : IntKind.i64.wrap (V : Int) = (V : Int) := IntWalk.i64_in _ (by omega)
        have v4 : (V : Int) ≤ 10000 := by omega
        have n4 : ¬ 9223372036854775807 < Z.size + 2 := by omega
        have n5 : ¬ 9223372036854775807 < Z.size + 2 + rest.length := by omega
        have n6 : ¬ 9223372036854775807 < Z.size + 2 + rest.length + 2 := by omega
        have HF := Lib.hid hfin; have HFS := Lib.hid hfs; have HY := Lib.hid hY
        clear hl4 hr0 hX hY hV hYs hZ hZs hfin hfs
        go_wp2_with fail
        refine (CX.out _).mono ?_
        rintro E w' ⟨rfl, hw'⟩
        have hw' := hw'.symm
        subst hw'
        go_upto_region 18 with fail
        rw [← HY.out]
        clear n1 n2 n3 CX
        go_upto_region 19 with fail
        obtain ⟨T2, hTT⟩ : ∃ T2 : ByteArray, T2 = Z ++ ⟨#[13, 10]⟩ ++ ⟨rest.toArray⟩ ++ ⟨#[13, 10]⟩ := ⟨_, rfl⟩
        have HT2 : Hid (T2.data.toList = HD ++ Hx.chunkText cs2) := Lib.hid (by rw [hTT]; exact HF.out)
        have hT2 : T2.size ≤ 9700 := by rw [hTT]; exact HFS.out
        rw [← hTT]
        have HB2 := HB
        clear hTT HF HFS HB n4 n5 n6 v1 v2 v3 v4 i1 hre hre2 hT9 hzr hrl
        obtain ⟨W, hW⟩ : ∃ W : ByteArray, W = T2 ++ ⟨#[48, 59, 97, 61, 98, 13, 10, 88, 58, 32, 121, 13, 10, 13, 10]⟩ := ⟨_, rfl⟩
        have wT : W.data.toList = HD ++ (Hx.chunkText cs2 ++ (Hx.tLast ++ 13 :: 10 :: Hx.rows (Hx.tTail.map Hx.fl))) := by
          rw [← text_tail, ← List.append_assoc, ← HT2.out, hW]; simp [ByteArray.data_append]
        have sW : W.size ≤ 9800 := by
          rw [hW]; simp only [ByteArray.size_append]; show T2.size + 15 ≤ 9800; omega
        have n1 : ¬ 9223372036854775807 < T2.size + 15 := by omega
        have n2 : ¬ 9223372036854775807 < O.size + W.size := by omega
        have n3 : ¬ 9223372036854775807 < W.size + O.size := by omega
        have r1 := R1.out
        have r2 := R2.out cs2 L1.out (by rw [L2.out]; exact hb)
        rw [← OT.out] at r1
        rw [← wT, L2.out] at r2
        have l1 : O.data.toList.length = O.size := rfl
        have l2 : W.data.toList.length = W.size := rfl
        have hO1 : 1 ≤ O.size := by
          have := Hx.read_le (s := O.data.toList) (by rw [r1])
          rw [r1] at this; simp only at this; omega
        have r3 := Hx.read_less r1 (by omega)
        have ra := Hx.read_app W.data.toList (s := O.data.toList) (by rw [r1]; simp)
        have rb := Hx.read_app O.data.toList (s := W.data.toList) (by rw [r2]; simp)
        rw [r1, l1] at ra; rw [r2, l2] at rb
        rw [l1] at r3
        obtain ⟨V, hV⟩ : ∃ V : Nat, V = O.size - 1 := ⟨_, rfl⟩
        rw [← hV] at r3
        have v1 : (O.size : Int) - 1 = (V : Int) := by omega
        have v2 : V ≤ O.size := by omega
        obtain ⟨U, hU⟩ : ∃ U : ByteArray, U = O.extract 0 V := ⟨_, rfl⟩
        have uT : U.data.toList = O.data.toList.take V := by rw [hU, extract_list]; simp
        have sU : (O.data.toList.take V).length ≤ 9000 := Nat.le_trans (List.length_take_le _ _) (by omega)
        have RA : Hid (∀ wq, Glb wq → 8 ≤ wq.heap.size → Calls Tryz.prog 11 #[.string (O ++ W)] wq fun E w' => E = .returned (.tuple #[.agg #[.string M, .string P, .string ⟨body.toArray⟩, .bool true], .int .i64 O.size, .int .i64 200]) ∧ Below wq.heap.size wq w') := Lib.hid fun wq hq h8 => by
          rw [HM.out, HP.out]
          exact readN _ (O ++ W) wq (by simp [ByteArray.data_append]) (by rw [List.length_append, l1, l2]; omega) hq h8 _ _ body true O.size 200 ra
        have RB : Hid (∀ wq, Glb wq → 8 ≤ wq.heap.size → Calls Tryz.prog 11 #[.string (W ++ O)] wq fun E w' => E = .returned (.tuple #[.agg #[.string M, .string P, .string ⟨body.toArray⟩, .bool true], .int .i64 W.size, .int .i64 200]) ∧ Below wq.heap.size wq w') := Lib.hid fun wq hq h8 => by
          rw [HM.out, HP.out]
          exact readN _ (W ++ O) wq (by simp [ByteArray.data_append]) (by rw [List.length_append, l1, l2]; omega) hq h8 _ _ body true W.size 200 rb
        have RC : Hid (∀ wq, Glb wq → 8 ≤ wq.heap.size → Calls Tryz.prog 11 #[.string U] wq fun E w' => E = .returned (.tuple #[.agg #[.string ⟨#[]⟩, .string ⟨#[]⟩, .string ⟨#[]⟩, .bool false], .int .i64 0, .int .i64 0]) ∧ Below wq.heap.size wq w') := Lib.hid fun wq hq h8 =>
          readN _ U wq uT (by omega) hq h8 [] [] [] false 0 0 r3
        have HU := Lib.hid hU; have HW := Lib.hid hW
        clear wT hW r1 r2 r3 ra rb l1 l2 hV hU uT sU L1 L2 HT2
        go_upto_region 20 with fail
        rw [← HW.out]
        clear n1
        go_wp2_with fail
        refine (CM.out _).mono ?_
        rintro E w5 ⟨rfl, k5⟩
        have B5 := Lib.hid (HB2.out.trans (k5.mono HB2.out.size))
        clear k5 HB2
        go_wp2_with fail
        refine (CP.out _).mono ?_
        rintro E w6 ⟨rfl, k6⟩
        obtain ⟨a6, ha6⟩ : ∃ a6, a6 = w6.alloc (.cells #[.string M, .string P, .string ⟨body.toArray⟩, .bool true] 24) := ⟨_, rfl⟩
        obtain ⟨g6, hg6⟩ : ∃ g, g = (w6 : World).heap.size := ⟨_, rfl⟩
        have B6 : Hid (Below w.heap.size w a6) := Lib.hid (by rw [ha6]; have b := B5.out.trans (k6.mono B5.out.size); exact b.alloc b.size _)
        have Q6 : Hid (a6.heap[g6]? = some (.cells #[.string M, .string P, .string ⟨body.toArray⟩, .bool true] 24 (0, 0))) := Lib.hid (by rw [ha6, hg6]; exact heap_alloc_new w6 _)
        clear k6 B5
        go_wp2_with fail
        rw [← hg6, ← ha6]
        clear hg6 ha6
        refine (RA.out _ (HG.out.below B6.out) (Nat.le_trans h8 B6.out.size)).mono ?_
        rintro E w7 ⟨rfl, k7⟩
        obtain ⟨a7, ha7⟩ : ∃ a7, a7 = w7.alloc (.cells #[.string M, .string P, .string ⟨body.toArray⟩, .bool true] 24) := ⟨_, rfl⟩
        obtain ⟨g7, hg7⟩ : ∃ g, g = (w7 : World).heap.size := ⟨_, rfl⟩
        have B7 : Hid (Below w.heap.size w a7) := Lib.hid (by rw [ha7]; have b := B6.out.trans (k7.mono B6.out.size); exact b.alloc b.size _)
        have kp7 : ∀ g o, a6.heap[g]? = some o → a7.heap[g]? = some o := fun g o h => by rw [ha7]; exact (Below.heap_alloc _ _ _ (Nat.lt_of_lt_of_le (heap_lt h) k7.size)).trans ((k7.block _ (heap_lt h)).trans h)
        have Q7 : Hid (a7.heap[g6]? = some (.cells #[.string M, .string P, .string ⟨body.toArray⟩, .bool true] 24 (0, 0))) := Lib.hid (kp7 _ _ Q6.out)
        have P7 : Hid (a7.heap[g7]? = some (.cells #[.string M, .string P, .string ⟨body.toArray⟩, .bool true] 24 (0, 0))) := Lib.hid (by rw [ha7, hg7]; exact heap_alloc_new w7 _)
        clear k7 B6 Q6 RA kp7
        go_wp2_with fail
        rw [← hg7, ← ha7]
        clear hg7 ha7
        refine (RB.out _ (HG.out.below B7.out) (Nat.le_trans h8 B7.out.size)).mono ?_
        rintro E w8 ⟨rfl, k8⟩
        obtain ⟨a8, ha8⟩ : ∃ a8, a8 = w8.alloc (.cells #[.string M, .string P, .string ⟨body.toArray⟩, .bool true] 24) := ⟨_, rfl⟩
        obtain ⟨g8, hg8⟩ : ∃ g, g = (w8 : World).heap.size := ⟨_, rfl⟩
        have B8 : Hid (Below w.heap.size w a8) := Lib.hid (by rw [ha8]; have b := B7.out.trans (k8.mono B7.out.size); exact b.alloc b.size _)
        have kp8 : ∀ g o, a7.heap[g]? = some o → a8.heap[g]? = some o := fun g o h => by rw [ha8]; exact (Below.heap_alloc _ _ _ (Nat.lt_of_lt_of_le (heap_lt h) k8.size)).trans ((k8.block _ (heap_lt h)).trans h)
        have Q8 := Lib.hid (kp8 _ _ Q7.out); have P8 := Lib.hid (kp8 _ _ P7.out)
        have O8 : Hid (a8.heap[g8]? = some (.cells #[.string M, .string P, .string ⟨body.toArray⟩, .bool true] 24 (0, 0))) := Lib.hid (by rw [ha8, hg8]; exact heap_alloc_new w8 _)
        clear k8 B7 Q7 P7 RB kp8
        go_wp2_with fail
        rw [← hg8, ← ha8]
        try rw [← HU.out]
        clear hg8 ha8
        refine (RC.out _ (HG.out.below B8.out) (Nat.le_trans h8 B8.out.size)).mono ?_
        rintro E w9 ⟨rfl, k9⟩
        obtain ⟨a9, ha9⟩ : ∃ a9, a9 = w9.alloc (.cells #[.string ⟨#[]⟩, .string ⟨#[]⟩, .string ⟨#[]⟩, .bool false] 24) := ⟨_, rfl⟩
        obtain ⟨g9, hg9⟩ : ∃ g, g = (w9 : World).heap.size := ⟨_, rfl⟩
        have B9 : Hid (Below w.heap.size w a9) := Lib.hid (by rw [ha9]; have b := B8.out.trans (k9.mono B8.out.size); exact b.alloc b.size _)
        have kp9 : ∀ g o, a8.heap[g]? = some o → a9.heap[g]? = some o := fun g o h => by rw [ha9]; exact (Below.heap_alloc _ _ _ (Nat.lt_of_lt_of_le (heap_lt h) k9.size)).trans ((k9.block _ (heap_lt h)).trans h)
        have Q9 := Lib.hid (kp9 _ _ Q8.out); have P9 := Lib.hid (kp9 _ _ P8.out); have O9 := Lib.hid (kp9 _ _ O8.out)
        have N9 : Hid (a9.heap[g9]? = some (.cells #[.string ⟨#[]⟩, .string ⟨#[]⟩, .string ⟨#[]⟩, .bool false] 24 (0, 0))) := Lib.hid (by rw [ha9, hg9]; exact heap_alloc_new w9 _)
        clear k9 B8 Q8 P8 O8 RC kp9 n2 n3 v1 v2
        go_upto_region 24 with fail
        rw [← hg9, ← ha9]
        clear hg9 ha9
        obtain ⟨q0, q1, q2, q3, _⟩ := cells4 Q9.out
        obtain ⟨p0, p1, p2, p3, _⟩ := cells4 P9.out
        obtain ⟨o0, o1, o2, o3, _⟩ := cells4 O9.out
        obtain ⟨n0, n1, n2, n3, _⟩ := cells4 N9.out
        go_wp2_with fail
        go_ret
        exact ⟨rfl, B9.out⟩

theorem bodies_calls (m p body : Hx.Bytes) (sizes : List Int) (a : Option Addr) (cp : Nat) (cl : Bool) (w : World) (hl : IRow w a sizes) (hg : Glb w) (ht : Tb w) (h8 : 8 ≤ w.heap.size) :
    Calls Tryz.prog 4 #[.string ⟨m.toArray⟩, .string ⟨p.toArray⟩, .string ⟨body.toArray⟩, .slice a sizes.length cp, .bool cl] w (LawPost w) := by
  by_cases ho : 8000 < body.length ∨ 100 < sizes.length
  · exact bodies_out m p body sizes a cp cl w hg ht h8 ho
  · cases cl with
    | true => exact bodies_t m p body sizes a cp w hl hg ht h8 (by omega) (by omega)
    | false => exact bodies_f m p body sizes a cp w hl hg ht h8 (by omega) (by omega)
end Go.Proofs.YthdmdafhldicmaaGreatDoor
