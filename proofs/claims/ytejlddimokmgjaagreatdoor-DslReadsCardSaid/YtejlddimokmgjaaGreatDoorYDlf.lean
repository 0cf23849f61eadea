/- WALKS: codexref21's Lines. -/
import Derived.Test.YtejlddimokmgjaaGreatDoorKk
import Derived.Test.YtejlddimokmgjaaGreatDoorYDxLines
namespace Go.Proofs.YtejlddimokmgjaaGreatDoor
open Go.RowKit

/-- What 'Lines' hands back: a row of lines in new memory. -/
def LinesPost (s : List UInt8) (w : World) (e : Ending) (w' : World) : Prop :=
  ∃ sv : Value, e = .returned sv ∧ Row w' (fun g => w.heap.size ≤ g) sv (Dx.rlines s).length ((Dx.rlines s).map strV) ∧ Below w.heap.size w w'
theorem btw_str (s : ByteArray) (f i : Nat) : Value.string (s.extract f i) = strV (Dx.btw s.data.toList f i) := by rw [extract_list]; rfl
theorem lines_map_snoc (l : List (List UInt8)) (x : List UInt8) : (l ++ [x]).map strV = l.map strV ++ [strV x] := by simp

set_option maxRecDepth 100000 in
set_option maxHeartbeats 4000000 in
theorem rlines_calls (s : ByteArray) (w : World) (hs : s.size ≤ 1000000) :
    Calls Tryz.prog 43 #[.string s] w (LinesPost s.data.toList w) := by
  obtain ⟨L, hL⟩ : ∃ L, L = Dx.rlines s.data.toList := ⟨_, rfl⟩
  unfold LinesPost
  rw [← hL]
  have HL := Lib.hid hL
  clear hL
  go_enter Tryz.func43, Tryz.ntmps43
  go_wp2_with fail
  go_loopg [3, 4, 5] (s.size) (fun g y f z wr => ∃ (k n : Nat) (out : List (List UInt8)), z = .int .i64 k ∧ f = .int .i64 n ∧ g = s.size - k ∧ k ≤ s.size ∧ n ≤ k ∧ out.length ≤ k ∧ Hid (wr.ownsRow w.heap.size 9 1 y out.length (out.map strV)) ∧ Hid (L = out ++ Dx.rl (Dx.btw s.data.toList n k) (s.data.toList.drop k)) ∧ Hid (Below w.heap.size w wr))
  case atStart => exact ⟨0, 0, [], rfl, rfl, rfl, Nat.zero_le _, Nat.le_refl _, Nat.le_refl _, Lib.hid (World.ownsRow_nil _ _ _ _), Lib.hid (by rw [HL.out, Dx.btw_self]; rfl), Lib.hid (Below.refl _ _)⟩
  case round =>
    obtain ⟨k, n, out, rfl, rfl, hq, hk, hn, hol, OWN, EQ, BW⟩ := hrel
    have HQ := Lib.hid hq
    clear hq
    obtain ⟨ao, no, co, rfl⟩ := own_shape OWN.out
    by_cases hlt : k < s.size
    · have hget : s.data.toList[k]? = some s[k] := by
        rw [List.getElem?_eq_getElem (by simpa using hlt)]; rfl
      by_cases h10 : s[k] = 10
      · have EQ2 := Lib.hid (show L = (out ++ [Dx.btw s.data.toList n k]) ++ Dx.rl (Dx.btw s.data.toList (k + 1) (k + 1)) (s.data.toList.drop (k + 1)) by
          rw [h10] at hget
          rw [EQ.out, Dx.rl_feed hget]; simp)
        have hb : ((s[k].toNat : Int) == 10) = true := by rw [h10]; rfl
        clear EQ hget h10
        obtain ⟨X, hX⟩ : ∃ X, X = s.extract n k := ⟨_, rfl⟩
        have hXV : Value.string X = strV (Dx.btw s.data.toList n k) := by rw [hX]; exact btw_str s n k
        have HX := Lib.hid hX; have HXV := Lib.hid hXV
        obtain ⟨i0, hi0, hz0, hz1, hz2⟩ := info_parts infoS
        have OWN8 := Lib.hid (OWN.out.alloc (.cells #[.string X] 9))
        have JO := Lib.hid (show ∀ u ∈ [Value.string X], u.oneCell' = true from by
          intro u hu; simp only [List.mem_cons, List.not_mem_nil, or_false] at hu; subst hu; rfl)
        have NEWS := Lib.hid (World.news_of_block (cs := #[.string X]) (t := 9) (fr := (0, 0)) (heap_alloc_new wr (.cells #[.string X] 9)))
        have SZ := Lib.hid (show w.heap.size ≤ (wr.alloc (.cells #[.string X] 9)).heap.size by have := BW.out.size; simp; omega)
        clear hX hXV
        go_upto_region 7 with fail
        go_wp2_with (at_builtin; rw [← HX.out]; refine wpList_append_lies _ rfl _ _ 45 rfl (w.heap.size) 9 i0 _ 1 16 Tryz.underlying45 hi0 hz0 hz1 hz2 rfl (by decide) (.slice ao no co) out.length (out.map strV) rfl OWN8.out ⟨wr.heap.size, 0, none⟩ 1 1 [.string X] rfl rfl NEWS.out JO.out (by decide) (by unfold maxLen; omega) (by omega) SZ.out (wr.heap.size + 1) (by simp) ?_; intro gg cap w9 hown9 hgrow9 hat9 hlt9)
        have OWN9 := Lib.hid (show w9.ownsRow w.heap.size 9 1 (.slice (some ⟨gg, 0, none⟩) (out.length + 1) cap) (out ++ [Dx.btw s.data.toList n k]).length ((out ++ [Dx.btw s.data.toList n k]).map strV) from by
          rw [lines_map_snoc, List.length_append, ← HXV.out]
          exact hown9)
        have HB9 := Lib.hid (show Below w.heap.size w w9 from by
          have h1 : Below w.heap.size w (wr.alloc (.cells #[.string X] 9)) := BW.out.alloc BW.out.size _
          exact h1.grown hgrow9 h1.size (fun g hg => (OWN.out.lt g hg).1))
        clear hown9 hgrow9 hat9 hlt9 OWN8 JO NEWS SZ hi0 hz0 hz1 hz2 HX HXV
        go_wp2_with fail
        go_roundg (s.size - (k + 1))
        case measure => have := HQ.out; omega
        case rel => exact ⟨k + 1, k + 1, out ++ [Dx.btw s.data.toList n k], by go_num, by go_num, rfl, by omega, by omega, by rw [List.length_append]; simp; omega, OWN9, EQ2, HB9⟩
      · have EQ2 := Lib.hid (show L = out ++ Dx.rl (Dx.btw s.data.toList n (k + 1)) (s.data.toList.drop (k + 1)) by
          rw [EQ.out, Dx.rl_more hn hget h10])
        have hb : ((s[k].toNat : Int) == 10) = false := by
          rw [beq_eq_false_iff_ne]
          intro h; exact h10 (UInt8.toNat_inj.1 (by show s[k].toNat = 10; omega))
        clear EQ hget h10
        go_wp2_with fail
        go_roundg (s.size - (k + 1))
        case measure => have := HQ.out; omega
        case rel => exact ⟨k + 1, n, out, by go_num, rfl, rfl, by omega, by omega, by omega, OWN, EQ2, BW⟩
    · have hik : k = s.size := by omega
      have heq := EQ.out
      rw [hik, show s.size = s.data.toList.length by simp, Dx.rl_end] at heq
      clear hlt
      by_cases hf : n < s.size
      · rw [if_pos (show n < s.data.toList.length from hf)] at heq
        have HEQ := Lib.hid heq
        clear heq EQ
        obtain ⟨X, hX⟩ : ∃ X, X = s.extract n s.size := ⟨_, rfl⟩
        have hXV : Value.string X = strV (s.data.toList.drop n) := by
          rw [hX, extract_list]
          show Value.string _ = Value.string _
          rw [List.take_of_length_le (by simp)]
        have HX := Lib.hid hX; have HXV := Lib.hid hXV
        obtain ⟨i0, hi0, hz0, hz1, hz2⟩ := info_parts infoS
        have OWN8 := Lib.hid (OWN.out.alloc (.cells #[.string X] 9))
        have JO := Lib.hid (show ∀ u ∈ [Value.string X], u.oneCell' = true from by
          intro u hu; simp only [List.mem_cons, List.not_mem_nil, or_false] at hu; subst hu; rfl)
        have NEWS := Lib.hid (World.news_of_block (cs := #[.string X]) (t := 9) (fr := (0, 0)) (heap_alloc_new wr (.cells #[.string X] 9)))
        have SZ := Lib.hid (show w.heap.size ≤ (wr.alloc (.cells #[.string X] 9)).heap.size by have := BW.out.size; simp; omega)
        clear hX hXV
        subst hik
        go_upto_region 10 with fail
        go_wp2_with (at_builtin; rw [← HX.out]; refine wpList_append_lies _ rfl _ _ 45 rfl (w.heap.size) 9 i0 _ 1 16 Tryz.underlying45 hi0 hz0 hz1 hz2 rfl (by decide) (.slice ao no co) out.length (out.map strV) rfl OWN8.out ⟨wr.heap.size, 0, none⟩ 1 1 [.string X] rfl rfl NEWS.out JO.out (by decide) (by unfold maxLen; omega) (by omega) SZ.out (wr.heap.size + 1) (by simp) ?_; intro gg cap w9 hown9 hgrow9 hat9 hlt9)
        have OWN9 := Lib.hid (show w9.ownsRow w.heap.size 9 1 (.slice (some ⟨gg, 0, none⟩) (out.length + 1) cap) L.length (L.map strV) from by
          rw [HEQ.out, lines_map_snoc, List.length_append, ← HXV.out]
          exact hown9)
        have HB9 := Lib.hid (show Below w.heap.size w w9 from by
          have h1 : Below w.heap.size w (wr.alloc (.cells #[.string X] 9)) := BW.out.alloc BW.out.size _
          exact h1.grown hgrow9 h1.size (fun g hg => (OWN.out.lt g hg).1))
        clear hown9 hgrow9 hat9 hlt9 OWN8 JO NEWS SZ hi0 hz0 hz1 hz2 HX HXV
        go_wp2_with fail
        go_ret
        exact ⟨_, rfl, Row.of_own OWN9.out (fun g hg => (OWN9.out.lt g hg).1), HB9.out⟩
      · rw [if_neg (show ¬ n < s.data.toList.length from hf), List.append_nil] at heq
        have OWN9 := Lib.hid (show wr.ownsRow w.heap.size 9 1 (.slice ao no co) L.length (L.map strV) from by rw [heq]; exact OWN.out)
        subst hik
        clear heq EQ
        go_wp2_with fail
        go_ret
        exact ⟨_, rfl, Row.of_own OWN9.out (fun g hg => (OWN9.out.lt g hg).1), BW.out⟩
end Go.Proofs.YtejlddimokmgjaaGreatDoor
