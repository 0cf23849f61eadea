/- WALKS: the parts of a list or an object. -/
import Derived.Test.YtbdmepilmoomeaaGreatDoorPi
import Derived.Deep.DeepCutAuto
import Derived.Deep.RegionLaw
namespace Go.Proofs.YtbdmepilmoomeaaGreatDoor
open Go.RowKit

/-- What a reader of a value hands back. -/
def JRet (b : Nat) (s : ByteArray) (w : World) (r : Cx.J × Nat × Nat) (e : Ending) (w' : World) : Prop := ∃ cs : List Value, e = .returned (.agg cs.toArray) ∧ JAt w' (fun g => w.heap.size ≤ g) r.1 cs ∧ Rd b s r.2.1 r.2.2 w'

theorem infoJ : (Tryz.prog.info? 26).map (fun i => (i.zero, i.size, i.bytes)) = some (some (.agg zeroJ), 5, 80) := by kernel_rfl
theorem infoS : (Tryz.prog.info? 9).map (fun i => (i.zero, i.size, i.bytes)) = some (some (.string ⟨#[]⟩), 1, 16) := by kernel_rfl

theorem Row.of_own {w : World} {B : Nat} {e : TypeId} {size : Nat} {v : Value} {n : Nat} {xs : List Value} {ok : Nat → Prop} (h : w.ownsRow B e size v n xs) (hok : ∀ g, v.ownBlock = some g → ok g) : Row w ok v n xs := by
  obtain ⟨hl, h | ⟨g, cap, cur, hv, hg, hh, hn, hc, hsz, ht⟩⟩ := h
  · exact .inl ⟨h.2, by apply List.length_eq_zero_iff.1; rw [hl, h.2]; simp, none, 0, h.1⟩
  · rcases Nat.eq_zero_or_pos n with hz | hz
    · exact .inl ⟨hz, by apply List.length_eq_zero_iff.1; rw [hl, hz]; simp, some ⟨g, 0, none⟩, cap, by rw [hv, hz]⟩
    · refine .inr ⟨hz, g, 0, cap, hv, hn, hok g (by rw [hv]; rfl), heap_lt hh, fun j u hu => ?_⟩
      have hj : j < n * size := by
        rcases Nat.lt_or_ge j xs.length with g | g
        · omega
        · rw [List.getElem?_eq_none g] at hu; cases hu
      rw [← ht, List.getElem?_take, if_pos hj] at hu
      simp only [World.cell?, hh, Nat.zero_add]
      simpa using hu

/-- What has been gathered, as the value. -/
theorem PI.shut {b B : Nat} {kind : Int} {s : ByteArray} {w0 : World} {j m : Nat} {ns : List (List UInt8)} {ks : List Cx.J} {sn sk : Value} {css : List (List Value)} {w w' : World}
    (h : PI b B kind s w0 j m ns ks sn sk css w) (hs : w.heap.size ≤ w'.heap.size) (hk : ∀ g, B + 2 ≤ g → g < w.heap.size → w'.heap[g]? = w.heap[g]?) :
    JAt w' (fun g => w0.heap.size ≤ g) (.mk kind false [] ns ks) [.int .i64 kind, .bool false, strV [], sn, sk] := by
  have hB := h.base
  unfold JAt
  refine ⟨sn, sk, rfl, ?_, css, ?_, ?_⟩
  · exact (Row.of_own (ok := fun g => B + 2 ≤ g) h.own1 fun g hg => (h.own1.lt g hg).1).kept hs fun g hg hl => ⟨hk g hg hl, by omega⟩
  · exact JsAt.kept hs (fun g hg hl => ⟨hk g hg.1 hl, by omega⟩) _ _ h.kids
  · exact (Row.of_own (ok := fun g => B + 2 ≤ g) h.own2 fun g hg => (h.own2.lt g hg).1).kept hs fun g hg hl => ⟨hk g hg hl, by omega⟩

theorem five {cs : List Value} (h : cs.length = 5) : ∃ c0 c1 c2 c3 c4, cs = [c0, c1, c2, c3, c4] := by
  match cs, h with
  | [c0, c1, c2, c3, c4], _ => exact ⟨_, _, _, _, _, rfl⟩

theorem own_shape {w : World} {B : Nat} {e : TypeId} {size : Nat} {v : Value} {n : Nat} {xs : List Value} (h : w.ownsRow B e size v n xs) : ∃ ao n' cap, v = .slice ao n' cap := by
  rcases h.2 with ⟨hv, _⟩ | ⟨g, cap, cur, hv, _⟩ <;> exact ⟨_, _, _, hv⟩

/-- The cells of the two boxes. -/
theorem cells5 {w : World} {g : Nat} {a b c d e : Value} {T : TypeId} (h : w.heap[g]? = some (.cells #[a, b, c, d, e] T (0, 0))) :
    w.cell? ⟨g, 0, none⟩ = some a ∧ w.cell? ⟨g, 1, none⟩ = some b ∧ w.cell? ⟨g, 2, none⟩ = some c ∧ w.cell? ⟨g, 3, none⟩ = some d ∧ w.cell? ⟨g, 4, none⟩ = some e ∧ ∀ o, w.frozen? ⟨g, o, none⟩ = false := by
  refine ⟨?_, ?_, ?_, ?_, ?_, fun o => ?_⟩ <;> simp [World.cell?, World.frozen?, h]

/-- Five stores into a box. -/
abbrev put5 (w : World) (g : Nat) (a b c d e : Value) : World := ((((w.setCell ⟨g, 0, none⟩ a).setCell ⟨g, 1, none⟩ b).setCell ⟨g, 2, none⟩ c).setCell ⟨g, 3, none⟩ d).setCell ⟨g, 4, none⟩ e
theorem put5_heap {w : World} {g : Nat} {x0 x1 x2 x3 x4 a b c d e : Value} {T : TypeId} (h : w.heap[g]? = some (.cells #[x0, x1, x2, x3, x4] T (0, 0))) : (put5 w g a b c d e).heap[g]? = some (.cells #[a, b, c, d, e] T (0, 0)) := by
  simp [put5, World.setCell, Array.getElem?_modify, h]
theorem put5_other {w : World} {g k : Nat} {a b c d e : Value} (h : k ≠ g) : (put5 w g a b c d e).heap[k]? = w.heap[k]? := by
  unfold put5; rw [Below.heap_setCell _ _ _ _ h, Below.heap_setCell _ _ _ _ h, Below.heap_setCell _ _ _ _ h, Below.heap_setCell _ _ _ _ h, Below.heap_setCell _ _ _ _ h]
theorem put5_size {w : World} {g : Nat} {a b c d e : Value} : (put5 w g a b c d e).heap.size = w.heap.size := by simp [put5, World.setCell]
theorem put5_mv {b g : Nat} {w0 w : World} {x0 x1 x2 x3 x4 : Value} (h : Mv b w0 w) (hg : w0.heap.size ≤ g) : Mv b w0 (put5 w g x0 x1 x2 x3 x4) :=
  ((((h.set (.inr hg) _).set (.inr hg) _).set (.inr hg) _).set (.inr hg) _).set (.inr hg) _

/-- At the end: the gathered value is laid into the result's box. -/
theorem PI.fin {b B : Nat} {kind : Int} {s : ByteArray} {w0 : World} {j m : Nat} {ns : List (List UInt8)} {ks : List Cx.J} {sn sk : Value} {css : List (List Value)} {w : World}
    (h : PI b B kind s w0 j m ns ks sn sk css w) (hb : b < B) :
    JAt (put5 w B (.int .i64 kind) (.bool false) (.string ⟨#[]⟩) sn sk) (fun g => w0.heap.size ≤ g) (.mk kind false [] ns ks) [.int .i64 kind, .bool false, strV [], sn, sk] ∧
    Rd b s j m (put5 w B (.int .i64 kind) (.bool false) (.string ⟨#[]⟩) sn sk) ∧ Mv b w0 (put5 w B (.int .i64 kind) (.bool false) (.string ⟨#[]⟩) sn sk) := by
  have hB := h.base
  refine ⟨h.shut (by rw [put5_size]; exact Nat.le_refl _) fun g hg _ => put5_other (by omega), ?_, put5_mv h.mv (by omega)⟩
  unfold Rd; rw [put5_other (by omega)]; exact h.rd

/-- At the beginning: nothing is gathered. -/
theorem PI.fresh {b : Nat} {kind : Int} {s : ByteArray} {w : World} {i m : Nat} (hrd : Rd b s i m w) (hg : Glb w) :
    PI b w.heap.size kind s w i m [] [] (.slice none 0 0) (.slice none 0 0) [] ((w.alloc (.cells zeroJ 26)).alloc (.cells #[.int .i64 kind, .bool false, .string ⟨#[]⟩, .slice none 0 0, .slice none 0 0] 26)) where
  base := rfl
  rd := (hrd.alloc _).alloc _
  glb := (hg.alloc _).alloc _
  mv := ((Mv.refl b w).alloc _).alloc _
  res := by rw [Below.heap_alloc _ _ _ (by simp)]; exact heap_alloc_new w _
  box := by
    have := heap_alloc_new (w.alloc (.cells zeroJ 26)) (.cells #[.int .i64 kind, .bool false, .string ⟨#[]⟩, .slice none 0 0, .slice none 0 0] 26)
    simpa using this
  own1 := World.ownsRow_nil _ _ _ _
  own2 := World.ownsRow_nil _ _ _ _
  kids := by unfold JsAt; rfl

/-- Behind an append the box stands as it stood. -/
theorem PI.next {b B : Nat} {kind : Int} {s : ByteArray} {w0 : World} {j m : Nat} {ns : List (List UInt8)} {ks : List Cx.J} {sn sk : Value} {css : List (List Value)} {w w5 : World} {o : Obj}
    (h : PI b B kind s w0 j m ns ks sn sk css w) (hg : (w.alloc o).grownBy w5 sk.ownBlock) : w5.cell? ⟨B + 1, 4, none⟩ = some sk ∧ w5.frozen? ⟨B + 1, 4, none⟩ = false := by
  have hs := h.size
  have hb : w5.heap[B + 1]? = some (.cells #[.int .i64 kind, .bool false, .string ⟨#[]⟩, sn, sk] 26 (0, 0)) := by
    rw [hg.block (B + 1) (by simp; omega) (fun e => by have := h.own2.lt _ e.symm; omega), Below.heap_alloc _ _ _ (by omega)]; exact h.box
  have := cells5 hb
  exact ⟨this.2.2.2.2.1, this.2.2.2.2.2 4⟩

set_option maxRecDepth 100000 in
set_option maxHeartbeats 4000000 in
theorem parts_list (s : ByteArray) (i m : Nat) (b : Nat) (deep : Int) (val : Nat → Nat → Cx.Res (Cx.J × Nat × Nat)) (d : Nat) (hfine : Cx.Fine s.data.toList (d + 1) val)
    (hval : ∀ (w : World) (i' m : Nat), i < i' → Rd b s i' m w → Glb w → i' ≤ s.size → m ≤ 5000 → Calls Tryz.prog 24 #[.pointer (some ⟨b, 0, none⟩), .int .i64 deep] w (Gives (val i' m) (JRet b s w) b w))
    (w : World) (h : Rd b s i m w) (hg : Glb w) (hb8 : 8 ≤ b) (hi : i < s.size) (hm : m ≤ 5000) (hs : s.size ≤ 100000) :
    Calls Tryz.prog 51 #[.pointer (some ⟨b, 0, none⟩), .int .u8 91, .int .i64 deep] w (Gives (Cx.group val s.data.toList false i m) (JRet b s w) b w) := by
  have hs' : s.size ≤ maxLen := by unfold maxLen; omega
  have hbl := h.lt
  obtain ⟨RES, hRES⟩ : ∃ RES, RES = Cx.group val s.data.toList false i m := ⟨_, rfl⟩
  rw [← hRES]
  unfold Cx.group at hRES
  have HR := Lib.hid hRES
  have c1 := h.c1; have cf := h.fr 1
  obtain ⟨w1, hw1⟩ : ∃ w1, w1 = w.setCell ⟨b, 1, none⟩ (.int .i64 ((i : Int) + 1)) := ⟨_, rfl⟩
  have hrd1 : Rd b s (i + 1 : Nat) m w1 := by rw [hw1]; exact h.set1 _
  have hg1 : Glb w1 := by rw [hw1]; exact hg.set hb8 _
  have hmv1 : Mv b w w1 := by rw [hw1]; exact (Mv.refl b w).set (.inl rfl) _
  have hsz1 : w1.heap.size = w.heap.size := by rw [hw1]; simp [World.setCell]
  have hpi := PI.fresh (kind := 5) hrd1 hg1
  have hrdA := hpi.rd
  rw [hw1] at hrdA
  have HPI := Lib.hid hpi; have HW1 := Lib.hid hw1; have MV1 := Lib.hid hmv1; have SZ1 := Lib.hid hsz1; have RDA := Lib.hid hrdA; have HV := Lib.hid hval; have HF := Lib.hid hfine
  clear hRES h hg hpi hw1 hmv1 hsz1 hrd1 hg1 hrdA hval hfine
  go_enter Tryz.func51, Tryz.ntmps51
  go_wp2_with fail
  refine (blanks_calls s (i + 1) m b _ RDA.out (by omega) hs').mono ?_
  rintro e w2 ⟨rfl, k1, k2⟩
  rw [← HW1.out] at k2
  have hpi2 := HPI.out.move (by rw [SZ1.out]; exact hbl) hb8 k2 k1
  have hlp : Cx.skipB s.data.toList (i + 1) ≤ s.size := Cx.skipB_len (s := s.data.toList) (by simp; omega)
  have hip := Cx.skipB_le (s := s.data.toList) (i := i + 1)
  have HR2 := HR.out
  generalize hp : Cx.skipB s.data.toList (i + 1) = p at hpi2 hlp hip HR2 ⊢
  rw [SZ1.out] at hpi2
  have P2 := Lib.hid hpi2; have HRA := Lib.hid HR2
  clear hp k1 k2 hpi2 HR2 HR HPI RDA c1 cf
  by_cases hend : Cx.peek s.data.toList p = 93
  · have hi93 : ((Cx.peek s.data.toList p).toNat : Int) = 93 := by rw [hend]; rfl
    have hr := HRA.out
    rw [if_pos (by rw [hend]; rfl)] at hr
    have HRB := Lib.hid hr
    have q1 := P2.out.rd.c1; have qf := P2.out.rd.fr 1
    obtain ⟨b0, b1, b2, b3, b4, _⟩ := cells5 P2.out.box
    obtain ⟨r0, r1, r2, r3, r4, rf⟩ := cells5 P2.out.res
    have rf0 := rf 0; have rf1 := rf 1; have rf2 := rf 2; have rf3 := rf 3; have rf4 := rf 4
    clear rf
    rw [hend]
    clear hend hr HRA hi93
    have hp3 : PI b w.heap.size 5 s w1 (p + 1) m [] [] (.slice none 0 0) (.slice none 0 0) [] (w2.setCell ⟨b, 1, none⟩ (.int .i64 ((p : Int) + 1))) := P2.out.move hbl hb8 ((Mv.refl b w2).set (.inl rfl) _) (P2.out.rd.set1 _)
    have hf3 := hp3.fin hbl
    obtain ⟨z0, z1, z2, z3, z4, _⟩ := cells5 (put5_heap (a := .int .i64 5) (b := .bool false) (c := .string ⟨#[]⟩) (d := .slice none 0 0) (e := .slice none 0 0) hp3.res)
    have HF3 := Lib.hid hf3; have Z := Lib.hid (And.intro z0 (And.intro z1 (And.intro z2 (And.intro z3 z4))))
    clear hp3 hf3 z0 z1 z2 z3 z4
    go_wp2_with fail
    obtain ⟨z0, z1, z2, z3, z4⟩ := Z.out
    refine bodyPost_ret (v := .agg #[.int .i64 5, .bool false, .string ⟨#[]⟩, .slice none 0 0, .slice none 0 0]) (by simp [results, Tryz.results51, go_sem, z0, z1, z2, z3, z4]) rfl ?_
    obtain ⟨f1, f2, f3⟩ := HF3.out
    exact Gives.ok HRB.out (MV1.out.trans f3) ⟨_, rfl, by rw [SZ1.out] at f1; exact f1, f2⟩
  · have hne : ((Cx.peek s.data.toList p).toNat : Int) ≠ 93 := by
      intro e; exact hend (UInt8.toNat_inj.1 (by simp; omega))
    have hi93 : (((Cx.peek s.data.toList p).toNat : Int) == 93) = false := by rw [beq_eq_false_iff_ne]; exact hne
    have hr := HRA.out
    rw [if_neg (by simpa using hend)] at hr
    have HRB := Lib.hid hr
    clear hend hr HRA hne
    go_wp2_with fail
    clear hi93
    go_loopg [] (s.size + 1) (fun q wr => ∃ (j m' : Nat) (ks : List Cx.J) (sk : Value) (css : List (List Value)), 0 < q ∧ s.size < j + q ∧ i < j ∧ j ≤ s.size ∧ ks.length ≤ j ∧ m' ≤ 5000 ∧ Hid (RES = Cx.parts val s.data.toList false q j m' [] ks) ∧ Hid (PI b w.heap.size 5 s w1 j m' [] ks (.slice none 0 0) sk css wr))
    case atStart => exact ⟨p, m, [], _, [], by omega, by omega, by omega, hlp, by simp, hm, HRB.out, P2.out⟩
    case round =>
      obtain ⟨j, m', ks, sk, css, hq0, hq, hij, hj, hkl, hm', HR, P⟩ := hrel
      obtain ⟨q, rfl⟩ : ∃ q, gk = q + 1 := ⟨gk - 1, by omega⟩
      have hr := HR.out
      unfold Cx.parts at hr
      simp only [Bool.false_eq_true, if_false] at hr
      have HR2 := Lib.hid hr
      clear HRB P2 hq0 HR hr
      obtain ⟨b0, b1, b2, b3, b4, bf⟩ := cells5 P.out.box
      have bf4 := bf 4
      clear b0 b1 b2 b3 bf
      cases hvr : val j m' with
      | error x =>
        have hr := HR2.out
        rw [hvr] at hr
        have HRC := Lib.hid hr; have HVR := Lib.hid hvr
        clear hr hvr
        go_wp2_with fail
        refine wp_region_any (by kernel_rfl) ?_
        try (change wpAny _ _ _ _ _ _ _ (World.drew _))
        refine wpAny_take (i := 0) (v := ?_) rfl (by kernel_rfl) (by kernel_rfl) (by kernel_rfl) (fun _ _ _ h => h) (Or.inl ⟨by rfl, ?_⟩) ?_
        rotate_left 1
        · (intro w; go_simp; first | done | with_reducible rfl)
        refine wpAny_take (i := 2) (v := ?_) rfl (by kernel_rfl) (by kernel_rfl) (by kernel_rfl) (fun _ _ _ h => h) (Or.inl ⟨by rfl, ?_⟩) ?_
        rotate_left 1
        · (intro w; go_simp; first | done | with_reducible rfl)
        refine wpAny_take (i := 3) (v := ?_) rfl (by kernel_rfl) (by kernel_rfl) (by kernel_rfl) (fun _ _ _ h => h) (Or.inl ⟨by rfl, ?_⟩) ?_
        rotate_left 1
        · (intro w; go_simp; first | done | with_reducible rfl)
        refine wpAny_ready (rs := [1, 4]) (by kernel_rfl) (by simp) ?_
        refine AllReady.cons rfl (fun K hK => ?_) ?_
        · go_simp
          refine hK _ _ ?_
          clear hK K
          refine wpAny_ready (rs := [4]) (by kernel_rfl) (by simp) ?_
          refine AllReady.cons rfl (fun K hK => ?_) AllReady.nil
          go_simp
          refine (HV.out wr.drew j m' hij P.out.rd.drew (P.out.glb.drewN 1) hj hm').mono ?_
          intro e w3 hgv
          obtain ⟨rfl, k3⟩ := hgv.of_err HVR.out
          exact ⟨rfl, Gives.err HRC.out (MV1.out.trans ((P.out.mv.drewN 1).trans k3))⟩
        · refine AllReady.cons rfl (fun K hK => ?_) AllReady.nil
          go_simp
          refine (HV.out wr.drew j m' hij P.out.rd.drew (P.out.glb.drewN 1) hj hm').mono ?_
          intro e w3 hgv
          obtain ⟨rfl, k3⟩ := hgv.of_err HVR.out
          exact ⟨rfl, Gives.err HRC.out (MV1.out.trans ((P.out.mv.drewN 1).trans k3))⟩
      | ok a =>
        obtain ⟨k, j2, m2⟩ := a
        have hr := HR2.out
        rw [hvr] at hr
        have hfo := HF.out.ok j m' k j2 m2 hj hm' hvr
        have hj2 : j2 ≤ s.size := hfo.2.1
        have hjj : j < j2 := hfo.1
        have hm2 : m2 ≤ 5000 := hfo.2.2.2.1
        have HRC := Lib.hid hr; have HVR := Lib.hid hvr
        clear hr hvr hfo HR2
        obtain ⟨i0, hi, hz0, hz1, hz2⟩ := info_parts infoJ
        go_wp2_with fail
        go_cut [] (fun wc => ∃ (sk' : Value) (css' : List (List Value)), Hid (PI b w.heap.size 5 s w1 j2 m2 [] (ks ++ [k]) (.slice none 0 0) sk' css' wc))
        case first =>
          go_region_law (first
            | (refine step_append_lies _ (by rfl) _ _ _ (by rfl) (w.heap.size + 2) 26 i0 _ 5 80 Tryz.underlying24 hi hz0 hz1 hz2 rfl (by omega) sk ks.length css.flatten (by rfl) OWN.out ⟨w3.heap.size, 0, none⟩ 1 1 [c0, c1, c2, c3, c4] (by rfl) (by rfl) (World.news_of_block (cs := #[c0, c1, c2, c3, c4]) (t := 26) (fr := (0, 0)) (heap_alloc_new w3 _)) JO.out (by omega) (by unfold maxLen; omega) (by omega) SZ3.out (w3.heap.size + 1) (by simp) ?_; intro gg cap w5 hown5 hgrow5 hat5 hlt5; have d4 := NX.out w5 hgrow5; have d4a := d4.1; have d4b := d4.2; have OW5 := Lib.hid hown5; have GR5 := Lib.hid hgrow5; have AT5 := Lib.hid hat5; clear hown5 hgrow5 hat5 d4 b4')
            | (go_simp; go_at_call 24; refine (HV.out wr.drew j m' hij P.out.rd.drew (P.out.glb.drewN 1) hj hm').mono ?_; intro e w3 hgv; obtain ⟨⟨cs, rfl, kj, kr⟩, km⟩ := hgv.of_ok HVR.out; have b4' := (((Mv.refl b wr).drewN 1).trans km).cell b4 (by simp; omega); obtain ⟨c0, c1, c2, c3, c4, rfl⟩ := five kj.length; have pm := P.out.move hbl hb8 (((Mv.refl b wr).drewN 1).trans km) kr; have hz3 : w.heap.size + 1 < w3.heap.size := (by have := pm.size; omega); have OWN := Lib.hid (pm.own2.alloc (.cells #[c0, c1, c2, c3, c4] 26)); have JO := Lib.hid kj.one; have SZ3 := Lib.hid (show w.heap.size + 2 ≤ (w3.alloc (.cells #[c0, c1, c2, c3, c4] 26)).heap.size by have := pm.size; simp; omega); have NX := Lib.hid (fun w5 hg => pm.next (w5 := w5) (o := .cells #[c0, c1, c2, c3, c4] 26) hg); have KJ := Lib.hid kj; have KR := Lib.hid kr; have KM := Lib.hid km; clear kj kr km hgv pm))
          all_goals
            try go_wp2_with fail
            go_meet
            case rel =>
              have hk4 : JAt (w3.alloc (.cells #[c0, c1, c2, c3, c4] 26)) (fun g => wr.heap.size ≤ g) k [c0, c1, c2, c3, c4] :=
                JAt.kept (by simp) (fun g hg hl => ⟨Below.heap_alloc _ _ _ hl, hg⟩) _ _ KJ.out
              have := P.out.addKid hbl hb8 ((((Mv.refl b wr).drewN 1).trans KM.out).alloc (.cells #[c0, c1, c2, c3, c4] 26)) (KR.out.alloc _) hk4 OW5.out GR5.out (by have := AT5.out; simpa using this)
              exact ⟨_, _, Lib.hid this⟩
        case rest =>
          obtain ⟨sk', css', P'⟩ := hcut
          obtain ⟨sa, sn', sc, rfl⟩ := own_shape P'.out.own2
          clear HVR b4 bf4
          go_wp2_with fail
          refine (blanks_calls s j2 m2 b _ P'.out.rd hj2 hs').mono ?_
          rintro e w6 ⟨rfl, k1, k2⟩
          have hlp2 : Cx.skipB s.data.toList j2 ≤ s.size := Cx.skipB_len (s := s.data.toList) hj2
          have hjp2 := Cx.skipB_le (s := s.data.toList) (i := j2)
          have hp6 := P'.out.move hbl hb8 k2 k1
          have hr := HRC.out
          generalize hp2 : Cx.skipB s.data.toList j2 = p2 at hp6 hlp2 hjp2 hr ⊢
          try simp only at hr
          try rw [hp2] at hr
          have P6 := Lib.hid hp6
          have q1 := hp6.rd.c1; have qf := hp6.rd.fr 1
          clear hp2 k1 k2 hp6 HRC P P'
          by_cases h44 : Cx.peek s.data.toList p2 = 44
          · rw [if_pos h44] at hr
            have HRD := Lib.hid hr
            have hlt2 : p2 < s.size := Cx.peek_lt (s := s.data.toList) (by rw [h44]; decide)
            rw [h44]
            clear hr h44
            go_wp2
            go_roundg q
            case measure => omega
            case rel =>
              have hmv6 := P6.out.move hbl hb8 ((Mv.refl b w6).set (a := ⟨b, 1, none⟩) (.inl rfl) (.int .i64 ((p2 : Int) + 1))) (P6.out.rd.set1 _)
              exact ⟨p2 + 1, m2, ks ++ [k], _, css', by omega, by omega, by omega, by omega, by simp; omega, hm2, HRD.out, Lib.hid hmv6⟩
          · rw [if_neg h44] at hr
            have HRD := Lib.hid hr
            have hi44 : (((Cx.peek s.data.toList p2).toNat : Int) != 44) = true := by
              rw [bne_iff_ne]; intro e; exact h44 (UInt8.toNat_inj.1 (by simp; omega))
            clear hr h44
            go_wp2_with fail
            refine (show Calls Tryz.prog 80 #[.pointer (some ⟨b, 0, none⟩), .int .u8 93] w6 _ from take_word s p2 m2 b 93 (by decide) _ P6.out.rd hlp2 hs').mono ?_
            intro e w7 hgv
            cases hw : Cx.word s.data.toList [93] p2 with
            | error x =>
              obtain ⟨rfl, k7⟩ := hgv.of_err hw
              have hr := HRD.out
              rw [hw] at hr
              exact ⟨rfl, Gives.err hr (MV1.out.trans (P6.out.mv.trans k7))⟩
            | ok p3 =>
              obtain ⟨⟨rfl, k7⟩, k8⟩ := hgv.of_ok hw
              have hr := HRD.out
              rw [hw] at hr
              have hp7 := P6.out.move hbl hb8 k8 k7
              have hf7 := hp7.fin hbl
              obtain ⟨d0, d1, d2, d3, d4, _⟩ := cells5 hp7.box
              obtain ⟨r0, r1, r2, r3, r4, rf⟩ := cells5 hp7.res
              have rf0 := rf 0; have rf1 := rf 1; have rf2 := rf 2; have rf3 := rf 3; have rf4 := rf 4
              obtain ⟨z0, z1, z2, z3, z4, _⟩ := cells5 (put5_heap (a := .int .i64 5) (b := .bool false) (c := .string ⟨#[]⟩) (d := .slice none 0 0) (e := .slice sa sn' sc) hp7.res)
              have HRE := Lib.hid hr; have HF7 := Lib.hid hf7; have Z := Lib.hid (And.intro z0 (And.intro z1 (And.intro z2 (And.intro z3 z4))))
              clear hr hw hgv k7 k8 hp7 hf7 z0 z1 z2 z3 z4 rf q1 qf HRD hi44 P6
              go_wp2_with fail
              obtain ⟨z0, z1, z2, z3, z4⟩ := Z.out
              change bodyPost Tryz.prog Tryz.f51 _ Exit.ret _ _
              refine bodyPost_ret (v := .agg #[.int .i64 5, .bool false, .string ⟨#[]⟩, .slice none 0 0, .slice sa sn' sc]) (by simp [results, Tryz.results51, go_sem, z0, z1, z2, z3, z4]) rfl ?_
              obtain ⟨f1, f2, f3⟩ := HF7.out
              exact Gives.ok HRE.out (MV1.out.trans f3) ⟨_, rfl, by rw [SZ1.out] at f1; exact f1, f2⟩
end Go.Proofs.YtbdmepilmoomeaaGreatDoor
