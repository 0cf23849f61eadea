/- WALKS: the parts of a list or an object. WALKS: the parts of an object. WALKS: values. WALKS: Parse and its deferred closure. WALKS: Parse. JSON VALUES IN MEMORY: a kid of a value, a name of a value; values that a call lets be. No walk. -/
import Derived.Test.YtejlddimokmgjaaGreatDoorKe
import Derived.Deep.DeepCutAuto
import Derived.Deep.RegionLaw
import Derived.Recover
import Derived.Defers
import Derived.BigRegion
import Derived.Test.YtejlddimokmgjaaGreatDoorKb
namespace Go.Proofs.YtejlddimokmgjaaGreatDoor
open Go.RowKit

/-- What a reader of a value hands back. -/
def JRet (b : Nat) (s : ByteArray) (w : World) (r : Cx.J × Nat × Nat) (e : Ending) (w' : World) : Prop := ∃ cs : List Value, e = .returned (.agg cs.toArray) ∧ JAt w' (fun g => w.heap.size ≤ g) r.1 cs ∧ Rd b s r.2.1 r.2.2 w'

theorem infoJ : (Tryz.prog.info? 48).map (fun i => (i.zero, i.size, i.bytes)) = some (some (.agg zeroJ), 5, 80) := by kernel_rfl
theorem infoS : (Tryz.prog.info? 9).map (fun i => (i.zero, i.size, i.bytes)) = some (some (.string ⟨#[]⟩), 1, 16) := by kernel_rfl

theorem Row.of_own {w : World} {B : Nat} {e : TypeId} {size : Nat} {v : Value} {n : Nat} {xs : List Value} {ok : Nat → Prop} (h : w.ownsRow B e size v n xs) (hok : ∀ g, v.ownBlock = some g → ok g) : Row w ok v n xs := by
  obtain ⟨hl, h | ⟨g, cap, cur, hv, hg, hh, hn, hc, hsz, ht⟩⟩ := h
  · exact .inl ⟨h.2, by apply List.length_eq_zero_iff.1; rw [hl, h.2]; simp, none, 0, h.1⟩
  · rcases Nat.eq_zero_or_pos n with hz | hz
    · exact .inl ⟨hz, by apply List.length_eq_zero_iff.1; rw [hl, hz]; simp, some ⟨g, 0, none⟩, cap, by rw [hv, hz]⟩
    · refine .inr ⟨hz, g, 0, cap, hv, hn, hok g (by rw [hv]; rfl), heap_lt hh, fun j u hu => ?_⟩
      have hj : j < n * size := by
        rcases Nat.lt_or_ge j xs.length with g | g
        · omega
        · rw [List.getElem?_eq_none g] at hu; cases hu
      rw [← ht, List.getElem?_take, if_pos hj] at hu
      simp only [World.cell?, hh, Nat.zero_add]
      simpa using hu

/-- What has been gathered, as the value. -/
theorem PI.shut {b B : Nat} {kind : Int} {s : ByteArray} {w0 : World} {j m : Nat} {ns : List (List UInt8)} {ks : List Cx.J} {sn sk : Value} {css : List (List Value)} {w w' : World}
    (h : PI b B kind s w0 j m ns ks sn sk css w) (hs : w.heap.size ≤ w'.heap.size) (hk : ∀ g, B + 2 ≤ g → g < w.heap.size → w'.heap[g]? = w.heap[g]?) :
    JAt w' (fun g => w0.heap.size ≤ g) (.mk kind false [] ns ks) [.int .i64 kind, .bool false, strV [], sn, sk] := by
  have hB := h.base
  unfold JAt
  refine ⟨sn, sk, rfl, ?_, css, ?_, ?_⟩
  · exact (Row.of_own (ok := fun g => B + 2 ≤ g) h.own1 fun g hg => (h.own1.lt g hg).1).kept hs fun g hg hl => ⟨hk g hg hl, by omega⟩
  · exact JsAt.kept hs (fun g hg hl => ⟨hk g hg.1 hl, by omega⟩) _ _ h.kids
  · exact (Row.of_own (ok := fun g => B + 2 ≤ g) h.own2 fun g hg => (h.own2.lt g hg).1).kept hs fun g hg hl => ⟨hk g hg hl, by omega⟩

theorem five {cs : List Value} (h : cs.length = 5) : ∃ c0 c1 c2 c3 c4, cs = [c0, c1, c2, c3, c4] := by
  match cs, h with
  | [c0, c1, c2, c3, c4], _ => exact ⟨_, _, _, _, _, rfl⟩

theorem own_shape {w : World} {B : Nat} {e : TypeId} {size : Nat} {v : Value} {n : Nat} {xs : List Value} (h : w.ownsRow B e size v n xs) : ∃ ao n' cap, v = .slice ao n' cap := by
  rcases h.2 with ⟨hv, _⟩ | ⟨g, cap, cur, hv, _⟩ <;> exact ⟨_, _, _, hv⟩

/-- The cells of the two boxes. -/
theorem cells5 {w : World} {g : Nat} {a b c d e : Value} {T : TypeId} (h : w.heap[g]? = some (.cells #[a, b, c, d, e] T (0, 0))) :
    w.cell? ⟨g, 0, none⟩ = some a ∧ w.cell? ⟨g, 1, none⟩ = some b ∧ w.cell? ⟨g, 2, none⟩ = some c ∧ w.cell? ⟨g, 3, none⟩ = some d ∧ w.cell? ⟨g, 4, none⟩ = some e ∧ ∀ o, w.frozen? ⟨g, o, none⟩ = false := by
  refine ⟨?_, ?_, ?_, ?_, ?_, fun o => ?_⟩ <;> simp [World.cell?, World.frozen?, h]

/-- Five stores into a box. -/
abbrev put5 (w : World) (g : Nat) (a b c d e : Value) : World := ((((w.setCell ⟨g, 0, none⟩ a).setCell ⟨g, 1, none⟩ b).setCell ⟨g, 2, none⟩ c).setCell ⟨g, 3, none⟩ d).setCell ⟨g, 4, none⟩ e
theorem put5_heap {w : World} {g : Nat} {x0 x1 x2 x3 x4 a b c d e : Value} {T : TypeId} (h : w.heap[g]? = some (.cells #[x0, x1, x2, x3, x4] T (0, 0))) : (put5 w g a b c d e).heap[g]? = some (.cells #[a, b, c, d, e] T (0, 0)) := by
  simp [put5, World.setCell, Array.getElem?_modify, h]
theorem put5_other {w : World} {g k : Nat} {a b c d e : Value} (h : k ≠ g) : (put5 w g a b c d e).heap[k]? = w.heap[k]? := by
  unfold put5; rw [Below.heap_setCell _ _ _ _ h, Below.heap_setCell _ _ _ _ h, Below.heap_setCell _ _ _ _ h, Below.heap_setCell _ _ _ _ h, Below.heap_setCell _ _ _ _ h]
theorem put5_size {w : World} {g : Nat} {a b c d e : Value} : (put5 w g a b c d e).heap.size = w.heap.size := by simp [put5, World.setCell]
theorem put5_mv {b g : Nat} {w0 w : World} {x0 x1 x2 x3 x4 : Value} (h : Mv b w0 w) (hg : w0.heap.size ≤ g) : Mv b w0 (put5 w g x0 x1 x2 x3 x4) :=
  ((((h.set (.inr hg) _).set (.inr hg) _).set (.inr hg) _).set (.inr hg) _).set (.inr hg) _

/-- At the end: the gathered value is laid into the result's box. -/
theorem PI.fin {b B : Nat} {kind : Int} {s : ByteArray} {w0 : World} {j m : Nat} {ns : List (List UInt8)} {ks : List Cx.J} {sn sk : Value} {css : List (List Value)} {w : World}
    (h : PI b B kind s w0 j m ns ks sn sk css w) (hb : b < B) :
    JAt (put5 w B (.int .i64 kind) (.bool false) (.string ⟨#[]⟩) sn sk) (fun g => w0.heap.size ≤ g) (.mk kind false [] ns ks) [.int .i64 kind, .bool false, strV [], sn, sk] ∧
    Rd b s j m (put5 w B (.int .i64 kind) (.bool false) (.string ⟨#[]⟩) sn sk) ∧ Mv b w0 (put5 w B (.int .i64 kind) (.bool false) (.string ⟨#[]⟩) sn sk) := by
  have hB := h.base
  refine ⟨h.shut (by rw [put5_size]; exact Nat.le_refl _) fun g hg _ => put5_other (by omega), ?_, put5_mv h.mv (by omega)⟩
  unfold Rd; rw [put5_other (by omega)]; exact h.rd

/-- At the beginning: nothing is gathered. -/
theorem PI.fresh {b : Nat} {kind : Int} {s : ByteArray} {w : World} {i m : Nat} (hrd : Rd b s i m w) (hg : Glb w) :
    PI b w.heap.size kind s w i m [] [] (.slice none 0 0) (.slice none 0 0) [] ((w.alloc (.cells zeroJ 48)).alloc (.cells #[.int .i64 kind, .bool false, .string ⟨#[]⟩, .slice none 0 0, .slice none 0 0] 48)) where
  base := rfl
  rd := (hrd.alloc _).alloc _
  glb := (hg.alloc _).alloc _
  mv := ((Mv.refl b w).alloc _).alloc _
  res := by rw [Below.heap_alloc _ _ _ (by simp)]; exact heap_alloc_new w _
  box := by
    have := heap_alloc_new (w.alloc (.cells zeroJ 48)) (.cells #[.int .i64 kind, .bool false, .string ⟨#[]⟩, .slice none 0 0, .slice none 0 0] 48)
    simpa using this
  own1 := World.ownsRow_nil _ _ _ _
  own2 := World.ownsRow_nil _ _ _ _
  kids := by unfold JsAt; rfl

/-- Behind an append the box stands as it stood. -/
theorem PI.next {b B : Nat} {kind : Int} {s : ByteArray} {w0 : World} {j m : Nat} {ns : List (List UInt8)} {ks : List Cx.J} {sn sk : Value} {css : List (List Value)} {w w5 : World} {o : Obj}
    (h : PI b B kind s w0 j m ns ks sn sk css w) (hg : (w.alloc o).grownBy w5 sk.ownBlock) : w5.cell? ⟨B + 1, 4, none⟩ = some sk ∧ w5.frozen? ⟨B + 1, 4, none⟩ = false := by
  have hs := h.size
  have hb : w5.heap[B + 1]? = some (.cells #[.int .i64 kind, .bool false, .string ⟨#[]⟩, sn, sk] 48 (0, 0)) := by
    rw [hg.block (B + 1) (by simp; omega) (fun e => by have := h.own2.lt _ e.symm; omega), Below.heap_alloc _ _ _ (by omega)]; exact h.box
  have := cells5 hb
  exact ⟨this.2.2.2.2.1, this.2.2.2.2.2 4⟩

set_option maxRecDepth 100000 in
set_option maxHeartbeats 4000000 in
theorem parts_list (s : ByteArray) (i m : Nat) (b : Nat) (deep : Int) (val : Nat → Nat → Cx.Res (Cx.J × Nat × Nat)) (d : Nat) (hfine : Cx.Fine s.data.toList (d + 1) val)
    (hval : ∀ (w : World) (i' m : Nat), i < i' → Rd b s i' m w → Glb w → i' ≤ s.size → m ≤ 5000 → Calls Tryz.prog 47 #[.pointer (some ⟨b, 0, none⟩), .int .i64 deep] w (Gives (val i' m) (JRet b s w) b w))
    (w : World) (h : Rd b s i m w) (hg : Glb w) (hb8 : 8 ≤ b) (hi : i < s.size) (hm : m ≤ 5000) (hs : s.size ≤ 100000) :
    Calls Tryz.prog 87 #[.pointer (some ⟨b, 0, none⟩), .int .u8 91, .int .i64 deep] w (Gives (Cx.group val s.data.toList false i m) (JRet b s w) b w) := by
  have hs' : s.size ≤ maxLen := by unfold maxLen; omega
  have hbl := h.lt
  obtain ⟨RES, hRES⟩ : ∃ RES, RES = Cx.group val s.data.toList false i m := ⟨_, rfl⟩
  rw [← hRES]
  unfold Cx.group at hRES
  have HR := Lib.hid hRES
  have c1 := h.c1; have cf := h.fr 1
  obtain ⟨w1, hw1⟩ : ∃ w1, w1 = w.setCell ⟨b, 1, none⟩ (.int .i64 ((i : Int) + 1)) := ⟨_, rfl⟩
  have hrd1 : Rd b s (i + 1 : Nat) m w1 := by rw [hw1]; exact h.set1 _
  have hg1 : Glb w1 := by rw [hw1]; exact hg.set hb8 _
  have hmv1 : Mv b w w1 := by rw [hw1]; exact (Mv.refl b w).set (.inl rfl) _
  have hsz1 : w1.heap.size = w.heap.size := by rw [hw1]; simp [World.setCell]
  have hpi := PI.fresh (kind := 5) hrd1 hg1
  have hrdA := hpi.rd
  rw [hw1] at hrdA
  have HPI := Lib.hid hpi; have HW1 := Lib.hid hw1; have MV1 := Lib.hid hmv1; have SZ1 := Lib.hid hsz1; have RDA := Lib.hid hrdA; have HV := Lib.hid hval; have HF := Lib.hid hfine
  clear hRES h hg hpi hw1 hmv1 hsz1 hrd1 hg1 hrdA hval hfine
  go_enter Tryz.func87, Tryz.ntmps87
  go_wp2_with fail
  refine (blanks_calls s (i + 1) m b _ RDA.out (by omega) hs').mono ?_
  rintro e w2 ⟨rfl, k1, k2⟩
  rw [← HW1.out] at k2
  have hpi2 := HPI.out.move (by rw [SZ1.out]; exact hbl) hb8 k2 k1
  have hlp : Cx.skipB s.data.toList (i + 1) ≤ s.size := Cx.skipB_len (s := s.data.toList) (by simp; omega)
  have hip := Cx.skipB_le (s := s.data.toList) (i := i + 1)
  have HR2 := HR.out
  generalize hp : Cx.skipB s.data.toList (i + 1) = p at hpi2 hlp hip HR2 ⊢
  rw [SZ1.out] at hpi2
  have P2 := Lib.hid hpi2; have HRA := Lib.hid HR2
  clear hp k1 k2 hpi2 HR2 HR HPI RDA c1 cf
  by_cases hend : Cx.peek s.data.toList p = 93
  · have hi93 : ((Cx.peek s.data.toList p).toNat : Int) = 93 := by rw [hend]; rfl
    have hr := HRA.out
    rw [if_pos (by rw [hend]; rfl)] at hr
    have HRB := Lib.hid hr
    have q1 := P2.out.rd.c1; have qf := P2.out.rd.fr 1
    obtain ⟨b0, b1, b2, b3, b4, _⟩ := cells5 P2.out.box
    obtain ⟨r0, r1, r2, r3, r4, rf⟩ := cells5 P2.out.res
    have rf0 := rf 0; have rf1 := rf 1; have rf2 := rf 2; have rf3 := rf 3; have rf4 := rf 4
    clear rf
    rw [hend]
    clear hend hr HRA hi93
    have hp3 : PI b w.heap.size 5 s w1 (p + 1) m [] [] (.slice none 0 0) (.slice none 0 0) [] (w2.setCell ⟨b, 1, none⟩ (.int .i64 ((p : Int) + 1))) := P2.out.move hbl hb8 ((Mv.refl b w2).set (.inl rfl) _) (P2.out.rd.set1 _)
    have hf3 := hp3.fin hbl
    obtain ⟨z0, z1, z2, z3, z4, _⟩ := cells5 (put5_heap (a := .int .i64 5) (b := .bool false) (c := .string ⟨#[]⟩) (d := .slice none 0 0) (e := .slice none 0 0) hp3.res)
    have HF3 := Lib.hid hf3; have Z := Lib.hid (And.intro z0 (And.intro z1 (And.intro z2 (And.intro z3 z4))))
    clear hp3 hf3 z0 z1 z2 z3 z4
    go_wp2_with fail
    obtain ⟨z0, z1, z2, z3, z4⟩ := Z.out
    refine bodyPost_ret (v := .agg #[.int .i64 5, .bool false, .string ⟨#[]⟩, .slice none 0 0, .slice none 0 0]) (by simp [results, Tryz.results87, go_sem, z0, z1, z2, z3, z4]) rfl ?_
    obtain ⟨f1, f2, f3⟩ := HF3.out
    exact Gives.ok HRB.out (MV1.out.trans f3) ⟨_, rfl, by rw [SZ1.out] at f1; exact f1, f2⟩
  · have hne : ((Cx.peek s.data.toList p).toNat : Int) ≠ 93 := by
      intro e; exact hend (UInt8.toNat_inj.1 (by simp; omega))
    have hi93 : (((Cx.peek s.data.toList p).toNat : Int) == 93) = false := by rw [beq_eq_false_iff_ne]; exact hne
    have hr := HRA.out
    rw [if_neg (by simpa using hend)] at hr
    have HRB := Lib.hid hr
    clear hend hr HRA hne
    go_wp2_with fail
    clear hi93
    go_loopg [] (s.size + 1) (fun q wr => ∃ (j m' : Nat) (ks : List Cx.J) (sk : Value) (css : List (List Value)), 0 < q ∧ s.size < j + q ∧ i < j ∧ j ≤ s.size ∧ ks.length ≤ j ∧ m' ≤ 5000 ∧ Hid (RES = Cx.parts val s.data.toList false q j m' [] ks) ∧ Hid (PI b w.heap.size 5 s w1 j m' [] ks (.slice none 0 0) sk css wr))
    case atStart => exact ⟨p, m, [], _, [], by omega, by omega, by omega, hlp, by simp, hm, HRB.out, P2.out⟩
    case round =>
      obtain ⟨j, m', ks, sk, css, hq0, hq, hij, hj, hkl, hm', HR, P⟩ := hrel
      obtain ⟨q, rfl⟩ : ∃ q, gk = q + 1 := ⟨gk - 1, by omega⟩
      have hr := HR.out
      unfold Cx.parts at hr
      simp only [Bool.false_eq_true, if_false] at hr
      have HR2 := Lib.hid hr
      clear HRB P2 hq0 HR hr
      obtain ⟨b0, b1, b2, b3, b4, bf⟩ := cells5 P.out.box
      have bf4 := bf 4
      clear b0 b1 b2 b3 bf
      cases hvr : val j m' with
      | error x =>
        have hr := HR2.out
        rw [hvr] at hr
        have HRC := Lib.hid hr; have HVR := Lib.hid hvr
        clear hr hvr
        go_wp2_with fail
        refine wp_region_any (by kernel_rfl) ?_
        try (change wpAny _ _ _ _ _ _ _ (World.drew _))
        refine wpAny_take (i := 0) (v := ?_) rfl (by kernel_rfl) (by kernel_rfl) (by kernel_rfl) (fun _ _ _ h => h) (Or.inl ⟨by rfl, ?_⟩) ?_
        rotate_left 1
        · (intro w; go_simp; first | done | with_reducible rfl)
        refine wpAny_take (i := 2) (v := ?_) rfl (by kernel_rfl) (by kernel_rfl) (by kernel_rfl) (fun _ _ _ h => h) (Or.inl ⟨by rfl, ?_⟩) ?_
        rotate_left 1
        · (intro w; go_simp; first | done | with_reducible rfl)
        refine wpAny_take (i := 3) (v := ?_) rfl (by kernel_rfl) (by kernel_rfl) (by kernel_rfl) (fun _ _ _ h => h) (Or.inl ⟨by rfl, ?_⟩) ?_
        rotate_left 1
        · (intro w; go_simp; first | done | with_reducible rfl)
        refine wpAny_ready (rs := [1, 4]) (by kernel_rfl) (by simp) ?_
        refine AllReady.cons rfl (fun K hK => ?_) ?_
        · go_simp
          refine hK _ _ ?_
          clear hK K
          refine wpAny_ready (rs := [4]) (by kernel_rfl) (by simp) ?_
          refine AllReady.cons rfl (fun K hK => ?_) AllReady.nil
          go_simp
          refine (HV.out wr.drew j m' hij P.out.rd.drew (P.out.glb.drewN 1) hj hm').mono ?_
          intro e w3 hgv
          obtain ⟨rfl, k3⟩ := hgv.of_err HVR.out
          exact ⟨rfl, Gives.err HRC.out (MV1.out.trans ((P.out.mv.drewN 1).trans k3))⟩
        · refine AllReady.cons rfl (fun K hK => ?_) AllReady.nil
          go_simp
          refine (HV.out wr.drew j m' hij P.out.rd.drew (P.out.glb.drewN 1) hj hm').mono ?_
          intro e w3 hgv
          obtain ⟨rfl, k3⟩ := hgv.of_err HVR.out
          exact ⟨rfl, Gives.err HRC.out (MV1.out.trans ((P.out.mv.drewN 1).trans k3))⟩
      | ok a =>
        obtain ⟨k, j2, m2⟩ := a
        have hr := HR2.out
        rw [hvr] at hr
        have hfo := HF.out.ok j m' k j2 m2 hj hm' hvr
        have hj2 : j2 ≤ s.size := hfo.2.1
        have hjj : j < j2 := hfo.1
        have hm2 : m2 ≤ 5000 := hfo.2.2.2.1
        have HRC := Lib.hid hr; have HVR := Lib.hid hvr
        clear hr hvr hfo HR2
        obtain ⟨i0, hi, hz0, hz1, hz2⟩ := info_parts infoJ
        go_wp2_with fail
        go_cut [] (fun wc => ∃ (sk' : Value) (css' : List (List Value)), Hid (PI b w.heap.size 5 s w1 j2 m2 [] (ks ++ [k]) (.slice none 0 0) sk' css' wc))
        case first =>
          go_region_law (first
            | (refine step_append_lies _ (by rfl) _ _ _ (by rfl) (w.heap.size + 2) 48 i0 _ 5 80 Tryz.underlying46 hi hz0 hz1 hz2 rfl (by omega) sk ks.length css.flatten (by rfl) OWN.out ⟨w3.heap.size, 0, none⟩ 1 1 [c0, c1, c2, c3, c4] (by rfl) (by rfl) (World.news_of_block (cs := #[c0, c1, c2, c3, c4]) (t := 48) (fr := (0, 0)) (heap_alloc_new w3 _)) JO.out (by omega) (by unfold maxLen; omega) (by omega) SZ3.out (w3.heap.size + 1) (by simp) ?_; intro gg cap w5 hown5 hgrow5 hat5 hlt5; have d4 := NX.out w5 hgrow5; have d4a := d4.1; have d4b := d4.2; have OW5 := Lib.hid hown5; have GR5 := Lib.hid hgrow5; have AT5 := Lib.hid hat5; clear hown5 hgrow5 hat5 d4 b4')
            | (go_simp; go_at_call 47; refine (HV.out wr.drew j m' hij P.out.rd.drew (P.out.glb.drewN 1) hj hm').mono ?_; intro e w3 hgv; obtain ⟨⟨cs, rfl, kj, kr⟩, km⟩ := hgv.of_ok HVR.out; have b4' := (((Mv.refl b wr).drewN 1).trans km).cell b4 (by simp; omega); obtain ⟨c0, c1, c2, c3, c4, rfl⟩ := five kj.length; have pm := P.out.move hbl hb8 (((Mv.refl b wr).drewN 1).trans km) kr; have hz3 : w.heap.size + 1 < w3.heap.size := (by have := pm.size; omega); have OWN := Lib.hid (pm.own2.alloc (.cells #[c0, c1, c2, c3, c4] 48)); have JO := Lib.hid kj.one; have SZ3 := Lib.hid (show w.heap.size + 2 ≤ (w3.alloc (.cells #[c0, c1, c2, c3, c4] 48)).heap.size by have := pm.size; simp; omega); have NX := Lib.hid (fun w5 hg => pm.next (w5 := w5) (o := .cells #[c0, c1, c2, c3, c4] 48) hg); have KJ := Lib.hid kj; have KR := Lib.hid kr; have KM := Lib.hid km; clear kj kr km hgv pm))
          all_goals
            try go_wp2_with fail
            go_meet
            case rel =>
              have hk4 : JAt (w3.alloc (.cells #[c0, c1, c2, c3, c4] 48)) (fun g => wr.heap.size ≤ g) k [c0, c1, c2, c3, c4] :=
                JAt.kept (by simp) (fun g hg hl => ⟨Below.heap_alloc _ _ _ hl, hg⟩) _ _ KJ.out
              have := P.out.addKid hbl hb8 ((((Mv.refl b wr).drewN 1).trans KM.out).alloc (.cells #[c0, c1, c2, c3, c4] 48)) (KR.out.alloc _) hk4 OW5.out GR5.out (by have := AT5.out; simpa using this)
              exact ⟨_, _, Lib.hid this⟩
        case rest =>
          obtain ⟨sk', css', P'⟩ := hcut
          obtain ⟨sa, sn', sc, rfl⟩ := own_shape P'.out.own2
          clear HVR b4 bf4
          go_wp2_with fail
          refine (blanks_calls s j2 m2 b _ P'.out.rd hj2 hs').mono ?_
          rintro e w6 ⟨rfl, k1, k2⟩
          have hlp2 : Cx.skipB s.data.toList j2 ≤ s.size := Cx.skipB_len (s := s.data.toList) hj2
          have hjp2 := Cx.skipB_le (s := s.data.toList) (i := j2)
          have hp6 := P'.out.move hbl hb8 k2 k1
          have hr := HRC.out
          generalize hp2 : Cx.skipB s.data.toList j2 = p2 at hp6 hlp2 hjp2 hr ⊢
          try simp only at hr
          try rw [hp2] at hr
          have P6 := Lib.hid hp6
          have q1 := hp6.rd.c1; have qf := hp6.rd.fr 1
          clear hp2 k1 k2 hp6 HRC P P'
          by_cases h44 : Cx.peek s.data.toList p2 = 44
          · rw [if_pos h44] at hr
            have HRD := Lib.hid hr
            have hlt2 : p2 < s.size := Cx.peek_lt (s := s.data.toList) (by rw [h44]; decide)
            rw [h44]
            clear hr h44
            go_wp2
            go_roundg q
            case measure => omega
            case rel =>
              have hmv6 := P6.out.move hbl hb8 ((Mv.refl b w6).set (a := ⟨b, 1, none⟩) (.inl rfl) (.int .i64 ((p2 : Int) + 1))) (P6.out.rd.set1 _)
              exact ⟨p2 + 1, m2, ks ++ [k], _, css', by omega, by omega, by omega, by omega, by simp; omega, hm2, HRD.out, Lib.hid hmv6⟩
          · rw [if_neg h44] at hr
            have HRD := Lib.hid hr
            have hi44 : (((Cx.peek s.data.toList p2).toNat : Int) != 44) = true := by
              rw [bne_iff_ne]; intro e; exact h44 (UInt8.toNat_inj.1 (by simp; omega))
            clear hr h44
            go_wp2_with fail
            refine (show Calls Tryz.prog 132 #[.pointer (some ⟨b, 0, none⟩), .int .u8 93] w6 _ from take_word s p2 m2 b 93 (by decide) _ P6.out.rd hlp2 hs').mono ?_
            intro e w7 hgv
            cases hw : Cx.word s.data.toList [93] p2 with
            | error x =>
              obtain ⟨rfl, k7⟩ := hgv.of_err hw
              have hr := HRD.out
              rw [hw] at hr
              exact ⟨rfl, Gives.err hr (MV1.out.trans (P6.out.mv.trans k7))⟩
            | ok p3 =>
              obtain ⟨⟨rfl, k7⟩, k8⟩ := hgv.of_ok hw
              have hr := HRD.out
              rw [hw] at hr
              have hp7 := P6.out.move hbl hb8 k8 k7
              have hf7 := hp7.fin hbl
              obtain ⟨d0, d1, d2, d3, d4, _⟩ := cells5 hp7.box
              obtain ⟨r0, r1, r2, r3, r4, rf⟩ := cells5 hp7.res
              have rf0 := rf 0; have rf1 := rf 1; have rf2 := rf 2; have rf3 := rf 3; have rf4 := rf 4
              obtain ⟨z0, z1, z2, z3, z4, _⟩ := cells5 (put5_heap (a := .int .i64 5) (b := .bool false) (c := .string ⟨#[]⟩) (d := .slice none 0 0) (e := .slice sa sn' sc) hp7.res)
              have HRE := Lib.hid hr; have HF7 := Lib.hid hf7; have Z := Lib.hid (And.intro z0 (And.intro z1 (And.intro z2 (And.intro z3 z4))))
              clear hr hw hgv k7 k8 hp7 hf7 z0 z1 z2 z3 z4 rf q1 qf HRD hi44 P6
              go_wp2_with fail
              obtain ⟨z0, z1, z2, z3, z4⟩ := Z.out
              change bodyPost Tryz.prog Tryz.f87 _ Exit.ret _ _
              refine bodyPost_ret (v := .agg #[.int .i64 5, .bool false, .string ⟨#[]⟩, .slice none 0 0, .slice sa sn' sc]) (by simp [results, Tryz.results87, go_sem, z0, z1, z2, z3, z4]) rfl ?_
              obtain ⟨f1, f2, f3⟩ := HF7.out
              exact Gives.ok HRE.out (MV1.out.trans f3) ⟨_, rfl, by rw [SZ1.out] at f1; exact f1, f2⟩
end Go.Proofs.YtejlddimokmgjaaGreatDoor
namespace Go.Proofs.YtejlddimokmgjaaGreatDoor
open Go.RowKit

/-- Behind an append of a name the box stands as it stood. -/
theorem PI.next1 {b B : Nat} {kind : Int} {s : ByteArray} {w0 : World} {j m : Nat} {ns : List (List UInt8)} {ks : List Cx.J} {sn sk : Value} {css : List (List Value)} {w w5 : World} {o : Obj}
    (h : PI b B kind s w0 j m ns ks sn sk css w) (hg : (w.alloc o).grownBy w5 sn.ownBlock) : w5.cell? ⟨B + 1, 3, none⟩ = some sn ∧ w5.frozen? ⟨B + 1, 3, none⟩ = false := by
  have hs := h.size
  have hb : w5.heap[B + 1]? = some (.cells #[.int .i64 kind, .bool false, .string ⟨#[]⟩, sn, sk] 48 (0, 0)) := by
    rw [hg.block (B + 1) (by simp; omega) (fun e => by have := h.own1.lt _ e.symm; omega), Below.heap_alloc _ _ _ (by omega)]; exact h.box
  have := cells5 hb
  exact ⟨this.2.2.2.1, this.2.2.2.2.2 3⟩

set_option maxRecDepth 100000 in
set_option maxHeartbeats 4000000 in
theorem parts_object (s : ByteArray) (i m : Nat) (b : Nat) (deep : Int) (val : Nat → Nat → Cx.Res (Cx.J × Nat × Nat)) (d : Nat) (hfine : Cx.Fine s.data.toList (d + 1) val)
    (hval : ∀ (w : World) (i' m : Nat), i < i' → Rd b s i' m w → Glb w → i' ≤ s.size → m ≤ 5000 → Calls Tryz.prog 47 #[.pointer (some ⟨b, 0, none⟩), .int .i64 deep] w (Gives (val i' m) (JRet b s w) b w))
    (w : World) (h : Rd b s i m w) (hg : Glb w) (hb8 : 8 ≤ b) (hi : i < s.size) (hm : m ≤ 5000) (hs : s.size ≤ 100000) :
    Calls Tryz.prog 87 #[.pointer (some ⟨b, 0, none⟩), .int .u8 123, .int .i64 deep] w (Gives (Cx.group val s.data.toList true i m) (JRet b s w) b w) := by
  have hs' : s.size ≤ maxLen := by unfold maxLen; omega
  have hbl := h.lt
  obtain ⟨RES, hRES⟩ : ∃ RES, RES = Cx.group val s.data.toList true i m := ⟨_, rfl⟩
  rw [← hRES]
  unfold Cx.group at hRES
  have HR := Lib.hid hRES
  have c1 := h.c1; have cf := h.fr 1
  obtain ⟨w1, hw1⟩ : ∃ w1, w1 = w.setCell ⟨b, 1, none⟩ (.int .i64 ((i : Int) + 1)) := ⟨_, rfl⟩
  have hrd1 : Rd b s (i + 1 : Nat) m w1 := by rw [hw1]; exact h.set1 _
  have hg1 : Glb w1 := by rw [hw1]; exact hg.set hb8 _
  have hmv1 : Mv b w w1 := by rw [hw1]; exact (Mv.refl b w).set (.inl rfl) _
  have hsz1 : w1.heap.size = w.heap.size := by rw [hw1]; simp [World.setCell]
  have hpi := PI.fresh (kind := 6) hrd1 hg1
  have hrdA := hpi.rd
  rw [hw1] at hrdA
  have HPI := Lib.hid hpi; have HW1 := Lib.hid hw1; have MV1 := Lib.hid hmv1; have SZ1 := Lib.hid hsz1; have RDA := Lib.hid hrdA; have HV := Lib.hid hval; have HF := Lib.hid hfine
  clear hRES h hg hpi hw1 hmv1 hsz1 hrd1 hg1 hrdA hval hfine
  go_enter Tryz.func87, Tryz.ntmps87
  go_wp2_with fail
  refine (blanks_calls s (i + 1) m b _ RDA.out (by omega) hs').mono ?_
  rintro e w2 ⟨rfl, k1, k2⟩
  rw [← HW1.out] at k2
  have hpi2 := HPI.out.move (by rw [SZ1.out]; exact hbl) hb8 k2 k1
  have hlp : Cx.skipB s.data.toList (i + 1) ≤ s.size := Cx.skipB_len (s := s.data.toList) (by simp; omega)
  have hip := Cx.skipB_le (s := s.data.toList) (i := i + 1)
  have HR2 := HR.out
  generalize hp : Cx.skipB s.data.toList (i + 1) = p at hpi2 hlp hip HR2 ⊢
  rw [SZ1.out] at hpi2
  have P2 := Lib.hid hpi2; have HRA := Lib.hid HR2
  clear hp k1 k2 hpi2 HR2 HR HPI RDA c1 cf
  by_cases hend : Cx.peek s.data.toList p = 125
  · have hi125 : ((Cx.peek s.data.toList p).toNat : Int) = 125 := by rw [hend]; rfl
    have hr := HRA.out
    rw [if_pos (by rw [hend]; rfl)] at hr
    have HRB := Lib.hid hr
    have q1 := P2.out.rd.c1; have qf := P2.out.rd.fr 1
    obtain ⟨b0, b1, b2, b3, b4, _⟩ := cells5 P2.out.box
    obtain ⟨r0, r1, r2, r3, r4, rf⟩ := cells5 P2.out.res
    have rf0 := rf 0; have rf1 := rf 1; have rf2 := rf 2; have rf3 := rf 3; have rf4 := rf 4
    clear rf
    rw [hend]
    clear hend hr HRA hi125
    have hp3 : PI b w.heap.size 6 s w1 (p + 1) m [] [] (.slice none 0 0) (.slice none 0 0) [] (w2.setCell ⟨b, 1, none⟩ (.int .i64 ((p : Int) + 1))) := P2.out.move hbl hb8 ((Mv.refl b w2).set (.inl rfl) _) (P2.out.rd.set1 _)
    have hf3 := hp3.fin hbl
    obtain ⟨z0, z1, z2, z3, z4, _⟩ := cells5 (put5_heap (a := .int .i64 6) (b := .bool false) (c := .string ⟨#[]⟩) (d := .slice none 0 0) (e := .slice none 0 0) hp3.res)
    have HF3 := Lib.hid hf3; have Z := Lib.hid (And.intro z0 (And.intro z1 (And.intro z2 (And.intro z3 z4))))
    clear hp3 hf3 z0 z1 z2 z3 z4
    go_wp2_with fail
    obtain ⟨z0, z1, z2, z3, z4⟩ := Z.out
    refine bodyPost_ret (v := .agg #[.int .i64 6, .bool false, .string ⟨#[]⟩, .slice none 0 0, .slice none 0 0]) (by simp [results, Tryz.results87, go_sem, z0, z1, z2, z3, z4]) rfl ?_
    obtain ⟨f1, f2, f3⟩ := HF3.out
    exact Gives.ok HRB.out (MV1.out.trans f3) ⟨_, rfl, by rw [SZ1.out] at f1; exact f1, f2⟩
  · have hne : ((Cx.peek s.data.toList p).toNat : Int) ≠ 125 := by
      intro e; exact hend (UInt8.toNat_inj.1 (by simp; omega))
    have hi125 : (((Cx.peek s.data.toList p).toNat : Int) == 125) = false := by rw [beq_eq_false_iff_ne]; exact hne
    have hr := HRA.out
    rw [if_neg (by simpa using hend)] at hr
    have HRB := Lib.hid hr
    clear hend hr HRA hne
    go_wp2_with fail
    clear hi125
    go_loopg [] (s.size + 1) (fun q wr => ∃ (j m' : Nat) (ns : List (List UInt8)) (ks : List Cx.J) (sn sk : Value) (css : List (List Value)), 0 < q ∧ s.size < j + q ∧ i < j ∧ j ≤ s.size ∧ ks.length ≤ j ∧ ns.length = ks.length ∧ m' ≤ 5000 ∧ Hid (RES = Cx.parts val s.data.toList true q j m' ns ks) ∧ Hid (PI b w.heap.size 6 s w1 j m' ns ks sn sk css wr))
    case atStart => exact ⟨p, m, [], [], _, _, [], by omega, by omega, by omega, hlp, by simp, rfl, hm, HRB.out, P2.out⟩
    case round =>
      obtain ⟨j, m', ns, ks, sn, sk, css, hq0, hq, hij, hj, hkl, hnk, hm', HR, P⟩ := hrel
      obtain ⟨q, rfl⟩ : ∃ q, gk = q + 1 := ⟨gk - 1, by omega⟩
      have hr := HR.out
      unfold Cx.parts at hr
      simp only [if_true] at hr
      have HR2 := Lib.hid hr
      have hnl : ns.length ≤ 100000 := by omega
      have HNK := Lib.hid hnk
      clear HRB P2 hq0 HR hr hnk
      obtain ⟨sna, snn, snc, rfl⟩ := own_shape P.out.own1
      obtain ⟨b0, b1, b2, b3, b4, bf⟩ := cells5 P.out.box
      have bf3 := bf 3
      clear b0 b1 b2 b4 bf
      have hrow : Row wr (fun g => g ≠ b) (.slice sna snn snc) ns.length (ns.map strV) := Row.of_own P.out.own1 fun g hg => by have := (P.out.own1.lt g hg).1; omega
      have ROW := Lib.hid hrow
      clear hrow
      cases hnm : Cx.name s.data.toList ns j with
      | error x =>
        have hr := HR2.out
        rw [hnm] at hr
        have HRC := Lib.hid hr; have HVR := Lib.hid hnm
        clear hr hnm
        go_wp2_with fail
        refine wp_region_any (by kernel_rfl) ?_
        try (change wpAny _ _ _ _ _ _ _ (World.drew _))
        refine wpAny_take (i := 0) (v := ?_) rfl (by kernel_rfl) (by kernel_rfl) (by kernel_rfl) (fun _ _ _ h => h) (Or.inl ⟨by rfl, ?_⟩) ?_
        rotate_left 1
        · (intro w; go_simp; first | done | with_reducible rfl)
        refine wpAny_take (i := 2) (v := ?_) rfl (by kernel_rfl) (by kernel_rfl) (by kernel_rfl) (fun _ _ _ h => h) (Or.inl ⟨by rfl, ?_⟩) ?_
        rotate_left 1
        · (intro w; go_simp; first | done | with_reducible rfl)
        refine wpAny_take (i := 3) (v := ?_) rfl (by kernel_rfl) (by kernel_rfl) (by kernel_rfl) (fun _ _ _ h => h) (Or.inl ⟨by rfl, ?_⟩) ?_
        rotate_left 1
        · (intro w; go_simp; first | done | with_reducible rfl)
        refine wpAny_ready (rs := [1, 4]) (by kernel_rfl) (by simp) ?_
        refine AllReady.cons rfl (fun K hK => ?_) ?_
        · go_simp
          refine hK _ _ ?_
          clear hK K
          refine wpAny_ready (rs := [4]) (by kernel_rfl) (by simp) ?_
          refine AllReady.cons rfl (fun K hK => ?_) AllReady.nil
          go_simp
          refine hK _ _ ?_
          clear hK K
          refine wpAny_ready (rs := [5]) (by kernel_rfl) (by simp) ?_
          refine AllReady.cons rfl (fun K hK => ?_) AllReady.nil
          go_simp
          refine (name_calls s j m' b _ ns wr.drew P.out.rd.drew (P.out.glb.drewN 1) hb8 hj hs ROW.out (by omega)).mono ?_
          intro e w3 hgv
          obtain ⟨rfl, k3⟩ := hgv.of_err HVR.out
          exact ⟨rfl, Gives.err HRC.out (MV1.out.trans ((P.out.mv.drewN 1).trans k3))⟩
        · refine AllReady.cons rfl (fun K hK => ?_) AllReady.nil
          go_simp
          refine hK _ _ ?_
          clear hK K
          refine wpAny_ready (rs := [1, 5]) (by kernel_rfl) (by simp) ?_
          refine AllReady.cons rfl (fun K hK => ?_) ?_
          · go_simp
            refine hK _ _ ?_
            clear hK K
            refine wpAny_ready (rs := [5]) (by kernel_rfl) (by simp) ?_
            refine AllReady.cons rfl (fun K hK => ?_) AllReady.nil
            go_simp
            refine (name_calls s j m' b _ ns wr.drew P.out.rd.drew (P.out.glb.drewN 1) hb8 hj hs ROW.out (by omega)).mono ?_
            intro e w3 hgv
            obtain ⟨rfl, k3⟩ := hgv.of_err HVR.out
            exact ⟨rfl, Gives.err HRC.out (MV1.out.trans ((P.out.mv.drewN 1).trans k3))⟩
          · refine AllReady.cons rfl (fun K hK => ?_) AllReady.nil
            go_simp
            refine (name_calls s j m' b _ ns wr.drew P.out.rd.drew (P.out.glb.drewN 1) hb8 hj hs ROW.out (by omega)).mono ?_
            intro e w3 hgv
            obtain ⟨rfl, k3⟩ := hgv.of_err HVR.out
            exact ⟨rfl, Gives.err HRC.out (MV1.out.trans ((P.out.mv.drewN 1).trans k3))⟩
      | ok a =>
        obtain ⟨t, j1⟩ := a
        have hr := HR2.out
        rw [hnm] at hr
        have hnok := Cx.name_ok hnm
        have hj1 : j1 ≤ s.size := hnok.2.1
        have hjj1 : j < j1 := hnok.1
        simp only at hr
        have HRA := Lib.hid hr; have HNM := Lib.hid hnm
        clear hr hnm hnok HR2
        obtain ⟨i1, hi1, hy0, hy1, hy2⟩ := info_parts infoS
        go_upto_region 9 with fail
        go_cut [] (fun wc => ∃ (sn' : Value), Hid (PI b w.heap.size 6 s w1 j1 m' (ns ++ [t]) ks sn' sk css wc))
        case first =>
          go_region_law (first
            | (refine step_append_lies _ (by rfl) _ _ _ (by rfl) (w.heap.size + 2) 9 i1 _ 1 16 Tryz.underlying45 hi1 hy0 hy1 hy2 rfl (by omega) (.slice sna snn snc) ns.length (ns.map strV) (by rfl) OWN.out ⟨w3.heap.size, 0, none⟩ 1 1 [.string ⟨t.toArray⟩] (by rfl) (by rfl) (World.news_of_block (cs := #[.string ⟨t.toArray⟩]) (t := 9) (fr := (0, 0)) (heap_alloc_new w3 _)) (by intro u hu; simp at hu; subst hu; rfl) (by omega) (by unfold maxLen; omega) (by omega) SZ3.out (w3.heap.size + 1) (by simp) ?_; intro gg cap w5 hown5 hgrow5 hat5 hlt5; have d4 := NX.out w5 hgrow5; have d4a := d4.1; have d4b := d4.2; have OW5 := Lib.hid hown5; have GR5 := Lib.hid hgrow5; have AT5 := Lib.hid hat5; clear hown5 hgrow5 hat5 d4 b3')
            | (go_simp; go_at_call 135; refine (name_calls s j m' b _ ns wr.drew P.out.rd.drew (P.out.glb.drewN 1) hb8 hj hs ROW.out (by omega)).mono ?_; intro e w3 hgv; obtain ⟨⟨rfl, kr⟩, km⟩ := hgv.of_ok HNM.out; have b3' := (((Mv.refl b wr).drewN 1).trans km).cell b3 (by simp; omega); have pm := P.out.move hbl hb8 (((Mv.refl b wr).drewN 1).trans km) kr; have hz3 : w.heap.size + 1 < w3.heap.size := (by have := pm.size; omega); have OWN := Lib.hid (pm.own1.alloc (.cells #[.string ⟨t.toArray⟩] 9)); have SZ3 := Lib.hid (show w.heap.size + 2 ≤ (w3.alloc (.cells #[.string ⟨t.toArray⟩] 9)).heap.size by have := pm.size; simp; omega); have NX := Lib.hid (fun w5 hg => pm.next1 (w5 := w5) (o := .cells #[.string ⟨t.toArray⟩] 9) hg); have KR := Lib.hid kr; have KM := Lib.hid km; clear kr km hgv pm))
          all_goals
            try go_wp2_with fail
            go_meet
            case rel =>
              have := P.out.addName hbl hb8 ((((Mv.refl b wr).drewN 1).trans KM.out).alloc (.cells #[.string ⟨t.toArray⟩] 9)) (KR.out.alloc _) OW5.out GR5.out (by have := AT5.out; simpa using this)
              exact ⟨_, Lib.hid this⟩
        case rest =>
        obtain ⟨sn', PN⟩ := hcut
        clear b3 bf3 ROW HNM P
        obtain ⟨sna', snn', snc', rfl⟩ := own_shape PN.out.own1
        obtain ⟨b0, b1, b2, b3, b4, bf⟩ := cells5 PN.out.box
        have bf4 := bf 4
        clear b0 b1 b2 b3 bf
        cases hvr : val j1 m' with
        | error x =>
          have hr := HRA.out
          rw [hvr] at hr
          have HRC := Lib.hid hr; have HVR := Lib.hid hvr
          clear hr hvr
          go_wp2_with fail
          refine wp_region_any (by kernel_rfl) ?_
          try (change wpAny _ _ _ _ _ _ _ (World.drew _))
          refine wpAny_take (i := 0) (v := ?_) rfl (by kernel_rfl) (by kernel_rfl) (by kernel_rfl) (fun _ _ _ h => h) (Or.inl ⟨by rfl, ?_⟩) ?_
          rotate_left 1
          · (intro w; go_simp; first | done | with_reducible rfl)
          refine wpAny_take (i := 2) (v := ?_) rfl (by kernel_rfl) (by kernel_rfl) (by kernel_rfl) (fun _ _ _ h => h) (Or.inl ⟨by rfl, ?_⟩) ?_
          rotate_left 1
          · (intro w; go_simp; first | done | with_reducible rfl)
          refine wpAny_take (i := 3) (v := ?_) rfl (by kernel_rfl) (by kernel_rfl) (by kernel_rfl) (fun _ _ _ h => h) (Or.inl ⟨by rfl, ?_⟩) ?_
          rotate_left 1
          · (intro w; go_simp; first | done | with_reducible rfl)
          refine wpAny_ready (rs := [1, 4]) (by kernel_rfl) (by simp) ?_
          refine AllReady.cons rfl (fun K hK => ?_) ?_
          · go_simp
            refine hK _ _ ?_
            clear hK K
            refine wpAny_ready (rs := [4]) (by kernel_rfl) (by simp) ?_
            refine AllReady.cons rfl (fun K hK => ?_) AllReady.nil
            go_simp
            refine (HV.out wc.drew j1 m' (by omega) PN.out.rd.drew (PN.out.glb.drewN 1) hj1 hm').mono ?_
            intro e w3 hgv
            obtain ⟨rfl, k3⟩ := hgv.of_err HVR.out
            exact ⟨rfl, Gives.err HRC.out (MV1.out.trans ((PN.out.mv.drewN 1).trans k3))⟩
          · refine AllReady.cons rfl (fun K hK => ?_) AllReady.nil
            go_simp
            refine (HV.out wc.drew j1 m' (by omega) PN.out.rd.drew (PN.out.glb.drewN 1) hj1 hm').mono ?_
            intro e w3 hgv
            obtain ⟨rfl, k3⟩ := hgv.of_err HVR.out
            exact ⟨rfl, Gives.err HRC.out (MV1.out.trans ((PN.out.mv.drewN 1).trans k3))⟩
        | ok a =>
          obtain ⟨k, j2, m2⟩ := a
          have hr := HRA.out
          rw [hvr] at hr
          have hfo := HF.out.ok j1 m' k j2 m2 hj1 hm' hvr
          have hj2 : j2 ≤ s.size := hfo.2.1
          have hjj : j1 < j2 := hfo.1
          have hm2 : m2 ≤ 5000 := hfo.2.2.2.1
          have HRC := Lib.hid hr; have HVR := Lib.hid hvr
          clear hr hvr hfo HRA
          obtain ⟨i0, hi, hz0, hz1, hz2⟩ := info_parts infoJ
          go_wp2_with fail
          go_cut [] (fun wd => ∃ (sk' : Value) (css' : List (List Value)), Hid (PI b w.heap.size 6 s w1 j2 m2 (ns ++ [t]) (ks ++ [k]) (.slice sna' snn' snc') sk' css' wd))
          case first =>
            go_region_law (first
              | (refine step_append_lies _ (by rfl) _ _ _ (by rfl) (w.heap.size + 2) 48 i0 _ 5 80 Tryz.underlying46 hi hz0 hz1 hz2 rfl (by omega) sk ks.length css.flatten (by rfl) OWN.out ⟨w3.heap.size, 0, none⟩ 1 1 [c0, c1, c2, c3, c4] (by rfl) (by rfl) (World.news_of_block (cs := #[c0, c1, c2, c3, c4]) (t := 48) (fr := (0, 0)) (heap_alloc_new w3 _)) JO.out (by omega) (by unfold maxLen; omega) (by omega) SZ3.out (w3.heap.size + 1) (by simp) ?_; intro gg cap w5 hown5 hgrow5 hat5 hlt5; have d4 := NX.out w5 hgrow5; have d4a := d4.1; have d4b := d4.2; have OW5 := Lib.hid hown5; have GR5 := Lib.hid hgrow5; have AT5 := Lib.hid hat5; clear hown5 hgrow5 hat5 d4 b4')
              | (go_simp; go_at_call 47; refine (HV.out wc.drew j1 m' (by omega) PN.out.rd.drew (PN.out.glb.drewN 1) hj1 hm').mono ?_; intro e w3 hgv; obtain ⟨⟨cs, rfl, kj, kr⟩, km⟩ := hgv.of_ok HVR.out; have b4' := (((Mv.refl b wc).drewN 1).trans km).cell b4 (by simp; omega); obtain ⟨c0, c1, c2, c3, c4, rfl⟩ := five kj.length; have pm := PN.out.move hbl hb8 (((Mv.refl b wc).drewN 1).trans km) kr; have hz3 : w.heap.size + 1 < w3.heap.size := (by have := pm.size; omega); have OWN := Lib.hid (pm.own2.alloc (.cells #[c0, c1, c2, c3, c4] 48)); have JO := Lib.hid kj.one; have SZ3 := Lib.hid (show w.heap.size + 2 ≤ (w3.alloc (.cells #[c0, c1, c2, c3, c4] 48)).heap.size by have := pm.size; simp; omega); have NX := Lib.hid (fun w5 hg => pm.next (w5 := w5) (o := .cells #[c0, c1, c2, c3, c4] 48) hg); have KJ := Lib.hid kj; have KR := Lib.hid kr; have KM := Lib.hid km; clear kj kr km hgv pm))
            all_goals
              try go_wp2_with fail
              go_meet
              case rel =>
                have hk4 : JAt (w3.alloc (.cells #[c0, c1, c2, c3, c4] 48)) (fun g => wc.heap.size ≤ g) k [c0, c1, c2, c3, c4] :=
                  JAt.kept (by simp) (fun g hg hl => ⟨Below.heap_alloc _ _ _ hl, hg⟩) _ _ KJ.out
                have := PN.out.addKid hbl hb8 ((((Mv.refl b wc).drewN 1).trans KM.out).alloc (.cells #[c0, c1, c2, c3, c4] 48)) (KR.out.alloc _) hk4 OW5.out GR5.out (by have := AT5.out; simpa using this)
                exact ⟨_, _, Lib.hid this⟩
          case rest =>
            obtain ⟨sk', css', P'⟩ := hcut
            obtain ⟨sa, sn', sc, rfl⟩ := own_shape P'.out.own2
            clear HVR b4 bf4
            go_wp2_with fail
            refine (blanks_calls s j2 m2 b _ P'.out.rd hj2 hs').mono ?_
            rintro e w6 ⟨rfl, k1, k2⟩
            have hlp2 : Cx.skipB s.data.toList j2 ≤ s.size := Cx.skipB_len (s := s.data.toList) hj2
            have hjp2 := Cx.skipB_le (s := s.data.toList) (i := j2)
            have hp6 := P'.out.move hbl hb8 k2 k1
            have hr := HRC.out
            generalize hp2 : Cx.skipB s.data.toList j2 = p2 at hp6 hlp2 hjp2 hr ⊢
            try simp only at hr
            try rw [hp2] at hr
            have P6 := Lib.hid hp6
            have q1 := hp6.rd.c1; have qf := hp6.rd.fr 1
            clear hp2 k1 k2 hp6 HRC PN P'
            by_cases h44 : Cx.peek s.data.toList p2 = 44
            · rw [if_pos h44] at hr
              have HRD := Lib.hid hr
              have hlt2 : p2 < s.size := Cx.peek_lt (s := s.data.toList) (by rw [h44]; decide)
              rw [h44]
              clear hr h44
              go_wp2
              go_roundg q
              case measure => omega
              case rel =>
                have hmv6 := P6.out.move hbl hb8 ((Mv.refl b w6).set (a := ⟨b, 1, none⟩) (.inl rfl) (.int .i64 ((p2 : Int) + 1))) (P6.out.rd.set1 _)
                exact ⟨p2 + 1, m2, ns ++ [t], ks ++ [k], _, _, css', by omega, by omega, by omega, by omega, by simp; omega, by simp [HNK.out], hm2, HRD.out, Lib.hid hmv6⟩
            · rw [if_neg h44] at hr
              have HRD := Lib.hid hr
              have hi44 : (((Cx.peek s.data.toList p2).toNat : Int) != 44) = true := by
                rw [bne_iff_ne]; intro e; exact h44 (UInt8.toNat_inj.1 (by simp; omega))
              clear hr h44
              go_wp2_with fail
              refine (show Calls Tryz.prog 132 #[.pointer (some ⟨b, 0, none⟩), .int .u8 125] w6 _ from take_word s p2 m2 b 125 (by decide) _ P6.out.rd hlp2 hs').mono ?_
              intro e w7 hgv
              cases hw : Cx.word s.data.toList [125] p2 with
              | error x =>
                obtain ⟨rfl, k7⟩ := hgv.of_err hw
                have hr := HRD.out
                rw [hw] at hr
                exact ⟨rfl, Gives.err hr (MV1.out.trans (P6.out.mv.trans k7))⟩
              | ok p3 =>
                obtain ⟨⟨rfl, k7⟩, k8⟩ := hgv.of_ok hw
                have hr := HRD.out
                rw [hw] at hr
                have hp7 := P6.out.move hbl hb8 k8 k7
                have hf7 := hp7.fin hbl
                obtain ⟨d0, d1, d2, d3, d4, _⟩ := cells5 hp7.box
                obtain ⟨r0, r1, r2, r3, r4, rf⟩ := cells5 hp7.res
                have rf0 := rf 0; have rf1 := rf 1; have rf2 := rf 2; have rf3 := rf 3; have rf4 := rf 4
                obtain ⟨z0, z1, z2, z3, z4, _⟩ := cells5 (put5_heap (a := .int .i64 6) (b := .bool false) (c := .string ⟨#[]⟩) (d := .slice sna' snn' snc') (e := .slice sa sn' sc) hp7.res)
                have HRE := Lib.hid hr; have HF7 := Lib.hid hf7; have Z := Lib.hid (And.intro z0 (And.intro z1 (And.intro z2 (And.intro z3 z4))))
                clear hr hw hgv k7 k8 hp7 hf7 z0 z1 z2 z3 z4 rf q1 qf HRD hi44 P6
                go_wp2_with fail
                obtain ⟨z0, z1, z2, z3, z4⟩ := Z.out
                change bodyPost Tryz.prog Tryz.f87 _ Exit.ret _ _
                refine bodyPost_ret (v := .agg #[.int .i64 6, .bool false, .string ⟨#[]⟩, .slice sna' snn' snc', .slice sa sn' sc]) (by simp [results, Tryz.results87, go_sem, z0, z1, z2, z3, z4]) rfl ?_
                obtain ⟨f1, f2, f3⟩ := HF7.out
                exact Gives.ok HRE.out (MV1.out.trans f3) ⟨_, rfl, by rw [SZ1.out] at f1; exact f1, f2⟩
end Go.Proofs.YtejlddimokmgjaaGreatDoor
namespace Go.Proofs.YtejlddimokmgjaaGreatDoor
open Go.RowKit

/-- What a reader of values may lean on, and what its box holds. -/
structure VI (b B : Nat) (s : ByteArray) (w0 : World) (j m : Nat) (w : World) : Prop where
  base : B = w0.heap.size
  rd : Rd b s j m w
  glb : Glb w
  mv : Mv b w0 w
  res : w.heap[B]? = some (.cells zeroJ 48 (0, 0))
theorem VI.fresh {b : Nat} {s : ByteArray} {w : World} {j m : Nat} (h : Rd b s j m w) (hg : Glb w) : VI b w.heap.size s w j m (w.alloc (.cells zeroJ 48)) :=
  ⟨rfl, h.alloc _, hg.alloc _, (Mv.refl b w).alloc _, heap_alloc_new w _⟩
theorem VI.move {b B : Nat} {s : ByteArray} {w0 : World} {j m j' m' : Nat} {w w' : World} (h : VI b B s w0 j m w) (hb : b < B) (hb8 : 8 ≤ b) (k : Mv b w w') (hrd : Rd b s j' m' w') : VI b B s w0 j' m' w' :=
  ⟨h.base, hrd, h.glb.mv k hb8, h.mv.trans k, k.heap h.res (by omega)⟩
/-- A value without names and kids is laid into the box. -/
theorem VI.fin {b B : Nat} {s : ByteArray} {w0 : World} {j m : Nat} {w : World} (h : VI b B s w0 j m w) (hb : b < B) (k : Int) (is : Bool) (t : List UInt8) :
    JAt (put5 w B (.int .i64 k) (.bool is) (strV t) (.slice none 0 0) (.slice none 0 0)) (fun g => w0.heap.size ≤ g) (.mk k is t [] []) [.int .i64 k, .bool is, strV t, .slice none 0 0, .slice none 0 0] ∧
    Rd b s j m (put5 w B (.int .i64 k) (.bool is) (strV t) (.slice none 0 0) (.slice none 0 0)) ∧ Mv b w0 (put5 w B (.int .i64 k) (.bool is) (strV t) (.slice none 0 0) (.slice none 0 0)) := by
  have hB := h.base
  refine ⟨JAt.plain, ?_, put5_mv h.mv (by omega)⟩
  unfold Rd; rw [put5_other (by omega)]; exact h.rd
/-- A value of another's make is laid into the box. -/
theorem VI.fin' {b B : Nat} {s : ByteArray} {w0 wc : World} {j m : Nat} {w : World} {v : Cx.J} {c0 c1 c2 c3 c4 : Value} (h : VI b B s w0 j m w) (hb : b < B) (hc : B < wc.heap.size) (hv : JAt w (fun g => wc.heap.size ≤ g) v [c0, c1, c2, c3, c4]) :
    JAt (put5 w B c0 c1 c2 c3 c4) (fun g => w0.heap.size ≤ g) v [c0, c1, c2, c3, c4] ∧ Rd b s j m (put5 w B c0 c1 c2 c3 c4) ∧ Mv b w0 (put5 w B c0 c1 c2 c3 c4) := by
  have hB := h.base
  refine ⟨JAt.kept (by rw [put5_size]; exact Nat.le_refl _) (fun g hg _ => ⟨put5_other (by omega), by omega⟩) _ _ hv, ?_, put5_mv h.mv (by omega)⟩
  unfold Rd; rw [put5_other (by omega)]; exact h.rd

theorem starts_ix (c : UInt8) : (Cx.starts c = true → 0 ≤ ix [110, 116, 102, 34, 91, 123, 45, 48, 49, 50, 51, 52, 53, 54, 55, 56, 57] c) ∧ (Cx.starts c = false → ix [110, 116, 102, 34, 91, 123, 45, 48, 49, 50, 51, 52, 53, 54, 55, 56, 57] c = -1) := by
  constructor
  · intro h; exact (ix_pos (Cx.starts_mem.1 h)).1
  · intro h; refine ix_neg fun hm => ?_
    rw [Cx.starts_mem.2 hm] at h; cases h

/-- The shapes of a value's five cells. -/
theorem five_shape {w : World} {ok : Nat → Prop} {v : Cx.J} {x0 x1 x2 x3 x4 : Value} (h : JAt w ok v [x0, x1, x2, x3, x4]) :
    ∃ (k : Int) (is : Bool) (t : ByteArray) (a : Option Addr) (n c : Nat) (a' : Option Addr) (n' c' : Nat), x0 = .int .i64 k ∧ x1 = .bool is ∧ x2 = .string t ∧ x3 = .slice a n c ∧ x4 = .slice a' n' c' := by
  cases v with
  | mk k is t ns ks =>
    unfold JAt at h
    obtain ⟨sn, sk, hcs, h1, css, _, h2⟩ := h
    injection hcs with e0 hcs; injection hcs with e1 hcs; injection hcs with e2 hcs; injection hcs with e3 hcs; injection hcs with e4 hcs
    have hs1 : ∃ a n c, sn = .slice a n c := by
      rcases h1 with ⟨_, _, a, c, hv⟩ | ⟨_, g, o, c, hv, _⟩
      · exact ⟨a, 0, c, hv⟩
      · exact ⟨_, _, c, hv⟩
    have hs2 : ∃ a n c, sk = .slice a n c := by
      rcases h2 with ⟨_, _, a, c, hv⟩ | ⟨_, g, o, c, hv, _⟩
      · exact ⟨a, 0, c, hv⟩
      · exact ⟨_, _, c, hv⟩
    obtain ⟨a, n, c, hs1⟩ := hs1
    obtain ⟨a', n', c', hs2⟩ := hs2
    exact ⟨k, is, _, a, n, c, a', n', c', e0, e1, e2, e3.trans hs1, e4.trans hs2⟩

set_option maxRecDepth 100000 in
set_option maxHeartbeats 8000000 in
theorem value_calls (s : ByteArray) (b : Nat) (hb8 : 8 ≤ b) (hs : s.size ≤ 100000) : ∀ (n d : Nat) (w : World) (i m : Nat), d ≤ 20 → Rd b s i m w → Glb w → i ≤ s.size → m ≤ 5000 → s.size < i + n →
    Calls Tryz.prog 47 #[.pointer (some ⟨b, 0, none⟩), .int .i64 d] w (Gives (Cx.value s.data.toList n d i m) (JRet b s w) b w) := by
  have hs' : s.size ≤ maxLen := by unfold maxLen; omega
  intro n
  induction n with
  | zero => intro d w i m _ _ _ _ _ h; omega
  | succ n ih =>
    intro d w i m hd h hg hi hm hn
    have hbl := h.lt
    have IH := Lib.hid ih; clear ih
    obtain ⟨RES, hRES⟩ : ∃ RES, RES = Cx.value s.data.toList (n + 1) d i m := ⟨_, rfl⟩
    rw [← hRES]
    unfold Cx.value at hRES
    simp only at hRES
    have hv := VI.fresh h hg
    have HR := Lib.hid hRES; have HVI := Lib.hid hv
    clear hRES h hg hv
    go_enter Tryz.func47, Tryz.ntmps47
    go_wp2_with fail
    refine (blanks_calls s i m b _ HVI.out.rd hi hs').mono ?_
    rintro e w2 ⟨rfl, k1, k2⟩
    have hv2 := HVI.out.move hbl hb8 k2 k1
    have hlp : Cx.skipB s.data.toList i ≤ s.size := Cx.skipB_len (s := s.data.toList) hi
    have hip := Cx.skipB_le (s := s.data.toList) (i := i)
    have hr := HR.out
    generalize hp : Cx.skipB s.data.toList i = p at hv2 hlp hip hr ⊢
    have V2 := Lib.hid hv2
    have c0 := hv2.rd.c0; have c1 := hv2.rd.c1; have c2 := hv2.rd.c2; have cf := hv2.rd.fr 2
    clear k1 k2 hv2 HR HVI hp
    by_cases hst : Cx.starts (Cx.peek s.data.toList p) = true
    · have hne0 := (Cx.starts_ne hst).2.2
      have hplt : p < s.size := Cx.peek_lt hne0
      rw [if_neg (by simp [hst])] at hr
      have hpne : ((p : Int) == (s.size : Int)) = false := by simp; omega
      have hix : decide (ix [110, 116, 102, 34, 91, 123, 45, 48, 49, 50, 51, 52, 53, 54, 55, 56, 57] (Cx.peek s.data.toList p) < 0) = false := by
        have := (starts_ix _).1 hst; simp; omega
      have HST := Lib.hid hst
      clear hst hne0
      by_cases hmany : 5000 ≤ m
      · rw [if_pos hmany] at hr
        have HRB := Lib.hid hr; clear hr
        have hgt : (5000 : Int) < (m : Int) + 1 := by omega
        go_wp2_with fail
        go_quiet ((go_at_call 84; exact Calls.quiet_of_same (indexByte_calls _ _ _)))
        go_wp2_with (go_at_call 49; refine (give_calls _ _ _ _).mono ?_; rintro e w' ⟨rfl, rfl⟩)
        exact ⟨rfl, Gives.err HRB.out ((V2.out.mv.drewN _).set (.inl rfl) _)⟩
      · rw [if_neg hmany] at hr
        have HRB := Lib.hid hr; clear hr
        have hgt : ¬ (5000 : Int) < (m : Int) + 1 := by omega
        generalize hc : Cx.peek s.data.toList p = c at HRB hix HST ⊢
        have HC := Lib.hid hc; clear hc hmany
        go_wp2_with fail
        go_quiet ((go_at_call 84; exact Calls.quiet_of_same (indexByte_calls _ _ _)))
        obtain ⟨w3, hw3⟩ : ∃ w3, w3 = (w2.drewN nq).setCell ⟨b, 2, none⟩ (.int .i64 ((m : Int) + 1)) := ⟨_, rfl⟩
        have hv3 : VI b w.heap.size s w p (m + 1) w3 := by
          rw [hw3]
          exact V2.out.move hbl hb8 (((Mv.refl b w2).drewN nq).set (.inl rfl) _) ((V2.out.rd.drewN nq).set2 _)
        have V3 := Lib.hid hv3; have HW3 := Lib.hid hw3
        clear hv3 hw3 V2
        clear hpne
        have HNC : Hid (c.toNat < 256) := Lib.hid c.toNat_lt
        by_cases h110 : c = 110
        · subst h110
          have hr := HRB.out
          rw [if_pos rfl] at hr
          have HRC := Lib.hid hr
          clear hr HRB
          go_wp2_with fail
          rw [← HW3.out]
          refine (word_calls s p ((m + 1 : Nat) : Int) b ⟨#[110,117,108,108]⟩ _ V3.out.rd hlp hs' (by decide) (by decide)).mono ?_
          intro e w4 hgv
          cases hw : Cx.word s.data.toList [110,117,108,108] p with
          | error x =>
            obtain ⟨rfl, k4⟩ := hgv.of_err hw
            have hr := HRC.out
            rw [hw] at hr
            exact ⟨rfl, Gives.err hr (V3.out.mv.trans k4)⟩
          | ok j =>
            obtain ⟨⟨rfl, k4⟩, k5⟩ := hgv.of_ok hw
            have hr := HRC.out
            rw [hw] at hr
            have V4 := Lib.hid (V3.out.move hbl hb8 k5 k4)
            have HRD := Lib.hid hr
            clear hr hw hgv k4 k5 HRC V3 HW3
            obtain ⟨r0, r1, r2, r3, r4, rf⟩ := cells5 V4.out.res
            have rf0 := rf 0; have rf1 := rf 1; have rf2 := rf 2; have rf3 := rf 3; have rf4 := rf 4
            obtain ⟨z0, z1, z2, z3, z4, _⟩ := cells5 (put5_heap (a := .int .i64 1) (b := .bool false) (c := .string ⟨#[]⟩) (d := .slice none 0 0) (e := .slice none 0 0) V4.out.res)
            have FIN := Lib.hid (V4.out.fin hbl 1 false [])
            have Z := Lib.hid (And.intro z0 (And.intro z1 (And.intro z2 (And.intro z3 z4))))
            clear z0 z1 z2 z3 z4 rf
            go_wp2_with fail
            obtain ⟨z0, z1, z2, z3, z4⟩ := Z.out
            refine bodyPost_ret (v := .agg #[.int .i64 1, .bool false, .string ⟨#[]⟩, .slice none 0 0, .slice none 0 0]) (by simp [results, Tryz.results47, go_sem, z0, z1, z2, z3, z4]) rfl ?_
            obtain ⟨f1, f2, f3⟩ := FIN.out
            exact Gives.ok HRD.out f3 ⟨_, rfl, f1, f2⟩
        by_cases h116 : c = 116
        · subst h116
          have hr := HRB.out
          rw [if_neg (by decide)] at hr
          have HRB := Lib.hid hr
          clear hr
          have hr := HRB.out
          rw [if_pos rfl] at hr
          have HRC := Lib.hid hr
          clear hr HRB
          go_wp2_with fail
          rw [← HW3.out]
          refine (word_calls s p ((m + 1 : Nat) : Int) b ⟨#[116,114,117,101]⟩ _ V3.out.rd hlp hs' (by decide) (by decide)).mono ?_
          intro e w4 hgv
          cases hw : Cx.word s.data.toList [116,114,117,101] p with
          | error x =>
            obtain ⟨rfl, k4⟩ := hgv.of_err hw
            have hr := HRC.out
            rw [hw] at hr
            exact ⟨rfl, Gives.err hr (V3.out.mv.trans k4)⟩
          | ok j =>
            obtain ⟨⟨rfl, k4⟩, k5⟩ := hgv.of_ok hw
            have hr := HRC.out
            rw [hw] at hr
            have V4 := Lib.hid (V3.out.move hbl hb8 k5 k4)
            have HRD := Lib.hid hr
            clear hr hw hgv k4 k5 HRC V3 HW3
            obtain ⟨r0, r1, r2, r3, r4, rf⟩ := cells5 V4.out.res
            have rf0 := rf 0; have rf1 := rf 1; have rf2 := rf 2; have rf3 := rf 3; have rf4 := rf 4
            obtain ⟨z0, z1, z2, z3, z4, _⟩ := cells5 (put5_heap (a := .int .i64 2) (b := .bool true) (c := .string ⟨#[]⟩) (d := .slice none 0 0) (e := .slice none 0 0) V4.out.res)
            have FIN := Lib.hid (V4.out.fin hbl 2 true [])
            have Z := Lib.hid (And.intro z0 (And.intro z1 (And.intro z2 (And.intro z3 z4))))
            clear z0 z1 z2 z3 z4 rf
            go_wp2_with fail
            obtain ⟨z0, z1, z2, z3, z4⟩ := Z.out
            refine bodyPost_ret (v := .agg #[.int .i64 2, .bool true, .string ⟨#[]⟩, .slice none 0 0, .slice none 0 0]) (by simp [results, Tryz.results47, go_sem, z0, z1, z2, z3, z4]) rfl ?_
            obtain ⟨f1, f2, f3⟩ := FIN.out
            exact Gives.ok HRD.out f3 ⟨_, rfl, f1, f2⟩
        by_cases h102 : c = 102
        · subst h102
          have hr := HRB.out
          rw [if_neg (by decide), if_neg (by decide)] at hr
          have HRB := Lib.hid hr
          clear hr
          have hr := HRB.out
          rw [if_pos rfl] at hr
          have HRC := Lib.hid hr
          clear hr HRB
          go_wp2_with fail
          rw [← HW3.out]
          refine (word_calls s p ((m + 1 : Nat) : Int) b ⟨#[102,97,108,115,101]⟩ _ V3.out.rd hlp hs' (by decide) (by decide)).mono ?_
          intro e w4 hgv
          cases hw : Cx.word s.data.toList [102,97,108,115,101] p with
          | error x =>
            obtain ⟨rfl, k4⟩ := hgv.of_err hw
            have hr := HRC.out
            rw [hw] at hr
            exact ⟨rfl, Gives.err hr (V3.out.mv.trans k4)⟩
          | ok j =>
            obtain ⟨⟨rfl, k4⟩, k5⟩ := hgv.of_ok hw
            have hr := HRC.out
            rw [hw] at hr
            have V4 := Lib.hid (V3.out.move hbl hb8 k5 k4)
            have HRD := Lib.hid hr
            clear hr hw hgv k4 k5 HRC V3 HW3
            obtain ⟨r0, r1, r2, r3, r4, rf⟩ := cells5 V4.out.res
            have rf0 := rf 0; have rf1 := rf 1; have rf2 := rf 2; have rf3 := rf 3; have rf4 := rf 4
            obtain ⟨z0, z1, z2, z3, z4, _⟩ := cells5 (put5_heap (a := .int .i64 2) (b := .bool false) (c := .string ⟨#[]⟩) (d := .slice none 0 0) (e := .slice none 0 0) V4.out.res)
            have FIN := Lib.hid (V4.out.fin hbl 2 false [])
            have Z := Lib.hid (And.intro z0 (And.intro z1 (And.intro z2 (And.intro z3 z4))))
            clear z0 z1 z2 z3 z4 rf
            go_wp2_with fail
            obtain ⟨z0, z1, z2, z3, z4⟩ := Z.out
            refine bodyPost_ret (v := .agg #[.int .i64 2, .bool false, .string ⟨#[]⟩, .slice none 0 0, .slice none 0 0]) (by simp [results, Tryz.results47, go_sem, z0, z1, z2, z3, z4]) rfl ?_
            obtain ⟨f1, f2, f3⟩ := FIN.out
            exact Gives.ok HRD.out f3 ⟨_, rfl, f1, f2⟩
        have hr := HRB.out
        rw [if_neg h110, if_neg h116, if_neg h102] at hr
        have HRC := Lib.hid hr
        clear hr HRB
        have ne : ∀ k : UInt8, c ≠ k → ((c.toNat : Int) == (k.toNat : Int)) = false := fun k hk => by
          rw [beq_eq_false_iff_ne]; intro e; exact hk (UInt8.toNat_inj.1 (by omega))
        have n110 : ((c.toNat : Int) == 110) = false := ne 110 h110
        have n116 : ((c.toNat : Int) == 116) = false := ne 116 h116
        have n102 : ((c.toNat : Int) == 102) = false := ne 102 h102
        have NE := Lib.hid ne
        clear ne h110 h116 h102
        by_cases h34 : c = 34
        · subst h34
          have hr := HRC.out
          rw [if_pos rfl] at hr
          have HRD0 := Lib.hid hr
          clear hr HRC n110 n116 n102
          go_wp2_with fail
          rw [← HW3.out]
          refine (text_calls s p ((m + 1 : Nat) : Int) b _ V3.out.rd V3.out.glb hb8 hlp hs).mono ?_
          intro e w4 hgv
          cases hw : Cx.text s.data.toList p with
          | error x =>
            obtain ⟨rfl, k4⟩ := hgv.of_err hw
            have hr := HRD0.out
            rw [hw] at hr
            exact ⟨rfl, Gives.err hr (V3.out.mv.trans k4)⟩
          | ok a =>
            obtain ⟨t, j⟩ := a
            obtain ⟨⟨rfl, k4⟩, k5⟩ := hgv.of_ok hw
            have hr := HRD0.out
            rw [hw] at hr
            have V4 := Lib.hid (V3.out.move hbl hb8 k5 k4)
            have HRD := Lib.hid hr
            clear hr hw hgv k4 k5 HRD0 V3 HW3
            obtain ⟨r0, r1, r2, r3, r4, rf⟩ := cells5 V4.out.res
            have rf0 := rf 0; have rf1 := rf 1; have rf2 := rf 2; have rf3 := rf 3; have rf4 := rf 4
            obtain ⟨z0, z1, z2, z3, z4, _⟩ := cells5 (put5_heap (a := .int .i64 4) (b := .bool false) (c := .string ⟨t.toArray⟩) (d := .slice none 0 0) (e := .slice none 0 0) V4.out.res)
            have FIN := Lib.hid (V4.out.fin hbl 4 false t)
            have Z := Lib.hid (And.intro z0 (And.intro z1 (And.intro z2 (And.intro z3 z4))))
            clear z0 z1 z2 z3 z4 rf
            go_wp2_with fail
            obtain ⟨z0, z1, z2, z3, z4⟩ := Z.out
            refine bodyPost_ret (v := .agg #[.int .i64 4, .bool false, .string ⟨t.toArray⟩, .slice none 0 0, .slice none 0 0]) (by simp [results, Tryz.results47, go_sem, z0, z1, z2, z3, z4]) rfl ?_
            obtain ⟨f1, f2, f3⟩ := FIN.out
            exact Gives.ok HRD.out f3 ⟨_, rfl, f1, f2⟩
        have n34 : ((c.toNat : Int) == 34) = false := NE.out 34 h34
        have hr := HRC.out
        rw [if_neg h34] at hr
        have HRD0 := Lib.hid hr
        clear hr HRC h34
        by_cases hopen : c = 91 ∨ c = 123
        · have hr := HRD0.out
          rw [if_pos hopen] at hr
          have HRE := Lib.hid hr
          clear hr HRD0
          by_cases hdd : d = 20
          · have hr := HRE.out
            rw [if_pos hdd] at hr
            have HRF := Lib.hid hr
            subst hdd
            have q1 := V3.out.rd.c1
            rw [HW3.out] at q1
            clear hr HRE
            rcases hopen with rfl | rfl
            all_goals
              go_wp2_with (go_at_call 49; refine (give_calls _ _ _ _).mono ?_; rintro e w' ⟨rfl, rfl⟩)
              exact ⟨rfl, Gives.err HRF.out (by rw [← HW3.out]; exact V3.out.mv)⟩
          · have hr := HRE.out
            rw [if_neg hdd] at hr
            have HRF := Lib.hid hr
            have hd20 : d < 20 := by omega
            have hddi : ((d : Int) == 20) = false := by simp; omega
            have HFI := Lib.hid (Cx.value_fine s.data.toList n (d + 1) (by omega))
            have hval : ∀ (w : World) (i' m : Nat), p < i' → Rd b s i' m w → Glb w → i' ≤ s.size → m ≤ 5000 → Calls Tryz.prog 47 #[.pointer (some ⟨b, 0, none⟩), .int .i64 ((d : Int) + 1)] w (Gives (Cx.value s.data.toList n (d + 1) i' m) (JRet b s w) b w) := by
              intro w' i' m' h1 h2 h3 h4 h5
              have := IH.out (d + 1) w' i' m' (by omega) h2 h3 h4 h5 (by omega)
              rw [show ((d + 1 : Nat) : Int) = (d : Int) + 1 by omega] at this
              exact this
            have HVA := Lib.hid hval
            clear hr HRE hdd hval IH
            rcases hopen with rfl | rfl
            · go_wp2_with fail
              rw [← HW3.out]
              refine (show Calls Tryz.prog 87 #[.pointer (some ⟨b, 0, none⟩), .int .u8 91, .int .i64 ((d : Int) + 1)] w3 _ from parts_list s p (m + 1) b ((d : Int) + 1) _ d HFI.out HVA.out w3 V3.out.rd V3.out.glb hb8 hplt (by omega) hs).mono ?_
              intro e w4 hgv
              cases hw : Cx.group (fun i m => Cx.value s.data.toList n (d + 1) i m) s.data.toList false p (m + 1) with
              | error x =>
                obtain ⟨rfl, k4⟩ := hgv.of_err hw
                have hr := HRF.out
                simp only [show decide ((91 : UInt8) = 123) = false from rfl] at hr
                rw [hw] at hr
                exact ⟨rfl, Gives.err hr (V3.out.mv.trans k4)⟩
              | ok a =>
                obtain ⟨v, j, m4⟩ := a
                obtain ⟨⟨cs, rfl, kj, k4⟩, k5⟩ := hgv.of_ok hw
                have hr := HRF.out
                simp only [show decide ((91 : UInt8) = 123) = false from rfl] at hr
                rw [hw] at hr
                obtain ⟨x0, x1, x2, x3, x4, rfl⟩ := five kj.length
                have V4 := Lib.hid (V3.out.move hbl hb8 k5 k4)
                have HRD := Lib.hid hr
                have hB3 : w.heap.size < w3.heap.size := heap_lt V3.out.res
                obtain ⟨r0, r1, r2, r3, r4, rf⟩ := cells5 V4.out.res
                have rf0 := rf 0; have rf1 := rf 1; have rf2 := rf 2; have rf3 := rf 3; have rf4 := rf 4
                obtain ⟨z0, z1, z2, z3, z4, _⟩ := cells5 (put5_heap (a := x0) (b := x1) (c := x2) (d := x3) (e := x4) V4.out.res)
                have FIN := Lib.hid (V4.out.fin' hbl hB3 kj)
                have Z := Lib.hid (And.intro z0 (And.intro z1 (And.intro z2 (And.intro z3 z4))))
                obtain ⟨k0, k1, k2, ka, kn, kc, la, ln, lc, rfl, rfl, rfl, rfl, rfl⟩ := five_shape kj
                clear z0 z1 z2 z3 z4 rf hr hw hgv k4 k5 HRF V3 HW3 kj
                go_wp2_with fail
                obtain ⟨z0, z1, z2, z3, z4⟩ := Z.out
                refine bodyPost_ret (v := .agg #[.int .i64 k0, .bool k1, .string k2, .slice ka kn kc, .slice la ln lc]) (by simp [results, Tryz.results47, go_sem, z0, z1, z2, z3, z4]) rfl ?_
                obtain ⟨f1, f2, f3⟩ := FIN.out
                exact Gives.ok HRD.out f3 ⟨_, rfl, f1, f2⟩
            · go_wp2_with fail
              rw [← HW3.out]
              refine (show Calls Tryz.prog 87 #[.pointer (some ⟨b, 0, none⟩), .int .u8 123, .int .i64 ((d : Int) + 1)] w3 _ from parts_object s p (m + 1) b ((d : Int) + 1) _ d HFI.out HVA.out w3 V3.out.rd V3.out.glb hb8 hplt (by omega) hs).mono ?_
              intro e w4 hgv
              cases hw : Cx.group (fun i m => Cx.value s.data.toList n (d + 1) i m) s.data.toList true p (m + 1) with
              | error x =>
                obtain ⟨rfl, k4⟩ := hgv.of_err hw
                have hr := HRF.out
                rw [show decide True = true from rfl, hw] at hr
                exact ⟨rfl, Gives.err hr (V3.out.mv.trans k4)⟩
              | ok a =>
                obtain ⟨v, j, m4⟩ := a
                obtain ⟨⟨cs, rfl, kj, k4⟩, k5⟩ := hgv.of_ok hw
                have hr := HRF.out
                rw [show decide True = true from rfl, hw] at hr
                obtain ⟨x0, x1, x2, x3, x4, rfl⟩ := five kj.length
                have V4 := Lib.hid (V3.out.move hbl hb8 k5 k4)
                have HRD := Lib.hid hr
                have hB3 : w.heap.size < w3.heap.size := heap_lt V3.out.res
                obtain ⟨r0, r1, r2, r3, r4, rf⟩ := cells5 V4.out.res
                have rf0 := rf 0; have rf1 := rf 1; have rf2 := rf 2; have rf3 := rf 3; have rf4 := rf 4
                obtain ⟨z0, z1, z2, z3, z4, _⟩ := cells5 (put5_heap (a := x0) (b := x1) (c := x2) (d := x3) (e := x4) V4.out.res)
                have FIN := Lib.hid (V4.out.fin' hbl hB3 kj)
                have Z := Lib.hid (And.intro z0 (And.intro z1 (And.intro z2 (And.intro z3 z4))))
                obtain ⟨k0, k1, k2, ka, kn, kc, la, ln, lc, rfl, rfl, rfl, rfl, rfl⟩ := five_shape kj
                clear z0 z1 z2 z3 z4 rf hr hw hgv k4 k5 HRF V3 HW3 kj
                go_wp2_with fail
                obtain ⟨z0, z1, z2, z3, z4⟩ := Z.out
                refine bodyPost_ret (v := .agg #[.int .i64 k0, .bool k1, .string k2, .slice ka kn kc, .slice la ln lc]) (by simp [results, Tryz.results47, go_sem, z0, z1, z2, z3, z4]) rfl ?_
                obtain ⟨f1, f2, f3⟩ := FIN.out
                exact Gives.ok HRD.out f3 ⟨_, rfl, f1, f2⟩
        · have n91 : ((c.toNat : Int) == 91) = false := NE.out 91 (fun e => hopen (.inl e))
          have n123 : ((c.toNat : Int) == 123) = false := NE.out 123 (fun e => hopen (.inr e))
          have hr := HRD0.out
          rw [if_neg hopen] at hr
          have HRE := Lib.hid hr
          clear hr HRD0 hopen
          go_wp2_with fail
          rw [← HW3.out]
          refine (number_calls s p ((m + 1 : Nat) : Int) b _ V3.out.rd hlp hs').mono ?_
          intro e w4 hgv
          cases hw : Cx.number s.data.toList p with
          | error x =>
            obtain ⟨rfl, k4⟩ := hgv.of_err hw
            have hr := HRE.out
            rw [hw] at hr
            exact ⟨rfl, Gives.err hr (V3.out.mv.trans k4)⟩
          | ok j =>
            obtain ⟨⟨rfl, k4⟩, k5⟩ := hgv.of_ok hw
            have hr := HRE.out
            rw [hw] at hr
            simp only at hr
            generalize (s.data.toList.drop p).take (j - p) = t at hr ⊢
            have V4 := Lib.hid (V3.out.move hbl hb8 k5 k4)
            have HRD := Lib.hid hr
            clear hr hw hgv k4 k5 HRE V3 HW3
            obtain ⟨r0, r1, r2, r3, r4, rf⟩ := cells5 V4.out.res
            have rf0 := rf 0; have rf1 := rf 1; have rf2 := rf 2; have rf3 := rf 3; have rf4 := rf 4
            obtain ⟨z0, z1, z2, z3, z4, _⟩ := cells5 (put5_heap (a := .int .i64 3) (b := .bool false) (c := .string ⟨t.toArray⟩) (d := .slice none 0 0) (e := .slice none 0 0) V4.out.res)
            have FIN := Lib.hid (V4.out.fin hbl 3 false t)
            have Z := Lib.hid (And.intro z0 (And.intro z1 (And.intro z2 (And.intro z3 z4))))
            clear z0 z1 z2 z3 z4 rf
            go_wp2_with fail
            obtain ⟨z0, z1, z2, z3, z4⟩ := Z.out
            refine bodyPost_ret (v := .agg #[.int .i64 3, .bool false, .string ⟨t.toArray⟩, .slice none 0 0, .slice none 0 0]) (by simp [results, Tryz.results47, go_sem, z0, z1, z2, z3, z4]) rfl ?_
            obtain ⟨f1, f2, f3⟩ := FIN.out
            exact Gives.ok HRD.out f3 ⟨_, rfl, f1, f2⟩
    · have hst : Cx.starts (Cx.peek s.data.toList p) = false := by simpa using hst
      rw [if_pos (by simpa using hst)] at hr
      have HRB := Lib.hid hr; clear hr
      rcases Nat.lt_or_ge p s.size with hlt | hge
      · have hpne : ((p : Int) == (s.size : Int)) = false := by simp; omega
        have hix : decide (ix [110, 116, 102, 34, 91, 123, 45, 48, 49, 50, 51, 52, 53, 54, 55, 56, 57] (Cx.peek s.data.toList p) < 0) = true := by
          rw [(starts_ix _).2 hst]; rfl
        clear hst
        go_wp2_with fail
        go_quiet ((go_at_call 84; exact Calls.quiet_of_same (indexByte_calls _ _ _)))
        go_wp2_with (go_at_call 49; refine (give_calls _ _ _ _).mono ?_; rintro e w' ⟨rfl, rfl⟩)
        exact ⟨rfl, Gives.err HRB.out (V2.out.mv.drewN _)⟩
      · have hpe : p = s.size := by omega
        subst hpe
        have hpne : ((s.size : Int) == (s.size : Int)) = true := by simp
        clear hst
        go_wp2_with fail
        go_quiet (fail)
        go_wp2_with (go_at_call 49; refine (give_calls _ _ _ _).mono ?_; rintro e w' ⟨rfl, rfl⟩)
        exact ⟨rfl, Gives.err HRB.out (V2.out.mv.drewN _)⟩
end Go.Proofs.YtejlddimokmgjaaGreatDoor
namespace Go.Proofs.YtejlddimokmgjaaGreatDoor
open Go.RowKit

theorem is_struct {u : Option TypeDesc} (h : (match u with | some (.struct _) => true | _ => false) = true) : ∃ fs, u = some (.struct fs) := by
  split at h
  · exact ⟨_, rfl⟩
  · cases h

theorem under_fault : ∃ fs, Tryz.prog.underlying 80 = some (.struct fs) := by
  exact is_struct (show (match Tryz.prog.underlying 80 with | some (.struct _) => true | _ => false) = true by kernel_rfl)

theorem asserted_not (w : World) : Sem.run Tryz.prog (Instr.typeAssert .nilIface 20 80 true) w = .ok (.tuple #[.agg #[.int .i64 0, .int .i64 0], .bool false]) w := by
  obtain ⟨fs, h⟩ := under_fault
  have hz : (Tryz.prog.info? 80).map (fun i => i.zero) = some (some (.agg #[.int .i64 0, .int .i64 0])) := by kernel_rfl
  cases hi : Tryz.prog.info? 80 with
  | none => rw [hi] at hz; cases hz
  | some i =>
    rw [hi] at hz
    have hz : i.zero = some (.agg #[.int .i64 0, .int .i64 0]) := by simpa using hz
    simp [Instr.typeAssert, go_sem, run_underlying h, zeroValue, typeInfo, hi, hz]

theorem asserted (e p : Int) (w : World) : Sem.run Tryz.prog (Instr.typeAssert (.iface 80 (.agg #[.int .i64 e, .int .i64 p])) 20 80 true) w = .ok (.tuple #[.agg #[.int .i64 e, .int .i64 p], .bool true]) w := by
  obtain ⟨fs, h⟩ := under_fault
  simp [Instr.typeAssert, go_sem, run_underlying h]

/-- The three variables that a parse lays its results into. -/
structure Vars (N : Nat) (x0 x1 x2 x3 x4 e p : Value) (w : World) : Prop where
  v : w.heap[N]? = some (.cells #[x0, x1, x2, x3, x4] 48 (0, 0))
  err : w.heap[N + 1]? = some (.cells #[e] 27 (0, 0))
  at' : w.heap[N + 2]? = some (.cells #[p] 3 (0, 0))

theorem Vars.drew {N : Nat} {x0 x1 x2 x3 x4 e p : Value} {w : World} (h : Vars N x0 x1 x2 x3 x4 e p w) : Vars N x0 x1 x2 x3 x4 e p w.drew := ⟨h.v, h.err, h.at'⟩
set_option maxRecDepth 100000 in
theorem catch_panicking (N : Nat) (e p : Int) (w : World) (x0 x1 x2 x3 x4 : Value) (e0 p0 : Int) (hV : Vars N x0 x1 x2 x3 x4 (.int .i64 e0) (.int .i64 p0) w) :
    CallsD Tryz.prog 46 #[.pointer (some ⟨N, 0, none⟩), .pointer (some ⟨N + 1, 0, none⟩), .pointer (some ⟨N + 2, 0, none⟩)] (.panicking (fault e p)) w fun en u' w' =>
      en = .returned (.tuple #[]) ∧ settle u' = .returning ∧ Vars N (.int .i64 0) (.bool false) (.string ⟨#[]⟩) (.slice none 0 0) (.slice none 0 0) (.int .i64 e) (.int .i64 p) w' ∧ Below N w w' := by
  have hN : N + 2 < w.heap.size := heap_lt hV.at'
  unfold fault
  refine callsD_of_wpS Tryz.func46 rfl fun c₀ cs hu => ?_
  apply wpS_seq
  apply wpS_region
  have hta := asserted e p
  rw [show (#[Value.pointer (some ⟨N, 0, none⟩), .pointer (some ⟨N + 1, 0, none⟩), .pointer (some ⟨N + 2, 0, none⟩)] ++ Array.replicate (Tryz.f46.ntmps - (#[Value.pointer (some ⟨N, 0, none⟩), .pointer (some ⟨N + 1, 0, none⟩), .pointer (some ⟨N + 2, 0, none⟩)] : Array Value).size) undef) = #[Value.pointer (some ⟨N, 0, none⟩), .pointer (some ⟨N + 1, 0, none⟩), .pointer (some ⟨N + 2, 0, none⟩), undef, undef, undef, undef, undef, undef, undef, undef, undef, undef, undef, undef, undef] from by simp [Tryz.ntmps46]]
  simp [wpOpsS, go_sem, recoverD, hu, hta, Exit.thenS]
  generalize hF : w.heap.size = F at hN ⊢
  generalize hw1 : w.alloc (.cells #[.int .i64 e, .int .i64 p] 80) = w1
  have hV1 : Vars N x0 x1 x2 x3 x4 (.int .i64 e0) (.int .i64 p0) w1 := by
    subst hw1
    exact ⟨by rw [Below.heap_alloc _ _ _ (by omega)]; exact hV.v, by rw [Below.heap_alloc _ _ _ (by omega)]; exact hV.err, by rw [Below.heap_alloc _ _ _ (by omega)]; exact hV.at'⟩
  have hf1 : w1.heap[F]? = some (.cells #[.int .i64 e, .int .i64 p] 80 (0, 0)) := by
    subst hw1; rw [← hF]; exact heap_alloc_new w _
  have q0 : w1.cell? ⟨F, 0, none⟩ = some (.int .i64 e) := by simp [World.cell?, hf1]
  have q1 : w1.cell? ⟨F, 1, none⟩ = some (.int .i64 p) := by simp [World.cell?, hf1]
  obtain ⟨r0, r1, r2, r3, r4, rf⟩ := cells5 hV1.v
  have rf0 := rf 0; have rf1 := rf 1; have rf2 := rf 2; have rf3 := rf 3; have rf4 := rf 4
  have s0 : w1.cell? ⟨N + 1, 0, none⟩ = some (.int .i64 e0) := by simp [World.cell?, hV1.err]
  have s1 : w1.cell? ⟨N + 2, 0, none⟩ = some (.int .i64 p0) := by simp [World.cell?, hV1.at']
  have sf0 : w1.frozen? ⟨N + 1, 0, none⟩ = false := by simp [World.frozen?, hV1.err]
  have sf1 : w1.frozen? ⟨N + 2, 0, none⟩ = false := by simp [World.frozen?, hV1.at']
  have n1 : F ≠ N := by omega
  have n2 : F ≠ N + 1 := by omega
  have n3 : F ≠ N + 2 := by omega
  refine wpS_of_wp ?_
  have HV := Lib.hid hV1; have HU := Lib.hid hu
  clear hV1 hu hf1 rf
  go_wp2
  go_region
  have hF' := HV.out
  refine ⟨rfl, _, rfl, .tuple #[], by simp [results, Tryz.results46, go_sem], rfl, rfl, ?_, ?_⟩
  · refine Vars.drew ⟨?_, ?_, ?_⟩
    · rw [Below.heap_setCell _ _ _ _ (by show N ≠ N + 2; omega), Below.heap_setCell _ _ _ _ (by show N ≠ N + 1; omega)]
      exact put5_heap hF'.v
    · rw [Below.heap_setCell _ _ _ _ (by show N + 1 ≠ N + 2; omega)]
      simp [World.setCell, Array.getElem?_modify, hF'.err]
    · simp [World.setCell, Array.getElem?_modify, hF'.at']
  · have hb : Below N w w1 := by rw [← hw1]; exact (Below.refl N w).alloc (by omega) _
    exact ((((((((hb.setCell (p := ⟨N, 0, none⟩) (Nat.le_refl _) _).setCell (p := ⟨N, 1, none⟩) (Nat.le_refl _) _).setCell (p := ⟨N, 2, none⟩) (Nat.le_refl _) _).setCell (p := ⟨N, 3, none⟩) (Nat.le_refl _) _).setCell (p := ⟨N, 4, none⟩) (Nat.le_refl _) _).setCell (p := ⟨N + 1, 0, none⟩) (Nat.le_succ _) _).setCell (p := ⟨N + 2, 0, none⟩) (by show N ≤ N + 2; omega) _).drew)

set_option maxRecDepth 100000 in
theorem catch_idle (N : Nat) (w : World) :
    CallsD Tryz.prog 46 #[.pointer (some ⟨N, 0, none⟩), .pointer (some ⟨N + 1, 0, none⟩), .pointer (some ⟨N + 2, 0, none⟩)] .returning w fun en u' w' =>
      en = .returned (.tuple #[]) ∧ u' = .returning ∧ w' = w.alloc (.cells #[.int .i64 0, .int .i64 0] 80) := by
  refine callsD_of_wpS Tryz.func46 rfl fun c₀ cs hu => ?_
  apply wpS_seq
  apply wpS_region
  have hta := asserted_not
  rw [show (#[Value.pointer (some ⟨N, 0, none⟩), .pointer (some ⟨N + 1, 0, none⟩), .pointer (some ⟨N + 2, 0, none⟩)] ++ Array.replicate (Tryz.f46.ntmps - (#[Value.pointer (some ⟨N, 0, none⟩), .pointer (some ⟨N + 1, 0, none⟩), .pointer (some ⟨N + 2, 0, none⟩)] : Array Value).size) undef) = #[Value.pointer (some ⟨N, 0, none⟩), .pointer (some ⟨N + 1, 0, none⟩), .pointer (some ⟨N + 2, 0, none⟩), undef, undef, undef, undef, undef, undef, undef, undef, undef, undef, undef, undef, undef] from by simp [Tryz.ntmps46]]
  simp [wpOpsS, go_sem, recoverD, hu, hta, Exit.thenS]
  generalize hw1 : w.alloc (.cells #[.int .i64 0, .int .i64 0] 80) = w1
  refine wpS_of_wp ?_
  go_wp2
  refine ⟨rfl, .returning, by rw [← hu], .tuple #[], by simp [results, Tryz.results46, go_sem], rfl, rfl, rfl⟩
end Go.Proofs.YtejlddimokmgjaaGreatDoor
namespace Go.Proofs.YtejlddimokmgjaaGreatDoor
open Go.RowKit

/-- What a parse answers. -/
def parseT (s : List UInt8) : Cx.J × Nat × Nat :=
  match Cx.parse s with
  | .ok v => (v, 0, 0)
  | .error (e, p) => (.mk 0 false [] [] [], e, p)

/-- What a parse hands back. -/
def PRet (s : ByteArray) (w : World) (e : Ending) (w' : World) : Prop :=
  ∃ cs : List Value, e = .returned (.tuple #[.agg cs.toArray, .int .i64 ((parseT s.data.toList).2.1 : Nat), .int .i64 ((parseT s.data.toList).2.2 : Nat)]) ∧ JAt w' (fun g => w.heap.size ≤ g) (parseT s.data.toList).1 cs ∧ Below w.heap.size w w'

theorem Vars.mv {N b : Nat} {x0 x1 x2 x3 x4 e p : Value} {w w' : World} (h : Vars N x0 x1 x2 x3 x4 e p w) (k : Mv b w w') (hb : N + 2 < b) : Vars N x0 x1 x2 x3 x4 e p w' :=
  ⟨k.heap h.v (by omega), k.heap h.err (by omega), k.heap h.at' (by omega)⟩

/-- The three variables, read at the end. -/
theorem three {N : Nat} {x0 x1 x2 x3 x4 : Value} {e p : Int} {w : World} {tmps : Array Value} (hV : Vars N x0 x1 x2 x3 x4 (.int .i64 e) (.int .i64 p) w)
    (h2 : tmps[2]? = some (.pointer (some ⟨N, 0, none⟩))) (h3 : tmps[3]? = some (.pointer (some ⟨N + 1, 0, none⟩))) (h4 : tmps[4]? = some (.pointer (some ⟨N + 1 + 1, 0, none⟩))) :
    (results Tryz.f19 tmps).run Tryz.prog w = .ok (.tuple #[.agg #[x0, x1, x2, x3, x4], .int .i64 e, .int .i64 p]) w := by
  obtain ⟨r0, r1, r2, r3, r4, rf⟩ := cells5 hV.v
  have s0 : w.cell? ⟨N + 1, 0, none⟩ = some (.int .i64 e) := by simp [World.cell?, hV.err]
  have s1 : w.cell? ⟨N + 1 + 1, 0, none⟩ = some (.int .i64 p) := by simp [World.cell?, hV.at']
  simp [results, Tryz.results19, go_sem, h2, h3, h4, r0, r1, r2, r3, r4, s0, s1]

/-- Behind the deferred closure, of a parse that gave up. -/
theorem parse_fails (s : ByteArray) (w w1 : World) (e p : Nat) (x0 x1 x2 x3 x4 : Value) (hr : Cx.parse s.data.toList = .error (e, p)) (hk : Below w.heap.size w w1) (hV : Vars w.heap.size x0 x1 x2 x3 x4 (.int .i64 0) (.int .i64 0) w1)
    (tmps : Array Value) (h2 : tmps[2]? = some (.pointer (some ⟨w.heap.size, 0, none⟩))) (h3 : tmps[3]? = some (.pointer (some ⟨w.heap.size + 1, 0, none⟩))) (h4 : tmps[4]? = some (.pointer (some ⟨w.heap.size + 1 + 1, 0, none⟩))) :
    bodyPostD Tryz.prog Tryz.f19 (PRet s w) (Exit.panic (fault e p)) { tmps := tmps, defers := [{ target := .fn (.func 46) #[.pointer (some ⟨w.heap.size, 0, none⟩), .pointer (some ⟨w.heap.size + 1, 0, none⟩), .pointer (some ⟨w.heap.size + 1 + 1, 0, none⟩)], args := #[] }] } w1 := by
  refine leaves_cons (f := 46) (args := #[.pointer (some ⟨w.heap.size, 0, none⟩), .pointer (some ⟨w.heap.size + 1, 0, none⟩), .pointer (some ⟨w.heap.size + 1 + 1, 0, none⟩)]) (by simp) (by simp [go_sem]) ?_
  refine (catch_panicking w.heap.size e p w1 x0 x1 x2 x3 x4 0 0 hV).mono ?_
  rintro e' u' w' ⟨rfl, hu, hV', hb⟩
  show Leaves _ _ _ _ [] (settle u') w'
  rw [hu]
  refine ⟨_, three hV' h2 h3 h4, [.int .i64 0, .bool false, strV [], .slice none 0 0, .slice none 0 0], ?_, ?_, hk.trans hb⟩
  · simp [parseT, hr, strV]
  · simp only [parseT, hr]; exact JAt.plain

/-- Behind the deferred closure, of a parse that made its way. -/
theorem parse_makes (s : ByteArray) (w w1 : World) (v : Cx.J) (x0 x1 x2 x3 x4 : Value) (hr : Cx.parse s.data.toList = .ok v) (hk : Below w.heap.size w w1) (hV : Vars w.heap.size x0 x1 x2 x3 x4 (.int .i64 0) (.int .i64 0) w1)
    (hv : JAt w1 (fun g => w.heap.size ≤ g) v [x0, x1, x2, x3, x4])
    (tmps : Array Value) (h2 : tmps[2]? = some (.pointer (some ⟨w.heap.size, 0, none⟩))) (h3 : tmps[3]? = some (.pointer (some ⟨w.heap.size + 1, 0, none⟩))) (h4 : tmps[4]? = some (.pointer (some ⟨w.heap.size + 1 + 1, 0, none⟩))) :
    bodyPostD Tryz.prog Tryz.f19 (PRet s w) Exit.ret { tmps := tmps, defers := [{ target := .fn (.func 46) #[.pointer (some ⟨w.heap.size, 0, none⟩), .pointer (some ⟨w.heap.size + 1, 0, none⟩), .pointer (some ⟨w.heap.size + 1 + 1, 0, none⟩)], args := #[] }] } w1 := by
  refine leaves_cons (f := 46) (args := #[.pointer (some ⟨w.heap.size, 0, none⟩), .pointer (some ⟨w.heap.size + 1, 0, none⟩), .pointer (some ⟨w.heap.size + 1 + 1, 0, none⟩)]) (by simp) (by simp [go_sem]) ?_
  refine (catch_idle w.heap.size w1).mono ?_
  rintro e' u' w' ⟨rfl, rfl, rfl⟩
  show Leaves _ _ _ _ [] FrameMode.returning _
  have hl := heap_lt hV.at'
  have hV' : Vars w.heap.size x0 x1 x2 x3 x4 (.int .i64 0) (.int .i64 0) (w1.alloc (.cells #[.int .i64 0, .int .i64 0] 80)) := hV.mv ((Mv.refl (w.heap.size + 3) w1).alloc _) (by omega)
  refine ⟨_, three hV' h2 h3 h4, [x0, x1, x2, x3, x4], ?_, ?_, hk.alloc (by omega) _⟩
  · simp [parseT, hr]
  · simp only [parseT, hr]
    exact JAt.kept (by simp) (fun g hg hl => ⟨Below.heap_alloc _ _ _ hl, hg⟩) _ _ hv

set_option maxRecDepth 100000 in
set_option maxHeartbeats 4000000 in
theorem parse_calls (s : ByteArray) (w : World) (hg : Glb w) (h8 : 8 ≤ w.heap.size) : Calls Tryz.prog 19 #[.string s] w (PRet s w) := by
  have hmf : ∀ (fn : Fn) (first cap : Array Value) (w : World), (Instr.makeFunc fn first cap).run Tryz.prog w = .ok (.func fn first cap) w := fun _ _ _ _ => rfl
  by_cases hlong : 100000 < s.size
  · have hl : (100000 : Int) < (s.size : Int) := by omega
    have hr : Cx.parse s.data.toList = .error (5, 0) := by
      unfold Cx.parse; rw [if_pos (show 100000 < s.data.toList.length by exact hlong)]
    have HR := Lib.hid hr; have HL := Lib.hid hlong
    clear hr hlong
    go_enter_defers Tryz.func19, Tryz.ntmps19
    go_wp2_with fail
    have hV : Vars w.heap.size (.int .i64 0) (.bool false) (.string ⟨#[]⟩) (.slice none 0 0) (.slice none 0 0) (.int .i64 5) (.int .i64 0) (((w.alloc (.cells zeroJ 48)).alloc (.cells #[.int .i64 5] 27)).alloc (.cells #[.int .i64 0] 3)) := by
      refine ⟨?_, ?_, ?_⟩
      · rw [Below.heap_alloc _ _ _ (by simp; omega), Below.heap_alloc _ _ _ (by simp)]; exact heap_alloc_new w _
      · rw [Below.heap_alloc _ _ _ (by simp)]; simpa using heap_alloc_new (w.alloc (.cells zeroJ 48)) (.cells #[.int .i64 5] 27)
      · simpa using heap_alloc_new ((w.alloc (.cells zeroJ 48)).alloc (.cells #[.int .i64 5] 27)) (.cells #[.int .i64 0] 3)
    refine ⟨_, three hV rfl rfl rfl, [.int .i64 0, .bool false, strV [], .slice none 0 0, .slice none 0 0], ?_, ?_, ?_⟩
    · simp [parseT, HR.out, strV]
    · simp only [parseT, HR.out]; exact JAt.plain
    · exact (((Below.refl _ w).alloc (Nat.le_refl _) _).alloc (by simp) _).alloc (by simp; omega) _
  · have hl : ¬ (100000 : Int) < (s.size : Int) := by omega
    have HL := Lib.hid hlong
    obtain ⟨RES, hRES⟩ : ∃ RES, RES = Cx.parse s.data.toList := ⟨_, rfl⟩
    have hR2 := hRES
    unfold Cx.parse at hRES
    rw [if_neg (show ¬ 100000 < s.data.toList.length by exact hlong)] at hRES
    have HR := Lib.hid hRES; have HR2 := Lib.hid hR2
    have HG := Lib.hid hg
    clear hRES hR2 hlong hg
    go_enter_defers Tryz.func19, Tryz.ntmps19
    go_wp2_with fail
    have hV : Vars w.heap.size (.int .i64 0) (.bool false) (.string ⟨#[]⟩) (.slice none 0 0) (.slice none 0 0) (.int .i64 0) (.int .i64 0) ((((w.alloc (.cells zeroJ 48)).alloc (.cells #[.int .i64 0] 27)).alloc (.cells #[.int .i64 0] 3)).alloc (.cells #[.string s, .int .i64 0, .int .i64 0] 84)) := by
      refine ⟨?_, ?_, ?_⟩
      · rw [Below.heap_alloc _ _ _ (by simp; omega), Below.heap_alloc _ _ _ (by simp; omega), Below.heap_alloc _ _ _ (by simp)]; exact heap_alloc_new w _
      · rw [Below.heap_alloc _ _ _ (by simp), Below.heap_alloc _ _ _ (by simp)]; simpa using heap_alloc_new (w.alloc (.cells zeroJ 48)) (.cells #[.int .i64 0] 27)
      · rw [Below.heap_alloc _ _ _ (by simp)]; simpa using heap_alloc_new ((w.alloc (.cells zeroJ 48)).alloc (.cells #[.int .i64 0] 27)) (.cells #[.int .i64 0] 3)
    have hb4 : Below w.heap.size w ((((w.alloc (.cells zeroJ 48)).alloc (.cells #[.int .i64 0] 27)).alloc (.cells #[.int .i64 0] 3)).alloc (.cells #[.string s, .int .i64 0, .int .i64 0] 84)) :=
      ((((Below.refl _ w).alloc (Nat.le_refl _) _).alloc (by simp) _).alloc (by simp; omega) _).alloc (by simp; omega) _
    have hrd : Rd (w.heap.size + 1 + 1 + 1) s (0 : Nat) (0 : Nat) ((((w.alloc (.cells zeroJ 48)).alloc (.cells #[.int .i64 0] 27)).alloc (.cells #[.int .i64 0] 3)).alloc (.cells #[.string s, .int .i64 0, .int .i64 0] 84)) := by
      unfold Rd
      simpa using heap_alloc_new (((w.alloc (.cells zeroJ 48)).alloc (.cells #[.int .i64 0] 27)).alloc (.cells #[.int .i64 0] 3)) (.cells #[.string s, .int .i64 0, .int .i64 0] 84)
    obtain ⟨w4, hw4⟩ : ∃ w4, w4 = ((((w.alloc (.cells zeroJ 48)).alloc (.cells #[.int .i64 0] 27)).alloc (.cells #[.int .i64 0] 3)).alloc (.cells #[.string s, .int .i64 0, .int .i64 0] 84)) := ⟨_, rfl⟩
    rw [← hw4] at hV hb4 hrd
    rw [show (zeroJ : Array Value) = #[.int .i64 0, .bool false, .string ⟨#[]⟩, .slice none 0 0, .slice none 0 0] from rfl] at hw4
    rw [← hw4]
    have hg4 := HG.out.belowB hb4 h8
    refine (show Calls Tryz.prog 47 #[.pointer (some ⟨w.heap.size + 1 + 1 + 1, 0, none⟩), .int .i64 0] w4 _ from value_calls s (w.heap.size + 1 + 1 + 1) (by omega) (by have := HL.out; omega) (s.size + 1) 0 w4 0 0 (by omega) hrd hg4 (by omega) (by omega) (by omega)).mono ?_
    intro e w5 hgv
    have HB4 := Lib.hid hb4; have HV4 := Lib.hid hV; have HW4 := Lib.hid hw4
    clear hb4 hV hw4 hrd
    cases hw : Cx.value s.data.toList (s.size + 1) 0 0 0 with
    | error x =>
      obtain ⟨rfl, k4⟩ := hgv.of_err hw
      have hr := HR.out
      rw [show s.data.toList.length = s.size from rfl, hw] at hr
      refine parse_fails s w w5 x.1 x.2 _ _ _ _ _ (HR2.out.symm.trans hr) (Mv.to_below HB4.out k4 (by omega) (by have := HB4.out.size; exact this)) (HV4.out.mv k4 (by omega)) _ rfl rfl rfl
    | ok a =>
      obtain ⟨v, j, m⟩ := a
      obtain ⟨⟨cs, rfl, kj, k4⟩, k5⟩ := hgv.of_ok hw
      have hr := HR.out
      rw [show s.data.toList.length = s.size from rfl, hw] at hr
      obtain ⟨x0, x1, x2, x3, x4, rfl⟩ := five kj.length
      obtain ⟨y0, y1, y2, ka, kn, kc, la, ln, lc, rfl, rfl, rfl, rfl, rfl⟩ := five_shape kj
      have hj := (Cx.value_fine s.data.toList (s.size + 1) 0 (by omega)).ok 0 0 v j m (Nat.zero_le _) (by omega) hw
      have hjl : j ≤ s.size := hj.2.1
      have V5 := HV4.out.mv k5 (by omega)
      have B5 : Below w.heap.size w w5 := Mv.to_below HB4.out k5 (by omega) HB4.out.size
      have hl5 := k4.lt
      have hl4 : w.heap.size + 3 < w4.heap.size := by rw [HW4.out]; simp
      obtain ⟨r0, r1, r2, r3, r4, rf⟩ := cells5 V5.v
      have rf0 := rf 0; have rf1 := rf 1; have rf2 := rf 2; have rf3 := rf 3; have rf4 := rf 4
      obtain ⟨w6, hw6⟩ : ∃ w6, w6 = put5 w5 w.heap.size (.int .i64 y0) (.bool y1) (.string y2) (.slice ka kn kc) (.slice la ln lc) := ⟨_, rfl⟩
      have V6 : Vars w.heap.size (.int .i64 y0) (.bool y1) (.string y2) (.slice ka kn kc) (.slice la ln lc) (.int .i64 0) (.int .i64 0) w6 := by
        rw [hw6]
        exact ⟨put5_heap V5.v, by rw [put5_other (by omega)]; exact V5.err, by rw [put5_other (by omega)]; exact V5.at'⟩
      have J6 : JAt w6 (fun g => w4.heap.size ≤ g) v [.int .i64 y0, .bool y1, .string y2, .slice ka kn kc, .slice la ln lc] := by
        rw [hw6]
        exact JAt.kept (by rw [put5_size]; exact Nat.le_refl _) (fun g hg _ => ⟨put5_other (by omega), hg⟩) _ _ kj
      have R6 : Rd (w.heap.size + 1 + 1 + 1) s j m w6 := by
        rw [hw6]; unfold Rd; rw [put5_other (by omega)]; exact k4
      have B6 : Below w.heap.size w w6 := by
        rw [hw6]
        exact ((((B5.setCell (p := ⟨w.heap.size, 0, none⟩) (Nat.le_refl _) _).setCell (p := ⟨w.heap.size, 1, none⟩) (Nat.le_refl _) _).setCell (p := ⟨w.heap.size, 2, none⟩) (Nat.le_refl _) _).setCell (p := ⟨w.heap.size, 3, none⟩) (Nat.le_refl _) _).setCell (p := ⟨w.heap.size, 4, none⟩) (Nat.le_refl _) _
      have A6 := Lib.hid (And.intro V6 (And.intro J6 (And.intro R6 B6)))
      have HW6 := Lib.hid hw6; have HRR := Lib.hid hr
      have HL4 := Lib.hid hl4
      clear V6 J6 R6 B6 hw6 hr V5 B5 k4 k5 kj hgv hj hw rf hl5 hl4 HB4 HV4 HW4 HR HG hg4
      go_wp2_with fail
      rw [show (((((w5.setCell ⟨w.heap.size, 0, none⟩ (.int .i64 y0)).setCell ⟨w.heap.size, 1, none⟩ (.bool y1)).setCell ⟨w.heap.size, 2, none⟩ (.string y2)).setCell ⟨w.heap.size, 3, none⟩ (.slice ka kn kc)).setCell ⟨w.heap.size, 4, none⟩ (.slice la ln lc)) = w6 from HW6.out.symm]
      obtain ⟨V6, J6, R6, B6⟩ := A6.out
      refine (blanks_calls s j m (w.heap.size + 1 + 1 + 1) w6 R6 hjl (by unfold maxLen; have := HL.out; omega)).mono ?_
      rintro e w7 ⟨rfl, R7, m7⟩
      have hl6 := R6.lt
      have V7 := V6.mv m7 (by omega)
      have J7 : JAt w7 (fun g => w.heap.size + 3 < g) v [.int .i64 y0, .bool y1, .string y2, .slice ka kn kc, .slice la ln lc] :=
        JAt.kept m7.size (fun g hg hl => ⟨m7.block g hl (by intro e; injection e with e; have := HL4.out; omega), by have := HL4.out; omega⟩) _ _ J6
      have B7 : Below w.heap.size w w7 := Mv.to_below B6 m7 (by omega) B6.size
      have c1 := R7.c1
      have hr := HRR.out
      generalize Cx.skipB s.data.toList j = p at hr c1 R7
      obtain ⟨r0, r1, r2, r3, r4, rf⟩ := cells5 V7.v
      have rf0 := rf 0; have rf1 := rf 1; have rf2 := rf 2; have rf3 := rf 3; have rf4 := rf 4
      have s0 : w7.cell? ⟨w.heap.size + 1, 0, none⟩ = some (.int .i64 0) := by simp [World.cell?, V7.err]
      have s1 : w7.cell? ⟨w.heap.size + 1 + 1, 0, none⟩ = some (.int .i64 0) := by simp [World.cell?, V7.at']
      have sf0 : w7.frozen? ⟨w.heap.size + 1, 0, none⟩ = false := by simp [World.frozen?, V7.err]
      have sf1 : w7.frozen? ⟨w.heap.size + 1 + 1, 0, none⟩ = false := by simp [World.frozen?, V7.at']
      have A7 := Lib.hid (And.intro V7 (And.intro J7 B7))
      by_cases hp : p < s.size
      · rw [if_pos hp] at hr
        have HRE := Lib.hid hr
        have hpi : (p : Int) < (s.size : Int) := by omega
        clear hr hp V6 J6 R6 B6 V7 J7 B7 R7 m7 HRR hl6 A6 HW6
        go_wp2_with (go_at_call 49; refine (give_calls _ _ _ _).mono ?_; rintro e w' ⟨rfl, rfl⟩)
        obtain ⟨V7, J7, B7⟩ := A7.out
        exact parse_fails s w _ 7 p (.int .i64 y0) (.bool y1) (.string y2) (.slice ka kn kc) (.slice la ln lc) (HR2.out.symm.trans HRE.out) B7 V7 _ rfl rfl rfl
      · rw [if_neg hp] at hr
        have HRE := Lib.hid hr
        have hpi : ¬ (p : Int) < (s.size : Int) := by omega
        clear hr hp V6 J6 R6 B6 V7 J7 B7 R7 m7 HRR hl6 A6 HW6 rf
        go_wp2_with fail
        obtain ⟨V7, J7, B7⟩ := A7.out
        refine parse_makes s w _ v (.int .i64 y0) (.bool y1) (.string y2) (.slice ka kn kc) (.slice la ln lc) (HR2.out.symm.trans HRE.out) ?_ ?_ ?_ _ rfl rfl rfl
        · exact ((((((B7.setCell (p := ⟨w.heap.size, 0, none⟩) (Nat.le_refl _) _).setCell (p := ⟨w.heap.size, 1, none⟩) (Nat.le_refl _) _).setCell (p := ⟨w.heap.size, 2, none⟩) (Nat.le_refl _) _).setCell (p := ⟨w.heap.size, 3, none⟩) (Nat.le_refl _) _).setCell (p := ⟨w.heap.size, 4, none⟩) (Nat.le_refl _) _).setCell (p := ⟨w.heap.size + 1, 0, none⟩) (Nat.le_succ _) _).setCell (p := ⟨w.heap.size + 1 + 1, 0, none⟩) (by show _ ≤ w.heap.size + 2; omega) _
        · refine ⟨?_, ?_, ?_⟩
          · rw [Below.heap_setCell _ _ _ _ (by show w.heap.size ≠ w.heap.size + 1 + 1; omega), Below.heap_setCell _ _ _ _ (by show w.heap.size ≠ w.heap.size + 1; omega)]
            exact put5_heap V7.v
          · rw [Below.heap_setCell _ _ _ _ (by show w.heap.size + 1 ≠ w.heap.size + 1 + 1; omega)]
            simp [World.setCell, Array.getElem?_modify, V7.err]
          · simp [World.setCell, Array.getElem?_modify, V7.at']
        · refine JAt.kept ?_ (fun g hg hl => ⟨?_, by omega⟩) _ _ J7
          · simp [World.setCell]
          · rw [Below.heap_setCell _ _ _ _ (by show g ≠ w.heap.size + 1 + 1; omega), Below.heap_setCell _ _ _ _ (by show g ≠ w.heap.size + 1; omega)]
            exact put5_other (by omega)
end Go.Proofs.YtejlddimokmgjaaGreatDoor
namespace Go.Proofs.YtejlddimokmgjaaGreatDoor
open Go.RowKit

theorem JsAt.kid {w : World} {ok : Nat → Prop} {k : Cx.J} : ∀ {ks : List Cx.J} {css : List (List Value)} {i : Nat}, JsAt w ok ks css → ks[i]? = some k →
    ∃ c0 c1 c2 c3 c4, JAt w ok k [c0, c1, c2, c3, c4] ∧ css.flatten[i * 5]? = some c0 ∧ css.flatten[i * 5 + 1]? = some c1 ∧ css.flatten[i * 5 + 2]? = some c2 ∧ css.flatten[i * 5 + 3]? = some c3 ∧ css.flatten[i * 5 + 4]? = some c4
  | [], _, i, _, hi => by simp at hi
  | k' :: ks, css, i, h, hi => by
    unfold JsAt at h
    obtain ⟨c, cs, rfl, h1, h2⟩ := h
    obtain ⟨x0, x1, x2, x3, x4, rfl⟩ := five h1.length
    cases i with
    | zero =>
      simp only [List.getElem?_cons_zero, Option.some.injEq] at hi
      subst hi
      exact ⟨x0, x1, x2, x3, x4, h1, by simp, by simp, by simp, by simp, by simp⟩
    | succ i =>
      simp only [List.getElem?_cons_succ] at hi
      obtain ⟨c0, c1, c2, c3, c4, hk, e0, e1, e2, e3, e4⟩ := JsAt.kid h2 hi
      refine ⟨c0, c1, c2, c3, c4, hk, ?_, ?_, ?_, ?_, ?_⟩
      all_goals
        rw [List.flatten_cons]
        first
        | (rw [show (i + 1) * 5 = (i * 5) + 5 by omega]; exact e0)
        | (rw [show (i + 1) * 5 + 1 = (i * 5 + 1) + 5 by omega]; exact e1)
        | (rw [show (i + 1) * 5 + 2 = (i * 5 + 2) + 5 by omega]; exact e2)
        | (rw [show (i + 1) * 5 + 3 = (i * 5 + 3) + 5 by omega]; exact e3)
        | (rw [show (i + 1) * 5 + 4 = (i * 5 + 4) + 5 by omega]; exact e4)

/-- The cells of a kid. -/
theorem JAt.kid {w : World} {ok : Nat → Prop} {x : Int} {is : Bool} {t : List UInt8} {ns : List (List UInt8)} {ks : List Cx.J} {x0 x1 x2 x3 x4 : Value} (h : JAt w ok (.mk x is t ns ks) [x0, x1, x2, x3, x4]) {i : Nat} {k : Cx.J} (hi : ks[i]? = some k) :
    ∃ g o cap, x4 = .slice (some ⟨g, o, none⟩) ks.length cap ∧ ok g ∧ g < w.heap.size ∧ ∃ c0 c1 c2 c3 c4, JAt w ok k [c0, c1, c2, c3, c4] ∧
      w.cell? ⟨g, o + i * 5, none⟩ = some c0 ∧ w.cell? ⟨g, o + i * 5 + 1, none⟩ = some c1 ∧ w.cell? ⟨g, o + i * 5 + 2, none⟩ = some c2 ∧ w.cell? ⟨g, o + i * 5 + 3, none⟩ = some c3 ∧ w.cell? ⟨g, o + i * 5 + 4, none⟩ = some c4 := by
  unfold JAt at h
  obtain ⟨sn, sk, hcs, _, css, h1, h2⟩ := h
  injection hcs with e0 hcs; injection hcs with e1 hcs; injection hcs with e2 hcs; injection hcs with e3 hcs; injection hcs with e4 hcs
  subst e4
  rcases h2 with ⟨hz, _⟩ | ⟨_, g, o, cap, hv, _, hg, hl, hc⟩
  · rw [List.length_eq_zero_iff.1 hz] at hi; simp at hi
  · obtain ⟨c0, c1, c2, c3, c4, hk, f0, f1, f2, f3, f4⟩ := h1.kid hi
    exact ⟨g, o, cap, hv, hg, hl, c0, c1, c2, c3, c4, hk, hc _ _ f0, hc _ _ f1, hc _ _ f2, hc _ _ f3, hc _ _ f4⟩

/-- The shapes of a value's five cells, with what they hold. -/
theorem JAt.shape {w : World} {ok : Nat → Prop} {x : Int} {is : Bool} {t : List UInt8} {ns : List (List UInt8)} {ks : List Cx.J} {cs : List Value} (h : JAt w ok (.mk x is t ns ks) cs) :
    ∃ a nc a' kc, cs = [.int .i64 x, .bool is, .string ⟨t.toArray⟩, .slice a ns.length nc, .slice a' ks.length kc] := by
  unfold JAt at h
  obtain ⟨sn, sk, rfl, h1, css, _, h2⟩ := h
  have hs1 : ∃ a c, sn = .slice a ns.length c := by
    rcases h1 with ⟨hz, _, a, c, hv⟩ | ⟨_, g, o, c, hv, _⟩
    · exact ⟨a, c, by rw [hv, hz]⟩
    · exact ⟨_, c, hv⟩
  have hs2 : ∃ a c, sk = .slice a ks.length c := by
    rcases h2 with ⟨hz, _, a, c, hv⟩ | ⟨_, g, o, c, hv, _⟩
    · exact ⟨a, c, by rw [hv, hz]⟩
    · exact ⟨_, c, hv⟩
  obtain ⟨a, c, rfl⟩ := hs1
  obtain ⟨a', c', rfl⟩ := hs2
  exact ⟨a, c, a', c', rfl⟩

/-- The cells of a kid, with their shapes. -/
theorem JAt.kid' {w : World} {ok : Nat → Prop} {x : Int} {is : Bool} {t : List UInt8} {ns : List (List UInt8)} {ks : List Cx.J} {x0 x1 x2 x3 x4 : Value} (h : JAt w ok (.mk x is t ns ks) [x0, x1, x2, x3, x4]) {i : Nat} {k : Cx.J} (hi : ks[i]? = some k) :
    ∃ g o cap, x4 = .slice (some ⟨g, o, none⟩) ks.length cap ∧ ok g ∧ g < w.heap.size ∧ ∃ b nb b' kb, JAt w ok k [.int .i64 k.kind, .bool k.is, .string ⟨k.text.toArray⟩, .slice b k.names.length nb, .slice b' k.kids.length kb] ∧
      w.cell? ⟨g, o + i * 5, none⟩ = some (.int .i64 k.kind) ∧ w.cell? ⟨g, o + i * 5 + 1, none⟩ = some (.bool k.is) ∧ w.cell? ⟨g, o + i * 5 + 2, none⟩ = some (.string ⟨k.text.toArray⟩) ∧ w.cell? ⟨g, o + i * 5 + 3, none⟩ = some (.slice b k.names.length nb) ∧ w.cell? ⟨g, o + i * 5 + 4, none⟩ = some (.slice b' k.kids.length kb) := by
  obtain ⟨g, o, cap, hv, hg, hl, c0, c1, c2, c3, c4, hk, d0, d1, d2, d3, d4⟩ := h.kid hi
  cases k with
  | mk y is' t' ns' ks' =>
    obtain ⟨b, nb, b', kb, hcs⟩ := hk.shape
    rw [hcs] at hk
    injection hcs with e0 hcs; injection hcs with e1 hcs; injection hcs with e2 hcs; injection hcs with e3 hcs; injection hcs with e4 hcs
    subst e0 e1 e2 e3 e4
    exact ⟨g, o, cap, hv, hg, hl, b, nb, b', kb, hk, d0, d1, d2, d3, d4⟩

/-- What lies below a block number stays where only later blocks turn. -/
theorem JAt.below {B : Nat} {w w' : World} {v : Cx.J} {cs : List Value} (h : JAt w (fun g => g < B) v cs) (k : Below B w w') : JAt w' (fun g => g < B) v cs :=
  JAt.kept k.size (fun g hg _ => ⟨k.block g hg, hg⟩) _ _ h
theorem JAt.all {w : World} {ok : Nat → Prop} {v : Cx.J} {cs : List Value} (h : JAt w ok v cs) : JAt w (fun g => g < w.heap.size) v cs :=
  JAt.kept (Nat.le_refl _) (fun _ _ hl => ⟨rfl, hl⟩) _ _ h
theorem Row.below {B : Nat} {w w' : World} {v : Value} {n : Nat} {xs : List Value} (h : Row w (fun g => g < B) v n xs) (k : Below B w w') : Row w' (fun g => g < B) v n xs :=
  h.kept k.size (fun g hg _ => ⟨k.block g hg, hg⟩)

/-- All texts and lists are at most so long. -/
abbrev fit (L : Nat) (v : Cx.J) : Prop := Cx.fit L v
abbrev fitK (L : Nat) (ks : List Cx.J) : Prop := Cx.fitK L ks
theorem nodes_pos (v : Cx.J) : 0 < Cx.nodes v := by cases v; simp [Cx.nodes]; omega
end Go.Proofs.YtejlddimokmgjaaGreatDoor
