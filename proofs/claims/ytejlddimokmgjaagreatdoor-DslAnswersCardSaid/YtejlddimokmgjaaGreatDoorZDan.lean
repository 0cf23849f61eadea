/- WALKS: the law DslAnswers. -/
import Derived.Test.YtejlddimokmgjaaGreatDoorZDhi
import Derived.Test.YtejlddimokmgjaaGreatDoorZDpg
import Derived.Test.YtejlddimokmgjaaGreatDoorGi
namespace Go.Proofs.YtejlddimokmgjaaGreatDoor
open Go.RowKit

/-- Get answers a value that is there. -/
def GotJ (k : Cx.J) (w : World) (e : Ending) (w' : World) : Prop :=
  ∃ b1 m1 b2 m2, e = .returned (.tuple #[.agg #[.int .i64 k.kind, .bool k.is, .string ⟨k.text.toArray⟩, .slice b1 k.names.length m1, .slice b2 k.kids.length m2], .bool true]) ∧ JAt w' (fun g => g < w'.heap.size) k [.int .i64 k.kind, .bool k.is, .string ⟨k.text.toArray⟩, .slice b1 k.names.length m1, .slice b2 k.kids.length m2] ∧ Below w.heap.size w w'
theorem get_is {v k : Cx.J} {n : List UInt8} {cs : List Value} {w : World} {ok : Nat → Prop} (hj : JAt w ok v cs) (hf : fit maxLen v) (hg : Cx.get v n = some k) :
    Calls Tryz.prog 21 #[.agg cs.toArray, .string ⟨n.toArray⟩] w (GotJ k w) := by
  refine (get_calls v cs n w ok hj hf).mono ?_
  rintro e w' ⟨cs', rfl, hj', hb⟩
  rw [hg] at hj' ⊢
  cases k with
  | mk kd is t ns ks =>
  obtain ⟨b1, m1, b2, m2, rfl⟩ := hj'.shape
  exact ⟨b1, m1, b2, m2, rfl, hj', hb⟩
theorem int_is {v : Cx.J} {x : Int} {cs : List Value} {w : World} {ok : Nat → Prop} (hj : JAt w ok v cs) (hf : fit maxLen v) (hx : Cx.toInt v = some x) :
    Calls Tryz.prog 23 #[.agg cs.toArray] w fun e w' => e = .returned (.tuple #[.int .i64 x, .bool true]) ∧ Below w.heap.size w w' := by
  refine (int_calls v cs w ok hj hf).mono ?_
  rintro e w' ⟨rfl, hb⟩
  rw [hx]
  exact ⟨rfl, hb⟩
/-- Get answers a text; a number; a list. -/
def GotWord (t : List UInt8) (w : World) (e : Ending) (w' : World) : Prop :=
  ∃ b1 m1 b2 m2, e = .returned (.tuple #[.agg #[.int .i64 4, .bool false, .string ⟨t.toArray⟩, .slice b1 0 m1, .slice b2 0 m2], .bool true]) ∧ Below w.heap.size w w'
def GotNum (x : Int) (w : World) (e : Ending) (w' : World) : Prop :=
  ∃ b1 m1 b2 m2, e = .returned (.tuple #[.agg #[.int .i64 3, .bool false, .string ⟨(Cx.decI x).toArray⟩, .slice b1 0 m1, .slice b2 0 m2], .bool true]) ∧ JAt w' (fun g => g < w'.heap.size) (Dx.numJ x) [.int .i64 3, .bool false, .string ⟨(Cx.decI x).toArray⟩, .slice b1 0 m1, .slice b2 0 m2] ∧ Below w.heap.size w w'
def GotList (ks : List Cx.J) (w : World) (e : Ending) (w' : World) : Prop :=
  ∃ b1 m1 b2 m2, e = .returned (.tuple #[.agg #[.int .i64 5, .bool false, .string ⟨#[]⟩, .slice b1 0 m1, .slice b2 ks.length m2], .bool true]) ∧ JAt w' (fun g => g < w'.heap.size) (.mk 5 false [] [] ks) [.int .i64 5, .bool false, .string ⟨#[]⟩, .slice b1 0 m1, .slice b2 ks.length m2] ∧ Below w.heap.size w w'
theorem GotJ.word {t : List UInt8} {w : World} {e : Ending} {w' : World} (h : GotJ (Dx.wordJ t) w e w') : GotWord t w e w' := by
  obtain ⟨b1, m1, b2, m2, h1, _, h3⟩ := h
  exact ⟨b1, m1, b2, m2, h1, h3⟩
theorem GotJ.num {x : Int} {w : World} {e : Ending} {w' : World} (h : GotJ (Dx.numJ x) w e w') : GotNum x w e w' := h
theorem GotJ.list {ks : List Cx.J} {w : World} {e : Ending} {w' : World} (h : GotJ (.mk 5 false [] [] ks) w e w') : GotList ks w e w' := h
theorem parseT_split (s : List UInt8) : ∃ k is t ns ks E P, parseT s = (.mk k is t ns ks, E, P) := by
  obtain ⟨⟨k, is, t, ns, ks⟩, E, P⟩ := parseT s
  exact ⟨k, is, t, ns, ks, E, P, rfl⟩
theorem doc_pt (id tx : List UInt8) (h1 : id.length ≤ 500) (h2 : tx.length ≤ 3000) {k : Int} {is : Bool} {t : List UInt8} {ns : List (List UInt8)} {ks : List Cx.J} {E P : Nat} (h : parseT (Dx.docB id tx) = (.mk k is t ns ks, E, P)) :
    ((E : Int) = 0 ∧ Cx.J.mk k is t ns ks = Dx.docJ id tx ∧ fit 100000 (.mk k is t ns ks)) ∨ (E : Int) = 17 := by
  rcases Dx.doc_parse h1 h2 with hp | ⟨p, hp⟩
  · have hf := parse_fits hp
    rw [parseT_ok hp] at h
    injection h with h1 h2; injection h2 with h2 h3
    exact .inl ⟨by rw [← h2]; rfl, h1.symm, by rw [← h1]; exact hf⟩
  · rw [parseT_error hp] at h
    injection h with _ h2; injection h2 with h2 _
    exact .inr (by rw [← h2]; rfl)
theorem hits_pt (total : Int) (l : List Dx.Hit) (h1 : 0 ≤ total) (h2 : total ≤ 1000000) (hl : l.length ≤ 100) (hs : ∀ x ∈ l, HitOk x) {k : Int} {is : Bool} {t : List UInt8} {ns : List (List UInt8)} {ks : List Cx.J} {E P : Nat} (h : parseT (Dx.hitsB total l) = (.mk k is t ns ks, E, P)) :
    ((E : Int) = 0 ∧ Cx.J.mk k is t ns ks = Dx.hitsJ total l ∧ fit 100000 (.mk k is t ns ks)) ∨ (E : Int) = 17 := by
  rcases Dx.hits_parse h1 h2 hl hs with hp | ⟨p, hp⟩
  · have hf := parse_fits hp
    rw [parseT_ok hp] at h
    injection h with h1 h2; injection h2 with h2 h3
    exact .inl ⟨by rw [← h2]; rfl, h1.symm, by rw [← h1]; exact hf⟩
  · rw [parseT_error hp] at h
    injection h with _ h2; injection h2 with h2 _
    exact .inr (by rw [← h2]; rfl)
/-- A value's cells in a block. -/
def JBx (g : Nat) (k : Int) (is : Bool) (t : List UInt8) (sn sk : Value) (w : World) : Prop := w.heap[g]? = some (.cells #[.int .i64 k, .bool is, .string ⟨t.toArray⟩, sn, sk] 48 (0, 0))
theorem JBx.below {g : Nat} {k : Int} {is : Bool} {t : List UInt8} {sn sk : Value} {w w' : World} (h : JBx g k is t sn sk w) (b : Below w.heap.size w w') : JBx g k is t sn sk w' := (b.block g (heap_lt h)).trans h
theorem DBx_cells {w : World} {g : Nat} {a b : Value} {T : TypeId} (h : w.heap[g]? = some (.cells #[a, b] T (0, 0))) : w.cell? ⟨g, 0, none⟩ = some a ∧ w.cell? ⟨g, 1, none⟩ = some b := ⟨by simp [World.cell?, h], by simp [World.cell?, h]⟩

set_option maxRecDepth 100000 in
set_option maxHeartbeats 4000000 in
theorem answers_out (total : Int) (l : List Dx.Hit) (a : Option Addr) (c : Nat) (id tx : List UInt8) (w : World) (hg : GlbD w) (h8 : 8 ≤ w.heap.size) (ho : 100 < l.length ∨ total < 0 ∨ 1000000 < total ∨ 500 < id.length ∨ 3000 < tx.length) :
    Calls Tryz.prog 6 #[.int .i64 total, .slice a l.length c, .agg #[.string ⟨id.toArray⟩, .string ⟨tx.toArray⟩]] w (LawPost w) := by
  have hc : (100 : Int) < l.length ∨ (¬ (100 : Int) < l.length ∧ total < 0) ∨ (¬ (100 : Int) < l.length ∧ ¬ total < 0 ∧ 1000000 < total) ∨ (¬ (100 : Int) < l.length ∧ ¬ total < 0 ∧ ¬ 1000000 < total ∧ (500 : Int) < id.length) ∨ (¬ (100 : Int) < l.length ∧ ¬ total < 0 ∧ ¬ 1000000 < total ∧ ¬ (500 : Int) < id.length ∧ (3000 : Int) < tx.length) := by omega
  have hzi := size_arr id; have hzt := size_arr tx
  have HG := Lib.hid hg
  obtain ⟨W, hW⟩ : ∃ W, W = w.alloc (.cells #[.string ⟨id.toArray⟩, .string ⟨tx.toArray⟩] 42) := ⟨_, rfl⟩
  have B0 := Lib.hid (show Below w.heap.size w W by rw [hW]; exact (Below.refl _ _).alloc (Nat.le_refl _) _)
  have BD := Lib.hid (show W.heap[w.heap.size]? = some (.cells #[.string ⟨id.toArray⟩, .string ⟨tx.toArray⟩] 42 (0, 0)) by rw [hW]; exact heap_alloc_new w _)
  have HW := Lib.hid hW
  clear hg ho hW
  rcases hc with h1 | ⟨h1, h2⟩ | ⟨h1, h2, h3⟩ | ⟨h1, h2, h3, h4⟩ | ⟨h1, h2, h3, h4, h5⟩
  all_goals
    go_enter Tryz.func6, Tryz.ntmps6
    go_wp2_with fail
    rw [← HW.out]
    refine (shown_calls W (HG.out.below B0.out) (Nat.le_trans h8 B0.out.size)).mono ?_
    rintro e w2 ⟨rfl, k⟩
    have K := Lib.hid (B0.out.trans (k.mono B0.out.size))
    obtain ⟨q0, q1⟩ := DBx_cells ((k.block _ (heap_lt BD.out)).trans BD.out)
    clear k
    go_wp2_with fail
    go_ret
    exact ⟨rfl, K.out⟩

set_option maxRecDepth 100000 in
set_option maxHeartbeats 16000000 in
theorem answers_main (total : Int) (l : List Dx.Hit) (a : Option Addr) (c : Nat) (id tx : List UInt8) (w : World) (ok : Nat → Prop) (hg : GlbD w) (ht : Tb w) (h8 : 8 ≤ w.heap.size) (h1 : ¬ (100 : Int) < l.length) (h2 : ¬ total < 0) (h3 : ¬ 1000000 < total) (h4 : ¬ (500 : Int) < id.length) (h5 : ¬ (3000 : Int) < tx.length)
    (hrow : HRow w ok (.slice a l.length c) l) :
    Calls Tryz.prog 6 #[.int .i64 total, .slice a l.length c, .agg #[.string ⟨id.toArray⟩, .string ⟨tx.toArray⟩]] w (LawPost w) := by
  have hzi := size_arr id; have hzt := size_arr tx
  have HG := Lib.hid hg; have HT := Lib.hid (Lib.tabBelow_of_tabIs ht); have ROW := Lib.hid hrow.all
  obtain ⟨W, hW⟩ : ∃ W, W = w.alloc (.cells #[.string ⟨id.toArray⟩, .string ⟨tx.toArray⟩] 42) := ⟨_, rfl⟩
  have B0 := Lib.hid (show Below w.heap.size w W by rw [hW]; exact (Below.refl _ _).alloc (Nat.le_refl _) _)
  have BD0 := Lib.hid (show W.heap[w.heap.size]? = some (.cells #[.string ⟨id.toArray⟩, .string ⟨tx.toArray⟩] 42 (0, 0)) by rw [hW]; exact heap_alloc_new w _)
  have HW := Lib.hid hW
  clear hg ht hrow hW
  go_enter Tryz.func6, Tryz.ntmps6
  go_wp2_with fail
  rw [← HW.out]
  clear HW
  refine (shown_calls W (HG.out.below B0.out) (Nat.le_trans h8 B0.out.size)).mono ?_
  rintro e w2 ⟨rfl, k⟩
  have B2 := Lib.hid (B0.out.trans (k.mono B0.out.size))
  have BD := Lib.hid ((k.block _ (heap_lt BD0.out)).trans BD0.out)
  obtain ⟨q0, q1⟩ := DBx_cells BD.out
  clear k B0 BD0
  go_wp2_with fail
  clear q0 q1
  go_loopg [8] (l.length) (fun q z wr => ∃ (i : Nat), z = .int .i64 i ∧ q = l.length - i ∧ i ≤ l.length ∧ Hid (∀ x ∈ l.take i, HitOk x) ∧ Hid (Below w.heap.size w wr) ∧ Hid (wr.heap[w.heap.size]? = some (.cells #[.string ⟨id.toArray⟩, .string ⟨tx.toArray⟩] 42 (0, 0))))
  case atStart => exact ⟨0, rfl, rfl, Nat.zero_le _, Lib.hid (by simp), B2, BD⟩
  case round =>
    clear B2 BD
    obtain ⟨i, rfl, hq, hi, HOK, BI, BD⟩ := hrel
    have HQ := Lib.hid hq
    clear hq
    rcases Nat.lt_or_ge i l.length with hlt | hge
    · obtain ⟨x, hx⟩ : ∃ x, l[i]? = some x := ⟨l[i], by simp [hlt]⟩
      obtain ⟨g, o, rfl, _, hgl, d0, d1⟩ := ROW.out.hit hx
      have b0 := (BI.out.cell (p := ⟨g, o + i * 2, none⟩) hgl).trans d0
      have b1 := (BI.out.cell (p := ⟨g, o + i * 2 + 1, none⟩) hgl).trans d1
      have hzx := size_arr x.id
      have HX := Lib.hid hx
      clear d0 d1 hx
      have hc : x.score < 0 ∨ (¬ x.score < 0 ∧ 1000000 < x.score) ∨ (¬ x.score < 0 ∧ ¬ 1000000 < x.score ∧ (100 : Int) < x.id.length) ∨ (¬ x.score < 0 ∧ ¬ 1000000 < x.score ∧ ¬ (100 : Int) < x.id.length) := by omega
      rcases hc with k1 | ⟨k1, k2⟩ | ⟨k1, k2, k3⟩ | ⟨k1, k2, k3⟩
      rotate_left 3
      · have hnew := Lib.hid (show ∀ y ∈ l.take (i + 1), HitOk y from by
          rw [List.take_add_one, HX.out]
          intro y hy
          rcases List.mem_append.1 hy with hy | hy
          · exact HOK.out y hy
          · simp at hy; subst hy; exact ⟨by omega, by omega, by omega⟩)
        go_wp2_with fail
        go_roundg (l.length - (i + 1))
        case measure => have := HQ.out; omega
        case rel => exact ⟨i + 1, by go_num, rfl, by omega, hnew, BI, BD⟩
      all_goals
        go_wp2_with fail
        go_ret
        exact ⟨rfl, BI.out⟩
    · have hik : i = l.length := by omega
      subst hik
      rw [List.take_length] at HOK
      clear HQ
      obtain ⟨q0, q1⟩ := DBx_cells BD.out
      go_wp2_with fail
      refine (doc_calls id tx wr (by omega) (by omega)).mono ?_
      rintro e w3 ⟨rfl, hb⟩
      have B3 := Lib.hid (BI.out.trans (hb.mono BI.out.size))
      have BD3 := Lib.hid ((hb.block _ (heap_lt BD.out)).trans BD.out)
      clear hb q0 q1 BI BD
      go_wp2_with fail
      refine (parse_callsL (Dx.docB id tx) w3 (HG.out.below B3.out).1 (Nat.le_trans h8 B3.out.size)).mono ?_
      rintro e w4 ⟨cs, rfl, hj, hb⟩
      obtain ⟨k, is, t, ns, ks, E, P, hpt⟩ := parseT_split (Dx.docB id tx)
      have HE := Lib.hid (doc_pt id tx (by omega) (by omega) hpt)
      rw [hpt] at hj ⊢
      simp only at hj ⊢
      obtain ⟨ei, hei⟩ : ∃ ei : Int, ei = (E : Int) := ⟨_, rfl⟩
      rw [← hei] at HE ⊢
      clear hei
      obtain ⟨a4, nc4, a4', kc4, rfl⟩ := hj.shape
      obtain ⟨g4, hg4⟩ : ∃ g, g = w4.heap.size := ⟨_, rfl⟩
      obtain ⟨x4, hx4⟩ : ∃ x, x = w4.alloc (.cells #[.int .i64 k, .bool is, .string ⟨t.toArray⟩, .slice a4 ns.length nc4, .slice a4' ks.length kc4] 48) := ⟨_, rfl⟩
      have c4 : Below w4.heap.size w4 x4 := by rw [hx4]; exact (Below.refl _ _).alloc (Nat.le_refl _) _
      have J4 := Lib.hid (hj.all.below c4).all
      have BX4 := Lib.hid (show JBx g4 k is t (.slice a4 ns.length nc4) (.slice a4' ks.length kc4) x4 by rw [hx4, hg4]; exact heap_alloc_new w4 _)
      have c34 := hb.trans (c4.mono hb.size)
      have B4 := Lib.hid (B3.out.trans (c34.mono B3.out.size))
      have BD4 := Lib.hid ((c34.block _ (heap_lt BD3.out)).trans BD3.out)
      have HX4 := Lib.hid (And.intro hg4 hx4)
      clear hj hb c4 c34 hpt hg4 hx4 B3 BD3
      go_upto_region 10 with fail
      rw [← HX4.out.1, ← HX4.out.2]
      clear HX4
      go_upto_if 98 with fail
      go_cut [] (fun wc => Hid (Below w.heap.size w wc))
      case first =>
        rcases HE.out with ⟨rfl, hV, hF⟩ | rfl
        rotate_left
        · go_wp2_with fail
          go_meet
          case rel => exact B4
        · have F4 := Lib.hid (to_maxLen hF)
          have G1 := Lib.hid (show Cx.get (.mk k is t ns ks) Dx.tId = some (Dx.wordJ id) from by rw [hV]; exact (Dx.docJ_get id tx).1)
          have G2 := Lib.hid (show Cx.get (.mk k is t ns ks) Dx.tText = some (Dx.wordJ tx) from by rw [hV]; exact (Dx.docJ_get id tx).2)
          have hk2 : ks.length = 2 := by
            have h : Cx.J.kids (.mk k is t ns ks) = Cx.J.kids (Dx.docJ id tx) := by rw [hV]
            rw [show ks = Cx.J.kids (Dx.docJ id tx) from h]; rfl
          rw [hk2] at J4 BX4 ⊢
          clear hV hF hk2 HE
          obtain ⟨y0, y1, y2, y3, y4, _⟩ := cells5 BX4.out
          go_wp2_with fail
          refine (get_is (n := Dx.tId) J4.out F4.out G1.out).mono ?_
          intro e w5 hgot
          obtain ⟨b1, m1, b2, m2, rfl, hb⟩ := hgot.word
          obtain ⟨g5, hg5⟩ : ∃ g, g = w5.heap.size := ⟨_, rfl⟩
          obtain ⟨x5, hx5⟩ : ∃ wz, wz = w5.alloc (.cells #[.int .i64 4, .bool false, .string ⟨id.toArray⟩, .slice b1 0 m1, .slice b2 0 m2] 48) := ⟨_, rfl⟩
          have c5 : Below w5.heap.size w5 x5 := by rw [hx5]; exact (Below.refl _ _).alloc (Nat.le_refl _) _
          have c45 := hb.trans (c5.mono hb.size)
          have P5 := Lib.hid (show JBx g5 4 false id (.slice b1 0 m1) (.slice b2 0 m2) x5 by rw [hx5, hg5]; exact heap_alloc_new w5 _)
          have BX5 := Lib.hid (BX4.out.below c45)
          have J5 := Lib.hid (J4.out.below c45).all
          have B5 := Lib.hid (B4.out.trans (c45.mono B4.out.size))
          have BD5 := Lib.hid ((c45.block _ (heap_lt BD4.out)).trans BD4.out)
          have HX5 := Lib.hid (And.intro hg5 hx5)
          clear hgot hb c5 c45 hg5 hx5 y0 y1 y2 y3 y4 BX4 J4 B4 BD4 G1
          go_upto_region 12 with fail
          rw [← HX5.out.1, ← HX5.out.2]
          clear HX5
          obtain ⟨y0, y1, y2, y3, y4, _⟩ := cells5 BX5.out
          go_wp2_with fail
          refine (get_is (n := Dx.tText) J5.out F4.out G2.out).mono ?_
          intro e w6 hgot
          obtain ⟨b3, m3, b4, m4, rfl, hb⟩ := hgot.word
          obtain ⟨g6, hg6⟩ : ∃ g, g = w6.heap.size := ⟨_, rfl⟩
          obtain ⟨x6, hx6⟩ : ∃ wz, wz = w6.alloc (.cells #[.int .i64 4, .bool false, .string ⟨tx.toArray⟩, .slice b3 0 m3, .slice b4 0 m4] 48) := ⟨_, rfl⟩
          have c6 : Below w6.heap.size w6 x6 := by rw [hx6]; exact (Below.refl _ _).alloc (Nat.le_refl _) _
          have c56 := hb.trans (c6.mono hb.size)
          have P6 := Lib.hid (show JBx g6 4 false tx (.slice b3 0 m3) (.slice b4 0 m4) x6 by rw [hx6, hg6]; exact heap_alloc_new w6 _)
          have P5b := Lib.hid (P5.out.below c56)
          have BX6 := Lib.hid (BX5.out.below c56)
          have B6 := Lib.hid (B5.out.trans (c56.mono B5.out.size))
          have BD6 := Lib.hid ((c56.block _ (heap_lt BD5.out)).trans BD5.out)
          have HX6 := Lib.hid (And.intro hg6 hx6)
          clear hgot hb c6 c56 hg6 hx6 y0 y1 y2 y3 y4 BX5 J5 B5 BD5 P5 G2 F4
          go_upto_region 13 with fail
          rw [← HX6.out.1, ← HX6.out.2]
          clear HX6
          obtain ⟨y0, y1, y2, y3, y4, _⟩ := cells5 BX6.out
          obtain ⟨u0, u1, u2, u3, u4, _⟩ := cells5 P5b.out
          obtain ⟨v0, v1, v2, v3, v4, _⟩ := cells5 P6.out
          obtain ⟨q0, q1⟩ := DBx_cells BD6.out
          go_wp2_with fail
          go_meet
          case rel => exact B6
      case rest =>
      clear B4 BD4 BX4 J4
      have BC := hcut
      clear hcut
      go_wp2_with fail
      refine (hits_calls total l a c wc _ (by omega) (by omega) (by omega) HOK.out (ROW.out.below BC.out) (HT.out _ BC.out)).mono ?_
      rintro e w5 ⟨rfl, hb⟩
      have B5 := Lib.hid (BC.out.trans (hb.mono BC.out.size))
      clear hb BC
      go_wp2_with fail
      refine (parse_callsL (Dx.hitsB total l) w5 (HG.out.below B5.out).1 (Nat.le_trans h8 B5.out.size)).mono ?_
      rintro e w6 ⟨cs, rfl, hj, hb⟩
      obtain ⟨k', is', t', ns', ks', E2, P2, hpt⟩ := parseT_split (Dx.hitsB total l)
      have HE2 := Lib.hid (hits_pt total l (by omega) (by omega) (by omega) HOK.out hpt)
      rw [hpt] at hj ⊢
      simp only at hj ⊢
      obtain ⟨ei2, hei2⟩ : ∃ ei : Int, ei = (E2 : Int) := ⟨_, rfl⟩
      rw [← hei2] at HE2 ⊢
      clear hei2
      obtain ⟨a6, nc6, a6', kc6, rfl⟩ := hj.shape
      obtain ⟨g6, hg6⟩ : ∃ g, g = w6.heap.size := ⟨_, rfl⟩
      obtain ⟨x6, hx6⟩ : ∃ wz, wz = w6.alloc (.cells #[.int .i64 k', .bool is', .string ⟨t'.toArray⟩, .slice a6 ns'.length nc6, .slice a6' ks'.length kc6] 48) := ⟨_, rfl⟩
      have c6 : Below w6.heap.size w6 x6 := by rw [hx6]; exact (Below.refl _ _).alloc (Nat.le_refl _) _
      have J6 := Lib.hid (hj.all.below c6).all
      have BX6 := Lib.hid (show JBx g6 k' is' t' (.slice a6 ns'.length nc6) (.slice a6' ks'.length kc6) x6 by rw [hx6, hg6]; exact heap_alloc_new w6 _)
      have c56 := hb.trans (c6.mono hb.size)
      have B6 := Lib.hid (B5.out.trans (c56.mono B5.out.size))
      have HX6 := Lib.hid (And.intro hg6 hx6)
      clear hj hb c6 c56 hpt hg6 hx6 B5
      go_upto_region 16 with fail
      rw [← HX6.out.1, ← HX6.out.2]
      clear HX6
      rcases HE2.out with ⟨rfl, hV, hF⟩ | rfl
      rotate_left
      · go_wp2_with fail
        go_ret
        exact ⟨rfl, B6.out⟩
      have F6 := Lib.hid (to_maxLen hF)
      have G1 := Lib.hid (show Cx.get (.mk k' is' t' ns' ks') Dx.tTotal = some (Dx.numJ total) from by rw [hV]; exact (Dx.hitsJ_get total l).1)
      have G2 := Lib.hid (show Cx.get (.mk k' is' t' ns' ks') Dx.tHits = some (.mk 5 false [] [] (l.map Dx.hitJ)) from by rw [hV]; exact (Dx.hitsJ_get total l).2)
      clear hV hF HE2
      obtain ⟨y0, y1, y2, y3, y4, _⟩ := cells5 BX6.out
      go_wp2_with fail
      refine (get_is (n := Dx.tTotal) J6.out F6.out G1.out).mono ?_
      intro e w7 hgot
      obtain ⟨b1, m1, b2, m2, rfl, hj, hb⟩ := hgot.num
      obtain ⟨D, hD⟩ : ∃ D : List UInt8, D = Cx.decI total := ⟨_, rfl⟩
      rw [← hD] at hj ⊢
      obtain ⟨g7, hg7⟩ : ∃ g, g = w7.heap.size := ⟨_, rfl⟩
      obtain ⟨x7, hx7⟩ : ∃ x, x = w7.alloc (.cells #[.int .i64 3, .bool false, .string ⟨D.toArray⟩, .slice b1 0 m1, .slice b2 0 m2] 48) := ⟨_, rfl⟩
      have c7 : Below w7.heap.size w7 x7 := by rw [hx7]; exact (Below.refl _ _).alloc (Nat.le_refl _) _
      have c67 := hb.trans (c7.mono hb.size)
      have BX7 := Lib.hid (BX6.out.below c67)
      have J7 := Lib.hid (J6.out.below c67).all
      have N7 := Lib.hid (hj.below c7).all
      have P7 := Lib.hid (show JBx g7 3 false D (.slice b1 0 m1) (.slice b2 0 m2) x7 by rw [hx7, hg7]; exact heap_alloc_new w7 _)
      have FN := Lib.hid (show fit maxLen (Dx.numJ total) from Dx.get_fit F6.out G1.out)
      have B7 := Lib.hid (B6.out.trans (c67.mono B6.out.size))
      have HX7 := Lib.hid (And.intro hg7 hx7)
      clear hgot hb hj hD c7 c67 hg7 hx7 y0 y1 y2 y3 y4 BX6 J6 B6 G1
      go_upto_region 19 with fail
      rw [← HX7.out.1, ← HX7.out.2]
      clear HX7
      obtain ⟨y0, y1, y2, y3, y4, _⟩ := cells5 P7.out
      go_wp2_with fail
      refine (int_is N7.out FN.out (Dx.numJ_int (x := total) (by omega) (by omega))).mono ?_
      rintro e w8 ⟨rfl, hb⟩
      have BX8 := Lib.hid (BX7.out.below hb)
      have J8 := Lib.hid (J7.out.below hb).all
      have B8 := Lib.hid (B7.out.trans (hb.mono B7.out.size))
      clear hb y0 y1 y2 y3 y4 BX7 J7 B7 N7 P7 FN
      obtain ⟨y0, y1, y2, y3, y4, _⟩ := cells5 BX8.out
      go_wp2_with fail
      refine (get_is (n := Dx.tHits) J8.out F6.out G2.out).mono ?_
      intro e w9 hgot
      obtain ⟨b3, m3, b4, m4, rfl, hj, hb⟩ := hgot.list
      obtain ⟨KS, hKS⟩ : ∃ KS, KS = l.map Dx.hitJ := ⟨_, rfl⟩
      have hKl : KS.length = l.length := by rw [hKS]; simp
      have F9 := Lib.hid (show fit maxLen (.mk 5 false [] [] KS) from by rw [hKS]; exact Dx.get_fit F6.out G2.out)
      rw [← hKS] at hj ⊢
      rw [hKl]
      have hj9 : JAt w9 (fun g => g < w9.heap.size) (.mk 5 false [] [] KS) [.int .i64 5, .bool false, .string ⟨#[]⟩, .slice b3 0 m3, .slice b4 l.length m4] := by rw [← hKl]; exact hj
      obtain ⟨g9, hg9⟩ : ∃ g, g = w9.heap.size := ⟨_, rfl⟩
      obtain ⟨x9, hx9⟩ : ∃ x, x = w9.alloc (.cells #[.int .i64 5, .bool false, .string ⟨#[]⟩, .slice b3 0 m3, .slice b4 l.length m4] 48) := ⟨_, rfl⟩
      have c9 : Below w9.heap.size w9 x9 := by rw [hx9]; exact (Below.refl _ _).alloc (Nat.le_refl _) _
      have P9 := Lib.hid (show JBx g9 5 false [] (.slice b3 0 m3) (.slice b4 l.length m4) x9 by rw [hx9, hg9]; exact heap_alloc_new w9 _)
      have J9 := Lib.hid (hj9.below c9).all
      have B9 := Lib.hid (B8.out.trans ((hb.trans (c9.mono hb.size)).mono B8.out.size))
      have HKS := Lib.hid hKS
      have HX9 := Lib.hid (And.intro hg9 hx9)
      clear hgot hb hj hj9 hKS hKl c9 hg9 hx9 y0 y1 y2 y3 y4 BX8 J8 B8 G2 F6
      go_upto_region 21 with fail
      rw [← HX9.out.1, ← HX9.out.2]
      clear HX9
      obtain ⟨y0, y1, y2, y3, y4, _⟩ := cells5 P9.out
      have hE3 : ei = 0 ∨ ei = 17 := by
        rcases HE.out with ⟨h, _⟩ | h
        · exact .inl h
        · exact .inr h
      clear HE
      rcases hE3 with rfl | rfl
      all_goals
        go_wp2_with fail
        clear y0 y1 y2 y3 y4
        go_loopg [25] (l.length) (fun q z wr => ∃ (i : Nat), z = .int .i64 i ∧ q = l.length - i ∧ i ≤ l.length ∧ Hid (Below x9.heap.size x9 wr))
        case atStart => exact ⟨0, rfl, rfl, Nat.zero_le _, Lib.hid (Below.refl _ _)⟩
        case round =>
          obtain ⟨i, rfl, hq, hi, BI⟩ := hrel
          have HQ := Lib.hid hq
          clear hq
          rcases Nat.lt_or_ge i l.length with hlt | hge
          · obtain ⟨x, hx⟩ : ∃ x, l[i]? = some x := ⟨l[i], by simp [hlt]⟩
            obtain ⟨g, o, rfl, _, hgl, d0, d1⟩ := ROW.out.hit hx
            have BW9 := B9.out.trans (BI.out.mono B9.out.size)
            obtain ⟨K, hK⟩ : ∃ K, K = Dx.hitJ x := ⟨_, rfl⟩
            have hki : KS[i]? = some K := by rw [HKS.out, hK, List.getElem?_map, hx]; rfl
            obtain ⟨g', o', cap, hv, _, hgl', kb0, kb1, kb2, kb3, hkj, e0, e1, e2, e3, e4⟩ := J9.out.kid' hki
            injection hv with hv1 hvl hv2
            subst hv1 hv2
            clear hvl
            have HSC := HOK.out x (List.mem_of_getElem? hx)
            have FK := Lib.hid (Dx.fit_kids F9.out (List.mem_of_getElem? hki : K ∈ Cx.J.kids (.mk 5 false [] [] KS)))
            have G1 := Lib.hid (show Cx.get K Dx.tId = some (Dx.wordJ x.id) from by rw [hK]; exact (Dx.hitJ_get x).1)
            have G2 := Lib.hid (show Cx.get K Dx.tScore = some (Dx.numJ x.score) from by rw [hK]; exact (Dx.hitJ_get x).2)
            have NI := Lib.hid (show Cx.toInt (Dx.numJ x.score) = some x.score from Dx.numJ_int HSC.1 HSC.2.1)
            have FN := Lib.hid (show fit maxLen (Dx.numJ x.score) from Dx.get_fit FK.out G2.out)
            have KJ := Lib.hid hkj
            have C0 := Lib.hid (show ∀ wq, Below x9.heap.size x9 wq → wq.cell? ⟨g', o' + i * 5, none⟩ = some (.int .i64 K.kind) ∧ wq.cell? ⟨g', o' + i * 5 + 1, none⟩ = some (.bool K.is) ∧ wq.cell? ⟨g', o' + i * 5 + 2, none⟩ = some (.string ⟨K.text.toArray⟩) ∧ wq.cell? ⟨g', o' + i * 5 + 3, none⟩ = some (.slice kb0 K.names.length kb1) ∧ wq.cell? ⟨g', o' + i * 5 + 4, none⟩ = some (.slice kb2 K.kids.length kb3) ∧ wq.cell? ⟨g9, 4, none⟩ = some (.slice (some ⟨g', o', none⟩) l.length m4) ∧ wq.cell? ⟨g, o + i * 2, none⟩ = some (.string ⟨x.id.toArray⟩) ∧ wq.cell? ⟨g, o + i * 2 + 1, none⟩ = some (.int .i64 x.score) from fun wq hq =>
              have hw := B9.out.trans (hq.mono B9.out.size)
              ⟨(hq.cell (p := ⟨g', o' + i * 5, none⟩) hgl').trans e0, (hq.cell (p := ⟨g', o' + i * 5 + 1, none⟩) hgl').trans e1, (hq.cell (p := ⟨g', o' + i * 5 + 2, none⟩) hgl').trans e2, (hq.cell (p := ⟨g', o' + i * 5 + 3, none⟩) hgl').trans e3, (hq.cell (p := ⟨g', o' + i * 5 + 4, none⟩) hgl').trans e4,
                (cells5 (P9.out.below hq)).2.2.2.2.1, (hw.cell (p := ⟨g, o + i * 2, none⟩) hgl).trans d0, (hw.cell (p := ⟨g, o + i * 2 + 1, none⟩) hgl).trans d1⟩)
            clear hx hki hK d0 d1 e0 e1 e2 e3 e4 hkj BW9 hgl hgl'
            obtain ⟨f0, f1, f2, f3, f4, f5, f6, f7⟩ := C0.out _ BI.out
            go_wp2_with fail
            refine (get_is (n := Dx.tId) (KJ.out.below BI.out) FK.out G1.out).mono ?_
            intro e w5 hgot
            obtain ⟨c1, n1, c2, n2, rfl, hb⟩ := hgot.word
            obtain ⟨g5, hg5⟩ : ∃ g, g = w5.heap.size := ⟨_, rfl⟩
            obtain ⟨x5, hx5⟩ : ∃ wz, wz = w5.alloc (.cells #[.int .i64 4, .bool false, .string ⟨x.id.toArray⟩, .slice c1 0 n1, .slice c2 0 n2] 48) := ⟨_, rfl⟩
            have c5 : Below w5.heap.size w5 x5 := by rw [hx5]; exact (Below.refl _ _).alloc (Nat.le_refl _) _
            have B5 := Lib.hid (BI.out.trans ((hb.trans (c5.mono hb.size)).mono BI.out.size))
            have P5 := Lib.hid (show JBx g5 4 false x.id (.slice c1 0 n1) (.slice c2 0 n2) x5 by rw [hx5, hg5]; exact heap_alloc_new w5 _)
            have HX5 := Lib.hid (And.intro hg5 hx5)
            clear hgot hb c5 hg5 hx5 f0 f1 f2 f3 f4 f5 f6 f7 G1
            go_upto_region 27 with fail
            rw [← HX5.out.1, ← HX5.out.2]
            clear HX5
            obtain ⟨f0, f1, f2, f3, f4, f5, f6, f7⟩ := C0.out _ B5.out
            go_wp2_with fail
            refine (get_is (n := Dx.tScore) (KJ.out.below B5.out) FK.out G2.out).mono ?_
            intro e w6 hgot
            obtain ⟨c3, n3, c4, n4, rfl, hj, hb⟩ := hgot.num
            obtain ⟨D2, hD2⟩ : ∃ Dz : List UInt8, Dz = Cx.decI x.score := ⟨_, rfl⟩
            rw [← hD2] at hj ⊢
            obtain ⟨g6', hg6⟩ : ∃ g, g = w6.heap.size := ⟨_, rfl⟩
            obtain ⟨x6', hx6⟩ : ∃ wz, wz = w6.alloc (.cells #[.int .i64 3, .bool false, .string ⟨D2.toArray⟩, .slice c3 0 n3, .slice c4 0 n4] 48) := ⟨_, rfl⟩
            have c6 : Below w6.heap.size w6 x6' := by rw [hx6]; exact (Below.refl _ _).alloc (Nat.le_refl _) _
            have c56 := hb.trans (c6.mono hb.size)
            have B6 := Lib.hid (B5.out.trans (c56.mono B5.out.size))
            have P6 := Lib.hid (show JBx g6' 3 false D2 (.slice c3 0 n3) (.slice c4 0 n4) x6' by rw [hx6, hg6]; exact heap_alloc_new w6 _)
            have N6 := Lib.hid (hj.below c6).all
            have P5b := Lib.hid (P5.out.below c56)
            have HX6 := Lib.hid (And.intro hg6 hx6)
            clear hgot hb hj hD2 c6 c56 hg6 hx6 f0 f1 f2 f3 f4 f5 f6 f7 G2 B5 P5 KJ
            go_upto_region 28 with fail
            rw [← HX6.out.1, ← HX6.out.2]
            clear HX6
            obtain ⟨y0, y1, y2, y3, y4, _⟩ := cells5 P6.out
            go_wp2_with fail
            refine (int_is N6.out FN.out NI.out).mono ?_
            rintro e w7 ⟨rfl, hb⟩
            have B7 := Lib.hid (B6.out.trans (hb.mono B6.out.size))
            have P7 := Lib.hid (P5b.out.below hb)
            clear hb y0 y1 y2 y3 y4 B6 P5b P6 N6 FN NI FK
            obtain ⟨_, _, _, _, _, _, f6, f7⟩ := C0.out _ B7.out
            obtain ⟨y0, y1, y2, y3, y4, _⟩ := cells5 P7.out
            have hltI : (i : Int) < (l.length : Int) := by omega
            have B7d := Lib.hid B7.out.drew
            clear C0 B7 HSC
            go_wp2_with fail
            go_region
            go_wp2_with fail
            go_roundg (l.length - (i + 1))
            case measure => have := HQ.out; omega
            case rel => exact ⟨i + 1, by go_num, rfl, by omega, B7d⟩
          · have hik : i = l.length := by omega
            subst hik
            clear HQ
            go_wp2_with fail
            go_ret
            exact ⟨rfl, B9.out.trans (BI.out.mono B9.out.size)⟩

theorem answers_calls (total : Int) (l : List Dx.Hit) (a : Option Addr) (c : Nat) (id tx : List UInt8) (w : World) (ok : Nat → Prop) (hg : GlbD w) (ht : Tb w) (h8 : 8 ≤ w.heap.size) (hrow : HRow w ok (.slice a l.length c) l) :
    Calls Tryz.prog 6 #[.int .i64 total, .slice a l.length c, .agg #[.string ⟨id.toArray⟩, .string ⟨tx.toArray⟩]] w (LawPost w) := by
  by_cases ho : 100 < l.length ∨ total < 0 ∨ 1000000 < total ∨ 500 < id.length ∨ 3000 < tx.length
  · exact answers_out total l a c id tx w hg h8 ho
  · exact answers_main total l a c id tx w ok hg ht h8 (by omega) (by omega) (by omega) (by omega) (by omega) hrow
end Go.Proofs.YtejlddimokmgjaaGreatDoor
