/- WALKS: lists' closure: the queries of a name. WALKS: lists, node: a query, of JSON. WALKS: node: a query, of JSON. WALKS: Search's closure: a number of a name. -/
import Derived.Test.YtejlddimokmgjaaGreatDoorKi
import Derived.Deep.DeepCutAuto
import Derived.Test.YtejlddimokmgjaaGreatDoorKc
import Derived.Test.YtejlddimokmgjaaGreatDoorKh
namespace Go.Proofs.YtejlddimokmgjaaGreatDoor
open Go.RowKit

/-- What the closure hands back. -/
def ListPost (v : Cx.J) (n : List UInt8) (old : Bool) (bf : Nat) (w : World) (e : Ending) (w' : World) : Prop :=
  ∃ (qs : List Dx.Qy) (sv : Value) (css : List (List Value)), e = .returned sv ∧ LI bf w (old && (Dx.listQ Dx.nodeQ v n).isSome) qs sv css w' ∧ ∀ l, Dx.listQ Dx.nodeQ v n = some l → qs = l

theorem LI.row {bf : Nat} {w0 : World} {f : Bool} {qs : List Dx.Qy} {sv : Value} {css : List (List Value)} {w : World} (h : LI bf w0 f qs sv css w) : QRow w (fun g => w0.heap.size ≤ g) sv qs :=
  ⟨css, QysAt.kept (Nat.le_refl _) (fun _ hg _ => ⟨rfl, hg.1⟩) _ _ h.kids, Row.of_own h.own fun g hg => (h.own.lt g hg).1⟩

theorem listQ_none {v : Cx.J} {n : List UInt8} (h : Cx.get v n = none) : Dx.listQ Dx.nodeQ v n = some [] := by unfold Dx.listQ; rw [h]
theorem listQ_some {v k : Cx.J} {n : List UInt8} (h : Cx.get v n = some k) : Dx.listQ Dx.nodeQ v n = if k.kind = 5 then Dx.allQ Dx.nodeQ k.kids else none := by
  unfold Dx.listQ
  rw [h]
  simp only
  cases Dx.allQ Dx.nodeQ k.kids <;> simp

/-- The state of the loop over a list's kids. -/
def LoopQ (bf : Nat) (w0 : World) (f0 : Bool) (ks : List Cx.J) (i : Nat) (sv : Value) (w : World) : Prop :=
  ∃ (qs : List Dx.Qy) (css : List (List Value)), LI bf w0 (f0 && (Dx.allQ Dx.nodeQ (ks.take i)).isSome) qs sv css w ∧ qs.length = i ∧ ∀ l, Dx.allQ Dx.nodeQ (ks.take i) = some l → qs = l

theorem LI.shape {bf : Nat} {w0 : World} {f : Bool} {qs : List Dx.Qy} {sv : Value} {css : List (List Value)} {w : World} (h : LI bf w0 f qs sv css w) : ∃ a n c, sv = .slice a n c := by
  obtain ⟨a, n, c, e⟩ := own_shape h.own
  exact ⟨a, n, c, e⟩

set_option maxRecDepth 100000 in
set_option maxHeartbeats 4000000 in
theorem list_calls (v : Cx.J) (cs : List Value) (n : List UInt8) (old : Bool) (bv bf : Nat) (w : World) (ok : Nat → Prop) (hok : ∀ g, ok g → g ≠ bf) (hbv : w.heap[bv]? = some (.cells cs.toArray 48 (0, 0))) (hbf : w.heap[bf]? = some (.cells #[.bool old] 4 (0, 0)))
    (hj : JAt w ok v cs) (hf : fit 100000 v)
    (hnode : ∀ (k x : Cx.J) (cs : List Value) (wr : World), k ∈ v.kids → x ∈ k.kids → JAt wr (fun g => g < wr.heap.size) x cs → Calls Tryz.prog 34 #[.agg cs.toArray] wr (NodePost (Dx.nodeQ x) wr)) :
    Calls Tryz.prog 113 #[.string ⟨n.toArray⟩, .pointer (some ⟨bv, 0, none⟩), .pointer (some ⟨bf, 0, none⟩)] w (ListPost v n old bf w) := by
  obtain ⟨V, hV⟩ : ∃ V, V = v := ⟨_, rfl⟩
  have HN := Lib.hid hnode; have BF := Lib.hid hbf
  have HOK := Lib.hid (show ∀ g, (ok g ∧ g < w.heap.size) → g ≠ bf ∧ g < w.heap.size from fun g h => ⟨hok g h.1, h.2⟩)
  replace hj := JAt.kept (ok' := fun g => ok g ∧ g < w.heap.size) (Nat.le_refl _) (fun g h hl => ⟨rfl, h, hl⟩) _ _ hj
  obtain ⟨ok', hok'⟩ : ∃ ok' : Nat → Prop, ok' = fun g => ok g ∧ g < w.heap.size := ⟨_, rfl⟩
  rw [← hok'] at hj
  replace HOK : Hid (∀ g, ok' g → g ≠ bf ∧ g < w.heap.size) := Lib.hid (by rw [hok']; exact HOK.out)
  clear hnode hok hok'
  cases v with
  | mk k is t ns ks =>
  obtain ⟨a, nc, a', kc, rfl⟩ := hj.shape
  rw [← hV] at hj hf HN ⊢
  clear hV
  have J := Lib.hid hj; have F := Lib.hid hf
  obtain ⟨q0, q1, q2, q3, q4, _⟩ := cells5 hbv
  clear hj hf hbv hbf
  go_enter Tryz.func113, Tryz.ntmps113
  go_wp2_with fail
  refine (getk_calls V [.int .i64 k, .bool is, .string ⟨t.toArray⟩, .slice a ns.length nc, .slice a' ks.length kc] n _ ok' J.out (fit_le (by unfold maxLen; omega) _ F.out)).mono ?_
  rintro e w1 ⟨cs1, rfl, hj1, hb⟩
  have HB1 := Lib.hid hb
  have BF1 := Lib.hid ((hb.block _ (heap_lt BF.out)).trans BF.out)
  clear hb q0 q1 q2 q3 q4
  cases hg : Cx.get V n with
  | none =>
    have NO := Lib.hid (listQ_none hg)
    rw [hg] at hj1
    obtain ⟨b, nb, b', kb, rfl⟩ := hj1.shape
    clear hj1 hg
    simp only [Option.isSome_none]
    have HLI := Lib.hid ((LI.start BF.out).below (HB1.out.alloc HB1.out.size (.cells #[.int .i64 0, .bool false, .string ⟨#[]⟩, .slice b 0 nb, .slice b' 0 kb] 48)))
    go_wp2_with fail
    go_ret
    exact ⟨[], .slice none 0 0, [], rfl, by rw [NO.out, Option.isSome_some, Bool.and_true]; exact HLI.out, fun l hl => by rw [NO.out] at hl; injection hl⟩
  | some K =>
    have NU := Lib.hid (listQ_some hg)
    have HKM := Lib.hid (Dx.get_mem hg)
    rw [hg] at hj1
    simp only [Option.getD_some, Option.isSome_some] at hj1 ⊢
    have hfK : fit 100000 K := Dx.get_fit F.out hg
    clear hg
    obtain ⟨K', hK'⟩ : ∃ K', K' = K := ⟨_, rfl⟩
    cases K with
    | mk k2 is2 t2 ns2 ks2 =>
    have hkl : ks2.length ≤ 100000 := hfK.2.2.2.1
    obtain ⟨b, nb, b', kb, rfl⟩ := hj1.shape
    have HKK := Lib.hid (show K'.kids = ks2 by rw [hK']; rfl)
    have HKD := Lib.hid (show K'.kind = k2 by rw [hK']; rfl)
    have NU2 := Lib.hid (show Dx.listQ Dx.nodeQ V n = if k2 = 5 then Dx.allQ Dx.nodeQ ks2 else none from NU.out)
    have J1 := Lib.hid hj1
    rw [← hK'] at HKM
    have HLI := Lib.hid ((LI.start BF.out).below (HB1.out.alloc HB1.out.size (.cells #[.int .i64 k2, .bool is2, .string ⟨t2.toArray⟩, .slice b ns2.length nb, .slice b' ks2.length kb] 48)))
    have hnew := heap_alloc_new w1 (.cells #[.int .i64 k2, .bool is2, .string ⟨t2.toArray⟩, .slice b ns2.length nb, .slice b' ks2.length kb] 48)
    have hne : w1.heap.size ≠ bf := by have := heap_lt BF1.out; omega
    clear hj1 NU hfK hK'
    have e0 : w1.cell? ⟨bf, 0, none⟩ = some (.bool old) := by have := BF1.out; simp [World.cell?, this]
    have ef : w1.frozen? ⟨bf, 0, none⟩ = false := by have := BF1.out; simp [World.frozen?, this]
    obtain ⟨f0, hf0⟩ : ∃ f0, f0 = (old && decide (k2 = 5)) := ⟨_, rfl⟩
    have HF0 := Lib.hid hf0
    obtain ⟨B1, hB1⟩ : ∃ B1, B1 = w1.heap.size := ⟨_, rfl⟩
    have HNEW := Lib.hid hnew
    have hne2 : bf ≠ w1.heap.size := Ne.symm hne
    have hlt2 : bf < w1.heap.size := heap_lt BF1.out
    clear hf0 hnew
    go_upto_region 4 with fail
    go_cut [] (fun wc => Hid (LI bf w f0 [] (.slice none 0 0) [] wc) ∧ Hid (wc.heap[B1]? = some (.cells #[.int .i64 k2, .bool is2, .string ⟨t2.toArray⟩, .slice b ns2.length nb, .slice b' ks2.length kb] 48 (0, 0))) ∧ w1.heap.size ≤ wc.heap.size)
    case first =>
      have PUT := Lib.hid (fun f => (((LI.start BF.out).below HB1.out).put f).below ((Below.refl _ _).alloc (Nat.le_refl _) (.cells #[.int .i64 k2, .bool is2, .string ⟨t2.toArray⟩, .slice b ns2.length nb, .slice b' ks2.length kb] 48)))
      have NEW2 := Lib.hid (show ∀ f : Bool, ((w1.setCell ⟨bf, 0, none⟩ (.bool f)).alloc (.cells #[.int .i64 k2, .bool is2, .string ⟨t2.toArray⟩, .slice b ns2.length nb, .slice b' ks2.length kb] 48)).heap[B1]? = some (.cells #[.int .i64 k2, .bool is2, .string ⟨t2.toArray⟩, .slice b ns2.length nb, .slice b' ks2.length kb] 48 (0, 0)) from fun f => by
        have := heap_alloc_new (w1.setCell ⟨bf, 0, none⟩ (.bool f)) (.cells #[.int .i64 k2, .bool is2, .string ⟨t2.toArray⟩, .slice b ns2.length nb, .slice b' ks2.length kb] 48)
        simpa [hB1, World.setCell] using this)
      clear hB1
      cases old with
      | false =>
        go_wp2_with fail
        go_meet
        case rel => exact ⟨by rw [HF0.out]; exact Lib.hid (PUT.out _), Lib.hid (NEW2.out _), by simp [World.setCell]⟩
      | true =>
        by_cases h5 : k2 = 5
        · have h5b : (k2 == 5) = true := by simpa using h5
          have HF5 := Lib.hid (show f0 = true by rw [HF0.out, decide_eq_true h5]; rfl)
          clear h5
          go_wp2_with fail
          go_meet
          case rel => exact ⟨by rw [HF5.out]; exact Lib.hid (PUT.out _), Lib.hid (NEW2.out _), by simp [World.setCell]⟩
        · have h5b : (k2 == 5) = false := by simpa using h5
          have HF5 := Lib.hid (show f0 = false by rw [HF0.out, decide_eq_false h5]; rfl)
          clear h5
          go_wp2_with fail
          go_meet
          case rel => exact ⟨by rw [HF5.out]; exact Lib.hid (PUT.out _), Lib.hid (NEW2.out _), by simp [World.setCell]⟩
    case rest =>
    obtain ⟨LI0, BX, hws⟩ := hcut
    obtain ⟨q0, q1, q2, q3, q4, _⟩ := cells5 BX.out
    rw [hB1] at q0 q1 q2 q3 q4
    clear e0 ef hne hne2 hlt2 HLI HNEW
    go_wp2_with fail
    clear q0 q1 q2 q3 q4 hB1
    go_loopg [7, 29] (ks2.length) (fun g sv z wr => ∃ (i : Nat), z = .int .i64 i ∧ g = ks2.length - i ∧ i ≤ ks2.length ∧ Hid (LoopQ bf w f0 ks2 i sv wr) ∧ w1.heap.size ≤ wr.heap.size)
    case atStart => exact ⟨0, rfl, rfl, Nat.zero_le _, Lib.hid ⟨[], [], by simpa [Dx.allQ] using LI0.out, rfl, fun l hl => by simpa [Dx.allQ] using hl⟩, hws⟩
    case round =>
      obtain ⟨i, rfl, hq, hi, LQ, hws⟩ := hrel
      have HQ := Lib.hid hq
      clear hq
      rcases Nat.lt_or_ge i ks2.length with hlt | hge
      · obtain ⟨y, hy⟩ : ∃ y, ks2[i]? = some y := ⟨ks2[i], by simp [hlt]⟩
        obtain ⟨qs, css, hli, hql, hqe⟩ := LQ.out
        obtain ⟨sa, sn, sc, hsv⟩ := hli.shape
        subst hsv
        have hjr : JAt wr ok' (.mk k2 is2 t2 ns2 ks2) [.int .i64 k2, .bool is2, .string ⟨t2.toArray⟩, .slice b ns2.length nb, .slice b' ks2.length kb] := by
          refine JAt.kept hws (fun g hg hl => ⟨?_, hg⟩) _ _ J1.out
          have hg' := HOK.out g hg
          rw [hli.mv.block g hg'.2 (by simpa using hg'.1), HB1.out.block g hg'.2]
        obtain ⟨g, o, cap, hv, _, hgl, kb0, kb1, kb2, kb3, hkj, b0, b1, b2, b3, b4⟩ := hjr.kid' hy
        injection hv with ha _ hc
        subst ha hc
        have KJ := Lib.hid hkj; have HY := Lib.hid hy; have HLI2 := Lib.hid hli; have HQL := Lib.hid hql; have HQE := Lib.hid hqe
        clear hkj hy hli hql hqe hjr LQ
        go_wp2_with fail
        refine (HN.out K' y [.int .i64 y.kind, .bool y.is, .string ⟨y.text.toArray⟩, .slice kb0 y.names.length kb1, .slice kb2 y.kids.length kb3] _ HKM.out (by rw [HKK.out]; exact List.mem_of_getElem? HY.out) (KJ.out.all.below ((Below.refl wr.heap.size wr).alloc (Nat.le_refl _) (.cells #[.int .i64 y.kind, .bool y.is, .string ⟨y.text.toArray⟩, .slice kb0 y.names.length kb1, .slice kb2 y.kids.length kb3] 48)) |>.all)).mono ?_
        rintro e w5 ⟨q, qcs, rfl, hqa, hqp, hb5⟩
        obtain ⟨Q, hQ⟩ : ∃ Q, Q = q := ⟨_, rfl⟩
        obtain ⟨xk, xt, A, B, C⟩ := q
        obtain ⟨s1, s2, s3, rfl, r1, r2, r3⟩ := hqa.rows
        obtain ⟨xa1, xc1, rfl⟩ := r1.shape
        obtain ⟨xa2, xc2, rfl⟩ := r2.shape
        obtain ⟨xa3, xc3, rfl⟩ := r3.shape
        rw [← hQ] at hqa hqp
        -- what holds behind the call, and behind the box of the query
        obtain ⟨oy, hoy⟩ : ∃ oy, oy = (Dx.nodeQ y).isSome := ⟨_, rfl⟩
        have HQP := Lib.hid hqp; have HOY := Lib.hid hoy
        rw [← hoy]
        have L5 := Lib.hid ((HLI2.out.below ((Below.refl wr.heap.size wr).alloc (Nat.le_refl _) (.cells #[.int .i64 y.kind, .bool y.is, .string ⟨y.text.toArray⟩, .slice kb0 y.names.length kb1, .slice kb2 y.kids.length kb3] 48))).below hb5)
        have hs5 := hb5.size
        have hs5' : wr.heap.size < w5.heap.size := by simp at hs5; omega
        have QA5 := Lib.hid (QyAt.kept (w' := w5) (ok' := fun g => wr.heap.size ≤ g) (Nat.le_refl _) (fun g hg _ => ⟨rfl, by simp at hg; omega⟩) _ _ hqa)
        have hlt5 : bf < w5.heap.size := heap_lt L5.out.box
        have hne5 : bf ≠ w5.heap.size := by omega
        have hne5' : w5.heap.size ≠ bf := by omega
        obtain ⟨fo, hfo⟩ : ∃ fo, fo = (f0 && (Dx.allQ Dx.nodeQ (ks2.take i)).isSome) := ⟨_, rfl⟩
        have HFO := Lib.hid hfo
        rw [← hfo] at L5
        have d0 : w5.cell? ⟨bf, 0, none⟩ = some (.bool fo) := by have := L5.out.box; simp [World.cell?, this]
        have df : w5.frozen? ⟨bf, 0, none⟩ = false := by have := L5.out.box; simp [World.frozen?, this]
        clear hqa hqp hoy hb5 hs5 r1 r2 r3 hfo b0 b1 b2 b3 b4 hQ
        go_upto_region 10 with fail
        obtain ⟨B5, hB5⟩ : ∃ B5, B5 = w5.heap.size := ⟨_, rfl⟩
        go_cut [] (fun wc => Hid (LI bf w (fo && oy) qs (.slice sa sn sc) css wc) ∧ Hid (wc.heap[B5]? = some (.cells #[.int .i64 xk, .string ⟨xt.toArray⟩, .slice xa1 A.length xc1, .slice xa2 B.length xc2, .slice xa3 C.length xc3] 26 (0, 0))) ∧ Hid (QyAt wc (fun g => wr.heap.size ≤ g) Q [.int .i64 xk, .string ⟨xt.toArray⟩, .slice xa1 A.length xc1, .slice xa2 B.length xc2, .slice xa3 C.length xc3]) ∧ w5.heap.size ≤ wc.heap.size)
        case first =>
          have PUT := Lib.hid (fun f => (L5.out.put f).below ((Below.refl _ _).alloc (Nat.le_refl _) (.cells #[.int .i64 xk, .string ⟨xt.toArray⟩, .slice xa1 A.length xc1, .slice xa2 B.length xc2, .slice xa3 C.length xc3] 26)))
          have NEW2 := Lib.hid (show ∀ f : Bool, ((w5.setCell ⟨bf, 0, none⟩ (.bool f)).alloc (.cells #[.int .i64 xk, .string ⟨xt.toArray⟩, .slice xa1 A.length xc1, .slice xa2 B.length xc2, .slice xa3 C.length xc3] 26)).heap[B5]? = some (.cells #[.int .i64 xk, .string ⟨xt.toArray⟩, .slice xa1 A.length xc1, .slice xa2 B.length xc2, .slice xa3 C.length xc3] 26 (0, 0)) from fun f => by
            have := heap_alloc_new (w5.setCell ⟨bf, 0, none⟩ (.bool f)) (.cells #[.int .i64 xk, .string ⟨xt.toArray⟩, .slice xa1 A.length xc1, .slice xa2 B.length xc2, .slice xa3 C.length xc3] 26)
            simpa [hB5, World.setCell] using this)
          have hltw := HLI2.out.lt
          have hszw := HLI2.out.mv.size
          have QA6 := Lib.hid (show ∀ f : Bool, QyAt ((w5.setCell ⟨bf, 0, none⟩ (.bool f)).alloc (.cells #[.int .i64 xk, .string ⟨xt.toArray⟩, .slice xa1 A.length xc1, .slice xa2 B.length xc2, .slice xa3 C.length xc3] 26)) (fun g => wr.heap.size ≤ g) Q [.int .i64 xk, .string ⟨xt.toArray⟩, .slice xa1 A.length xc1, .slice xa2 B.length xc2, .slice xa3 C.length xc3] from fun f => by
            refine QyAt.kept (by simp [World.setCell]) (fun g hg hl => ⟨?_, hg⟩) _ _ QA5.out
            rw [Below.heap_alloc _ _ _ (by simpa [World.setCell] using hl), Below.heap_setCell _ _ _ _ (by show g ≠ bf; omega)])
          clear hB5 hltw hszw
          cases fo with
          | false =>
            go_wp2_with fail
            go_meet
            case rel => exact ⟨Lib.hid (PUT.out _), Lib.hid (NEW2.out _), Lib.hid (QA6.out _), by simp [World.setCell]⟩
          | true =>
            go_wp2_with fail
            go_meet
            case rel => exact ⟨by rw [Bool.true_and]; exact Lib.hid (PUT.out _), Lib.hid (NEW2.out _), Lib.hid (QA6.out _), by simp [World.setCell]⟩
        case rest =>
        obtain ⟨L6, BX6, QA6, hs6⟩ := hcut
        clear d0 df hne5 hne5' L5 QA5
        obtain ⟨q0, q1, q2, q3, q4, _⟩ := cells5 BX6.out
        rw [hB5] at q0 q1 q2 q3 q4
        obtain ⟨i0, hi0, hz0, hz1, hz2⟩ := info_parts infoQ
        have OWN := Lib.hid (L6.out.own.alloc (.cells #[.int .i64 xk, .string ⟨xt.toArray⟩, .slice xa1 A.length xc1, .slice xa2 B.length xc2, .slice xa3 C.length xc3] 26))
        have JO := Lib.hid QA6.out.one
        have NEWS := Lib.hid (World.news_of_block (cs := #[.int .i64 xk, .string ⟨xt.toArray⟩, .slice xa1 A.length xc1, .slice xa2 B.length xc2, .slice xa3 C.length xc3]) (t := 26) (fr := (0, 0)) (heap_alloc_new wc (.cells #[.int .i64 xk, .string ⟨xt.toArray⟩, .slice xa1 A.length xc1, .slice xa2 B.length xc2, .slice xa3 C.length xc3] 26)))
        have SZ3 := Lib.hid (show w.heap.size ≤ (wc.alloc (.cells #[.int .i64 xk, .string ⟨xt.toArray⟩, .slice xa1 A.length xc1, .slice xa2 B.length xc2, .slice xa3 C.length xc3] 26)).heap.size by have := L6.out.mv.size; simp; omega)
        have hql := HQL.out
        clear hB5
        go_wp2_with (at_builtin; refine wpList_append_lies _ rfl _ _ 24 rfl (w.heap.size) 26 i0 _ 5 96 Tryz.underlying24 hi0 hz0 hz1 hz2 rfl (by decide) (.slice sa sn sc) qs.length css.flatten rfl OWN.out ⟨wc.heap.size, 0, none⟩ 1 1 [.int .i64 xk, .string ⟨xt.toArray⟩, .slice xa1 A.length xc1, .slice xa2 B.length xc2, .slice xa3 C.length xc3] rfl rfl NEWS.out JO.out (by decide) (by unfold maxLen; omega) (by omega) SZ3.out (wc.heap.size + 1) (by simp) ?_; intro gg cap w7 hown7 hgrow7 hat7 hlt7)
        have LQ := Lib.hid (show LoopQ bf w f0 ks2 (i + 1) (.slice (some ⟨gg, 0, none⟩) (i + 1) cap) w7 from by
          have L7 := (L6.out.below ((Below.refl wc.heap.size wc).alloc (Nat.le_refl _) (.cells #[.int .i64 xk, .string ⟨xt.toArray⟩, .slice xa1 A.length xc1, .slice xa2 B.length xc2, .slice xa3 C.length xc3] 26))).add (q := Q) (c := [.int .i64 xk, .string ⟨xt.toArray⟩, .slice xa1 A.length xc1, .slice xa2 B.length xc2, .slice xa3 C.length xc3]) (B := wr.heap.size) HLI2.out.mv.size (by
            refine QyAt.kept (by simp) (fun g hg hl => ⟨Below.heap_alloc _ _ _ hl, hg, fun e => ?_⟩) _ _ QA6.out
            have := HLI2.out.own.lt g e.symm
            omega) hown7 hgrow7 (by simpa using hat7)
          have hsn := allQ_snoc Dx.nodeQ y (ks2.take i)
          have htk : ks2.take (i + 1) = ks2.take i ++ [y] := by rw [List.take_add_one, HY.out]; rfl
          rw [← htk] at hsn
          rw [hql] at L7
          refine ⟨qs ++ [Q], css ++ [[.int .i64 xk, .string ⟨xt.toArray⟩, .slice xa1 A.length xc1, .slice xa2 B.length xc2, .slice xa3 C.length xc3]], ?_, by rw [List.length_append, hql]; rfl, ?_⟩
          · have e : (f0 && (Dx.allQ Dx.nodeQ (ks2.take (i + 1))).isSome) = (fo && oy) := by
              rw [HFO.out, HOY.out, hsn]
              cases Dx.allQ Dx.nodeQ (ks2.take i) <;> cases Dx.nodeQ y <;> simp
            rw [e]
            exact L7
          · intro l hl
            rw [hsn] at hl
            cases h1 : Dx.allQ Dx.nodeQ (ks2.take i) with
            | none => rw [h1] at hl; cases hl
            | some r =>
              cases h2 : Dx.nodeQ y with
              | none => rw [h1, h2] at hl; cases hl
              | some z =>
                rw [h1, h2] at hl
                injection hl with hl
                rw [← hl, HQE.out r h1, HQP.out z h2])
        have hs7 := hgrow7.size
        have hs7' : w1.heap.size ≤ w7.heap.size := by simp at hs7; omega
        clear hown7 hgrow7 hat7 hlt7 q0 q1 q2 q3 q4 OWN JO NEWS SZ3 hi0 hz0 hz1 hz2 hql hs7
        go_wp2_with fail
        go_roundg (ks2.length - (i + 1))
        case measure => have := HQ.out; omega
        case rel => exact ⟨i + 1, by go_num, rfl, by omega, LQ, hs7'⟩
      · have hik : i = ks2.length := by omega
        subst hik
        obtain ⟨qs, css, hli, hql, hqe⟩ := LQ.out
        rw [List.take_length] at hli hqe
        have HLI2 := Lib.hid hli; have HQE := Lib.hid hqe
        clear hli hqe hql LQ
        go_wp2
        go_ret
        have e : (old && (Dx.listQ Dx.nodeQ V n).isSome) = (f0 && (Dx.allQ Dx.nodeQ ks2).isSome) := by
          rw [NU2.out, HF0.out]
          by_cases h5 : k2 = 5
          · rw [if_pos h5, decide_eq_true h5, Bool.and_true]
          · rw [if_neg h5, decide_eq_false h5]; simp
        refine ⟨qs, _, css, rfl, ?_, ?_⟩
        · rw [e]; exact HLI2.out
        · intro l hl
          rw [NU2.out] at hl
          by_cases h5 : k2 = 5
          · rw [if_pos h5] at hl; exact HQE.out l hl
          · rw [if_neg h5] at hl; cases hl
end Go.Proofs.YtejlddimokmgjaaGreatDoor
namespace Go.Proofs.YtejlddimokmgjaaGreatDoor
open Go.RowKit

theorem listsQ_some (v : Cx.J) : (Dx.listsQ Dx.nodeQ v).isSome = (((Dx.listQ Dx.nodeQ v Dx.tMust).isSome && (Dx.listQ Dx.nodeQ v Dx.tShould).isSome) && (Dx.listQ Dx.nodeQ v Dx.tNot).isSome) := by
  unfold Dx.listsQ
  cases Dx.listQ Dx.nodeQ v Dx.tMust <;> cases Dx.listQ Dx.nodeQ v Dx.tShould <;> cases Dx.listQ Dx.nodeQ v Dx.tNot <;> rfl
theorem listsQ_eq {v : Cx.J} {a b c : List Dx.Qy} (ha : ∀ l, Dx.listQ Dx.nodeQ v Dx.tMust = some l → a = l) (hb : ∀ l, Dx.listQ Dx.nodeQ v Dx.tShould = some l → b = l) (hc : ∀ l, Dx.listQ Dx.nodeQ v Dx.tNot = some l → c = l) :
    ∀ p, Dx.listsQ Dx.nodeQ v = some p → Dx.Qy.mk 5 [] a b c = p := by
  intro p hp
  unfold Dx.listsQ at hp
  cases h1 : Dx.listQ Dx.nodeQ v Dx.tMust with
  | none => rw [h1] at hp; cases hp
  | some x =>
    cases h2 : Dx.listQ Dx.nodeQ v Dx.tShould with
    | none => rw [h1, h2] at hp; cases hp
    | some y =>
      cases h3 : Dx.listQ Dx.nodeQ v Dx.tNot with
      | none => rw [h1, h2, h3] at hp; cases hp
      | some z =>
        rw [h1, h2, h3] at hp
        injection hp with hp
        rw [← hp, ha x h1, hb y h2, hc z h3]
theorem QRow.mv {bf B : Nat} {w w' : World} {v : Value} {qs : List Dx.Qy} (h : QRow w (fun g => B ≤ g) v qs) (k : Mv bf w w') (hb : bf < B) : QRow w' (fun g => B ≤ g) v qs :=
  h.kept k.size fun g hg hl => ⟨k.block g hl (by simp; omega), hg⟩
theorem QRow.le {B C : Nat} {w : World} {v : Value} {qs : List Dx.Qy} (h : QRow w (fun g => C ≤ g) v qs) (hBC : B ≤ C) : QRow w (fun g => B ≤ g) v qs :=
  h.kept (Nat.le_refl _) fun _ hg _ => ⟨rfl, Nat.le_trans hBC hg⟩

set_option maxRecDepth 100000 in
set_option maxHeartbeats 4000000 in
theorem lists_calls (v : Cx.J) (cs : List Value) (w : World) (ok : Nat → Prop) (hj : JAt w ok v cs) (hf : fit 100000 v)
    (hnode : ∀ (k x : Cx.J) (cs : List Value) (wr : World), k ∈ v.kids → x ∈ k.kids → JAt wr (fun g => g < wr.heap.size) x cs → Calls Tryz.prog 34 #[.agg cs.toArray] wr (NodePost (Dx.nodeQ x) wr)) :
    Calls Tryz.prog 72 #[.agg cs.toArray] w (NodePost (Dx.listsQ Dx.nodeQ v) w) := by
  obtain ⟨V, hV⟩ : ∃ V, V = v := ⟨_, rfl⟩
  have HN := Lib.hid hnode
  clear hnode
  replace hj := hj.all
  cases v with
  | mk k is t ns ks =>
  obtain ⟨a, nc, a', kc, rfl⟩ := hj.shape
  rw [← hV] at hj hf HN ⊢
  clear hV
  have F := Lib.hid hf
  obtain ⟨s1, hs1⟩ : ∃ s, s = (Dx.listQ Dx.nodeQ V Dx.tMust).isSome := ⟨_, rfl⟩
  obtain ⟨s2, hs2⟩ : ∃ s, s = (Dx.listQ Dx.nodeQ V Dx.tShould).isSome := ⟨_, rfl⟩
  obtain ⟨s3, hs3⟩ : ∃ s, s = (Dx.listQ Dx.nodeQ V Dx.tNot).isSome := ⟨_, rfl⟩
  have HS := Lib.hid (And.intro hs1 (And.intro hs2 hs3))
  have hsome := listsQ_some V
  rw [← hs1, ← hs2, ← hs3] at hsome
  have HSO := Lib.hid hsome
  clear hs1 hs2 hs3 hsome hf
  -- the three blocks
  obtain ⟨W, hW⟩ : ∃ W, W = ((w.alloc (.cells #[.int .i64 k, .bool is, .string ⟨t.toArray⟩, .slice a ns.length nc, .slice a' ks.length kc] 48)).alloc (.cells #[.int .i64 0, .string ⟨#[]⟩, .slice none 0 0, .slice none 0 0, .slice none 0 0] 26)).alloc (.cells #[.bool true] 4) := ⟨_, rfl⟩
  have HB0 := Lib.hid (show Below w.heap.size w W by rw [hW]; exact (((Below.refl w.heap.size w).alloc (Nat.le_refl _) _).alloc (by simp) _).alloc (by simp; omega) _)
  have BV := Lib.hid (show W.heap[w.heap.size]? = some (.cells #[.int .i64 k, .bool is, .string ⟨t.toArray⟩, .slice a ns.length nc, .slice a' ks.length kc] 48 (0, 0)) by
    rw [hW, Below.heap_alloc _ _ _ (by simp; omega), Below.heap_alloc _ _ _ (by simp)]; exact heap_alloc_new w _)
  have BR := Lib.hid (show W.heap[w.heap.size + 1]? = some (.cells #[.int .i64 0, .string ⟨#[]⟩, .slice none 0 0, .slice none 0 0, .slice none 0 0] 26 (0, 0)) by
    rw [hW, Below.heap_alloc _ _ _ (by simp)]
    have := heap_alloc_new (w.alloc (.cells #[.int .i64 k, .bool is, .string ⟨t.toArray⟩, .slice a ns.length nc, .slice a' ks.length kc] 48)) (.cells #[.int .i64 0, .string ⟨#[]⟩, .slice none 0 0, .slice none 0 0, .slice none 0 0] 26)
    simpa using this)
  have BF := Lib.hid (show W.heap[w.heap.size + 1 + 1]? = some (.cells #[.bool true] 4 (0, 0)) by
    rw [hW]
    have := heap_alloc_new ((w.alloc (.cells #[.int .i64 k, .bool is, .string ⟨t.toArray⟩, .slice a ns.length nc, .slice a' ks.length kc] 48)).alloc (.cells #[.int .i64 0, .string ⟨#[]⟩, .slice none 0 0, .slice none 0 0, .slice none 0 0] 26)) (.cells #[.bool true] 4)
    simpa using this)
  have hWs : W.heap.size = w.heap.size + 3 := by rw [hW]; simp
  have J := Lib.hid (hj.below HB0.out)
  have HW := Lib.hid hW
  clear hj hW
  go_enter Tryz.func72, Tryz.ntmps72
  have hWs2 : w.heap.size + 3 ≤ W.heap.size := by omega
  go_wp2_with fail
  rw [← HW.out]
  refine (show Calls Tryz.prog 113 #[.string ⟨#[109, 117, 115, 116]⟩, .pointer (some ⟨w.heap.size, 0, none⟩), .pointer (some ⟨w.heap.size + 1 + 1, 0, none⟩)] _ _ from list_calls V [.int .i64 k, .bool is, .string ⟨t.toArray⟩, .slice a ns.length nc, .slice a' ks.length kc] Dx.tMust true w.heap.size (w.heap.size + 1 + 1) W (fun g => g < w.heap.size) (fun g h => by omega) BV.out BF.out J.out F.out HN.out).mono ?_
  rintro e x1 ⟨qs1, sv1, css1, rfl, hli1, hq1⟩
  have HR1 := Lib.hid hli1.row
  obtain ⟨sa1, sc1, rfl⟩ := HR1.out.shape
  have HQ1 := Lib.hid hq1
  have MV1 := Lib.hid hli1.mv
  have hz1 := hli1.mv.size
  have BV1 := Lib.hid (hli1.mv.heap BV.out (by omega))
  have BR1 := Lib.hid (hli1.mv.heap BR.out (by omega))
  have BF1 := Lib.hid hli1.box
  have J1 := Lib.hid (JAt.kept hli1.mv.size (fun g hg hl => ⟨hli1.mv.block g hl (by simp; omega), hg⟩) _ _ J.out)
  have HB1 := Lib.hid (Mv.to_below HB0.out hli1.mv (by omega) (by omega))
  clear hq1 hli1
  go_wp2_with fail

  refine (show Calls Tryz.prog 113 #[.string ⟨#[115, 104, 111, 117, 108, 100]⟩, .pointer (some ⟨w.heap.size, 0, none⟩), .pointer (some ⟨w.heap.size + 1 + 1, 0, none⟩)] _ _ from list_calls V [.int .i64 k, .bool is, .string ⟨t.toArray⟩, .slice a ns.length nc, .slice a' ks.length kc] Dx.tShould _ w.heap.size (w.heap.size + 1 + 1) x1 (fun g => g < w.heap.size) (fun g h => by omega) BV1.out BF1.out J1.out F.out HN.out).mono ?_
  rintro e x2 ⟨qs2, sv2, css2, rfl, hli2, hq2⟩
  have HR2 := Lib.hid hli2.row
  obtain ⟨sa2, sc2, rfl⟩ := HR2.out.shape
  have HQ2 := Lib.hid hq2
  have MV2 := Lib.hid hli2.mv
  have hz2 := hli2.mv.size
  have BV2 := Lib.hid (hli2.mv.heap BV1.out (by omega))
  have BR2 := Lib.hid (hli2.mv.heap BR1.out (by omega))
  have BF2 := Lib.hid hli2.box
  have J2 := Lib.hid (JAt.kept hli2.mv.size (fun g hg hl => ⟨hli2.mv.block g hl (by simp; omega), hg⟩) _ _ J1.out)
  have HB2 := Lib.hid (Mv.to_below HB1.out hli2.mv (by omega) (by omega))
  clear hq2 hli2
  go_wp2_with fail

  refine (show Calls Tryz.prog 113 #[.string ⟨#[109, 117, 115, 116, 95, 110, 111, 116]⟩, .pointer (some ⟨w.heap.size, 0, none⟩), .pointer (some ⟨w.heap.size + 1 + 1, 0, none⟩)] _ _ from list_calls V [.int .i64 k, .bool is, .string ⟨t.toArray⟩, .slice a ns.length nc, .slice a' ks.length kc] Dx.tNot _ w.heap.size (w.heap.size + 1 + 1) x2 (fun g => g < w.heap.size) (fun g h => by omega) BV2.out BF2.out J2.out F.out HN.out).mono ?_
  rintro e x3 ⟨qs3, sv3, css3, rfl, hli3, hq3⟩
  have HR3 := Lib.hid hli3.row
  obtain ⟨sa3, sc3, rfl⟩ := HR3.out.shape
  have HQ3 := Lib.hid hq3
  have MV3 := Lib.hid hli3.mv
  have hz3 := hli3.mv.size
  have BV3 := Lib.hid (hli3.mv.heap BV2.out (by omega))
  have BR3 := Lib.hid (hli3.mv.heap BR2.out (by omega))
  have BF3 := Lib.hid hli3.box
  have J3 := Lib.hid (JAt.kept hli3.mv.size (fun g hg hl => ⟨hli3.mv.block g hl (by simp; omega), hg⟩) _ _ J2.out)
  have HB3 := Lib.hid (Mv.to_below HB2.out hli3.mv (by omega) (by omega))
  clear hq3 hli3
  -- the rows behind the last call
  have Q1 := Lib.hid ((HR1.out.mv MV2.out (by omega)).mv MV3.out (by omega))
  have Q2 := Lib.hid (HR2.out.mv MV3.out (by omega))
  have Q3 := HR3
  rw [← HS.out.1] at BF3
  rw [← HS.out.2.1, ← HS.out.2.2, Bool.true_and] at BF3
  have QE := Lib.hid (listsQ_eq (v := V) HQ1.out HQ2.out HQ3.out)
  obtain ⟨f, hf⟩ : ∃ f, f = ((s1 && s2) && s3) := ⟨_, rfl⟩
  have HSO2 := Lib.hid (HSO.out.trans hf.symm)
  rw [← hf] at BF3
  clear hf
  obtain ⟨p0, p1, p2, p3, p4, pf⟩ := cells5 BR3.out
  have pf0 := pf 0; have pf1 := pf 1; have pf2 := pf 2; have pf3 := pf 3; have pf4 := pf 4
  have c0 : x3.cell? ⟨w.heap.size + 1 + 1, 0, none⟩ = some (.bool f) := by have := BF3.out; simp [World.cell?, this]
  have l1 : w.heap.size + 1 + 1 < x3.heap.size := by omega
  have l2 : w.heap.size + 1 + 1 ≠ x3.heap.size := by omega
  have l3 : w.heap.size + 1 < x3.heap.size := by omega
  have l4 : w.heap.size + 1 ≠ x3.heap.size := by omega
  clear pf HW hWs
  have FIN := Lib.hid (show NodePost (Dx.listsQ Dx.nodeQ V) w (.returned (.tuple #[.agg #[.int .i64 5, .string ⟨#[]⟩, .slice sa1 qs1.length sc1, .slice sa2 qs2.length sc2, .slice sa3 qs3.length sc3], .bool f])) (((put5 x3 (w.heap.size + 1) (.int .i64 5) (.string ⟨#[]⟩) (.slice sa1 qs1.length sc1) (.slice sa2 qs2.length sc2) (.slice sa3 qs3.length sc3)).alloc (.cells #[.int .i64 5, .string ⟨#[]⟩, .slice sa1 qs1.length sc1, .slice sa2 qs2.length sc2, .slice sa3 qs3.length sc3] 26)).drew) from by
    have keep : ∀ g, W.heap.size ≤ g → g < x3.heap.size → (((put5 x3 (w.heap.size + 1) (.int .i64 5) (.string ⟨#[]⟩) (.slice sa1 qs1.length sc1) (.slice sa2 qs2.length sc2) (.slice sa3 qs3.length sc3)).alloc (.cells #[.int .i64 5, .string ⟨#[]⟩, .slice sa1 qs1.length sc1, .slice sa2 qs2.length sc2, .slice sa3 qs3.length sc3] 26)).drew).heap[g]? = x3.heap[g]? := by
      intro g hg hl
      show ((put5 x3 (w.heap.size + 1) (.int .i64 5) (.string ⟨#[]⟩) (.slice sa1 qs1.length sc1) (.slice sa2 qs2.length sc2) (.slice sa3 qs3.length sc3)).alloc (.cells #[.int .i64 5, .string ⟨#[]⟩, .slice sa1 qs1.length sc1, .slice sa2 qs2.length sc2, .slice sa3 qs3.length sc3] 26)).heap[g]? = _
      rw [Below.heap_alloc _ _ _ (by rw [put5_size]; exact hl), put5_other (by omega)]
    have hs : x3.heap.size ≤ (((put5 x3 (w.heap.size + 1) (.int .i64 5) (.string ⟨#[]⟩) (.slice sa1 qs1.length sc1) (.slice sa2 qs2.length sc2) (.slice sa3 qs3.length sc3)).alloc (.cells #[.int .i64 5, .string ⟨#[]⟩, .slice sa1 qs1.length sc1, .slice sa2 qs2.length sc2, .slice sa3 qs3.length sc3] 26)).drew).heap.size := by
      show _ ≤ ((put5 x3 (w.heap.size + 1) (.int .i64 5) (.string ⟨#[]⟩) (.slice sa1 qs1.length sc1) (.slice sa2 qs2.length sc2) (.slice sa3 qs3.length sc3)).alloc (.cells #[.int .i64 5, .string ⟨#[]⟩, .slice sa1 qs1.length sc1, .slice sa2 qs2.length sc2, .slice sa3 qs3.length sc3] 26)).heap.size
      rw [show ((put5 x3 (w.heap.size + 1) (.int .i64 5) (.string ⟨#[]⟩) (.slice sa1 qs1.length sc1) (.slice sa2 qs2.length sc2) (.slice sa3 qs3.length sc3)).alloc (.cells #[.int .i64 5, .string ⟨#[]⟩, .slice sa1 qs1.length sc1, .slice sa2 qs2.length sc2, .slice sa3 qs3.length sc3] 26)).heap.size = (put5 x3 (w.heap.size + 1) (.int .i64 5) (.string ⟨#[]⟩) (.slice sa1 qs1.length sc1) (.slice sa2 qs2.length sc2) (.slice sa3 qs3.length sc3)).heap.size + 1 by simp, put5_size]; omega
    have k1 : QRow (((put5 x3 (w.heap.size + 1) (.int .i64 5) (.string ⟨#[]⟩) (.slice sa1 qs1.length sc1) (.slice sa2 qs2.length sc2) (.slice sa3 qs3.length sc3)).alloc (.cells #[.int .i64 5, .string ⟨#[]⟩, .slice sa1 qs1.length sc1, .slice sa2 qs2.length sc2, .slice sa3 qs3.length sc3] 26)).drew) (fun g => w.heap.size ≤ g) (.slice sa1 qs1.length sc1) qs1 := Q1.out.kept hs fun g hg hl => ⟨keep g hg hl, by omega⟩
    have k2 : QRow (((put5 x3 (w.heap.size + 1) (.int .i64 5) (.string ⟨#[]⟩) (.slice sa1 qs1.length sc1) (.slice sa2 qs2.length sc2) (.slice sa3 qs3.length sc3)).alloc (.cells #[.int .i64 5, .string ⟨#[]⟩, .slice sa1 qs1.length sc1, .slice sa2 qs2.length sc2, .slice sa3 qs3.length sc3] 26)).drew) (fun g => w.heap.size ≤ g) (.slice sa2 qs2.length sc2) qs2 := Q2.out.kept hs fun g hg hl => ⟨keep g (by omega) hl, by omega⟩
    have k3 : QRow (((put5 x3 (w.heap.size + 1) (.int .i64 5) (.string ⟨#[]⟩) (.slice sa1 qs1.length sc1) (.slice sa2 qs2.length sc2) (.slice sa3 qs3.length sc3)).alloc (.cells #[.int .i64 5, .string ⟨#[]⟩, .slice sa1 qs1.length sc1, .slice sa2 qs2.length sc2, .slice sa3 qs3.length sc3] 26)).drew) (fun g => w.heap.size ≤ g) (.slice sa3 qs3.length sc3) qs3 := Q3.out.kept hs fun g hg hl => ⟨keep g (by omega) hl, by omega⟩
    have hB : w.heap.size ≤ w.heap.size + 1 := Nat.le_succ _
    have hP : Below w.heap.size w (put5 x3 (w.heap.size + 1) (.int .i64 5) (.string ⟨#[]⟩) (.slice sa1 qs1.length sc1) (.slice sa2 qs2.length sc2) (.slice sa3 qs3.length sc3)) := ((((HB3.out.setCell (p := ⟨w.heap.size + 1, 0, none⟩) hB _).setCell (p := ⟨w.heap.size + 1, 1, none⟩) hB _).setCell (p := ⟨w.heap.size + 1, 2, none⟩) hB _).setCell (p := ⟨w.heap.size + 1, 3, none⟩) hB _).setCell (p := ⟨w.heap.size + 1, 4, none⟩) hB _
    exact ⟨.mk 5 [] qs1 qs2 qs3, _, by rw [HSO2.out], QyAt.of_rows k1 k2 k3, QE.out, (hP.alloc hP.size _).drew⟩)
  have Z := Lib.hid (show (((put5 x3 (w.heap.size + 1) (.int .i64 5) (.string ⟨#[]⟩) (.slice sa1 qs1.length sc1) (.slice sa2 qs2.length sc2) (.slice sa3 qs3.length sc3)).alloc (.cells #[.int .i64 5, .string ⟨#[]⟩, .slice sa1 qs1.length sc1, .slice sa2 qs2.length sc2, .slice sa3 qs3.length sc3] 26)).drew).heap[w.heap.size + 1]? = some (.cells #[.int .i64 5, .string ⟨#[]⟩, .slice sa1 qs1.length sc1, .slice sa2 qs2.length sc2, .slice sa3 qs3.length sc3] 26 (0, 0)) from by
    show ((put5 x3 (w.heap.size + 1) (.int .i64 5) (.string ⟨#[]⟩) (.slice sa1 qs1.length sc1) (.slice sa2 qs2.length sc2) (.slice sa3 qs3.length sc3)).alloc (.cells #[.int .i64 5, .string ⟨#[]⟩, .slice sa1 qs1.length sc1, .slice sa2 qs2.length sc2, .slice sa3 qs3.length sc3] 26)).heap[w.heap.size + 1]? = _
    rw [Below.heap_alloc _ _ _ (by rw [put5_size]; omega)]
    exact put5_heap BR3.out)
  go_wp2_with fail
  go_region
  clear p0 p1 p2 p3 p4 c0
  obtain ⟨z0, z1, z2, z3, z4, _⟩ := cells5 Z.out
  go_wp2_with fail
  exact bodyPost_ret (v := .tuple #[.agg #[.int .i64 5, .string ⟨#[]⟩, .slice sa1 qs1.length sc1, .slice sa2 qs2.length sc2, .slice sa3 qs3.length sc3], .bool f]) (by simp [results, Tryz.results72, go_sem, z0, z1, z2, z3, z4]) rfl FIN.out
end Go.Proofs.YtejlddimokmgjaaGreatDoor
namespace Go.Proofs.YtejlddimokmgjaaGreatDoor
open Go.RowKit

set_option maxRecDepth 100000 in
theorem nodeText_calls (b : Nat) (x k : Int) (is : Bool) (t : List UInt8) (sn sk : Value) (w : World) (hb : w.heap[b]? = some (.cells #[.int .i64 k, .bool is, .string ⟨t.toArray⟩, sn, sk] 48 (0, 0))) :
    Calls Tryz.prog 71 #[.int .i64 x, .pointer (some ⟨b, 0, none⟩)] w fun e w' => e = .returned (.tuple #[.agg #[.int .i64 x, .string ⟨t.toArray⟩, .slice none 0 0, .slice none 0 0, .slice none 0 0], .bool (k == 4)]) ∧ Below w.heap.size w w' := by
  obtain ⟨q0, _, q2, _, _, _⟩ := cells5 hb
  have hlt := heap_lt hb
  have hne : b ≠ w.heap.size := by omega
  clear hb
  go_enter Tryz.func71, Tryz.ntmps71
  go_wp2_with fail
  go_region
  go_wp2_with fail
  exact bodyPost_ret (v := .tuple #[.agg #[.int .i64 x, .string ⟨t.toArray⟩, .slice none 0 0, .slice none 0 0, .slice none 0 0], .bool (k == 4)]) (by simp [results, Tryz.results71, go_sem]) rfl ⟨rfl, (Below.refl w.heap.size w).alloc (Nat.le_refl _) _ |>.drew⟩

/-- At the end of node: what is laid into the result's box. -/
theorem node_fin {r : Option Dx.Qy} {w wX : World} {Q : Dx.Qy} {x0 x1 x2 x3 x4 y0 y1 y2 y3 y4 : Value} (hb : Below w.heap.size w wX) (hr : wX.heap[w.heap.size + 1]? = some (.cells #[x0, x1, x2, x3, x4] 26 (0, 0))) (hq : QyAt wX (fun g => w.heap.size + 2 ≤ g) Q [y0, y1, y2, y3, y4]) (hp : ∀ p, r = some p → Q = p) {f : Bool} (hf : r.isSome = f) :
    NodePost r w (.returned (.tuple #[.agg #[y0, y1, y2, y3, y4], .bool f])) (put5 wX (w.heap.size + 1) y0 y1 y2 y3 y4) ∧ (put5 wX (w.heap.size + 1) y0 y1 y2 y3 y4).heap[w.heap.size + 1]? = some (.cells #[y0, y1, y2, y3, y4] 26 (0, 0)) := by
  have hB : w.heap.size ≤ w.heap.size + 1 := Nat.le_succ _
  refine ⟨⟨Q, _, by rw [hf], QyAt.kept (by rw [put5_size]; exact Nat.le_refl _) (fun g hg hl => ⟨put5_other (by omega), by omega⟩) _ _ hq, hp, ?_⟩, put5_heap hr⟩
  exact ((((hb.setCell (p := ⟨w.heap.size + 1, 0, none⟩) hB _).setCell (p := ⟨w.heap.size + 1, 1, none⟩) hB _).setCell (p := ⟨w.heap.size + 1, 2, none⟩) hB _).setCell (p := ⟨w.heap.size + 1, 3, none⟩) hB _).setCell (p := ⟨w.heap.size + 1, 4, none⟩) hB _

theorem Row.laid {w : World} {g : Nat} {T : TypeId} {l : List (List UInt8)} {xs : Array Value} (h : w.heap[g]? = some (.cells xs T (0, 0))) (hx : xs = (l.map strV).toArray) (hn : 0 < l.length) : Row w (fun b => b < w.heap.size) (.slice (some ⟨g, 0, none⟩) l.length l.length) l.length (l.map strV) :=
  .inr ⟨hn, g, 0, l.length, rfl, Nat.le_refl _, heap_lt h, heap_lt h, fun j u hu => by
    subst hx
    simp only [World.cell?, h, Nat.zero_add]
    simpa using hu⟩
theorem nodeQ_none {v : Cx.J} (h : (Dx.single v).isSome = false) : Dx.nodeQ v = none := by
  rw [Dx.nodeQ_step]
  cases hs : Dx.single v with
  | none => rfl
  | some p => rw [hs] at h; cases h
theorem nodeQ_single {v : Cx.J} (h : (Dx.single v).isSome = true) : Dx.nodeQ v =
      if singleN v = Dx.tAll then (if Dx.only (singleV v) [] = true then some (.mk 1 [] [] [] []) else none)
      else if singleN v = Dx.tTerm then (if (singleV v).kind = 4 then some (.mk 2 (singleV v).text [] [] []) else none)
      else if singleN v = Dx.tPhrase then (if (singleV v).kind = 4 then some (.mk 3 (singleV v).text [] [] []) else none)
      else if singleN v = Dx.tPrefix then (if (singleV v).kind = 4 then some (.mk 4 (singleV v).text [] [] []) else none)
      else if singleN v = Dx.tBool ∧ Dx.only (singleV v) [Dx.tMust, Dx.tShould, Dx.tNot] = true then Dx.listsQ Dx.nodeQ (singleV v)
      else none := by
  rw [Dx.nodeQ_step]
  unfold singleN singleV
  cases hs : Dx.single v with
  | none => rw [hs] at h; cases h
  | some p => rfl
theorem singleV_nodes {v : Cx.J} (h : (Dx.single v).isSome = true) : singleV v ∈ v.kids := by
  unfold singleV
  cases hs : Dx.single v with
  | none => rw [hs] at h; cases h
  | some p => exact Dx.single_kid hs

/-- A value that is right, but for what it is itself. -/
def NR (v : Cx.J) : Prop := (v.kind = 6 → v.names.length = v.kids.length) ∧ ∀ k ∈ v.kids, Dx.Rt k
theorem NR.of {v : Cx.J} (h : Dx.Rt v) : NR v := ⟨h.names, fun _ hk => h.kid hk⟩

set_option maxRecDepth 100000 in
set_option maxHeartbeats 4000000 in
theorem node_step (v : Cx.J) (cs : List Value) (w : World) (ok : Nat → Prop) (hj : JAt w ok v cs) (hf : fit 100000 v) (hr : NR v)
    (hlists : (Dx.single v).isSome = true → ∀ (cs : List Value) (wr : World), JAt wr (fun g => g < wr.heap.size) (singleV v) cs → Calls Tryz.prog 72 #[.agg cs.toArray] wr (NodePost (Dx.listsQ Dx.nodeQ (singleV v)) wr)) :
    Calls Tryz.prog 34 #[.agg cs.toArray] w (NodePost (Dx.nodeQ v) w) := by
  have hfx := single_fit hf
  obtain ⟨V, hV⟩ : ∃ V, V = v := ⟨_, rfl⟩
  replace hj := hj.all
  cases v with
  | mk k is t ns ks =>
  obtain ⟨a, nc, a', kc, rfl⟩ := hj.shape
  rw [← hV] at hj hf hfx hr hlists ⊢
  clear hV hf
  obtain ⟨X, hX⟩ : ∃ X, X = singleV V := ⟨_, rfl⟩
  obtain ⟨nm, hnm⟩ : ∃ nm, nm = singleN V := ⟨_, rfl⟩
  obtain ⟨b1, hb1⟩ : ∃ b1, b1 = (Dx.single V).isSome := ⟨_, rfl⟩
  rw [← hX] at hfx
  rw [← hb1, ← hX] at hlists
  have J := Lib.hid hj; have F := Lib.hid hfx; have HR := Lib.hid hr; have HX := Lib.hid hX; have HNM := Lib.hid hnm; have HB := Lib.hid hb1; have HL := Lib.hid hlists
  clear hfx hr hX hnm hb1 hlists
  obtain ⟨W, hW⟩ : ∃ W, W = (w.alloc (.cells #[.int .i64 k, .bool is, .string ⟨t.toArray⟩, .slice a ns.length nc, .slice a' ks.length kc] 48)).alloc (.cells #[.int .i64 0, .string ⟨#[]⟩, .slice none 0 0, .slice none 0 0, .slice none 0 0] 26) := ⟨_, rfl⟩
  have HB0 := Lib.hid (show Below w.heap.size w W by rw [hW]; exact ((Below.refl w.heap.size w).alloc (Nat.le_refl _) _).alloc (by simp) _)
  have BR := Lib.hid (show W.heap[w.heap.size + 1]? = some (.cells #[.int .i64 0, .string ⟨#[]⟩, .slice none 0 0, .slice none 0 0, .slice none 0 0] 26 (0, 0)) by
    rw [hW]
    have := heap_alloc_new (w.alloc (.cells #[.int .i64 k, .bool is, .string ⟨t.toArray⟩, .slice a ns.length nc, .slice a' ks.length kc] 48)) (.cells #[.int .i64 0, .string ⟨#[]⟩, .slice none 0 0, .slice none 0 0, .slice none 0 0] 26)
    simpa using this)
  have hWs : W.heap.size = w.heap.size + 2 := by rw [hW]; simp
  have HWS := Lib.hid hWs
  have hWs2 : w.heap.size + 2 ≤ W.heap.size := by omega
  have HW := Lib.hid hW
  clear hj hW hWs
  go_enter Tryz.func34, Tryz.ntmps34
  go_wp2_with fail
  rw [← HW.out]
  refine (single_calls V [.int .i64 k, .bool is, .string ⟨t.toArray⟩, .slice a ns.length nc, .slice a' ks.length kc] W _ (J.out.below HB0.out) HR.out.1).mono ?_
  rintro e w1 ⟨cs1, rfl, hj1, hb⟩
  rw [← HX.out] at hj1
  rw [← HNM.out, ← HB.out]
  obtain ⟨X', hX'⟩ : ∃ X', X' = X := ⟨_, rfl⟩
  cases X with
  | mk k2 is2 t2 ns2 ks2 =>
  obtain ⟨a2, nc2, a2', kc2, rfl⟩ := hj1.shape
  rw [← hX'] at hj1 HX F HL
  have HXK := Lib.hid (show X'.kind = k2 by rw [hX']; rfl)
  have HXT := Lib.hid (show X'.text = t2 by rw [hX']; rfl)
  -- behind the box of the value
  obtain ⟨W2, hW2⟩ : ∃ W2, W2 = w1.alloc (.cells #[.int .i64 k2, .bool is2, .string ⟨t2.toArray⟩, .slice a2 ns2.length nc2, .slice a2' ks2.length kc2] 48) := ⟨_, rfl⟩
  have hs1 := hb.size
  have J2 := Lib.hid (show JAt W2 (fun g => g < W2.heap.size) X' [.int .i64 k2, .bool is2, .string ⟨t2.toArray⟩, .slice a2 ns2.length nc2, .slice a2' ks2.length kc2] by
    rw [hW2]; exact (hj1.all.below ((Below.refl w1.heap.size w1).alloc (Nat.le_refl _) (.cells #[.int .i64 k2, .bool is2, .string ⟨t2.toArray⟩, .slice a2 ns2.length nc2, .slice a2' ks2.length kc2] 48))).all)
  have HB2 := Lib.hid (show Below w.heap.size w W2 by
    rw [hW2]
    have := HB0.out.trans (hb.mono (by omega))
    exact this.alloc this.size _)
  have BR2 := Lib.hid (show W2.heap[w.heap.size + 1]? = some (.cells #[.int .i64 0, .string ⟨#[]⟩, .slice none 0 0, .slice none 0 0, .slice none 0 0] 26 (0, 0)) by
    rw [hW2, Below.heap_alloc _ _ _ (by omega), hb.block _ (by omega)]; exact BR.out)
  have BX := Lib.hid (show W2.heap[w1.heap.size]? = some (.cells #[.int .i64 k2, .bool is2, .string ⟨t2.toArray⟩, .slice a2 ns2.length nc2, .slice a2' ks2.length kc2] 48 (0, 0)) by rw [hW2]; exact heap_alloc_new w1 _)
  have hs2 : W2.heap.size = w1.heap.size + 1 := by rw [hW2]; simp
  have hs2' : w1.heap.size < W2.heap.size := by omega
  have hlo : w.heap.size + 2 ≤ w1.heap.size := by omega
  have HW2 := Lib.hid hW2
  clear hj1 hb hX' hW2 hs1 hs2 HW BR HB0 J
  go_upto_region 3 with fail
  rw [← HW2.out]
  obtain ⟨q0, q1, q2, q3, q4, _⟩ := cells5 BX.out
  have b1lt : w.heap.size + 1 < W2.heap.size := by omega
  have b1ne : w.heap.size + 1 ≠ W2.heap.size := by omega
  clear HW2
  cases b1 with
  | false =>
    have NO := Lib.hid (show Dx.nodeQ V = none from nodeQ_none HB.out.symm)
    obtain ⟨p0, p1, p2, p3, p4, pf⟩ := cells5 BR2.out
    have pf0 := pf 0; have pf1 := pf 1; have pf2 := pf 2; have pf3 := pf 3; have pf4 := pf 4
    clear pf
    have FIN := Lib.hid (node_fin (r := Dx.nodeQ V) (Q := .mk 0 [] [] [] []) (f := false) HB2.out BR2.out QyAt.plain (fun q hq => by rw [NO.out] at hq; cases hq) (by rw [NO.out]; rfl))
    go_wp2_with fail
    obtain ⟨fin, zb⟩ := FIN.out
    obtain ⟨z0, z1, z2, z3, z4, _⟩ := cells5 zb
    exact bodyPost_ret (v := .tuple #[.agg #[.int .i64 0, .string ⟨#[]⟩, .slice none 0 0, .slice none 0 0, .slice none 0 0], .bool false]) (by simp [results, Tryz.results34, go_sem, z0, z1, z2, z3, z4]) rfl fin
  | true =>
    have hq := nodeQ_single HB.out.symm
    rw [← HNM.out, ← HX.out, HXK.out, HXT.out] at hq
    by_cases htAll : nm = Dx.tAll
    · rw [if_pos htAll] at hq
      have ctAll : (nm == [109, 97, 116, 99, 104, 95, 97, 108, 108]) = true := beq_iff_eq.2 htAll
      obtain ⟨r, hrr⟩ : ∃ r, r = Dx.only X' [] := ⟨_, rfl⟩
      rw [← hrr] at hq
      have HQ := Lib.hid hq; have HRR := Lib.hid hrr
      clear hq hrr htAll
      go_wp2_with fail
      refine (only_calls X' [.int .i64 k2, .bool is2, .string ⟨t2.toArray⟩, .slice a2 ns2.length nc2, .slice a2' ks2.length kc2] (.slice none 0 0) [] _ _ (fun _ => True) J2.out (fit_le (by unfold maxLen; omega) _ F.out) (.inl ⟨rfl, rfl, none, 0, rfl⟩) (by decide)).mono ?_
      rw [← HRR.out]
      rintro e w3 ⟨rfl, hb⟩
      have HB3 := Lib.hid (HB2.out.trans (hb.mono HB2.out.size))
      have BR3 := Lib.hid ((hb.block _ b1lt).trans BR2.out)
      clear hb q0 q1 q2 q3 q4
      obtain ⟨p0, p1, p2, p3, p4, pf⟩ := cells5 BR3.out
      have pf0 := pf 0; have pf1 := pf 1; have pf2 := pf 2; have pf3 := pf 3; have pf4 := pf 4
      clear pf
      have FIN := Lib.hid (node_fin (r := Dx.nodeQ V) (Q := .mk 1 [] [] [] []) (f := r) HB3.out BR3.out QyAt.plain (fun q hq => by rw [HQ.out] at hq; cases r <;> simp at hq; exact hq) (by rw [HQ.out]; cases r <;> rfl))
      go_wp2_with fail
      obtain ⟨fin, zb⟩ := FIN.out
      obtain ⟨z0, z1, z2, z3, z4, _⟩ := cells5 zb
      exact bodyPost_ret (v := .tuple #[.agg #[.int .i64 1, .string ⟨#[]⟩, .slice none 0 0, .slice none 0 0, .slice none 0 0], .bool r]) (by simp [results, Tryz.results34, go_sem, z0, z1, z2, z3, z4]) rfl fin
    rw [if_neg htAll] at hq
    have ctAll : (nm == [109, 97, 116, 99, 104, 95, 97, 108, 108]) = false := beq_eq_false_iff_ne.2 htAll
    by_cases htTerm : nm = Dx.tTerm
    · rw [if_pos htTerm] at hq
      have ctTerm : (nm == [116, 101, 114, 109]) = true := beq_iff_eq.2 htTerm
      have HQ := Lib.hid hq
      clear hq htTerm htAll 
      go_wp2_with fail
      refine (show Calls Tryz.prog 71 #[.int .i64 2, .pointer (some ⟨w1.heap.size, 0, none⟩)] _ _ from nodeText_calls w1.heap.size 2 k2 is2 t2 _ _ W2 BX.out).mono ?_
      rintro e w3 ⟨rfl, hb⟩
      obtain ⟨r, hrr⟩ : ∃ r, r = (k2 == 4) := ⟨_, rfl⟩
      have HRR := Lib.hid hrr
      rw [← hrr]
      have HB3 := Lib.hid (HB2.out.trans (hb.mono HB2.out.size))
      have BR3 := Lib.hid ((hb.block _ b1lt).trans BR2.out)
      clear hb hrr q0 q1 q2 q3 q4
      obtain ⟨p0, p1, p2, p3, p4, pf⟩ := cells5 BR3.out
      have pf0 := pf 0; have pf1 := pf 1; have pf2 := pf 2; have pf3 := pf 3; have pf4 := pf 4
      clear pf
      have FIN := Lib.hid (node_fin (r := Dx.nodeQ V) (Q := .mk 2 t2 [] [] []) (f := r) HB3.out BR3.out QyAt.plain (fun q hq => by rw [HQ.out] at hq; by_cases h4 : k2 = 4 <;> simp [h4] at hq; exact hq) (by rw [HQ.out, HRR.out]; by_cases h4 : k2 = 4 <;> simp [h4]))
      go_wp2_with fail
      obtain ⟨fin, zb⟩ := FIN.out
      obtain ⟨z0, z1, z2, z3, z4, _⟩ := cells5 zb
      exact bodyPost_ret (v := .tuple #[.agg #[.int .i64 2, .string ⟨t2.toArray⟩, .slice none 0 0, .slice none 0 0, .slice none 0 0], .bool r]) (by simp [results, Tryz.results34, go_sem, z0, z1, z2, z3, z4]) rfl fin
    rw [if_neg htTerm] at hq
    have ctTerm : (nm == [116, 101, 114, 109]) = false := beq_eq_false_iff_ne.2 htTerm
    by_cases htPhrase : nm = Dx.tPhrase
    · rw [if_pos htPhrase] at hq
      have ctPhrase : (nm == [112, 104, 114, 97, 115, 101]) = true := beq_iff_eq.2 htPhrase
      have HQ := Lib.hid hq
      clear hq htPhrase htAll htTerm
      go_wp2_with fail
      refine (show Calls Tryz.prog 71 #[.int .i64 3, .pointer (some ⟨w1.heap.size, 0, none⟩)] _ _ from nodeText_calls w1.heap.size 3 k2 is2 t2 _ _ W2 BX.out).mono ?_
      rintro e w3 ⟨rfl, hb⟩
      obtain ⟨r, hrr⟩ : ∃ r, r = (k2 == 4) := ⟨_, rfl⟩
      have HRR := Lib.hid hrr
      rw [← hrr]
      have HB3 := Lib.hid (HB2.out.trans (hb.mono HB2.out.size))
      have BR3 := Lib.hid ((hb.block _ b1lt).trans BR2.out)
      clear hb hrr q0 q1 q2 q3 q4
      obtain ⟨p0, p1, p2, p3, p4, pf⟩ := cells5 BR3.out
      have pf0 := pf 0; have pf1 := pf 1; have pf2 := pf 2; have pf3 := pf 3; have pf4 := pf 4
      clear pf
      have FIN := Lib.hid (node_fin (r := Dx.nodeQ V) (Q := .mk 3 t2 [] [] []) (f := r) HB3.out BR3.out QyAt.plain (fun q hq => by rw [HQ.out] at hq; by_cases h4 : k2 = 4 <;> simp [h4] at hq; exact hq) (by rw [HQ.out, HRR.out]; by_cases h4 : k2 = 4 <;> simp [h4]))
      go_wp2_with fail
      obtain ⟨fin, zb⟩ := FIN.out
      obtain ⟨z0, z1, z2, z3, z4, _⟩ := cells5 zb
      exact bodyPost_ret (v := .tuple #[.agg #[.int .i64 3, .string ⟨t2.toArray⟩, .slice none 0 0, .slice none 0 0, .slice none 0 0], .bool r]) (by simp [results, Tryz.results34, go_sem, z0, z1, z2, z3, z4]) rfl fin
    rw [if_neg htPhrase] at hq
    have ctPhrase : (nm == [112, 104, 114, 97, 115, 101]) = false := beq_eq_false_iff_ne.2 htPhrase
    by_cases htPrefix : nm = Dx.tPrefix
    · rw [if_pos htPrefix] at hq
      have ctPrefix : (nm == [112, 114, 101, 102, 105, 120]) = true := beq_iff_eq.2 htPrefix
      have HQ := Lib.hid hq
      clear hq htPrefix htAll htTerm htPhrase
      go_wp2_with fail
      refine (show Calls Tryz.prog 71 #[.int .i64 4, .pointer (some ⟨w1.heap.size, 0, none⟩)] _ _ from nodeText_calls w1.heap.size 4 k2 is2 t2 _ _ W2 BX.out).mono ?_
      rintro e w3 ⟨rfl, hb⟩
      obtain ⟨r, hrr⟩ : ∃ r, r = (k2 == 4) := ⟨_, rfl⟩
      have HRR := Lib.hid hrr
      rw [← hrr]
      have HB3 := Lib.hid (HB2.out.trans (hb.mono HB2.out.size))
      have BR3 := Lib.hid ((hb.block _ b1lt).trans BR2.out)
      clear hb hrr q0 q1 q2 q3 q4
      obtain ⟨p0, p1, p2, p3, p4, pf⟩ := cells5 BR3.out
      have pf0 := pf 0; have pf1 := pf 1; have pf2 := pf 2; have pf3 := pf 3; have pf4 := pf 4
      clear pf
      have FIN := Lib.hid (node_fin (r := Dx.nodeQ V) (Q := .mk 4 t2 [] [] []) (f := r) HB3.out BR3.out QyAt.plain (fun q hq => by rw [HQ.out] at hq; by_cases h4 : k2 = 4 <;> simp [h4] at hq; exact hq) (by rw [HQ.out, HRR.out]; by_cases h4 : k2 = 4 <;> simp [h4]))
      go_wp2_with fail
      obtain ⟨fin, zb⟩ := FIN.out
      obtain ⟨z0, z1, z2, z3, z4, _⟩ := cells5 zb
      exact bodyPost_ret (v := .tuple #[.agg #[.int .i64 4, .string ⟨t2.toArray⟩, .slice none 0 0, .slice none 0 0, .slice none 0 0], .bool r]) (by simp [results, Tryz.results34, go_sem, z0, z1, z2, z3, z4]) rfl fin
    rw [if_neg htPrefix] at hq
    have ctPrefix : (nm == [112, 114, 101, 102, 105, 120]) = false := beq_eq_false_iff_ne.2 htPrefix
    by_cases htBool : nm = Dx.tBool
    rotate_left
    · rw [if_neg (fun h => htBool h.1)] at hq
      have ctBool : (nm == [98, 111, 111, 108]) = false := beq_eq_false_iff_ne.2 htBool
      have HQ := Lib.hid hq
      clear hq htBool htAll htTerm htPhrase htPrefix
      have NO := Lib.hid (show Dx.nodeQ V = none from HQ.out)
      obtain ⟨p0, p1, p2, p3, p4, pf⟩ := cells5 BR2.out
      have pf0 := pf 0; have pf1 := pf 1; have pf2 := pf 2; have pf3 := pf 3; have pf4 := pf 4
      clear pf
      have FIN := Lib.hid (node_fin (r := Dx.nodeQ V) (Q := .mk 0 [] [] [] []) (f := false) HB2.out BR2.out QyAt.plain (fun q hq => by rw [NO.out] at hq; cases hq) (by rw [NO.out]; rfl))
      go_wp2_with fail
      obtain ⟨fin, zb⟩ := FIN.out
      obtain ⟨z0, z1, z2, z3, z4, _⟩ := cells5 zb
      exact bodyPost_ret (v := .tuple #[.agg #[.int .i64 0, .string ⟨#[]⟩, .slice none 0 0, .slice none 0 0, .slice none 0 0], .bool false]) (by simp [results, Tryz.results34, go_sem, z0, z1, z2, z3, z4]) rfl fin
    have HQ := Lib.hid hq
    have ctBool : (nm == [98, 111, 111, 108]) = true := beq_iff_eq.2 htBool
    have HBO := Lib.hid htBool
    clear hq htBool htAll htTerm htPhrase htPrefix
    -- the names of a bool
    obtain ⟨W3, hW3⟩ : ∃ W3, W3 = W2.alloc (.cells #[.string ⟨#[109, 117, 115, 116]⟩, .string ⟨#[115, 104, 111, 117, 108, 100]⟩, .string ⟨#[109, 117, 115, 116, 95, 110, 111, 116]⟩] 9) := ⟨_, rfl⟩
    have ROW := Lib.hid (show Row W3 (fun b => b < W3.heap.size) (.slice (some ⟨W2.heap.size, 0, none⟩) 3 3) 3 ([Dx.tMust, Dx.tShould, Dx.tNot].map strV) by
      rw [hW3]
      exact Row.laid (l := [Dx.tMust, Dx.tShould, Dx.tNot]) (heap_alloc_new W2 _) rfl (by decide))
    have HB3 := Lib.hid (show Below w.heap.size w W3 by rw [hW3]; exact HB2.out.alloc HB2.out.size _)
    have hb23 : Below W2.heap.size W2 W3 := by rw [hW3]; exact (Below.refl _ _).alloc (Nat.le_refl _) _
    have J3 := Lib.hid (J2.out.below hb23)
    have BR3 := Lib.hid ((hb23.block _ b1lt).trans BR2.out)
    have BX3 := Lib.hid ((hb23.block _ (heap_lt BX.out)).trans BX.out)
    have hz3 := hb23.size
    have HW3 := Lib.hid hW3
    clear hW3 hb23
    go_wp2_with fail
    rw [← HW3.out]
    refine (only_calls X' [.int .i64 k2, .bool is2, .string ⟨t2.toArray⟩, .slice a2 ns2.length nc2, .slice a2' ks2.length kc2] (.slice (some ⟨W2.heap.size, 0, none⟩) 3 3) [Dx.tMust, Dx.tShould, Dx.tNot] W3 _ _ J3.out (fit_le (by unfold maxLen; omega) _ F.out) ROW.out (by decide)).mono ?_
    rintro e w4 ⟨rfl, hb⟩
    obtain ⟨r, hrr⟩ : ∃ r, r = Dx.only X' [Dx.tMust, Dx.tShould, Dx.tNot] := ⟨_, rfl⟩
    have hq := HQ.out
    rw [← hrr] at hq ⊢
    have HB4 := Lib.hid (HB3.out.trans (hb.mono HB3.out.size))
    have BR4 := Lib.hid ((hb.block _ (by omega)).trans BR3.out)
    have BX4 := Lib.hid ((hb.block _ (heap_lt BX3.out)).trans BX3.out)
    have hz4 := hb.size
    have J4 := Lib.hid (JAt.below (J3.out.kept (ok' := fun g => g < W3.heap.size) (Nat.le_refl _) (fun g hg hl => ⟨rfl, hl⟩)) hb).all
    clear hb hrr q0 q1 q2 q3 q4 HW3 HQ
    cases r with
    | false =>
      have HQ := Lib.hid (show Dx.nodeQ V = none by rw [hq, if_neg (fun h => by cases h.2)])
      clear hq
      have NO := Lib.hid (show Dx.nodeQ V = none from HQ.out)
      obtain ⟨p0, p1, p2, p3, p4, pf⟩ := cells5 BR4.out
      have pf0 := pf 0; have pf1 := pf 1; have pf2 := pf 2; have pf3 := pf 3; have pf4 := pf 4
      clear pf
      have FIN := Lib.hid (node_fin (r := Dx.nodeQ V) (Q := .mk 0 [] [] [] []) (f := false) HB4.out BR4.out QyAt.plain (fun q hq => by rw [NO.out] at hq; cases hq) (by rw [NO.out]; rfl))
      go_wp2_with fail
      obtain ⟨fin, zb⟩ := FIN.out
      obtain ⟨z0, z1, z2, z3, z4, _⟩ := cells5 zb
      exact bodyPost_ret (v := .tuple #[.agg #[.int .i64 0, .string ⟨#[]⟩, .slice none 0 0, .slice none 0 0, .slice none 0 0], .bool false]) (by simp [results, Tryz.results34, go_sem, z0, z1, z2, z3, z4]) rfl fin
    | true =>
      have HQ := Lib.hid (show Dx.nodeQ V = Dx.listsQ Dx.nodeQ X' by rw [hq, if_pos ⟨HBO.out, rfl⟩])
      clear hq
      obtain ⟨q0, q1, q2, q3, q4, _⟩ := cells5 BX4.out
      go_wp2_with fail
      refine (HL.out (by first | exact trivial | rfl) [.int .i64 k2, .bool is2, .string ⟨t2.toArray⟩, .slice a2 ns2.length nc2, .slice a2' ks2.length kc2] _ J4.out).mono ?_
      rintro e w5 ⟨Q, qcs, rfl, hqa, hqp, hb⟩
      obtain ⟨QQ, hQQ⟩ : ∃ QQ, QQ = Q := ⟨_, rfl⟩
      obtain ⟨xk, xt, A, B, C⟩ := Q
      obtain ⟨s1, s2, s3, rfl, r1, r2, r3⟩ := hqa.rows
      obtain ⟨xa1, xc1, rfl⟩ := r1.shape
      obtain ⟨xa2, xc2, rfl⟩ := r2.shape
      obtain ⟨xa3, xc3, rfl⟩ := r3.shape
      rw [← hQQ] at hqa hqp
      obtain ⟨f, hf⟩ : ∃ f, f = (Dx.listsQ Dx.nodeQ X').isSome := ⟨_, rfl⟩
      rw [← hf]
      have hz5 := hb.size
      have HB5 := Lib.hid (HB4.out.trans (hb.mono HB4.out.size))
      have BR5 := Lib.hid ((hb.block _ (by omega)).trans BR4.out)
      have FIN := Lib.hid (node_fin (r := Dx.nodeQ V) (Q := QQ) (f := f) HB5.out BR5.out (QyAt.kept (Nat.le_refl _) (fun g hg _ => ⟨rfl, by omega⟩) _ _ hqa) (fun q hq => hqp q (by rw [← HQ.out]; exact hq)) (by rw [HQ.out]; exact hf.symm))
      obtain ⟨p0, p1, p2, p3, p4, pf⟩ := cells5 BR5.out
      have pf0 := pf 0; have pf1 := pf 1; have pf2 := pf 2; have pf3 := pf 3; have pf4 := pf 4
      clear pf
      clear hqa hqp hb hf r1 r2 r3 q0 q1 q2 q3 q4 hQQ
      go_wp2_with fail
      obtain ⟨fin, zb⟩ := FIN.out
      obtain ⟨z0, z1, z2, z3, z4, _⟩ := cells5 zb
      exact bodyPost_ret (v := .tuple #[.agg #[.int .i64 xk, .string ⟨xt.toArray⟩, .slice xa1 A.length xc1, .slice xa2 B.length xc2, .slice xa3 C.length xc3], .bool f]) (by simp [results, Tryz.results34, go_sem, z0, z1, z2, z3, z4]) rfl fin

theorem node_all : ∀ (N : Nat) (v : Cx.J) (cs : List Value) (w : World) (ok : Nat → Prop), Cx.nodes v ≤ N → JAt w ok v cs → fit 100000 v → NR v →
    Calls Tryz.prog 34 #[.agg cs.toArray] w (NodePost (Dx.nodeQ v) w)
  | 0, v, _, _, _, h, _, _, _ => by have := nodes_pos v; omega
  | N + 1, v, cs, w, ok, hN, hj, hf, hr => node_step v cs w ok hj hf hr fun hs cs wr hj' => by
      have hm := singleV_nodes hs
      have h1 := Dx.nodes_kid hm
      exact lists_calls (singleV v) cs wr _ hj' (single_fit hf) fun k x cs wr' hk hx hxj => by
        have h2 := Dx.nodes_kid hk; have h3 := Dx.nodes_kid hx
        exact node_all N x cs wr' _ (by omega) hxj (Dx.fit_kids (Dx.fit_kids (single_fit hf) hk) hx) (NR.of (((hr.2 _ hm).kid hk).kid hx))
theorem node_calls (v : Cx.J) (cs : List Value) (w : World) (ok : Nat → Prop) (hj : JAt w ok v cs) (hf : fit 100000 v) (hr : NR v) :
    Calls Tryz.prog 34 #[.agg cs.toArray] w (NodePost (Dx.nodeQ v) w) := node_all _ v cs w ok (Nat.le_refl _) hj hf hr
end Go.Proofs.YtejlddimokmgjaaGreatDoor
namespace Go.Proofs.YtejlddimokmgjaaGreatDoor
open Go.RowKit

/-- What the closure hands back. -/
def NumPost (v : Cx.J) (n : List UInt8) (none most : Int) (old : Bool) (bf : Nat) (w : World) (e : Ending) (w' : World) : Prop :=
  ∃ x : Int, e = .returned (.int .i64 x) ∧ (∀ y, Dx.number v n none most = some y → x = y) ∧ w'.heap[bf]? = some (.cells #[.bool (old && (Dx.number v n none most).isSome)] 4 (0, 0)) ∧ Mv bf w w'

theorem number_none {v : Cx.J} {n : List UInt8} {none most : Int} (h : Cx.get v n = Option.none) : Dx.number v n none most = some none := by unfold Dx.number; rw [h]
theorem number_some {v k : Cx.J} {n : List UInt8} {none most : Int} (h : Cx.get v n = some k) : Dx.number v n none most = (if ((Cx.toInt k).isSome && decide (0 ≤ (Cx.toInt k).getD 0) && decide ((Cx.toInt k).getD 0 ≤ most)) = true then some ((Cx.toInt k).getD 0) else Option.none) := by
  unfold Dx.number
  rw [h]
  simp only
  cases Cx.toInt k with
  | none => simp
  | some x =>
    simp only [Option.isSome_some, Option.getD_some, Bool.true_and, Bool.and_eq_true, decide_eq_true_eq]
theorem set1_heap {w : World} {g : Nat} {a x : Value} {T : TypeId} (h : w.heap[g]? = some (.cells #[a] T (0, 0))) : (w.setCell ⟨g, 0, none⟩ x).heap[g]? = some (.cells #[x] T (0, 0)) := by
  simp [World.setCell, Array.getElem?_modify, h]

set_option maxRecDepth 100000 in
set_option maxHeartbeats 4000000 in
theorem numberQ_calls (v : Cx.J) (cs : List Value) (n : List UInt8) (none most : Int) (old : Bool) (bv bf : Nat) (w : World) (ok : Nat → Prop) (hbv : w.heap[bv]? = some (.cells cs.toArray 48 (0, 0))) (hbf : w.heap[bf]? = some (.cells #[.bool old] 4 (0, 0)))
    (hj : JAt w ok v cs) (hf : fit maxLen v) :
    Calls Tryz.prog 33 #[.string ⟨n.toArray⟩, .int .i64 none, .int .i64 most, .pointer (some ⟨bv, 0, Option.none⟩), .pointer (some ⟨bf, 0, Option.none⟩)] w (NumPost v n none most old bf w) := by
  obtain ⟨V, hV⟩ : ∃ V, V = v := ⟨_, rfl⟩
  cases v with
  | mk k is t ns ks =>
  replace hj := hj.all
  obtain ⟨a, nc, a', kc, rfl⟩ := hj.shape
  rw [← hV] at hj hf ⊢
  clear hV
  have J := Lib.hid hj; have F := Lib.hid hf; have BF := Lib.hid hbf
  obtain ⟨q0, q1, q2, q3, q4, _⟩ := cells5 hbv
  clear hj hf hbv hbf
  go_enter Tryz.func33, Tryz.ntmps33
  go_wp2_with fail
  refine (get_calls V [.int .i64 k, .bool is, .string ⟨t.toArray⟩, .slice a ns.length nc, .slice a' ks.length kc] n _ _ J.out F.out).mono ?_
  rintro e w1 ⟨cs1, rfl, hj1, hb⟩
  have HB1 := Lib.hid hb
  have BF1 := Lib.hid ((hb.block _ (heap_lt BF.out)).trans BF.out)
  clear hb q0 q1 q2 q3 q4
  cases hg : Cx.get V n with
  | none =>
    have NO := Lib.hid (number_none (none := none) (most := most) hg)
    rw [hg] at hj1
    obtain ⟨b, nb, b', kb, rfl⟩ := hj1.shape
    clear hj1 hg
    simp only [Option.isSome_none]
    go_wp2_with fail
    go_ret
    have HB2 := HB1.out.alloc HB1.out.size (.cells #[.int .i64 0, .bool false, .string ⟨#[]⟩, .slice b 0 nb, .slice b' 0 kb] 48)
    exact ⟨none, rfl, (fun y hy => by rw [NO.out] at hy; injection hy), (by rw [NO.out, Option.isSome_some, Bool.and_true]; exact (HB2.block _ (heap_lt BF.out)).trans BF.out), (Mv.refl bf w).below HB2⟩
  | some K =>
    have NU := Lib.hid (number_some (none := none) (most := most) hg)
    rw [hg] at hj1
    simp only [Option.getD_some, Option.isSome_some] at hj1 ⊢
    have hfK : fit maxLen K := Dx.get_fit F.out hg
    obtain ⟨ri, hri⟩ : ∃ ri, ri = (Cx.toInt K).getD 0 := ⟨_, rfl⟩
    obtain ⟨rb, hrb⟩ : ∃ rb, rb = (Cx.toInt K).isSome := ⟨_, rfl⟩
    have hnu := NU.out
    rw [← hri, ← hrb] at hnu
    have NU2 := Lib.hid hnu; have HRI := Lib.hid hri; have HRB := Lib.hid hrb
    clear hnu NU hri hrb hg
    obtain ⟨K', hK'⟩ : ∃ K', K' = K := ⟨_, rfl⟩
    cases K with
    | mk k2 is2 t2 ns2 ks2 =>
    obtain ⟨b, nb, b', kb, rfl⟩ := hj1.shape
    rw [← hK'] at hj1 hfK HRI HRB
    have J1 := Lib.hid hj1; have FK := Lib.hid hfK
    have HB2 := Lib.hid (HB1.out.alloc HB1.out.size (.cells #[.int .i64 k2, .bool is2, .string ⟨t2.toArray⟩, .slice b ns2.length nb, .slice b' ks2.length kb] 48))
    have HC2 := Lib.hid ((Below.refl w1.heap.size w1).alloc (Nat.le_refl _) (.cells #[.int .i64 k2, .bool is2, .string ⟨t2.toArray⟩, .slice b ns2.length nb, .slice b' ks2.length kb] 48))
    clear hj1 hfK hK'
    go_wp2_with fail
    refine (int_calls K' [.int .i64 k2, .bool is2, .string ⟨t2.toArray⟩, .slice b ns2.length nb, .slice b' ks2.length kb] _ _ (J1.out.below HC2.out) FK.out).mono ?_
    rintro e w3 ⟨rfl, hb3⟩
    rw [← HRI.out, ← HRB.out]
    have HB3 := Lib.hid (HB2.out.trans (hb3.mono HB2.out.size))
    have BF3 := Lib.hid ((HB3.out.block _ (heap_lt BF.out)).trans BF.out)
    have c0 : w3.cell? ⟨bf, 0, Option.none⟩ = some (.bool old) := by have := BF3.out; simp [World.cell?, this]
    have cf : w3.frozen? ⟨bf, 0, Option.none⟩ = false := by have := BF3.out; simp [World.frozen?, this]
    have FIN := Lib.hid (show ∀ r : Bool, r = (rb && decide (0 ≤ ri) && decide (ri ≤ most)) → NumPost V n none most old bf w (.returned (.int .i64 ri)) (w3.setCell ⟨bf, 0, Option.none⟩ (.bool (old && r))) from fun r hr => by
      rw [← hr] at NU2
      refine ⟨ri, rfl, fun y hy => ?_, ?_, ((Mv.refl bf w).below HB3.out).set (.inl rfl) _⟩
      · rw [NU2.out] at hy
        cases r
        · simp at hy
        · simpa using hy
      · rw [set1_heap BF3.out, NU2.out]
        cases r <;> simp)
    clear hb3 HB2 HC2 HRI HRB NU2 J1 J F FK BF BF1
    cases old with
    | false =>
      have FIN2 := Lib.hid (FIN.out _ rfl)
      simp only [Bool.false_and] at FIN2
      clear FIN
      go_wp2_with fail
      go_ret
      exact FIN2.out
    | true =>
      cases rb with
      | false =>
        have FIN2 := Lib.hid (FIN.out false (by simp))
        clear FIN
        go_wp2_with fail
        go_ret
        exact FIN2.out
      | true =>
        by_cases h0 : 0 ≤ ri
        · by_cases hm : ri ≤ most
          · have FIN2 := Lib.hid (FIN.out true (by simp [h0, hm]))
            have h0b : decide (0 ≤ ri) = true := by simpa using h0
            have hmb : decide (ri ≤ most) = true := by simpa using hm
            clear FIN
            go_wp2_with fail
            go_ret
            exact FIN2.out
          · have FIN2 := Lib.hid (FIN.out false (by simp [hm]))
            have h0b : decide (0 ≤ ri) = true := by simpa using h0
            have hmb : decide (ri ≤ most) = false := by simpa using hm
            clear FIN
            go_wp2_with fail
            go_ret
            exact FIN2.out
        · have FIN2 := Lib.hid (FIN.out false (by simp [h0]))
          have h0b : decide (0 ≤ ri) = false := by simpa using h0
          clear FIN
          go_wp2_with fail
          go_ret
          exact FIN2.out
end Go.Proofs.YtejlddimokmgjaaGreatDoor
