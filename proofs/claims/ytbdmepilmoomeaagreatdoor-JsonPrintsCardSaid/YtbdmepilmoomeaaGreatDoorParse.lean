/- WALKS: Parse. -/
import Derived.Test.YtbdmepilmoomeaaGreatDoorPar
namespace Go.Proofs.YtbdmepilmoomeaaGreatDoor
open Go.RowKit

/-- What a parse answers. -/
def parseT (s : List UInt8) : Cx.J × Nat × Nat :=
  match Cx.parse s with
  | .ok v => (v, 0, 0)
  | .error (e, p) => (.mk 0 false [] [] [], e, p)

/-- What a parse hands back. -/
def PRet (s : ByteArray) (w : World) (e : Ending) (w' : World) : Prop :=
  ∃ cs : List Value, e = .returned (.tuple #[.agg cs.toArray, .int .i64 ((parseT s.data.toList).2.1 : Nat), .int .i64 ((parseT s.data.toList).2.2 : Nat)]) ∧ JAt w' (fun g => w.heap.size ≤ g) (parseT s.data.toList).1 cs ∧ Below w.heap.size w w'

theorem Vars.mv {N b : Nat} {x0 x1 x2 x3 x4 e p : Value} {w w' : World} (h : Vars N x0 x1 x2 x3 x4 e p w) (k : Mv b w w') (hb : N + 2 < b) : Vars N x0 x1 x2 x3 x4 e p w' :=
  ⟨k.heap h.v (by omega), k.heap h.err (by omega), k.heap h.at' (by omega)⟩

/-- The three variables, read at the end. -/
theorem three {N : Nat} {x0 x1 x2 x3 x4 : Value} {e p : Int} {w : World} {tmps : Array Value} (hV : Vars N x0 x1 x2 x3 x4 (.int .i64 e) (.int .i64 p) w)
    (h2 : tmps[2]? = some (.pointer (some ⟨N, 0, none⟩))) (h3 : tmps[3]? = some (.pointer (some ⟨N + 1, 0, none⟩))) (h4 : tmps[4]? = some (.pointer (some ⟨N + 1 + 1, 0, none⟩))) :
    (results Tryz.f7 tmps).run Tryz.prog w = .ok (.tuple #[.agg #[x0, x1, x2, x3, x4], .int .i64 e, .int .i64 p]) w := by
  obtain ⟨r0, r1, r2, r3, r4, rf⟩ := cells5 hV.v
  have s0 : w.cell? ⟨N + 1, 0, none⟩ = some (.int .i64 e) := by simp [World.cell?, hV.err]
  have s1 : w.cell? ⟨N + 1 + 1, 0, none⟩ = some (.int .i64 p) := by simp [World.cell?, hV.at']
  simp [results, Tryz.results7, go_sem, h2, h3, h4, r0, r1, r2, r3, r4, s0, s1]

/-- Behind the deferred closure, of a parse that gave up. -/
theorem parse_fails (s : ByteArray) (w w1 : World) (e p : Nat) (x0 x1 x2 x3 x4 : Value) (hr : Cx.parse s.data.toList = .error (e, p)) (hk : Below w.heap.size w w1) (hV : Vars w.heap.size x0 x1 x2 x3 x4 (.int .i64 0) (.int .i64 0) w1)
    (tmps : Array Value) (h2 : tmps[2]? = some (.pointer (some ⟨w.heap.size, 0, none⟩))) (h3 : tmps[3]? = some (.pointer (some ⟨w.heap.size + 1, 0, none⟩))) (h4 : tmps[4]? = some (.pointer (some ⟨w.heap.size + 1 + 1, 0, none⟩))) :
    bodyPostD Tryz.prog Tryz.f7 (PRet s w) (Exit.panic (fault e p)) { tmps := tmps, defers := [{ target := .fn (.func 23) #[.pointer (some ⟨w.heap.size, 0, none⟩), .pointer (some ⟨w.heap.size + 1, 0, none⟩), .pointer (some ⟨w.heap.size + 1 + 1, 0, none⟩)], args := #[] }] } w1 := by
  refine leaves_cons (f := 23) (args := #[.pointer (some ⟨w.heap.size, 0, none⟩), .pointer (some ⟨w.heap.size + 1, 0, none⟩), .pointer (some ⟨w.heap.size + 1 + 1, 0, none⟩)]) (by simp) (by simp [go_sem]) ?_
  refine (catch_panicking w.heap.size e p w1 x0 x1 x2 x3 x4 0 0 hV).mono ?_
  rintro e' u' w' ⟨rfl, hu, hV', hb⟩
  show Leaves _ _ _ _ [] (settle u') w'
  rw [hu]
  refine ⟨_, three hV' h2 h3 h4, [.int .i64 0, .bool false, strV [], .slice none 0 0, .slice none 0 0], ?_, ?_, hk.trans hb⟩
  · simp [parseT, hr, strV]
  · simp only [parseT, hr]; exact JAt.plain

/-- Behind the deferred closure, of a parse that made its way. -/
theorem parse_makes (s : ByteArray) (w w1 : World) (v : Cx.J) (x0 x1 x2 x3 x4 : Value) (hr : Cx.parse s.data.toList = .ok v) (hk : Below w.heap.size w w1) (hV : Vars w.heap.size x0 x1 x2 x3 x4 (.int .i64 0) (.int .i64 0) w1)
    (hv : JAt w1 (fun g => w.heap.size ≤ g) v [x0, x1, x2, x3, x4])
    (tmps : Array Value) (h2 : tmps[2]? = some (.pointer (some ⟨w.heap.size, 0, none⟩))) (h3 : tmps[3]? = some (.pointer (some ⟨w.heap.size + 1, 0, none⟩))) (h4 : tmps[4]? = some (.pointer (some ⟨w.heap.size + 1 + 1, 0, none⟩))) :
    bodyPostD Tryz.prog Tryz.f7 (PRet s w) Exit.ret { tmps := tmps, defers := [{ target := .fn (.func 23) #[.pointer (some ⟨w.heap.size, 0, none⟩), .pointer (some ⟨w.heap.size + 1, 0, none⟩), .pointer (some ⟨w.heap.size + 1 + 1, 0, none⟩)], args := #[] }] } w1 := by
  refine leaves_cons (f := 23) (args := #[.pointer (some ⟨w.heap.size, 0, none⟩), .pointer (some ⟨w.heap.size + 1, 0, none⟩), .pointer (some ⟨w.heap.size + 1 + 1, 0, none⟩)]) (by simp) (by simp [go_sem]) ?_
  refine (catch_idle w.heap.size w1).mono ?_
  rintro e' u' w' ⟨rfl, rfl, rfl⟩
  show Leaves _ _ _ _ [] FrameMode.returning _
  have hl := heap_lt hV.at'
  have hV' : Vars w.heap.size x0 x1 x2 x3 x4 (.int .i64 0) (.int .i64 0) (w1.alloc (.cells #[.int .i64 0, .int .i64 0] 44)) := hV.mv ((Mv.refl (w.heap.size + 3) w1).alloc _) (by omega)
  refine ⟨_, three hV' h2 h3 h4, [x0, x1, x2, x3, x4], ?_, ?_, hk.alloc (by omega) _⟩
  · simp [parseT, hr]
  · simp only [parseT, hr]
    exact JAt.kept (by simp) (fun g hg hl => ⟨Below.heap_alloc _ _ _ hl, hg⟩) _ _ hv

set_option maxRecDepth 100000 in
set_option maxHeartbeats 4000000 in
theorem parse_calls (s : ByteArray) (w : World) (hg : Glb w) (h8 : 8 ≤ w.heap.size) : Calls Tryz.prog 7 #[.string s] w (PRet s w) := by
  have hmf : ∀ (fn : Fn) (first cap : Array Value) (w : World), (Instr.makeFunc fn first cap).run Tryz.prog w = .ok (.func fn first cap) w := fun _ _ _ _ => rfl
  by_cases hlong : 100000 < s.size
  · have hl : (100000 : Int) < (s.size : Int) := by omega
    have hr : Cx.parse s.data.toList = .error (5, 0) := by
      unfold Cx.parse; rw [if_pos (show 100000 < s.data.toList.length by exact hlong)]
    have HR := Lib.hid hr; have HL := Lib.hid hlong
    clear hr hlong
    go_enter_defers Tryz.func7, Tryz.ntmps7
    go_wp2_with fail
    have hV : Vars w.heap.size (.int .i64 0) (.bool false) (.string ⟨#[]⟩) (.slice none 0 0) (.slice none 0 0) (.int .i64 5) (.int .i64 0) (((w.alloc (.cells zeroJ 26)).alloc (.cells #[.int .i64 5] 27)).alloc (.cells #[.int .i64 0] 3)) := by
      refine ⟨?_, ?_, ?_⟩
      · rw [Below.heap_alloc _ _ _ (by simp; omega), Below.heap_alloc _ _ _ (by simp)]; exact heap_alloc_new w _
      · rw [Below.heap_alloc _ _ _ (by simp)]; simpa using heap_alloc_new (w.alloc (.cells zeroJ 26)) (.cells #[.int .i64 5] 27)
      · simpa using heap_alloc_new ((w.alloc (.cells zeroJ 26)).alloc (.cells #[.int .i64 5] 27)) (.cells #[.int .i64 0] 3)
    refine ⟨_, three hV rfl rfl rfl, [.int .i64 0, .bool false, strV [], .slice none 0 0, .slice none 0 0], ?_, ?_, ?_⟩
    · simp [parseT, HR.out, strV]
    · simp only [parseT, HR.out]; exact JAt.plain
    · exact (((Below.refl _ w).alloc (Nat.le_refl _) _).alloc (by simp) _).alloc (by simp; omega) _
  · have hl : ¬ (100000 : Int) < (s.size : Int) := by omega
    have HL := Lib.hid hlong
    obtain ⟨RES, hRES⟩ : ∃ RES, RES = Cx.parse s.data.toList := ⟨_, rfl⟩
    have hR2 := hRES
    unfold Cx.parse at hRES
    rw [if_neg (show ¬ 100000 < s.data.toList.length by exact hlong)] at hRES
    have HR := Lib.hid hRES; have HR2 := Lib.hid hR2
    have HG := Lib.hid hg
    clear hRES hR2 hlong hg
    go_enter_defers Tryz.func7, Tryz.ntmps7
    go_wp2_with fail
    have hV : Vars w.heap.size (.int .i64 0) (.bool false) (.string ⟨#[]⟩) (.slice none 0 0) (.slice none 0 0) (.int .i64 0) (.int .i64 0) ((((w.alloc (.cells zeroJ 26)).alloc (.cells #[.int .i64 0] 27)).alloc (.cells #[.int .i64 0] 3)).alloc (.cells #[.string s, .int .i64 0, .int .i64 0] 48)) := by
      refine ⟨?_, ?_, ?_⟩
      · rw [Below.heap_alloc _ _ _ (by simp; omega), Below.heap_alloc _ _ _ (by simp; omega), Below.heap_alloc _ _ _ (by simp)]; exact heap_alloc_new w _
      · rw [Below.heap_alloc _ _ _ (by simp), Below.heap_alloc _ _ _ (by simp)]; simpa using heap_alloc_new (w.alloc (.cells zeroJ 26)) (.cells #[.int .i64 0] 27)
      · rw [Below.heap_alloc _ _ _ (by simp)]; simpa using heap_alloc_new ((w.alloc (.cells zeroJ 26)).alloc (.cells #[.int .i64 0] 27)) (.cells #[.int .i64 0] 3)
    have hb4 : Below w.heap.size w ((((w.alloc (.cells zeroJ 26)).alloc (.cells #[.int .i64 0] 27)).alloc (.cells #[.int .i64 0] 3)).alloc (.cells #[.string s, .int .i64 0, .int .i64 0] 48)) :=
      ((((Below.refl _ w).alloc (Nat.le_refl _) _).alloc (by simp) _).alloc (by simp; omega) _).alloc (by simp; omega) _
    have hrd : Rd (w.heap.size + 1 + 1 + 1) s (0 : Nat) (0 : Nat) ((((w.alloc (.cells zeroJ 26)).alloc (.cells #[.int .i64 0] 27)).alloc (.cells #[.int .i64 0] 3)).alloc (.cells #[.string s, .int .i64 0, .int .i64 0] 48)) := by
      unfold Rd
      simpa using heap_alloc_new (((w.alloc (.cells zeroJ 26)).alloc (.cells #[.int .i64 0] 27)).alloc (.cells #[.int .i64 0] 3)) (.cells #[.string s, .int .i64 0, .int .i64 0] 48)
    obtain ⟨w4, hw4⟩ : ∃ w4, w4 = ((((w.alloc (.cells zeroJ 26)).alloc (.cells #[.int .i64 0] 27)).alloc (.cells #[.int .i64 0] 3)).alloc (.cells #[.string s, .int .i64 0, .int .i64 0] 48)) := ⟨_, rfl⟩
    rw [← hw4] at hV hb4 hrd
    rw [show (zeroJ : Array Value) = #[.int .i64 0, .bool false, .string ⟨#[]⟩, .slice none 0 0, .slice none 0 0] from rfl] at hw4
    rw [← hw4]
    have hg4 := HG.out.belowB hb4 h8
    refine (show Calls Tryz.prog 24 #[.pointer (some ⟨w.heap.size + 1 + 1 + 1, 0, none⟩), .int .i64 0] w4 _ from value_calls s (w.heap.size + 1 + 1 + 1) (by omega) (by have := HL.out; omega) (s.size + 1) 0 w4 0 0 (by omega) hrd hg4 (by omega) (by omega) (by omega)).mono ?_
    intro e w5 hgv
    have HB4 := Lib.hid hb4; have HV4 := Lib.hid hV; have HW4 := Lib.hid hw4
    clear hb4 hV hw4 hrd
    cases hw : Cx.value s.data.toList (s.size + 1) 0 0 0 with
    | error x =>
      obtain ⟨rfl, k4⟩ := hgv.of_err hw
      have hr := HR.out
      rw [show s.data.toList.length = s.size from rfl, hw] at hr
      refine parse_fails s w w5 x.1 x.2 _ _ _ _ _ (HR2.out.symm.trans hr) (Mv.to_below HB4.out k4 (by omega) (by have := HB4.out.size; exact this)) (HV4.out.mv k4 (by omega)) _ rfl rfl rfl
    | ok a =>
      obtain ⟨v, j, m⟩ := a
      obtain ⟨⟨cs, rfl, kj, k4⟩, k5⟩ := hgv.of_ok hw
      have hr := HR.out
      rw [show s.data.toList.length = s.size from rfl, hw] at hr
      obtain ⟨x0, x1, x2, x3, x4, rfl⟩ := five kj.length
      obtain ⟨y0, y1, y2, ka, kn, kc, la, ln, lc, rfl, rfl, rfl, rfl, rfl⟩ := five_shape kj
      have hj := (Cx.value_fine s.data.toList (s.size + 1) 0 (by omega)).ok 0 0 v j m (Nat.zero_le _) (by omega) hw
      have hjl : j ≤ s.size := hj.2.1
      have V5 := HV4.out.mv k5 (by omega)
      have B5 : Below w.heap.size w w5 := Mv.to_below HB4.out k5 (by omega) HB4.out.size
      have hl5 := k4.lt
      have hl4 : w.heap.size + 3 < w4.heap.size := by rw [HW4.out]; simp
      obtain ⟨r0, r1, r2, r3, r4, rf⟩ := cells5 V5.v
      have rf0 := rf 0; have rf1 := rf 1; have rf2 := rf 2; have rf3 := rf 3; have rf4 := rf 4
      obtain ⟨w6, hw6⟩ : ∃ w6, w6 = put5 w5 w.heap.size (.int .i64 y0) (.bool y1) (.string y2) (.slice ka kn kc) (.slice la ln lc) := ⟨_, rfl⟩
      have V6 : Vars w.heap.size (.int .i64 y0) (.bool y1) (.string y2) (.slice ka kn kc) (.slice la ln lc) (.int .i64 0) (.int .i64 0) w6 := by
        rw [hw6]
        exact ⟨put5_heap V5.v, by rw [put5_other (by omega)]; exact V5.err, by rw [put5_other (by omega)]; exact V5.at'⟩
      have J6 : JAt w6 (fun g => w4.heap.size ≤ g) v [.int .i64 y0, .bool y1, .string y2, .slice ka kn kc, .slice la ln lc] := by
        rw [hw6]
        exact JAt.kept (by rw [put5_size]; exact Nat.le_refl _) (fun g hg _ => ⟨put5_other (by omega), hg⟩) _ _ kj
      have R6 : Rd (w.heap.size + 1 + 1 + 1) s j m w6 := by
        rw [hw6]; unfold Rd; rw [put5_other (by omega)]; exact k4
      have B6 : Below w.heap.size w w6 := by
        rw [hw6]
        exact ((((B5.setCell (p := ⟨w.heap.size, 0, none⟩) (Nat.le_refl _) _).setCell (p := ⟨w.heap.size, 1, none⟩) (Nat.le_refl _) _).setCell (p := ⟨w.heap.size, 2, none⟩) (Nat.le_refl _) _).setCell (p := ⟨w.heap.size, 3, none⟩) (Nat.le_refl _) _).setCell (p := ⟨w.heap.size, 4, none⟩) (Nat.le_refl _) _
      have A6 := Lib.hid (And.intro V6 (And.intro J6 (And.intro R6 B6)))
      have HW6 := Lib.hid hw6; have HRR := Lib.hid hr
      have HL4 := Lib.hid hl4
      clear V6 J6 R6 B6 hw6 hr V5 B5 k4 k5 kj hgv hj hw rf hl5 hl4 HB4 HV4 HW4 HR HG hg4
      go_wp2_with fail
      rw [show (((((w5.setCell ⟨w.heap.size, 0, none⟩ (.int .i64 y0)).setCell ⟨w.heap.size, 1, none⟩ (.bool y1)).setCell ⟨w.heap.size, 2, none⟩ (.string y2)).setCell ⟨w.heap.size, 3, none⟩ (.slice ka kn kc)).setCell ⟨w.heap.size, 4, none⟩ (.slice la ln lc)) = w6 from HW6.out.symm]
      obtain ⟨V6, J6, R6, B6⟩ := A6.out
      refine (blanks_calls s j m (w.heap.size + 1 + 1 + 1) w6 R6 hjl (by unfold maxLen; have := HL.out; omega)).mono ?_
      rintro e w7 ⟨rfl, R7, m7⟩
      have hl6 := R6.lt
      have V7 := V6.mv m7 (by omega)
      have J7 : JAt w7 (fun g => w.heap.size + 3 < g) v [.int .i64 y0, .bool y1, .string y2, .slice ka kn kc, .slice la ln lc] :=
        JAt.kept m7.size (fun g hg hl => ⟨m7.block g hl (by intro e; injection e with e; have := HL4.out; omega), by have := HL4.out; omega⟩) _ _ J6
      have B7 : Below w.heap.size w w7 := Mv.to_below B6 m7 (by omega) B6.size
      have c1 := R7.c1
      have hr := HRR.out
      generalize Cx.skipB s.data.toList j = p at hr c1 R7
      obtain ⟨r0, r1, r2, r3, r4, rf⟩ := cells5 V7.v
      have rf0 := rf 0; have rf1 := rf 1; have rf2 := rf 2; have rf3 := rf 3; have rf4 := rf 4
      have s0 : w7.cell? ⟨w.heap.size + 1, 0, none⟩ = some (.int .i64 0) := by simp [World.cell?, V7.err]
      have s1 : w7.cell? ⟨w.heap.size + 1 + 1, 0, none⟩ = some (.int .i64 0) := by simp [World.cell?, V7.at']
      have sf0 : w7.frozen? ⟨w.heap.size + 1, 0, none⟩ = false := by simp [World.frozen?, V7.err]
      have sf1 : w7.frozen? ⟨w.heap.size + 1 + 1, 0, none⟩ = false := by simp [World.frozen?, V7.at']
      have A7 := Lib.hid (And.intro V7 (And.intro J7 B7))
      by_cases hp : p < s.size
      · rw [if_pos hp] at hr
        have HRE := Lib.hid hr
        have hpi : (p : Int) < (s.size : Int) := by omega
        clear hr hp V6 J6 R6 B6 V7 J7 B7 R7 m7 HRR hl6 A6 HW6
        go_wp2_with (go_at_call 26; refine (give_calls _ _ _ _).mono ?_; rintro e w' ⟨rfl, rfl⟩)
        obtain ⟨V7, J7, B7⟩ := A7.out
        exact parse_fails s w _ 7 p (.int .i64 y0) (.bool y1) (.string y2) (.slice ka kn kc) (.slice la ln lc) (HR2.out.symm.trans HRE.out) B7 V7 _ rfl rfl rfl
      · rw [if_neg hp] at hr
        have HRE := Lib.hid hr
        have hpi : ¬ (p : Int) < (s.size : Int) := by omega
        clear hr hp V6 J6 R6 B6 V7 J7 B7 R7 m7 HRR hl6 A6 HW6 rf
        go_wp2_with fail
        obtain ⟨V7, J7, B7⟩ := A7.out
        refine parse_makes s w _ v (.int .i64 y0) (.bool y1) (.string y2) (.slice ka kn kc) (.slice la ln lc) (HR2.out.symm.trans HRE.out) ?_ ?_ ?_ _ rfl rfl rfl
        · exact ((((((B7.setCell (p := ⟨w.heap.size, 0, none⟩) (Nat.le_refl _) _).setCell (p := ⟨w.heap.size, 1, none⟩) (Nat.le_refl _) _).setCell (p := ⟨w.heap.size, 2, none⟩) (Nat.le_refl _) _).setCell (p := ⟨w.heap.size, 3, none⟩) (Nat.le_refl _) _).setCell (p := ⟨w.heap.size, 4, none⟩) (Nat.le_refl _) _).setCell (p := ⟨w.heap.size + 1, 0, none⟩) (Nat.le_succ _) _).setCell (p := ⟨w.heap.size + 1 + 1, 0, none⟩) (by show _ ≤ w.heap.size + 2; omega) _
        · refine ⟨?_, ?_, ?_⟩
          · rw [Below.heap_setCell _ _ _ _ (by show w.heap.size ≠ w.heap.size + 1 + 1; omega), Below.heap_setCell _ _ _ _ (by show w.heap.size ≠ w.heap.size + 1; omega)]
            exact put5_heap V7.v
          · rw [Below.heap_setCell _ _ _ _ (by show w.heap.size + 1 ≠ w.heap.size + 1 + 1; omega)]
            simp [World.setCell, Array.getElem?_modify, V7.err]
          · simp [World.setCell, Array.getElem?_modify, V7.at']
        · refine JAt.kept ?_ (fun g hg hl => ⟨?_, by omega⟩) _ _ J7
          · simp [World.setCell]
          · rw [Below.heap_setCell _ _ _ _ (by show g ≠ w.heap.size + 1 + 1; omega), Below.heap_setCell _ _ _ _ (by show g ≠ w.heap.size + 1; omega)]
            exact put5_other (by omega)
end Go.Proofs.YtbdmepilmoomeaaGreatDoor
