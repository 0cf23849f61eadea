/- WHAT THE LISTED VARIABLES AND THE WORLD'S SHAPE GIVE A WALK; the wrap that hands both on. -/
import Derived.Test.YtejlddimokmgjaaGreatDoorKk
import Derived.Lay
import Derived.PinnedBridge
import Derived.Lib.LaidU8T
import Derived.Lib.LaidTab
import Derived.LaidLaws
import Derived.HandedShaped
import Derived.SevenTiedAt
import Derived.Stop.Joined
import Derived.Lib.SmallJoins
import Derived.ProofKit
namespace Go.Proofs.YtejlddimokmgjaaGreatDoor
open Go.RowKit Go.ChangeShapes Go.WideShapes Go.ChangeAt Go.Lib Go.Shelf

theorem own : ownKnob Tryz.prog.godebug = none := by kernel_rfl
theorem xU8 : U8Extra Tryz.prog Tryz.lays260_ren := ⟨by kernel_rfl, by kernel_rfl, by kernel_rfl, by kernel_rfl, by kernel_rfl, by kernel_rfl, by kernel_rfl⟩
theorem accept_eq : (Rows.laid_unicode_utf8_acceptRanges : DataW Unit) = Lib.acceptData := by kernel_rfl
theorem first_eq : Rows.laid_unicode_utf8_first = Lib.firstData := Pinned.utf8First_eq
theorem pow10_eq : (Rows.laid_internal_strconv_uint64pow10 : DataW Unit) = Lib.tabData .u64 Lib.pow10Tab := by kernel_rfl

theorem err_of_reads {W : World} {n nm : String} {g : Nat} {d : DataW Unit} (h : VarReads Tryz.prog W n (.iface nm d)) (hg : Tryz.prog.globalNamed n = some g) (ht : (Tryz.prog.globals[g]?).map (·.type) = some 95) : ErrAt g W := by
  obtain ⟨g', t, cs, fuel, p, hg', ht', hv, hd⟩ := h
  obtain rfl := Option.some.inj (hg.symm.trans hg')
  obtain rfl := Option.some.inj (ht.symm.trans ht')
  obtain ⟨_, u, v, hcs, _⟩ := iface_of_trod Tryz.underlying95 hd
  have := World.var?_cell hg hv 0
  rw [Array.eq_one_of_toList hcs] at this
  exact ⟨_, by simpa using this, .inr ⟨u, v, rfl⟩⟩
theorem block_of_reads {W : World} {n : String} {g : Nat} {d : DataW Unit} (h : VarReads Tryz.prog W n d) (hg : Tryz.prog.globalNamed n = some g) : g < W.heap.size := by
  obtain ⟨g', t, cs, fuel, p, hg', _, hv, _⟩ := h
  obtain rfl := Option.some.inj (hg.symm.trans hg')
  rcases Nat.lt_or_ge g W.heap.size with h | h
  · exact h
  · unfold World.var? at hv
    rw [hg] at hv
    simp [Array.getElem?_eq_none h] at hv
theorem tab_of_reads {P : Program} {W : World} {name : String} {k : IntKind} {zs : List Int} {g : Nat} {t e : TypeId} {n : Nat} (h : VarReads P W name (Lib.tabData k zs))
    (hg : P.globalNamed name = some g) (hty : (P.globals[g]?).map (·.type) = some t) (ht : P.underlying t = some (.array n e)) (he : P.underlying e = some (.int k)) (hce : P.cellsOf e = 1) (hct : P.cellsOf t = n) : Lib.TabIs P W name k zs := by
  obtain ⟨g', t', cs, fuel, p, hg', ht', hvar, hd⟩ := h
  obtain rfl := Option.some.inj (hg.symm.trans hg')
  obtain rfl := Option.some.inj (hty.symm.trans ht')
  unfold Lib.TabIs
  rw [hvar, ← Lib.cells_of_tab ht he hce hct hd]

/-- The list that every row of this seat bears. -/
abbrev lst : List (String × DataW Unit) := Rows.dslPagesRow.laid
theorem glb_of {W : World} (h : laidMetH Tryz.prog lst W) (hs : W.ShapedOpen Tryz.prog) : GlbD W ∧ Lib.TabIs Tryz.prog W "internal/strconv.uint64pow10" .u64 Lib.pow10Tab ∧ 8 ≤ W.heap.size := by
  rw [MakeChecks.laidMetH_plain _ _ _ (by kernel_rfl)] at h
  have h2 := Lib.laidMet.reads h (.tail _ (.head _))
  have h3 := Lib.laidMet.reads h (.tail _ (.tail _ (.head _)))
  have h4 := Lib.laidMet.reads h (.tail _ (.tail _ (.tail _ (.head _))))
  have h5 := Lib.laidMet.reads h (.tail _ (.tail _ (.tail _ (.tail _ (.head _)))))
  have h6 := Lib.laidMet.reads h (.tail _ (.tail _ (.tail _ (.tail _ (.tail _ (.head _))))))
  have h7 := Lib.laidMet.reads h (.tail _ (.tail _ (.tail _ (.tail _ (.tail _ (.tail _ (.head _)))))))
  rw [accept_eq] at h4
  rw [first_eq] at h7
  rw [pow10_eq] at h3
  refine ⟨⟨⟨?_, err_of_reads h6 (by kernel_rfl) (by kernel_rfl), err_of_reads h5 (by kernel_rfl) (by kernel_rfl)⟩, Tryz.laysM219.s1_3 W hs⟩, ?_, block_of_reads h2 (g := 7) (by kernel_rfl)⟩
  · exact utf8Tabs_of_readsT (U8Types.of260 Tryz.lays260) xU8 h7 h4
  · exact tab_of_reads (g := 3) (t := 188) (e := 173) (n := 20) h3 (by kernel_rfl) (by kernel_rfl) (by kernel_rfl) (by kernel_rfl) (by kernel_rfl) (by kernel_rfl)

theorem handed_shaped {H : Type} {enc : TypeId × Value → H} {a : Assume} {C : Checked} {os : Os} {f : FuncId} {fn : Func} {s : ChangeSpec} {conds : List PathCond} {apart fresh handsOn again : Bool} {X : World → Array Value → Prop}
    (hX : ∀ (w w' : World) (args : Array Value), w.heap = w'.heap → X w args → X w' args)
    (own : ownKnob C.prog.godebug = Option.none) (started : os.Started) (noInit : C.prog.inits.idxOf? f = Option.none) (hfn : C.prog.funcs[f]? = some fn)
    (witness : ∃ (w : World) (tape : Tape) (i : Input), w.os = os ∧ (w.forCall tape i).Shaped C.prog ∧ i.vars = [] ∧ Input.okWide C.prog (w.forCall tape i) .any w.heap.size f i ∧
      ((s.pre enc C.prog fn conds apart (w.forCall tape i).memory i.args ∧ X (w.forCall tape i).memory i.args) ∧ sizedMet enc C.prog fn (OpenSpec.ofChange s) apart (w.forCall tape i).memory i.args) ∧ a.holds C.prog (lone (Frame.enter C.prog f i.args .normal) [] (w.forCall tape i)))
    (contract : ∀ (W : World) (base : Nat) (args : Array Value) (ds gs : List (DataW H)) (before : List MemPlace),
      (∀ (j : Nat) t v, fn.params[j]? = some t → args[j]? = some v → Value.okWide C.prog W .any base t v) →
      DataW.Whole enc C.prog fn.params.toList s.vars apart W args.toList ds gs before →
      X W args → W.ShapedOpen C.prog →
      Calls C.prog f args W fun e W' => ∃ v, e = .returned v ∧ s.post enc C.prog fn apart fresh handsOn again W args v W') :
    ReturnsInHanded a C os f .any (fun w args => (s.pre enc C.prog fn conds apart w args ∧ X w args) ∧ sizedMet enc C.prog fn (OpenSpec.ofChange s) apart w args) (s.post enc C.prog fn apart fresh handsOn again) := by
  refine returnsInHanded_of_calls own started noInit witness ?_
  intro w tape i _ hsh _ hok hpre hholds
  obtain ⟨_, _, _, fn', hfn', _, _, _, _, hval⟩ := hok
  have e : fn' = fn := Option.some.inj (hfn'.symm.trans hfn)
  subst e
  obtain ⟨⟨⟨ds, gs, before, hw, hc⟩, hx⟩, hz⟩ := hpre
  have hw' := DataW.Whole.of_heap (w' := w.forCall tape i) (by rfl) hw
  refine (contract (w.forCall tape i) w.heap.size i.args ds gs before hval hw' (hX _ _ _ (by rfl) hx) hsh).mono fun e W' ⟨v, he, hp⟩ => ?_
  subst he
  exact ChangeSpec.post_blind hp
end Go.Proofs.YtejlddimokmgjaaGreatDoor
