/- THE LIBRARY's CONTRACTS at this program, in the words of the plain model. -/
import Derived.Test.YthdmdafhldicmaaGreatDoorHBase
import Derived.Test.YthdmdafhldicmaaGreatDoorShelf
import Derived.Test.YthdmdafhldicmaaGreatDoorHxBase
import Derived.Lib.CutLaws
import Derived.Lib.IndexMore
import Derived.Lib.IndexBytes
import Derived.Lib.SplitLaws
import Derived.Shelf.Strings.SlTrimAscii
namespace Go.Proofs.YthdmdafhldicmaaGreatDoor
open Go.RowKit

theorem ixOf (l : List UInt8) (c : UInt8) : Lib.indexByte l c = if c ∈ l then (l.idxOf c : Int) else -1 := by
  induction l with
  | nil => rfl
  | cons b l ih =>
    simp only [Lib.indexByte]
    by_cases h : b = c
    · subst h; simp
    · have h' : (b == c) = false := by simpa using h
      have hm : c ∈ b :: l ↔ c ∈ l := by
        simp only [List.mem_cons]
        exact ⟨fun h2 => h2.resolve_left (Ne.symm h), .inr⟩
      rw [if_neg (by simp [h']), ih]
      by_cases hc : c ∈ l
      · rw [if_pos hc, if_pos (hm.2 hc), List.idxOf_cons, h', if_neg (by simp)]
        simp
      · rw [if_neg hc, if_neg (fun h2 => hc (hm.1 h2))]; rfl
theorem cutOf (l : List UInt8) (c : UInt8) : Lib.cut l [c] = (Hx.ahead c l, Hx.behind c l, decide (c ∈ l)) := by
  unfold Lib.cut
  rw [Lib.index_one, ixOf]
  by_cases h : c ∈ l
  · rw [if_pos h, if_pos (by omega)]
    simp [Hx.ahead, Hx.behind, h]
  · rw [if_neg h, if_neg (by decide), Hx.ahead_not h, Hx.behind_not h, decide_eq_false h]

/-- What the package-level variables hold that the walks read. -/
def ErrAt (g : Nat) (w : World) : Prop := ∃ v, w.cell? ⟨g, 0, none⟩ = some v ∧ (v = .nilIface ∨ ∃ te pe, v = .iface te pe)
def Glb (w : World) : Prop := (∃ m : Int, w.cell? ⟨2, 0, none⟩ = some (.int .i64 m)) ∧ ErrAt 3 w ∧ ErrAt 4 w
theorem Glb.same {w w' : World} (h : Glb w) (hk : ∀ a v, a.block < 8 → w.cell? a = some v → w'.cell? a = some v) : Glb w' := by
  obtain ⟨⟨m, hm⟩, ⟨v1, h1, h2⟩, ⟨v2, h3, h4⟩⟩ := h
  exact ⟨⟨m, hk _ _ (by decide) hm⟩, ⟨v1, hk _ _ (by decide) h1, h2⟩, ⟨v2, hk _ _ (by decide) h3, h4⟩⟩
theorem Glb.mv {b : Nat} {w w' : World} (h : Glb w) (k : Mv b w w') (hb : 8 ≤ b) : Glb w' := h.same fun _ _ ha hc => k.cell hc (by omega)
theorem Glb.below {w w' : World} (h : Glb w) (k : Below w.heap.size w w') : Glb w' := h.same fun a _ _ hc => (k.cell (World.block_lt_of_cell? w a hc)).trans hc
theorem Glb.drewN {w : World} (h : Glb w) (n : Nat) : Glb (w.drewN n) := h

theorem cut_calls (t : List UInt8) (c : UInt8) (w : World) (hg : Glb w) (hl : t.length ≤ 1000000000) :
    Calls Tryz.prog 27 #[.string ⟨t.toArray⟩, .string ⟨#[c]⟩] w fun e w' => e = .returned (.tuple #[.string ⟨(Hx.ahead c t).toArray⟩, .string ⟨(Hx.behind c t).toArray⟩, .bool (decide (c ∈ t))]) ∧ ∃ n, w' = w.drewN n := by
  obtain ⟨m, hm⟩ := hg.1
  have h := Tryz.strings_Cut ⟨t.toArray⟩ ⟨#[c]⟩ m w (by rw [size_list]; omega) hm
  rw [show (⟨t.toArray⟩ : ByteArray).data.toList = t by simp, show (⟨#[c]⟩ : ByteArray).data.toList = [c] from rfl, cutOf] at h
  exact h

theorem suffix_one (l : List UInt8) (c : UInt8) : Lib.hasSuffix l [c] = decide (l.getLast? = some c) := by
  unfold Lib.hasSuffix
  rw [Bool.eq_iff_iff, decide_eq_true_iff, List.isSuffixOf_iff_suffix]
  constructor
  · rintro ⟨t, rfl⟩; simp
  · intro h
    obtain ⟨hne, he⟩ := List.getLast?_eq_some_iff.1 h
    exact ⟨hne, he.symm⟩
theorem trimSuffix_one (l : List UInt8) (c : UInt8) : Lib.trimSuffix l [c] = if l.getLast? = some c then l.dropLast else l := by
  unfold Lib.trimSuffix
  rw [suffix_one]
  by_cases h : l.getLast? = some c
  · rw [if_pos (by simpa using h), if_pos h, List.dropLast_eq_take]; rfl
  · rw [if_neg (by simpa using h), if_neg h]
theorem cutSuffix_calls (t : List UInt8) (c : UInt8) (w : World) (hl : t.length ≤ 1000000000) :
    Calls Tryz.prog 50 #[.string ⟨t.toArray⟩, .string ⟨#[c]⟩] w fun e w' => e = .returned (.tuple #[.string ⟨(if t.getLast? = some c then t.dropLast else t : List UInt8).toArray⟩, .bool (decide (t.getLast? = some c))]) ∧ w' = w := by
  have h := Tryz.strings_CutSuffix ⟨t.toArray⟩ ⟨#[c]⟩ w (by rw [size_list]; omega)
  rw [show (⟨t.toArray⟩ : ByteArray).data.toList = t by simp, show (⟨#[c]⟩ : ByteArray).data.toList = [c] from rfl, suffix_one, trimSuffix_one] at h
  exact h
theorem contains_calls (t : List UInt8) (c : UInt8) (w : World) :
    Calls Tryz.prog 51 #[.string ⟨t.toArray⟩, .string ⟨#[c]⟩] w fun e w' => e = .returned (.bool (decide (c ∈ t))) ∧ w' = w := by
  have h := Tryz.strings_Contains_one ⟨t.toArray⟩ c w
  rw [show (⟨t.toArray⟩ : ByteArray).data.toList = t by simp, ixOf] at h
  have e : decide ((0 : Int) ≤ if c ∈ t then (t.idxOf c : Int) else -1) = decide (c ∈ t) := by
    by_cases hc : c ∈ t
    · rw [if_pos hc, decide_eq_true hc, decide_eq_true_iff]; omega
    · rw [if_neg hc, decide_eq_false hc]; rfl
  rw [e] at h
  exact h

def strV (t : List UInt8) : Value := .string ⟨t.toArray⟩

theorem trim_calls (t : List UInt8) (w : World) (hl : t.length ≤ 1000000000) :
    Calls Tryz.prog 81 #[.string ⟨t.toArray⟩, .string ⟨#[32, 9]⟩] w fun e w' => e = .returned (.string ⟨(Hx.trim t).toArray⟩) ∧ Below w.heap.size w w' := by
  have h := Any.strings_Trim_laid Tryz.lays160 (by kernel_rfl) ⟨t.toArray⟩ ⟨#[32, 9]⟩ w (by rw [size_list]; omega) (by decide) (ascii_of_all (by decide))
  have e : Lib.trimS (⟨t.toArray⟩ : ByteArray).data.toList (⟨#[32, 9]⟩ : ByteArray).data.toList = Hx.trim t := by
    unfold Lib.trimS Lib.trimLeftS Lib.trimRightS Hx.trim
    have hc : (fun x : UInt8 => (⟨#[32, 9]⟩ : ByteArray).data.toList.contains x) = Hx.isBlank := by
      funext x
      rw [Bool.eq_iff_iff]
      simp [Hx.isBlank]
    rw [hc]
  rw [e] at h
  exact h

theorem splitOf : ∀ (k : Nat) (l : List UInt8), Lib.splitK [44] 0 k l = Hx.splitN k l
  | 0, l => rfl
  | k + 1, l => by
    unfold Lib.splitK Hx.splitN
    rw [Lib.index_one, ixOf]
    by_cases h : 44 ∈ l
    · rw [if_pos h, if_neg (by simp), if_pos h, splitOf k]
      simp [Hx.ahead, Hx.behind]
    · rw [if_neg h, if_pos (by decide), if_neg h]
theorem split_calls (t : List UInt8) (w : World) (hg : Glb w) (hl : t.length ≤ 1000000000) :
    Calls Tryz.prog 82 #[.string ⟨t.toArray⟩, .string ⟨#[44]⟩] w fun e w' => e = .returned (.slice (some ⟨w.heap.size, 0, none⟩) (Hx.split t).length (Hx.split t).length) ∧ w' = w.alloc (.cells ((Hx.split t).map strV).toArray 9) := by
  obtain ⟨m, hm⟩ := hg.1
  have h := Tryz.strings_Split ⟨t.toArray⟩ ⟨#[44]⟩ m w (by rw [size_list]; omega) hm (by decide)
  have hd := Lib.splitB_data ⟨#[44]⟩ 0 (Lib.countB ⟨t.toArray⟩ ⟨#[44]⟩) ⟨t.toArray⟩
  have hc : Lib.countB ⟨t.toArray⟩ ⟨#[44]⟩ = t.count 44 := Lib.count_one 44 t
  have ha := Lib.splitB_all ⟨#[44]⟩ (by decide) 0 _ ⟨t.toArray⟩ rfl
  rw [hc] at h hd ha
  rw [show (⟨#[44]⟩ : ByteArray).data.toList = [44] from rfl, show (⟨t.toArray⟩ : ByteArray).data.toList = t by simp, splitOf] at hd
  have hs : (Hx.split t).length = t.count 44 + 1 := by
    show (Hx.splitN _ _).length = _
    rw [← hd, List.length_map, ha]
  have hv : (Lib.splitB ⟨#[44]⟩ 0 (t.count 44) ⟨t.toArray⟩).map Value.string = (Hx.split t).map strV := by
    show _ = (Hx.splitN _ _).map strV
    rw [← hd, List.map_map]
    rfl
  rw [hs, ← hv]
  exact h
end Go.Proofs.YthdmdafhldicmaaGreatDoor
