/- What the row says of the library's variables: as the walks ask it. -/
import Derived.Test.YtamjhnibenonjaaGreatDoorPErrs2
import Derived.Test.YtamjhnibenonjaaGreatDoorRows
import Derived.Lib.LaidU8
import Derived.PinnedBridge
import Derived.MakeChecks
namespace Go.Proofs.YtamjhnibenonjaaGreatDoor
set_option linter.unusedVariables false
set_option linter.unusedSimpArgs false
open Go Go.RowKit Go.ChangeShapes Go.WideShapes
theorem iface_cell {H : Type} {enc : TypeId × Value → H} {P : Program} {w : World} {base : Nat} {sp : Nat → Bool} {held : Bool} {fuel : Nat} {t : TypeId} {ms : Array (String × TypeId)} {cs : List Value} {x : DataW H × List MemPlace} (ht : P.underlying t = some (.interface ms))
    (h : DataW.trod enc P w base sp held fuel t cs = some x) : ∃ ev, cs[0]? = some ev ∧ (ev = .nilIface ∨ ∃ te pe, ev = .iface te pe) := by
  cases fuel with
  | zero => simp [DataW.trod] at h
  | succ fuel =>
    rcases cs with _ | ⟨v, _ | ⟨u, r⟩⟩
    · simp [DataW.trod, ht] at h
    · cases v <;> first | (exact ⟨_, rfl, .inl rfl⟩) | (exact ⟨_, rfl, .inr ⟨_, _, rfl⟩⟩) | (simp [DataW.trod, ht] at h)
    · cases v <;> simp [DataW.trod, ht] at h
theorem var_lt {P : Program} {w : World} {n : String} {g : Nat} {cs : Array Value} (hg : P.globalNamed n = some g) (h : w.var? P n = some cs) : g < w.heap.size := by
  unfold World.var? at h
  rw [hg] at h
  simp only [Option.bind_some] at h
  cases hh : w.heap[g]? with
  | none => rw [hh] at h; cases h
  | some o => exact (Array.getElem?_eq_some_iff.1 hh).1
theorem tabs_of_reads {w : World} (h3 : Lib.VarReads Tryz.prog w "unicode/utf8.first" Lib.firstData) (h4 : Lib.VarReads Tryz.prog w "unicode/utf8.acceptRanges" Lib.acceptData) : Lib.Utf8Tabs 1 2 w := by
  refine ⟨fun c hc => ?_, fun i hi => ?_⟩
  · obtain ⟨g, t, cs, fuel, p, hg, hty, hvar, hd⟩ := h3
    obtain rfl := Option.some.inj ((show Tryz.prog.globalNamed "unicode/utf8.first" = some 1 by kernel_rfl).symm.trans hg)
    obtain rfl := Option.some.inj ((show (Tryz.prog.globals[1]?).map (·.type) = some 159 by kernel_rfl).symm.trans hty)
    have hcs := Lib.cells_of_tab Tryz.underlying159 Tryz.underlying5 (by kernel_rfl) (by kernel_rfl) hd
    have := World.var?_cell hg hvar c
    rw [this, ← Array.getElem?_toList, hcs]
    simp [Lib.firstTab, hc]
  · obtain ⟨g, t, cs, fuel, p, hg, hty, hvar, hd⟩ := h4
    obtain rfl := Option.some.inj ((show Tryz.prog.globalNamed "unicode/utf8.acceptRanges" = some 2 by kernel_rfl).symm.trans hg)
    obtain rfl := Option.some.inj ((show (Tryz.prog.globals[2]?).map (·.type) = some 162 by kernel_rfl).symm.trans hty)
    obtain ⟨fuel', d, q, hdi, he⟩ := Lib.array_elem Tryz.underlying162 hd i hi
    simp only [List.getElem?_map, List.getElem?_range hi, Option.map_some, Option.some.injEq] at hdi
    subst hdi
    have c138 : Tryz.prog.cellsOf 161 = 2 := by kernel_rfl
    have c5 : Tryz.prog.cellsOf 5 = 1 := by kernel_rfl
    rw [c138] at he
    have hcs := Lib.ints_of_struct Tryz.underlying161 (fun j f hj => by
      match j, hj with
      | 0, hj => simp at hj; subst hj; exact ⟨Tryz.underlying5, rfl, c5⟩
      | 1, hj => simp at hj; subst hj; exact ⟨Tryz.underlying5, rfl, c5⟩
      | j + 2, hj => simp at hj) (by rw [c138]; rfl) he
    have e0 := congrArg (·[0]?) hcs
    have e1 := congrArg (·[1]?) hcs
    simp only [List.getElem?_take, List.getElem?_drop] at e0 e1
    constructor
    · rw [World.var?_cell hg hvar (2 * i), ← Array.getElem?_toList]
      simpa [Nat.mul_comm] using e0
    · rw [World.var?_cell hg hvar (2 * i + 1), ← Array.getElem?_toList]
      simpa [Nat.mul_comm] using e1
theorem glob_of_laid {W : World} {laid : List (String × DataW Unit)} (hp : (laid.all fun x => x.2.handleName?.isNone) = true) (hl : laidMetH Tryz.prog laid W) (hs : W.ShapedOpen Tryz.prog)
    (m1 : ("math/bits.deBruijn64tab", Rows.laid_math_bits_deBruijn64tab) ∈ laid) (m2 : ("unicode/utf8.acceptRanges", Rows.laid_unicode_utf8_acceptRanges) ∈ laid) (m3 : ("strconv.ErrRange", Rows.laid_strconv_ErrRange) ∈ laid)
    (m4 : ("strconv.ErrSyntax", Rows.laid_strconv_ErrSyntax) ∈ laid) (m5 : ("unicode/utf8.first", Rows.laid_unicode_utf8_first) ∈ laid) : Glob W := by
  rw [MakeChecks.laidMetH_plain _ _ _ hp] at hl
  refine ⟨?_, ?_, ?_, ?_, ?_⟩
  · obtain ⟨g, t, cs, fuel, p, hg, hty, hvar, hd⟩ := Lib.laidMet.reads hl m1
    obtain rfl := Option.some.inj ((show Tryz.prog.globalNamed "math/bits.deBruijn64tab" = some 9 by kernel_rfl).symm.trans hg)
    exact var_lt hg hvar
  · exact Tryz.laysM219.s1_3 W hs
  · obtain ⟨g, t, cs, fuel, p, hg, hty, hvar, hd⟩ := Lib.laidMet.reads hl m4
    obtain rfl := Option.some.inj ((show Tryz.prog.globalNamed "strconv.ErrSyntax" = some 3 by kernel_rfl).symm.trans hg)
    obtain rfl := Option.some.inj ((show (Tryz.prog.globals[3]?).map (·.type) = some 88 by kernel_rfl).symm.trans hty)
    obtain ⟨ev, h1, h2⟩ := iface_cell Tryz.underlying88 hd
    exact ⟨ev, (World.var?_cell hg hvar 0).trans (by rw [← Array.getElem?_toList]; exact h1), h2⟩
  · obtain ⟨g, t, cs, fuel, p, hg, hty, hvar, hd⟩ := Lib.laidMet.reads hl m3
    obtain rfl := Option.some.inj ((show Tryz.prog.globalNamed "strconv.ErrRange" = some 4 by kernel_rfl).symm.trans hg)
    obtain rfl := Option.some.inj ((show (Tryz.prog.globals[4]?).map (·.type) = some 88 by kernel_rfl).symm.trans hty)
    obtain ⟨ev, h1, h2⟩ := iface_cell Tryz.underlying88 hd
    exact ⟨ev, (World.var?_cell hg hvar 0).trans (by rw [← Array.getElem?_toList]; exact h1), h2⟩
  · refine tabs_of_reads ?_ ?_
    · have := Lib.laidMet.reads hl m5
      rwa [show Rows.laid_unicode_utf8_first = Lib.firstData from Go.Pinned.utf8First_eq] at this
    · have := Lib.laidMet.reads hl m2
      rwa [show (Rows.laid_unicode_utf8_acceptRanges : DataW Unit) = Lib.acceptData by kernel_rfl] at this
end Go.Proofs.YtamjhnibenonjaaGreatDoor
