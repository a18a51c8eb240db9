/- The closure add of command.words: it appends to the captured slice. -/
import Derived.Test.YtamjhnibenonjaaGreatDoorPCSame
namespace Go.Proofs.YtamjhnibenonjaaGreatDoor
set_option linter.unusedVariables false
set_option linter.unusedSimpArgs false
open Go Go.RowKit
/-- A box that holds a slice of strings of its own. -/
structure OutIn (w : World) (base ob : Nat) (l : List ByteArray) : Prop where
  ex : ∃ v, w.heap[ob]? = some (.cells #[v] 22 (0, 0)) ∧ w.ownsRow base 9 1 v l.length (l.map .string) ∧ v.ownBlock ≠ some ob
  hb : base ≤ ob
/-- The blocks that add may turn: the box, and a row of strings of its own. -/
def AddS (w : World) (base ob k : Nat) : Prop := base ≤ k ∧ (k = ob ∨ ∃ cur, w.heap[k]? = some (.cells cur 9 (0, 0)))
set_option maxHeartbeats 1000000 in
set_option maxRecDepth 100000 in
theorem add_any (base ob : Nat) (l m : List ByteArray) (v : Value) (w : World) (h : OutIn w base ob l) (ad : Addr) (cap : Nat) (hv : v = .slice (some ad) m.length cap) (hm : ∀ (j : Nat) (u : Value), (m.map Value.string)[j]? = some u → w.cell? (ad.add j) = some u) (hl : l.length + m.length ≤ 1000000) :
    Calls Tryz.prog 37 #[v, .pointer (some ⟨ob, 0, none⟩)] w fun e w' => e = .returned (.tuple #[]) ∧ OutIn w' base ob (l ++ m) ∧ Keep (AddS w base ob) w w' := by
  obtain ⟨sv, hbx, hown, hne⟩ := h.ex
  obtain ⟨sa, sc, rfl⟩ := owns_slice hown
  have hc := cell_of_block hbx
  have hf := free_of_block hbx
  subst hv
  obtain ⟨i0, hi, hz0, hz1, hz2'⟩ := info_parts infoString
  have HI0 := Lib.hid hi
  have HZ0 := Lib.hid hz0
  have HZ1 := Lib.hid hz1
  have HZ2 := Lib.hid hz2'
  clear hi hz0 hz1 hz2'
  go_enter Tryz.func37, Tryz.ntmps37
  have HB := Lib.hid hbx
  have HO := Lib.hid hown
  have HM := Lib.hid hm
  have hbl := h.hb
  have hob := lt_of_block hbx
  clear hbx hown hm h
  go_wp2_with (at_builtin; refine wpList_append_own_at _ rfl _ _ 22 rfl base 9 i0 (.string ⟨#[]⟩) 1 16 Tryz.underlying22 HI0.out HZ0.out HZ1.out HZ2.out rfl (by decide) (.slice sa l.length sc) l.length (l.map .string) rfl HO.out ad m.length cap (m.map .string) rfl (by simp) HM.out (by simp [Value.oneCell']) (by unfold maxLen; omega) (by omega) (by omega) ?_
               intro v6 w6 hown6 hgrow6 hnil6 hat6
               obtain ⟨ga, gc, rfl⟩ := owns_slice hown6
               have hb6 : w6.heap[ob]? = _ := (hgrow6.block ob hob (fun e => hne e.symm)).trans HB.out
               have hc6 := cell_of_block hb6
               have hf6 := free_of_block hb6
               have HB6 := Lib.hid hb6
               have HO6 := Lib.hid hown6
               have HG6 := Lib.hid hgrow6
               have HAT := Lib.hid hat6
               clear hb6 hown6 hgrow6 hnil6 hat6)
  go_end0
  have hk6 : Keep (AddS w base ob) w w6 := (Keep.refl _ w).grown HG6.out (fun k hk => by
    rcases HO.out.2 with ⟨hn, -⟩ | ⟨g, cap', cur, hv, hb', hg', -⟩
    · rw [hn] at hk; cases hk
    · rw [hv] at hk
      simp only [Value.ownBlock, Option.some.injEq] at hk
      subst hk
      exact .inl ⟨(HO.out.lt g (by rw [hv]; rfl)).1, .inr ⟨cur, hg'⟩⟩)
  have hlt6 := HO6.out.lt
  have hne6 : some ga ≠ some (⟨ob, 0, none⟩ : Addr) ∨ True := .inr trivial
  have hapart : (Value.slice ga (l.length + m.length) gc).ownBlock ≠ some ob := by
    rcases HAT.out with e | e
    · rw [e]; exact hne
    · rw [e]; simp; omega
  refine ⟨rfl, ⟨⟨_, by rw [block_setCell HB6.out]; rfl, ?_, ?_⟩, hbl⟩, hk6.setCell (.inl ⟨hbl, .inl rfl⟩) _⟩
  · have := ((Keep.refl (fun k => k = ob) w6).setCell (p := ⟨ob, 0, none⟩) (.inl rfl) (.slice ga (l.length + m.length) gc)).ownsRow HO6.out (fun k hk e => hapart (e ▸ hk))
    simpa using this
  · simpa using hapart
end Go.Proofs.YtamjhnibenonjaaGreatDoor
