/- The reader's method wishes. -/
import Derived.Test.YtamjhnibenonjaaGreatDoorPRd4
import Derived.Deep.RegionHeld3
import Derived.Deep.AppendLies
namespace Go.Proofs.YtamjhnibenonjaaGreatDoor
set_option linter.unusedVariables false
set_option linter.unusedSimpArgs false
open Go Go.RowKit
theorem indexB_ge (s sep : ByteArray) : -1 ≤ Lib.indexB s sep := Lib.index_ge _ _
theorem extract_size_le (s : ByteArray) (a b : Nat) : (s.extract a b).size ≤ s.size := by
  rw [ByteArray.size_extract]; omega
theorem splitB_size (sep : ByteArray) : ∀ (k : Nat) (s : ByteArray), ∀ x ∈ Lib.splitB sep 0 k s, x.size ≤ s.size
  | 0, s, x, hx => by rw [Lib.splitB_zero] at hx; simp at hx; rw [hx]; exact Nat.le_refl _
  | k + 1, s, x, hx => by
    rcases Int.lt_or_le (Lib.indexB s sep) 0 with h | h
    · rw [Lib.splitB_miss _ _ _ _ (by have : -1 ≤ Lib.indexB s sep := indexB_ge s sep; omega)] at hx
      simp at hx; rw [hx]; exact Nat.le_refl _
    · obtain ⟨i, hi⟩ := Int.eq_ofNat_of_zero_le h
      rw [Lib.splitB_hit _ _ _ _ i hi] at hx
      rcases List.mem_cons.1 hx with rfl | hx
      · exact extract_size_le _ _ _
      · exact Nat.le_trans (splitB_size sep k _ x hx) (extract_size_le _ _ _)
theorem splitAt_size (s sep : ByteArray) : ∀ x ∈ splitAt s sep, x.size ≤ s.size := splitB_size sep _ s
theorem splitAt_length (s sep : ByteArray) (h : 1 ≤ sep.size) : (splitAt s sep).length = Lib.countB s sep + 1 := Lib.splitB_all sep h 0 _ s rfl
theorem named_c (R : Rd) (s : ByteArray) : (R.named s).c = R.c := by unfold Rd.named; split; rfl; exact fail_c _ _
theorem named_args (R : Rd) (s : ByteArray) : (R.named s).args = R.args := by unfold Rd.named; split; rfl; exact fail_args _ _
/-- The loop's relation. -/
structure WishInv (B b : Nat) (w wr : World) (k : Nat) (Rk goal : Rd) : Prop where
  ok : RdOk B wr b Rk
  args : ArgsOk Rk.args
  len : Rk.args.length ≤ k
  small : Rk.c.wishes.length + k ≤ 1000
  keep : Below B w wr
  goal_ : Rk.wishLoop k = goal
theorem wishOf_args (R : Rd) (f0 f1 f2 : ByteArray) : (R.wishOf f0 f1 f2).args = R.args := by
  simp only [Rd.wishOf, Rd.addWish, Rd.setWishes, number_args, named_args]
theorem wishOf_wishes (R : Rd) (f0 f1 f2 : ByteArray) : (R.wishOf f0 f1 f2).c.wishes.length = R.c.wishes.length + 1 := by
  simp [Rd.wishOf, Rd.addWish, Rd.setWishes, number_path, named_c]
theorem wish_close {B b : Nat} {w5 w6 : World} {R3 : Rd} {pv wv av : Value} (h : RdParts B w5 b R3 pv wv av) (x : Wish) (O : Obj) (n : Nat) (hn : n = R3.c.wishes.length) {gg cap : Nat}
    (hg : (w5.alloc O).grownBy w6 wv.ownBlock) (hown : w6.ownsRow (b + 1) 42 3 (.slice (some ⟨gg, 0, none⟩) (n + 1) cap) (n + 1) (R3.c.wishes.flatMap Wish.cells ++ Wish.cells x)) (hat : wv.ownBlock = some gg ∨ gg = w5.heap.size + 1)
    (hb6 : w6.heap[b]? = some (.cells (rdCells R3 pv wv av) 55 (0, 0))) :
    RdAt B (w6.setCell ⟨b, 9, none⟩ (.slice (some ⟨gg, 0, none⟩) (n + 1) cap)) b (R3.addWish x) ∧ Below B w5 (w6.setCell ⟨b, 9, none⟩ (.slice (some ⟨gg, 0, none⟩) (n + 1) cap)) := by
  subst hn
  have hlt := lt_of_block h.blk
  have hBb := h.hB
  have hpl := h.path.lt
  have hwl := h.wishes.lt
  have hB6 : Below B w5 w6 := ((Below.refl B w5).alloc (by omega) O).grown hg (by simp; omega) (fun k hk => by have := hwl k hk; omega)
  have hpath6 : w6.ownsRow (b + 1) 9 1 pv R3.c.path.length (R3.c.path.map .string) :=
    (h.path.alloc O).kept hg (by
      cases hp : pv.ownBlock with
      | none => exact .inl rfl
      | some k => exact .inr (fun e => h.apart k hp e.symm))
  have hgg : b + 1 ≤ gg := (hown.lt gg rfl).1
  refine ⟨⟨pv, _, av, by rw [block_setCell hb6]; rfl, hBb, ?_, ?_, ?_, (h.args.below hB6).below ((Below.refl _ _).setCell (p := ⟨b, 9, none⟩) hBb _)⟩, hB6.setCell (p := ⟨b, 9, none⟩) hBb _⟩
  · exact ownsRow_setCell_below hpath6 (by show b < b + 1; omega) _
  · have := ownsRow_setCell_below hown (a := ⟨b, 9, none⟩) (by show b < b + 1; omega) (.slice (some ⟨gg, 0, none⟩) (R3.c.wishes.length + 1) cap)
    simpa [Rd.addWish, Rd.setWishes] using this
  · intro k hk e
    simp only [Value.ownBlock, Option.some.injEq] at e
    subst e
    rcases hat with hat | hat
    · exact h.apart _ hk hat
    · have := hpl _ hk; omega
theorem infoWish : (Tryz.prog.info? 42).map (fun i => (i.zero, i.size, i.bytes)) = some (some (.agg #[.string ⟨#[]⟩, .int .i64 0, .int .i64 0]), 3, 32) := by kernel_rfl
set_option maxHeartbeats 4000000 in
set_option maxRecDepth 100000 in
theorem wishes_any (B b : Nat) (R : Rd) (w : World) (h : RdOk B w b R) (ho : ArgsOk R.args) (hl : R.args.length ≤ 20) (hw : R.c.wishes.length ≤ 500) (T : Rd) (hT : R.wishLoop R.args.length = T) :
    Calls Tryz.prog 31 #[.pointer (some ⟨b, 0, none⟩)] w fun en w' => en = .returned (.tuple #[]) ∧ RdAt B w' b T ∧ Below B w w' := by
  have H := Lib.hid h
  have HO := Lib.hid ho
  have HT := Lib.hid hT
  clear hT
  obtain ⟨pv, wv, av, hc, hf, hp⟩ := h.at_.cells
  obtain ⟨a, c, rfl, hlc, hcm, hel⟩ := hp.args
  simp only [rdCells] at hc
  have hl1 : decide (20 < (R.args.length : Int)) = false := by simp; omega
  clear h ho hp hel
  go_enter Tryz.func31, Tryz.ntmps31
  go_wp2
  go_loopg [2] R.args.length (fun k _ wr => ∃ Rk, Hid (WishInv B b w wr k Rk T))
  case atStart => exact ⟨R, ⟨H.out, HO.out, Nat.le_refl _, by omega, Below.refl _ _, HT.out⟩⟩
  case round =>
    obtain ⟨Rk, HI⟩ := hrel
    clear hc hf hl1
    obtain ⟨pv, wv, av, hc, hf, hp⟩ := HI.out.ok.at_.cells
    obtain ⟨a, c, rfl, hlc, hcm, hel⟩ := hp.args
    simp only [rdCells] at hc
    clear hp hel
    by_cases hz : Rk.args = []
    · have hz1 : Rk.args.length = 0 := by rw [hz]; rfl
      rw [hz1] at hc
      have HZ := Lib.hid hz
      clear hz hz1 hlc
      go_wp2
      go_end0
      refine ⟨rfl, ?_, HI.out.keep⟩
      rw [← HI.out.goal_]
      have : ∀ k, Rk.wishLoop k = Rk := by intro k; cases k <;> simp [Rd.wishLoop, HZ.out]
      rw [this]
      exact HI.out.ok.at_
    · cases gk with
      | zero => exact absurd (List.eq_nil_of_length_eq_zero (by have := HI.out.len; omega)) hz
      | succ k =>
      have hz2 : 0 < Rk.args.length := by
        rcases Nat.eq_zero_or_pos Rk.args.length with e | e
        · exact absurd (List.eq_nil_of_length_eq_zero e) hz
        · exact e
      have hz3 : decide (0 < (Rk.args.length : Int)) = true := by simp; omega
      have hgoal := HI.out.goal_
      unfold Rd.wishLoop at hgoal
      rw [if_neg hz] at hgoal
      have HG := Lib.hid hgoal
      clear hz hgoal
      go_wp2_with fail
      refine (next_any B b Rk _ HI.out.ok.at_).mono ?_
      rintro e w1 ⟨rfl, h1, hb1⟩
      have H1 := Lib.hid (HI.out.ok.next h1 hb1)
      have HB1 := Lib.hid hb1
      clear h1 hb1
      have hsz := HI.out.args.arg
      obtain ⟨m, hm⟩ := H1.out.glob.maxLen
      have hS := Tryz.strings_Split Rk.arg colonB m w1 (by omega) hm (by decide)
      have e3 := splitAt_length Rk.arg colonB (by decide)
      have e4 : Lib.splitB colonB 0 (Lib.countB Rk.arg colonB) Rk.arg = splitAt Rk.arg colonB := rfl
      rw [e4, ← e3] at hS
      have hss := splitAt_size Rk.arg colonB
      by_cases hn : (splitAt Rk.arg colonB).length = 3
      · obtain ⟨f0, f1, f2, hf3⟩ : ∃ f0 f1 f2, splitAt Rk.arg colonB = [f0, f1, f2] := by
          rcases hx : splitAt Rk.arg colonB with _ | ⟨f0, _ | ⟨f1, _ | ⟨f2, _ | ⟨f3, l⟩⟩⟩⟩ <;> rw [hx] at hn <;> simp at hn
          exact ⟨f0, f1, f2, rfl⟩
        rw [hf3] at hS hss
        simp only [List.length_cons, List.length_nil, Nat.zero_add, Nat.reduceAdd, List.map_cons, List.map_nil] at hS
        have s0 : f0.size ≤ Rk.arg.size := hss f0 (by simp)
        have s1 : f1.size ≤ Rk.arg.size := hss f1 (by simp)
        have s2 : f2.size ≤ Rk.arg.size := hss f2 (by simp)
        have hg := HG.out
        rw [hf3] at hg
        simp only at hg
        have HG3 := Lib.hid hg
        clear hg HG hss hn e3 e4 hf3
        go_wp2_with fail
        refine hS.mono ?_
        rintro e w2 ⟨rfl, rfl⟩
        clear hS hm hc hf
        have hlt1 := H1.out.at_.lt
        have hglob := H1.out.glob
        obtain ⟨pv, wv, av, hp1⟩ := H1.out.at_
        have hp2 := hp1.later ((Keep.refl (fun _ => False) w1).alloc (Obj.cells #[.string f0, .string f1, .string f2] 9))
        have hF2 := block_new w1 (Obj.cells #[.string f0, .string f1, .string f2] 9)
        have hwv := hp1.wishes.lt
        have hg2 := hglob.below ((Below.refl _ w1).alloc (Nat.le_refl _) (Obj.cells #[.string f0, .string f1, .string f2] 9)) hglob.size
        have hb2 : Below B w1 (w1.alloc (Obj.cells #[.string f0, .string f1, .string f2] 9)) := (Below.refl _ _).alloc (by omega) _
        obtain ⟨F, hFe⟩ : ∃ F, F = w1.heap.size := ⟨_, rfl⟩
        have hFb : F ≠ b := by omega
        rw [← hFe] at hF2
        have hcf2 := cell_of_block hF2
        have hcb2 := cell_of_block hp2.blk
        simp only [rdCells] at hcb2
        obtain ⟨i0, hi, hz0, hz1, hz2'⟩ := info_parts infoWish
        have HP2 := Lib.hid hp2
        have HF2 := Lib.hid hF2
        have HG2 := Lib.hid hg2
        have HWV := Lib.hid hwv
        have HFE := Lib.hid hFe
        have HB2 := Lib.hid hb2
        have HI0 := Lib.hid hi
        have HZ0 := Lib.hid hz0
        have HZ1 := Lib.hid hz1
        have HZ2 := Lib.hid hz2'
        rw [← hFe]
        clear hp1 hp2 hF2 hwv hg2 hglob hb2 hi hz0 hz1 hz2'
        clear hFe
        generalize w1.alloc (Obj.cells #[.string f0, .string f1, .string f2] 9) = W2 at *
        go_wp2_with fail
        have HP2d := Lib.hid (HP2.out.later ((Keep.refl (fun _ => False) W2).drew))
        have HG2d := Lib.hid (HG2.out.below (Below.refl W2.heap.size W2).drew (by have := HG2.out.size; omega))
        have HF2d : Hid (W2.drew.heap[F]? = _) := HF2.out
        refine wp_region_held_drew (S := fun w' => ∀ o, w'.cell? ⟨F, o, none⟩ = (#[.string f0, .string f1, .string f2] : Array Value)[o]?) (by kernel_rfl) (cell_of_block HF2d.out) (fun hHeld => ?_)
        have hbase := H1.out.base
        have hcw := HI.out.small
        refine wpAnyH_take (i := 0) (v := ?_) rfl (by kernel_rfl) (by kernel_rfl) (by kernel_rfl) (fun _ _ _ h => h) (Or.inl ⟨by rfl, ?_⟩) (by assumption) ?_
        rotate_left
        · intro w hSw; (try dsimp only at hSw); go_simp; with_reducible rfl
        try simp only [Act.put, List.setIfInBounds_toArray, List.set_cons_zero, List.set_cons_succ]
        refine wpAnyH_take (i := 1) (v := ?_) rfl (by kernel_rfl) (by kernel_rfl) (by kernel_rfl) (fun _ _ _ h => h) (Or.inl ⟨by rfl, ?_⟩) (by assumption) ?_
        rotate_left
        · intro w hSw; (try dsimp only at hSw); go_simp; with_reducible rfl
        try simp only [Act.put, List.setIfInBounds_toArray, List.set_cons_zero, List.set_cons_succ]
        refine wpAnyH_take (i := 2) (v := ?_) rfl (by kernel_rfl) (by kernel_rfl) (by kernel_rfl) (fun _ _ _ h => h) (Or.inl ⟨by rfl, ?_⟩) (by assumption) ?_
        rotate_left
        · intro w hSw; (try dsimp only at hSw); go_simp; with_reducible rfl
        try simp only [Act.put, List.setIfInBounds_toArray, List.set_cons_zero, List.set_cons_succ]
        refine wpAnyH_take (i := 3) (v := ?_) rfl (by kernel_rfl) (by kernel_rfl) (by kernel_rfl) (fun _ _ _ h => h) (Or.inl ⟨by rfl, ?_⟩) (by assumption) ?_
        rotate_left
        · intro w hSw; (try dsimp only at hSw); go_simp; with_reducible rfl
        try simp only [Act.put, List.setIfInBounds_toArray, List.set_cons_zero, List.set_cons_succ]
        refine wpAnyH_take (i := 4) (v := ?_) rfl (by kernel_rfl) (by kernel_rfl) (by kernel_rfl) (fun _ _ _ h => h) (Or.inl ⟨by rfl, ?_⟩) (by assumption) ?_
        rotate_left
        · intro w hSw; (try dsimp only at hSw); go_simp; with_reducible rfl
        try simp only [Act.put, List.setIfInBounds_toArray, List.set_cons_zero, List.set_cons_succ]
        refine wpAnyH_take (i := 6) (v := ?_) rfl (by kernel_rfl) (by kernel_rfl) (by kernel_rfl) (fun _ _ _ h => h) (Or.inl ⟨by rfl, ?_⟩) (by assumption) ?_
        rotate_left
        · intro w hSw; (try dsimp only at hSw); go_simp; with_reducible rfl
        try simp only [Act.put, List.setIfInBounds_toArray, List.set_cons_zero, List.set_cons_succ]
        refine wpAnyH_take (i := 7) (v := ?_) rfl (by kernel_rfl) (by kernel_rfl) (by kernel_rfl) (fun _ _ _ h => h) (Or.inl ⟨by rfl, ?_⟩) (by assumption) ?_
        rotate_left
        · intro w hSw; (try dsimp only at hSw); go_simp; with_reducible rfl
        try simp only [Act.put, List.setIfInBounds_toArray, List.set_cons_zero, List.set_cons_succ]
        refine wpAnyH_take (i := 8) (v := ?_) rfl (by kernel_rfl) (by kernel_rfl) (by kernel_rfl) (fun _ _ _ h => h) (Or.inl ⟨by rfl, ?_⟩) (by assumption) ?_
        rotate_left
        · intro w hSw; (try dsimp only at hSw); go_simp; with_reducible rfl
        try simp only [Act.put, List.setIfInBounds_toArray, List.set_cons_zero, List.set_cons_succ]
        refine wpAnyH_take (i := 9) (v := ?_) rfl (by kernel_rfl) (by kernel_rfl) (by kernel_rfl) (fun _ _ _ h => h) (Or.inl ⟨by rfl, ?_⟩) (by assumption) ?_
        rotate_left
        · intro w hSw; (try dsimp only at hSw); go_simp; with_reducible rfl
        try simp only [Act.put, List.setIfInBounds_toArray, List.set_cons_zero, List.set_cons_succ]
        refine wpAnyH_take (i := 11) (v := ?_) rfl (by kernel_rfl) (by kernel_rfl) (by kernel_rfl) (fun _ _ _ h => h) (Or.inl ⟨by rfl, ?_⟩) (by assumption) ?_
        rotate_left
        · intro w hSw; (try dsimp only at hSw); go_simp; with_reducible rfl
        try simp only [Act.put, List.setIfInBounds_toArray, List.set_cons_zero, List.set_cons_succ]
        refine wpAnyH_take (i := 12) (v := ?_) rfl (by kernel_rfl) (by kernel_rfl) (by kernel_rfl) (fun _ _ _ h => h) (Or.inl ⟨by rfl, ?_⟩) (by assumption) ?_
        rotate_left
        · intro w hSw; (try dsimp only at hSw); go_simp; with_reducible rfl
        try simp only [Act.put, List.setIfInBounds_toArray, List.set_cons_zero, List.set_cons_succ]
        refine wpAnyH_take (i := 13) (v := ?_) rfl (by kernel_rfl) (by kernel_rfl) (by kernel_rfl) (fun _ _ _ h => h) (Or.inl ⟨by rfl, ?_⟩) (by assumption) ?_
        rotate_left
        · intro w hSw; (try dsimp only at hSw); go_simp; with_reducible rfl
        try simp only [Act.put, List.setIfInBounds_toArray, List.set_cons_zero, List.set_cons_succ]
        refine wpAnyH_take (i := 14) (v := ?_) rfl (by kernel_rfl) (by kernel_rfl) (by kernel_rfl) (fun _ _ _ h => h) (Or.inl ⟨by rfl, ?_⟩) (by assumption) ?_
        rotate_left
        · intro w hSw; (try dsimp only at hSw); go_simp; with_reducible rfl
        try simp only [Act.put, List.setIfInBounds_toArray, List.set_cons_zero, List.set_cons_succ]
        refine wpAnyH_take (i := 16) (v := ?_) rfl (by kernel_rfl) (by kernel_rfl) (by kernel_rfl) (fun _ _ _ h => h) (Or.inl ⟨by rfl, ?_⟩) (by assumption) ?_
        rotate_left
        · intro w hSw; (try dsimp only at hSw); go_simp; with_reducible rfl
        try simp only [Act.put, List.setIfInBounds_toArray, List.set_cons_zero, List.set_cons_succ]
        refine wpAnyH_take (i := 17) (v := ?_) rfl (by kernel_rfl) (by kernel_rfl) (by kernel_rfl) (fun _ _ _ h => h) (Or.inl ⟨by rfl, ?_⟩) (by assumption) ?_
        rotate_left
        · intro w hSw; (try dsimp only at hSw); go_simp; with_reducible rfl
        try simp only [Act.put, List.setIfInBounds_toArray, List.set_cons_zero, List.set_cons_succ]
        refine wpAnyH_take (i := 18) (v := ?_) rfl (by kernel_rfl) (by kernel_rfl) (by kernel_rfl) (fun _ _ _ h => h) (Or.inl ⟨by rfl, ?_⟩) (by assumption) ?_
        rotate_left
        · intro w hSw; (try dsimp only at hSw); go_simp; with_reducible rfl
        try simp only [Act.put, List.setIfInBounds_toArray, List.set_cons_zero, List.set_cons_succ]
        refine wpAnyH_take (i := 19) (v := ?_) rfl (by kernel_rfl) (by kernel_rfl) (by kernel_rfl) (fun _ _ _ h => h) (Or.inl ⟨by rfl, ?_⟩) (by assumption) ?_
        rotate_left
        · intro w hSw; (try dsimp only at hSw); go_simp; with_reducible rfl
        try simp only [Act.put, List.setIfInBounds_toArray, List.set_cons_zero, List.set_cons_succ]
        refine wpAnyH_ready (rs := [5, 10]) (by kernel_rfl) (by simp) ?_
        refine AllReadyH.cons rfl (fun K hK => ?_) ?_
        · go_simp
          refine hK.out _ _ ?_ (fun hHeld => ?_)
          · assumption
          clear hK K
          try simp only [Act.put, List.setIfInBounds_toArray, List.set_cons_zero, List.set_cons_succ]
          refine wpAnyH_ready (rs := [10]) (by kernel_rfl) (by simp) ?_
          refine AllReadyH.cons rfl (fun K hK => ?_) ?_
          · go_simp
            refine (named_parts B b Rk.rest f0 _ pv wv av HP2d.out).mono ?_
            rintro e w3 ⟨rfl, h3, hk3⟩
            have hF3 := hk3.get HF2d.out hFb
            have hcf3 := cell_of_block hF3
            have hcb3 := cell_of_block h3.blk
            have hfb3 := free_of_block h3.blk
            simp only [rdCells] at hcb3
            have HP3 := Lib.hid h3
            have HF3 := Lib.hid hF3
            have HK3 := Lib.hid hk3
            clear h3 hF3 hk3
            go_wp2_with fail
            refine hK.out _ _ ?_ (fun hHeld => ?_)
            · exact hcf3
            clear hK K
            try simp only [Act.put, List.setIfInBounds_toArray, List.set_cons_zero, List.set_cons_succ]
            refine wpAnyH_ready (rs := [15]) (by kernel_rfl) (by simp) ?_
            refine AllReadyH.cons rfl (fun K hK => ?_) ?_
            · go_simp
              have HG3g := Lib.hid (HG2d.out.below (below_keep1 HK3.out hlt1.1 (lt_of_block HP2d.out.blk)) hbase)
              refine (number_parts B b _ f1 0 8 w3 pv wv av HP3.out HG3g.out (by omega)).mono ?_
              rintro e w4 ⟨rfl, h4, hk4⟩
              have hF4 := hk4.get HF3.out hFb
              have hcf4 := cell_of_block hF4
              have hcb4 := cell_of_block h4.blk
              have hfb4 := free_of_block h4.blk
              simp only [rdCells] at hcb4
              have HP4 := Lib.hid h4
              have HF4 := Lib.hid hF4
              have HK4 := Lib.hid hk4
              clear h4 hF4 hk4
              go_wp2_with fail
              refine hK.out _ _ ?_ (fun hHeld => ?_)
              · exact hcf4
              clear hK K
              try simp only [Act.put, List.setIfInBounds_toArray, List.set_cons_zero, List.set_cons_succ]
              refine wpAnyH_ready (rs := [20]) (by kernel_rfl) (by simp) ?_
              refine AllReadyH.cons rfl (fun K hK => ?_) ?_
              · go_simp
                have HG4g := Lib.hid (HG3g.out.below (below_keep1 HK4.out hlt1.1 (lt_of_block HP3.out.blk)) hbase)
                refine (number_parts B b _ f2 1 1048576 w4 pv wv av HP4.out HG4g.out (by omega)).mono ?_
                rintro e w5 ⟨rfl, h5, hk5⟩
                have hF5 := hk5.get HF4.out hFb
                have hcf5 := cell_of_block hF5
                have hcb5 := cell_of_block h5.blk
                have hfb5 := free_of_block h5.blk
                simp only [rdCells] at hcb5
                have hcb51 := cell_of_block1 h5.blk
                simp only [rdCells] at hcb51
                have HP5 := Lib.hid h5
                have HF5 := Lib.hid hF5
                have HK5 := Lib.hid hk5
                clear h5 hF5 hk5
                go_wp2_with fail
                refine hK.out _ _ ?_ (fun hHeld => ?_)
                · exact hcf5
                clear hK K
                try simp only [Act.put, List.setIfInBounds_toArray, List.set_cons_zero, List.set_cons_succ]
                refine wpAnyH_take (i := 21) (v := ?_) rfl (by kernel_rfl) (by kernel_rfl) (by kernel_rfl) (fun _ _ _ h => h) (Or.inl ⟨by rfl, ?_⟩) (by assumption) ?_
                rotate_left
                · intro w hSw; (try dsimp only at hSw); go_simp; with_reducible rfl
                try simp only [Act.put, List.setIfInBounds_toArray, List.set_cons_zero, List.set_cons_succ]
                refine wpAnyH_ready (rs := [22]) (by kernel_rfl) (by simp) ?_
                refine AllReadyH.cons rfl (fun K hK => ?_) ?_
                · go_simp
                  refine hK.out _ _ ?_ (fun hHeld => ?_)
                  · exact cell_of_block1 HF5.out _
                  clear hK K
                  try simp only [Act.put, List.setIfInBounds_toArray, List.set_cons_zero, List.set_cons_succ]
                  refine wpAnyH_ready (rs := [23]) (by kernel_rfl) (by simp) ?_
                  refine AllReadyH.cons rfl (fun K hK => ?_) ?_
                  · have hbw := lt_of_block HP5.out.blk
                    have hwv5 : (w5.ownsRow (b + 1) 42 3 wv Rk.c.wishes.length (Rk.c.wishes.flatMap Wish.cells)) := by have := HP5.out.wishes; rw [number_path, number_path, named_c] at this; exact this
                    refine step_append_lies _ (by rfl) _ _ _ (by rfl) (b + 1) 42 i0 _ 3 32 Tryz.underlying29 HI0.out HZ0.out HZ1.out HZ2.out rfl (by omega) wv Rk.c.wishes.length _ (by rfl) (hwv5.alloc _) ⟨w5.heap.size, 0, none⟩ 1 1 [.string f0, .int .i64 (uptoV f1 0 8), .int .i64 (uptoV f2 1 1048576)] (by rfl) (by rfl) (World.news_of_block (cs := #[.string f0, .int .i64 (uptoV f1 0 8), .int .i64 (uptoV f2 1 1048576)]) (t := 42) (fr := (0, 0)) (block_new w5 _)) (by simp [Value.oneCell']) (by omega) (by unfold maxLen; omega) (by omega) (by simp; omega) (w5.heap.size + 1) (by simp) ?_
                    intro gg cap w6 hown6 hgrow hat hlt6
                    have hF6 : w6.heap[F]? = _ := (hgrow.block F (by have := lt_of_block HF5.out; simp; omega) (fun e => by have := (HWV.out F e.symm).2; have := HFE.out; omega)).trans (block_alloc HF5.out _)
                    have hb6 : w6.heap[b]? = _ := (hgrow.block b (by simp; omega) (fun e => by have := (HWV.out b e.symm).1; omega)).trans (block_alloc HP5.out.blk _)
                    have hcf6 := cell_of_block hF6
                    have hcb6 := cell_of_block hb6
                    have hfb6 := free_of_block hb6
                    simp only [rdCells] at hcb6
                    have HF6 := Lib.hid hF6
                    have HB6 := Lib.hid hb6
                    clear hF6 hb6
                    refine hK.out _ _ ?_ (fun hHeld => ?_)
                    · exact hcf6
                    clear hK K
                    try simp only [Act.put, List.setIfInBounds_toArray, List.set_cons_zero, List.set_cons_succ]
                    refine wpAnyH_take (i := 24) (v := ?_) rfl (by kernel_rfl) (by kernel_rfl) (by kernel_rfl) (fun _ _ _ h => h) (Or.inl ⟨by rfl, ?_⟩) (by assumption) ?_
                    rotate_left
                    · intro w hSw; (try dsimp only at hSw); go_simp; with_reducible rfl
                    try simp only [Act.put, List.setIfInBounds_toArray, List.set_cons_zero, List.set_cons_succ]
                    refine wpAnyH_take (i := 25) (v := ?_) rfl (by kernel_rfl) (by kernel_rfl) (by kernel_rfl) (fun _ _ _ h => h) (Or.inl ⟨by rfl, ?_⟩) (by assumption) ?_
                    rotate_left
                    · intro w hSw; (try dsimp only at hSw); go_simp; with_reducible rfl
                    try simp only [Act.put, List.setIfInBounds_toArray, List.set_cons_zero, List.set_cons_succ]
                    refine wpAnyH_take (i := 26) (v := ?_) rfl (by kernel_rfl) (by kernel_rfl) (by kernel_rfl) (fun _ _ _ h => h) (Or.inl ⟨by rfl, ?_⟩) (by assumption) ?_
                    rotate_left
                    · intro w hSw; (try dsimp only at hSw); go_simp; with_reducible rfl
                    try simp only [Act.put, List.setIfInBounds_toArray, List.set_cons_zero, List.set_cons_succ]
                    refine wpAnyH_ready (rs := [27]) (by kernel_rfl) (by simp) ?_
                    refine AllReadyH.cons rfl (fun K hK => ?_) ?_
                    · go_simp
                      refine hK.out _ _ ?_ (fun hHeld => ?_)
                      · exact cell_of_block (block_setCell_ne HF6.out (fun e => hFb e.symm) _)
                      clear hK K
                      try simp only [Act.put, List.setIfInBounds_toArray, List.set_cons_zero, List.set_cons_succ]
                      refine wpAnyH_done (by kernel_rfl) ?_ _
                      go_wp2
                      go_roundg k
                      case measure => exact Nat.lt_succ_self k
                      case rel =>
                        have hcl := wish_close HP5.out ⟨f0, uptoV f1 0 8, uptoV f2 1 1048576⟩ _ Rk.c.wishes.length (by rw [number_path, number_path, named_c]; rfl) hgrow (by rw [number_path, number_path, named_c]; exact hown6) hat HB6.out
                        have hall : Below B wr _ := ((((HB1.out.trans HB2.out).drew.trans (below_keep1 HK3.out hlt1.1 (lt_of_block HP2d.out.blk))).trans (below_keep1 HK4.out hlt1.1 (lt_of_block HP3.out.blk))).trans (below_keep1 HK5.out hlt1.1 (lt_of_block HP4.out.blk))).trans hcl.2
                        exact ⟨Rk.rest.wishOf f0 f1 f2, ⟨HI.out.ok.next hcl.1 hall, by rw [wishOf_args]; exact HI.out.args.tail, by rw [wishOf_args]; have := HI.out.len; simp only [Rd.rest, List.length_tail]; omega, by rw [wishOf_wishes]; have := HI.out.small; show Rk.c.wishes.length + 1 + k ≤ 1000; omega, HI.out.keep.trans hall, HG3.out⟩⟩
                    exact AllReadyH.nil
                  exact AllReadyH.nil
                exact AllReadyH.nil
              exact AllReadyH.nil
            exact AllReadyH.nil
          exact AllReadyH.nil
        refine AllReadyH.cons rfl (fun K hK => ?_) ?_
        · go_simp
          refine (named_parts B b Rk.rest f0 _ pv wv av HP2d.out).mono ?_
          rintro e w3 ⟨rfl, h3, hk3⟩
          have hF3 := hk3.get HF2d.out hFb
          have hcf3 := cell_of_block hF3
          have hcb3 := cell_of_block h3.blk
          have hfb3 := free_of_block h3.blk
          simp only [rdCells] at hcb3
          have HP3 := Lib.hid h3
          have HF3 := Lib.hid hF3
          have HK3 := Lib.hid hk3
          clear h3 hF3 hk3
          go_wp2_with fail
          refine hK.out _ _ ?_ (fun hHeld => ?_)
          · exact hcf3
          clear hK K
          try simp only [Act.put, List.setIfInBounds_toArray, List.set_cons_zero, List.set_cons_succ]
          refine wpAnyH_ready (rs := [5, 15]) (by kernel_rfl) (by simp) ?_
          refine AllReadyH.cons rfl (fun K hK => ?_) ?_
          · go_simp
            refine hK.out _ _ ?_ (fun hHeld => ?_)
            · assumption
            clear hK K
            try simp only [Act.put, List.setIfInBounds_toArray, List.set_cons_zero, List.set_cons_succ]
            refine wpAnyH_ready (rs := [15]) (by kernel_rfl) (by simp) ?_
            refine AllReadyH.cons rfl (fun K hK => ?_) ?_
            · go_simp
              have HG3g := Lib.hid (HG2d.out.below (below_keep1 HK3.out hlt1.1 (lt_of_block HP2d.out.blk)) hbase)
              refine (number_parts B b _ f1 0 8 w3 pv wv av HP3.out HG3g.out (by omega)).mono ?_
              rintro e w4 ⟨rfl, h4, hk4⟩
              have hF4 := hk4.get HF3.out hFb
              have hcf4 := cell_of_block hF4
              have hcb4 := cell_of_block h4.blk
              have hfb4 := free_of_block h4.blk
              simp only [rdCells] at hcb4
              have HP4 := Lib.hid h4
              have HF4 := Lib.hid hF4
              have HK4 := Lib.hid hk4
              clear h4 hF4 hk4
              go_wp2_with fail
              refine hK.out _ _ ?_ (fun hHeld => ?_)
              · exact hcf4
              clear hK K
              try simp only [Act.put, List.setIfInBounds_toArray, List.set_cons_zero, List.set_cons_succ]
              refine wpAnyH_ready (rs := [20]) (by kernel_rfl) (by simp) ?_
              refine AllReadyH.cons rfl (fun K hK => ?_) ?_
              · go_simp
                have HG4g := Lib.hid (HG3g.out.below (below_keep1 HK4.out hlt1.1 (lt_of_block HP3.out.blk)) hbase)
                refine (number_parts B b _ f2 1 1048576 w4 pv wv av HP4.out HG4g.out (by omega)).mono ?_
                rintro e w5 ⟨rfl, h5, hk5⟩
                have hF5 := hk5.get HF4.out hFb
                have hcf5 := cell_of_block hF5
                have hcb5 := cell_of_block h5.blk
                have hfb5 := free_of_block h5.blk
                simp only [rdCells] at hcb5
                have hcb51 := cell_of_block1 h5.blk
                simp only [rdCells] at hcb51
                have HP5 := Lib.hid h5
                have HF5 := Lib.hid hF5
                have HK5 := Lib.hid hk5
                clear h5 hF5 hk5
                go_wp2_with fail
                refine hK.out _ _ ?_ (fun hHeld => ?_)
                · exact hcf5
                clear hK K
                try simp only [Act.put, List.setIfInBounds_toArray, List.set_cons_zero, List.set_cons_succ]
                refine wpAnyH_take (i := 21) (v := ?_) rfl (by kernel_rfl) (by kernel_rfl) (by kernel_rfl) (fun _ _ _ h => h) (Or.inl ⟨by rfl, ?_⟩) (by assumption) ?_
                rotate_left
                · intro w hSw; (try dsimp only at hSw); go_simp; with_reducible rfl
                try simp only [Act.put, List.setIfInBounds_toArray, List.set_cons_zero, List.set_cons_succ]
                refine wpAnyH_ready (rs := [22]) (by kernel_rfl) (by simp) ?_
                refine AllReadyH.cons rfl (fun K hK => ?_) ?_
                · go_simp
                  refine hK.out _ _ ?_ (fun hHeld => ?_)
                  · exact cell_of_block1 HF5.out _
                  clear hK K
                  try simp only [Act.put, List.setIfInBounds_toArray, List.set_cons_zero, List.set_cons_succ]
                  refine wpAnyH_ready (rs := [23]) (by kernel_rfl) (by simp) ?_
                  refine AllReadyH.cons rfl (fun K hK => ?_) ?_
                  · have hbw := lt_of_block HP5.out.blk
                    have hwv5 : (w5.ownsRow (b + 1) 42 3 wv Rk.c.wishes.length (Rk.c.wishes.flatMap Wish.cells)) := by have := HP5.out.wishes; rw [number_path, number_path, named_c] at this; exact this
                    refine step_append_lies _ (by rfl) _ _ _ (by rfl) (b + 1) 42 i0 _ 3 32 Tryz.underlying29 HI0.out HZ0.out HZ1.out HZ2.out rfl (by omega) wv Rk.c.wishes.length _ (by rfl) (hwv5.alloc _) ⟨w5.heap.size, 0, none⟩ 1 1 [.string f0, .int .i64 (uptoV f1 0 8), .int .i64 (uptoV f2 1 1048576)] (by rfl) (by rfl) (World.news_of_block (cs := #[.string f0, .int .i64 (uptoV f1 0 8), .int .i64 (uptoV f2 1 1048576)]) (t := 42) (fr := (0, 0)) (block_new w5 _)) (by simp [Value.oneCell']) (by omega) (by unfold maxLen; omega) (by omega) (by simp; omega) (w5.heap.size + 1) (by simp) ?_
                    intro gg cap w6 hown6 hgrow hat hlt6
                    have hF6 : w6.heap[F]? = _ := (hgrow.block F (by have := lt_of_block HF5.out; simp; omega) (fun e => by have := (HWV.out F e.symm).2; have := HFE.out; omega)).trans (block_alloc HF5.out _)
                    have hb6 : w6.heap[b]? = _ := (hgrow.block b (by simp; omega) (fun e => by have := (HWV.out b e.symm).1; omega)).trans (block_alloc HP5.out.blk _)
                    have hcf6 := cell_of_block hF6
                    have hcb6 := cell_of_block hb6
                    have hfb6 := free_of_block hb6
                    simp only [rdCells] at hcb6
                    have HF6 := Lib.hid hF6
                    have HB6 := Lib.hid hb6
                    clear hF6 hb6
                    refine hK.out _ _ ?_ (fun hHeld => ?_)
                    · exact hcf6
                    clear hK K
                    try simp only [Act.put, List.setIfInBounds_toArray, List.set_cons_zero, List.set_cons_succ]
                    refine wpAnyH_take (i := 24) (v := ?_) rfl (by kernel_rfl) (by kernel_rfl) (by kernel_rfl) (fun _ _ _ h => h) (Or.inl ⟨by rfl, ?_⟩) (by assumption) ?_
                    rotate_left
                    · intro w hSw; (try dsimp only at hSw); go_simp; with_reducible rfl
                    try simp only [Act.put, List.setIfInBounds_toArray, List.set_cons_zero, List.set_cons_succ]
                    refine wpAnyH_take (i := 25) (v := ?_) rfl (by kernel_rfl) (by kernel_rfl) (by kernel_rfl) (fun _ _ _ h => h) (Or.inl ⟨by rfl, ?_⟩) (by assumption) ?_
                    rotate_left
                    · intro w hSw; (try dsimp only at hSw); go_simp; with_reducible rfl
                    try simp only [Act.put, List.setIfInBounds_toArray, List.set_cons_zero, List.set_cons_succ]
                    refine wpAnyH_take (i := 26) (v := ?_) rfl (by kernel_rfl) (by kernel_rfl) (by kernel_rfl) (fun _ _ _ h => h) (Or.inl ⟨by rfl, ?_⟩) (by assumption) ?_
                    rotate_left
                    · intro w hSw; (try dsimp only at hSw); go_simp; with_reducible rfl
                    try simp only [Act.put, List.setIfInBounds_toArray, List.set_cons_zero, List.set_cons_succ]
                    refine wpAnyH_ready (rs := [27]) (by kernel_rfl) (by simp) ?_
                    refine AllReadyH.cons rfl (fun K hK => ?_) ?_
                    · go_simp
                      refine hK.out _ _ ?_ (fun hHeld => ?_)
                      · exact cell_of_block (block_setCell_ne HF6.out (fun e => hFb e.symm) _)
                      clear hK K
                      try simp only [Act.put, List.setIfInBounds_toArray, List.set_cons_zero, List.set_cons_succ]
                      refine wpAnyH_done (by kernel_rfl) ?_ _
                      go_wp2
                      go_roundg k
                      case measure => exact Nat.lt_succ_self k
                      case rel =>
                        have hcl := wish_close HP5.out ⟨f0, uptoV f1 0 8, uptoV f2 1 1048576⟩ _ Rk.c.wishes.length (by rw [number_path, number_path, named_c]; rfl) hgrow (by rw [number_path, number_path, named_c]; exact hown6) hat HB6.out
                        have hall : Below B wr _ := ((((HB1.out.trans HB2.out).drew.trans (below_keep1 HK3.out hlt1.1 (lt_of_block HP2d.out.blk))).trans (below_keep1 HK4.out hlt1.1 (lt_of_block HP3.out.blk))).trans (below_keep1 HK5.out hlt1.1 (lt_of_block HP4.out.blk))).trans hcl.2
                        exact ⟨Rk.rest.wishOf f0 f1 f2, ⟨HI.out.ok.next hcl.1 hall, by rw [wishOf_args]; exact HI.out.args.tail, by rw [wishOf_args]; have := HI.out.len; simp only [Rd.rest, List.length_tail]; omega, by rw [wishOf_wishes]; have := HI.out.small; show Rk.c.wishes.length + 1 + k ≤ 1000; omega, HI.out.keep.trans hall, HG3.out⟩⟩
                    exact AllReadyH.nil
                  exact AllReadyH.nil
                exact AllReadyH.nil
              exact AllReadyH.nil
            exact AllReadyH.nil
          refine AllReadyH.cons rfl (fun K hK => ?_) ?_
          · go_simp
            have HG3g := Lib.hid (HG2d.out.below (below_keep1 HK3.out hlt1.1 (lt_of_block HP2d.out.blk)) hbase)
            refine (number_parts B b _ f1 0 8 w3 pv wv av HP3.out HG3g.out (by omega)).mono ?_
            rintro e w4 ⟨rfl, h4, hk4⟩
            have hF4 := hk4.get HF3.out hFb
            have hcf4 := cell_of_block hF4
            have hcb4 := cell_of_block h4.blk
            have hfb4 := free_of_block h4.blk
            simp only [rdCells] at hcb4
            have HP4 := Lib.hid h4
            have HF4 := Lib.hid hF4
            have HK4 := Lib.hid hk4
            clear h4 hF4 hk4
            go_wp2_with fail
            refine hK.out _ _ ?_ (fun hHeld => ?_)
            · exact hcf4
            clear hK K
            try simp only [Act.put, List.setIfInBounds_toArray, List.set_cons_zero, List.set_cons_succ]
            refine wpAnyH_ready (rs := [5, 20]) (by kernel_rfl) (by simp) ?_
            refine AllReadyH.cons rfl (fun K hK => ?_) ?_
            · go_simp
              refine hK.out _ _ ?_ (fun hHeld => ?_)
              · assumption
              clear hK K
              try simp only [Act.put, List.setIfInBounds_toArray, List.set_cons_zero, List.set_cons_succ]
              refine wpAnyH_ready (rs := [20]) (by kernel_rfl) (by simp) ?_
              refine AllReadyH.cons rfl (fun K hK => ?_) ?_
              · go_simp
                have HG4g := Lib.hid (HG3g.out.below (below_keep1 HK4.out hlt1.1 (lt_of_block HP3.out.blk)) hbase)
                refine (number_parts B b _ f2 1 1048576 w4 pv wv av HP4.out HG4g.out (by omega)).mono ?_
                rintro e w5 ⟨rfl, h5, hk5⟩
                have hF5 := hk5.get HF4.out hFb
                have hcf5 := cell_of_block hF5
                have hcb5 := cell_of_block h5.blk
                have hfb5 := free_of_block h5.blk
                simp only [rdCells] at hcb5
                have hcb51 := cell_of_block1 h5.blk
                simp only [rdCells] at hcb51
                have HP5 := Lib.hid h5
                have HF5 := Lib.hid hF5
                have HK5 := Lib.hid hk5
                clear h5 hF5 hk5
                go_wp2_with fail
                refine hK.out _ _ ?_ (fun hHeld => ?_)
                · exact hcf5
                clear hK K
                try simp only [Act.put, List.setIfInBounds_toArray, List.set_cons_zero, List.set_cons_succ]
                refine wpAnyH_take (i := 21) (v := ?_) rfl (by kernel_rfl) (by kernel_rfl) (by kernel_rfl) (fun _ _ _ h => h) (Or.inl ⟨by rfl, ?_⟩) (by assumption) ?_
                rotate_left
                · intro w hSw; (try dsimp only at hSw); go_simp; with_reducible rfl
                try simp only [Act.put, List.setIfInBounds_toArray, List.set_cons_zero, List.set_cons_succ]
                refine wpAnyH_ready (rs := [22]) (by kernel_rfl) (by simp) ?_
                refine AllReadyH.cons rfl (fun K hK => ?_) ?_
                · go_simp
                  refine hK.out _ _ ?_ (fun hHeld => ?_)
                  · exact cell_of_block1 HF5.out _
                  clear hK K
                  try simp only [Act.put, List.setIfInBounds_toArray, List.set_cons_zero, List.set_cons_succ]
                  refine wpAnyH_ready (rs := [23]) (by kernel_rfl) (by simp) ?_
                  refine AllReadyH.cons rfl (fun K hK => ?_) ?_
                  · have hbw := lt_of_block HP5.out.blk
                    have hwv5 : (w5.ownsRow (b + 1) 42 3 wv Rk.c.wishes.length (Rk.c.wishes.flatMap Wish.cells)) := by have := HP5.out.wishes; rw [number_path, number_path, named_c] at this; exact this
                    refine step_append_lies _ (by rfl) _ _ _ (by rfl) (b + 1) 42 i0 _ 3 32 Tryz.underlying29 HI0.out HZ0.out HZ1.out HZ2.out rfl (by omega) wv Rk.c.wishes.length _ (by rfl) (hwv5.alloc _) ⟨w5.heap.size, 0, none⟩ 1 1 [.string f0, .int .i64 (uptoV f1 0 8), .int .i64 (uptoV f2 1 1048576)] (by rfl) (by rfl) (World.news_of_block (cs := #[.string f0, .int .i64 (uptoV f1 0 8), .int .i64 (uptoV f2 1 1048576)]) (t := 42) (fr := (0, 0)) (block_new w5 _)) (by simp [Value.oneCell']) (by omega) (by unfold maxLen; omega) (by omega) (by simp; omega) (w5.heap.size + 1) (by simp) ?_
                    intro gg cap w6 hown6 hgrow hat hlt6
                    have hF6 : w6.heap[F]? = _ := (hgrow.block F (by have := lt_of_block HF5.out; simp; omega) (fun e => by have := (HWV.out F e.symm).2; have := HFE.out; omega)).trans (block_alloc HF5.out _)
                    have hb6 : w6.heap[b]? = _ := (hgrow.block b (by simp; omega) (fun e => by have := (HWV.out b e.symm).1; omega)).trans (block_alloc HP5.out.blk _)
                    have hcf6 := cell_of_block hF6
                    have hcb6 := cell_of_block hb6
                    have hfb6 := free_of_block hb6
                    simp only [rdCells] at hcb6
                    have HF6 := Lib.hid hF6
                    have HB6 := Lib.hid hb6
                    clear hF6 hb6
                    refine hK.out _ _ ?_ (fun hHeld => ?_)
                    · exact hcf6
                    clear hK K
                    try simp only [Act.put, List.setIfInBounds_toArray, List.set_cons_zero, List.set_cons_succ]
                    refine wpAnyH_take (i := 24) (v := ?_) rfl (by kernel_rfl) (by kernel_rfl) (by kernel_rfl) (fun _ _ _ h => h) (Or.inl ⟨by rfl, ?_⟩) (by assumption) ?_
                    rotate_left
                    · intro w hSw; (try dsimp only at hSw); go_simp; with_reducible rfl
                    try simp only [Act.put, List.setIfInBounds_toArray, List.set_cons_zero, List.set_cons_succ]
                    refine wpAnyH_take (i := 25) (v := ?_) rfl (by kernel_rfl) (by kernel_rfl) (by kernel_rfl) (fun _ _ _ h => h) (Or.inl ⟨by rfl, ?_⟩) (by assumption) ?_
                    rotate_left
                    · intro w hSw; (try dsimp only at hSw); go_simp; with_reducible rfl
                    try simp only [Act.put, List.setIfInBounds_toArray, List.set_cons_zero, List.set_cons_succ]
                    refine wpAnyH_take (i := 26) (v := ?_) rfl (by kernel_rfl) (by kernel_rfl) (by kernel_rfl) (fun _ _ _ h => h) (Or.inl ⟨by rfl, ?_⟩) (by assumption) ?_
                    rotate_left
                    · intro w hSw; (try dsimp only at hSw); go_simp; with_reducible rfl
                    try simp only [Act.put, List.setIfInBounds_toArray, List.set_cons_zero, List.set_cons_succ]
                    refine wpAnyH_ready (rs := [27]) (by kernel_rfl) (by simp) ?_
                    refine AllReadyH.cons rfl (fun K hK => ?_) ?_
                    · go_simp
                      refine hK.out _ _ ?_ (fun hHeld => ?_)
                      · exact cell_of_block (block_setCell_ne HF6.out (fun e => hFb e.symm) _)
                      clear hK K
                      try simp only [Act.put, List.setIfInBounds_toArray, List.set_cons_zero, List.set_cons_succ]
                      refine wpAnyH_done (by kernel_rfl) ?_ _
                      go_wp2
                      go_roundg k
                      case measure => exact Nat.lt_succ_self k
                      case rel =>
                        have hcl := wish_close HP5.out ⟨f0, uptoV f1 0 8, uptoV f2 1 1048576⟩ _ Rk.c.wishes.length (by rw [number_path, number_path, named_c]; rfl) hgrow (by rw [number_path, number_path, named_c]; exact hown6) hat HB6.out
                        have hall : Below B wr _ := ((((HB1.out.trans HB2.out).drew.trans (below_keep1 HK3.out hlt1.1 (lt_of_block HP2d.out.blk))).trans (below_keep1 HK4.out hlt1.1 (lt_of_block HP3.out.blk))).trans (below_keep1 HK5.out hlt1.1 (lt_of_block HP4.out.blk))).trans hcl.2
                        exact ⟨Rk.rest.wishOf f0 f1 f2, ⟨HI.out.ok.next hcl.1 hall, by rw [wishOf_args]; exact HI.out.args.tail, by rw [wishOf_args]; have := HI.out.len; simp only [Rd.rest, List.length_tail]; omega, by rw [wishOf_wishes]; have := HI.out.small; show Rk.c.wishes.length + 1 + k ≤ 1000; omega, HI.out.keep.trans hall, HG3.out⟩⟩
                    exact AllReadyH.nil
                  exact AllReadyH.nil
                exact AllReadyH.nil
              exact AllReadyH.nil
            refine AllReadyH.cons rfl (fun K hK => ?_) ?_
            · go_simp
              have HG4g := Lib.hid (HG3g.out.below (below_keep1 HK4.out hlt1.1 (lt_of_block HP3.out.blk)) hbase)
              refine (number_parts B b _ f2 1 1048576 w4 pv wv av HP4.out HG4g.out (by omega)).mono ?_
              rintro e w5 ⟨rfl, h5, hk5⟩
              have hF5 := hk5.get HF4.out hFb
              have hcf5 := cell_of_block hF5
              have hcb5 := cell_of_block h5.blk
              have hfb5 := free_of_block h5.blk
              simp only [rdCells] at hcb5
              have hcb51 := cell_of_block1 h5.blk
              simp only [rdCells] at hcb51
              have HP5 := Lib.hid h5
              have HF5 := Lib.hid hF5
              have HK5 := Lib.hid hk5
              clear h5 hF5 hk5
              go_wp2_with fail
              refine hK.out _ _ ?_ (fun hHeld => ?_)
              · exact hcf5
              clear hK K
              try simp only [Act.put, List.setIfInBounds_toArray, List.set_cons_zero, List.set_cons_succ]
              refine wpAnyH_take (i := 21) (v := ?_) rfl (by kernel_rfl) (by kernel_rfl) (by kernel_rfl) (fun _ _ _ h => h) (Or.inl ⟨by rfl, ?_⟩) (by assumption) ?_
              rotate_left
              · intro w hSw; (try dsimp only at hSw); go_simp; with_reducible rfl
              try simp only [Act.put, List.setIfInBounds_toArray, List.set_cons_zero, List.set_cons_succ]
              refine wpAnyH_ready (rs := [5, 22]) (by kernel_rfl) (by simp) ?_
              refine AllReadyH.cons rfl (fun K hK => ?_) ?_
              · go_simp
                refine hK.out _ _ ?_ (fun hHeld => ?_)
                · assumption
                clear hK K
                try simp only [Act.put, List.setIfInBounds_toArray, List.set_cons_zero, List.set_cons_succ]
                refine wpAnyH_ready (rs := [22]) (by kernel_rfl) (by simp) ?_
                refine AllReadyH.cons rfl (fun K hK => ?_) ?_
                · go_simp
                  refine hK.out _ _ ?_ (fun hHeld => ?_)
                  · exact cell_of_block1 HF5.out _
                  clear hK K
                  try simp only [Act.put, List.setIfInBounds_toArray, List.set_cons_zero, List.set_cons_succ]
                  refine wpAnyH_ready (rs := [23]) (by kernel_rfl) (by simp) ?_
                  refine AllReadyH.cons rfl (fun K hK => ?_) ?_
                  · have hbw := lt_of_block HP5.out.blk
                    have hwv5 : (w5.ownsRow (b + 1) 42 3 wv Rk.c.wishes.length (Rk.c.wishes.flatMap Wish.cells)) := by have := HP5.out.wishes; rw [number_path, number_path, named_c] at this; exact this
                    refine step_append_lies _ (by rfl) _ _ _ (by rfl) (b + 1) 42 i0 _ 3 32 Tryz.underlying29 HI0.out HZ0.out HZ1.out HZ2.out rfl (by omega) wv Rk.c.wishes.length _ (by rfl) (hwv5.alloc _) ⟨w5.heap.size, 0, none⟩ 1 1 [.string f0, .int .i64 (uptoV f1 0 8), .int .i64 (uptoV f2 1 1048576)] (by rfl) (by rfl) (World.news_of_block (cs := #[.string f0, .int .i64 (uptoV f1 0 8), .int .i64 (uptoV f2 1 1048576)]) (t := 42) (fr := (0, 0)) (block_new w5 _)) (by simp [Value.oneCell']) (by omega) (by unfold maxLen; omega) (by omega) (by simp; omega) (w5.heap.size + 1) (by simp) ?_
                    intro gg cap w6 hown6 hgrow hat hlt6
                    have hF6 : w6.heap[F]? = _ := (hgrow.block F (by have := lt_of_block HF5.out; simp; omega) (fun e => by have := (HWV.out F e.symm).2; have := HFE.out; omega)).trans (block_alloc HF5.out _)
                    have hb6 : w6.heap[b]? = _ := (hgrow.block b (by simp; omega) (fun e => by have := (HWV.out b e.symm).1; omega)).trans (block_alloc HP5.out.blk _)
                    have hcf6 := cell_of_block hF6
                    have hcb6 := cell_of_block hb6
                    have hfb6 := free_of_block hb6
                    simp only [rdCells] at hcb6
                    have HF6 := Lib.hid hF6
                    have HB6 := Lib.hid hb6
                    clear hF6 hb6
                    refine hK.out _ _ ?_ (fun hHeld => ?_)
                    · exact hcf6
                    clear hK K
                    try simp only [Act.put, List.setIfInBounds_toArray, List.set_cons_zero, List.set_cons_succ]
                    refine wpAnyH_take (i := 24) (v := ?_) rfl (by kernel_rfl) (by kernel_rfl) (by kernel_rfl) (fun _ _ _ h => h) (Or.inl ⟨by rfl, ?_⟩) (by assumption) ?_
                    rotate_left
                    · intro w hSw; (try dsimp only at hSw); go_simp; with_reducible rfl
                    try simp only [Act.put, List.setIfInBounds_toArray, List.set_cons_zero, List.set_cons_succ]
                    refine wpAnyH_take (i := 25) (v := ?_) rfl (by kernel_rfl) (by kernel_rfl) (by kernel_rfl) (fun _ _ _ h => h) (Or.inl ⟨by rfl, ?_⟩) (by assumption) ?_
                    rotate_left
                    · intro w hSw; (try dsimp only at hSw); go_simp; with_reducible rfl
                    try simp only [Act.put, List.setIfInBounds_toArray, List.set_cons_zero, List.set_cons_succ]
                    refine wpAnyH_take (i := 26) (v := ?_) rfl (by kernel_rfl) (by kernel_rfl) (by kernel_rfl) (fun _ _ _ h => h) (Or.inl ⟨by rfl, ?_⟩) (by assumption) ?_
                    rotate_left
                    · intro w hSw; (try dsimp only at hSw); go_simp; with_reducible rfl
                    try simp only [Act.put, List.setIfInBounds_toArray, List.set_cons_zero, List.set_cons_succ]
                    refine wpAnyH_ready (rs := [27]) (by kernel_rfl) (by simp) ?_
                    refine AllReadyH.cons rfl (fun K hK => ?_) ?_
                    · go_simp
                      refine hK.out _ _ ?_ (fun hHeld => ?_)
                      · exact cell_of_block (block_setCell_ne HF6.out (fun e => hFb e.symm) _)
                      clear hK K
                      try simp only [Act.put, List.setIfInBounds_toArray, List.set_cons_zero, List.set_cons_succ]
                      refine wpAnyH_done (by kernel_rfl) ?_ _
                      go_wp2
                      go_roundg k
                      case measure => exact Nat.lt_succ_self k
                      case rel =>
                        have hcl := wish_close HP5.out ⟨f0, uptoV f1 0 8, uptoV f2 1 1048576⟩ _ Rk.c.wishes.length (by rw [number_path, number_path, named_c]; rfl) hgrow (by rw [number_path, number_path, named_c]; exact hown6) hat HB6.out
                        have hall : Below B wr _ := ((((HB1.out.trans HB2.out).drew.trans (below_keep1 HK3.out hlt1.1 (lt_of_block HP2d.out.blk))).trans (below_keep1 HK4.out hlt1.1 (lt_of_block HP3.out.blk))).trans (below_keep1 HK5.out hlt1.1 (lt_of_block HP4.out.blk))).trans hcl.2
                        exact ⟨Rk.rest.wishOf f0 f1 f2, ⟨HI.out.ok.next hcl.1 hall, by rw [wishOf_args]; exact HI.out.args.tail, by rw [wishOf_args]; have := HI.out.len; simp only [Rd.rest, List.length_tail]; omega, by rw [wishOf_wishes]; have := HI.out.small; show Rk.c.wishes.length + 1 + k ≤ 1000; omega, HI.out.keep.trans hall, HG3.out⟩⟩
                    exact AllReadyH.nil
                  exact AllReadyH.nil
                exact AllReadyH.nil
              refine AllReadyH.cons rfl (fun K hK => ?_) ?_
              · go_simp
                refine hK.out _ _ ?_ (fun hHeld => ?_)
                · exact cell_of_block1 HF5.out _
                clear hK K
                try simp only [Act.put, List.setIfInBounds_toArray, List.set_cons_zero, List.set_cons_succ]
                refine wpAnyH_ready (rs := [5]) (by kernel_rfl) (by simp) ?_
                refine AllReadyH.cons rfl (fun K hK => ?_) ?_
                · go_simp
                  refine hK.out _ _ ?_ (fun hHeld => ?_)
                  · assumption
                  clear hK K
                  try simp only [Act.put, List.setIfInBounds_toArray, List.set_cons_zero, List.set_cons_succ]
                  refine wpAnyH_ready (rs := [23]) (by kernel_rfl) (by simp) ?_
                  refine AllReadyH.cons rfl (fun K hK => ?_) ?_
                  · have hbw := lt_of_block HP5.out.blk
                    have hwv5 : (w5.ownsRow (b + 1) 42 3 wv Rk.c.wishes.length (Rk.c.wishes.flatMap Wish.cells)) := by have := HP5.out.wishes; rw [number_path, number_path, named_c] at this; exact this
                    refine step_append_lies _ (by rfl) _ _ _ (by rfl) (b + 1) 42 i0 _ 3 32 Tryz.underlying29 HI0.out HZ0.out HZ1.out HZ2.out rfl (by omega) wv Rk.c.wishes.length _ (by rfl) (hwv5.alloc _) ⟨w5.heap.size, 0, none⟩ 1 1 [.string f0, .int .i64 (uptoV f1 0 8), .int .i64 (uptoV f2 1 1048576)] (by rfl) (by rfl) (World.news_of_block (cs := #[.string f0, .int .i64 (uptoV f1 0 8), .int .i64 (uptoV f2 1 1048576)]) (t := 42) (fr := (0, 0)) (block_new w5 _)) (by simp [Value.oneCell']) (by omega) (by unfold maxLen; omega) (by omega) (by simp; omega) (w5.heap.size + 1) (by simp) ?_
                    intro gg cap w6 hown6 hgrow hat hlt6
                    have hF6 : w6.heap[F]? = _ := (hgrow.block F (by have := lt_of_block HF5.out; simp; omega) (fun e => by have := (HWV.out F e.symm).2; have := HFE.out; omega)).trans (block_alloc HF5.out _)
                    have hb6 : w6.heap[b]? = _ := (hgrow.block b (by simp; omega) (fun e => by have := (HWV.out b e.symm).1; omega)).trans (block_alloc HP5.out.blk _)
                    have hcf6 := cell_of_block hF6
                    have hcb6 := cell_of_block hb6
                    have hfb6 := free_of_block hb6
                    simp only [rdCells] at hcb6
                    have HF6 := Lib.hid hF6
                    have HB6 := Lib.hid hb6
                    clear hF6 hb6
                    refine hK.out _ _ ?_ (fun hHeld => ?_)
                    · exact hcf6
                    clear hK K
                    try simp only [Act.put, List.setIfInBounds_toArray, List.set_cons_zero, List.set_cons_succ]
                    refine wpAnyH_take (i := 24) (v := ?_) rfl (by kernel_rfl) (by kernel_rfl) (by kernel_rfl) (fun _ _ _ h => h) (Or.inl ⟨by rfl, ?_⟩) (by assumption) ?_
                    rotate_left
                    · intro w hSw; (try dsimp only at hSw); go_simp; with_reducible rfl
                    try simp only [Act.put, List.setIfInBounds_toArray, List.set_cons_zero, List.set_cons_succ]
                    refine wpAnyH_take (i := 25) (v := ?_) rfl (by kernel_rfl) (by kernel_rfl) (by kernel_rfl) (fun _ _ _ h => h) (Or.inl ⟨by rfl, ?_⟩) (by assumption) ?_
                    rotate_left
                    · intro w hSw; (try dsimp only at hSw); go_simp; with_reducible rfl
                    try simp only [Act.put, List.setIfInBounds_toArray, List.set_cons_zero, List.set_cons_succ]
                    refine wpAnyH_take (i := 26) (v := ?_) rfl (by kernel_rfl) (by kernel_rfl) (by kernel_rfl) (fun _ _ _ h => h) (Or.inl ⟨by rfl, ?_⟩) (by assumption) ?_
                    rotate_left
                    · intro w hSw; (try dsimp only at hSw); go_simp; with_reducible rfl
                    try simp only [Act.put, List.setIfInBounds_toArray, List.set_cons_zero, List.set_cons_succ]
                    refine wpAnyH_ready (rs := [27]) (by kernel_rfl) (by simp) ?_
                    refine AllReadyH.cons rfl (fun K hK => ?_) ?_
                    · go_simp
                      refine hK.out _ _ ?_ (fun hHeld => ?_)
                      · exact cell_of_block (block_setCell_ne HF6.out (fun e => hFb e.symm) _)
                      clear hK K
                      try simp only [Act.put, List.setIfInBounds_toArray, List.set_cons_zero, List.set_cons_succ]
                      refine wpAnyH_done (by kernel_rfl) ?_ _
                      go_wp2
                      go_roundg k
                      case measure => exact Nat.lt_succ_self k
                      case rel =>
                        have hcl := wish_close HP5.out ⟨f0, uptoV f1 0 8, uptoV f2 1 1048576⟩ _ Rk.c.wishes.length (by rw [number_path, number_path, named_c]; rfl) hgrow (by rw [number_path, number_path, named_c]; exact hown6) hat HB6.out
                        have hall : Below B wr _ := ((((HB1.out.trans HB2.out).drew.trans (below_keep1 HK3.out hlt1.1 (lt_of_block HP2d.out.blk))).trans (below_keep1 HK4.out hlt1.1 (lt_of_block HP3.out.blk))).trans (below_keep1 HK5.out hlt1.1 (lt_of_block HP4.out.blk))).trans hcl.2
                        exact ⟨Rk.rest.wishOf f0 f1 f2, ⟨HI.out.ok.next hcl.1 hall, by rw [wishOf_args]; exact HI.out.args.tail, by rw [wishOf_args]; have := HI.out.len; simp only [Rd.rest, List.length_tail]; omega, by rw [wishOf_wishes]; have := HI.out.small; show Rk.c.wishes.length + 1 + k ≤ 1000; omega, HI.out.keep.trans hall, HG3.out⟩⟩
                    exact AllReadyH.nil
                  exact AllReadyH.nil
                exact AllReadyH.nil
              exact AllReadyH.nil
            exact AllReadyH.nil
          exact AllReadyH.nil
        exact AllReadyH.nil
      · have hn3 : (((splitAt Rk.arg colonB).length : Int) != 3) = true := by simp; omega
        have hg := HG.out
        have hTf : Rk.rest.fail 2 = T := by
          rw [← hg]
          rcases hx : splitAt Rk.arg colonB with _ | ⟨f0, _ | ⟨f1, _ | ⟨f2, _ | ⟨f3, l⟩⟩⟩⟩ <;> first | rfl | (rw [hx] at hn; simp at hn)
        have HTF := Lib.hid hTf
        clear hg HG hTf hn hss
        go_wp2_with fail
        refine hS.mono ?_
        rintro e w2 ⟨rfl, rfl⟩
        have hF := fail_any B b Rk.rest 2 _ (H1.out.at_.later ((Keep.refl (fun _ => False) w1).alloc (Obj.cells ((splitAt Rk.arg colonB).map Value.string).toArray 9)))
        go_wp2_with fail
        refine hF.mono ?_
        rintro e w3 ⟨rfl, h3, hb3⟩
        go_wp2
        refine bodyPost_ret (results_none rfl _ _ _) rfl ?_
        exact ⟨rfl, by rw [← HTF.out]; exact h3, ((HI.out.keep.trans HB1.out).alloc (by have := H1.out.at_.lt; omega) _).trans hb3⟩
set_option maxHeartbeats 400000 in
theorem readWishes_any (B b : Nat) (R : Rd) (w : World) (h : RdOk B w b R) (ho : ArgsOk R.args) (hw : R.c.wishes.length ≤ 500) :
    Calls Tryz.prog 31 #[.pointer (some ⟨b, 0, none⟩)] w fun en w' => en = .returned (.tuple #[]) ∧ RdAt B w' b R.readWishes ∧ Below B w w' := by
  by_cases hl : R.args.length ≤ 20
  · have e : R.readWishes = R.wishLoop R.args.length := by simp [Rd.readWishes]; omega
    rw [e]
    exact wishes_any B b R w h ho hl hw _ rfl
  · have e : R.readWishes = R.fail 3 := by simp [Rd.readWishes]; omega
    rw [e]
    have H := Lib.hid h
    obtain ⟨pv, wv, av, hc, hf, hp⟩ := h.at_.cells
    obtain ⟨a, c, rfl, hlc, hcm, hel⟩ := hp.args
    simp only [rdCells] at hc
    have hl1 : decide (20 < (R.args.length : Int)) = true := by simp; omega
    clear h ho hp hel hl e
    go_enter Tryz.func31, Tryz.ntmps31
    go_wp2_with fail
    refine (fail_any B b R 3 w H.out.at_).mono ?_
    rintro e w1 ⟨rfl, h1, hb1⟩
    go_wp2
    refine bodyPost_ret (results_none rfl _ _ _) rfl ?_
    exact ⟨rfl, h1, hb1⟩
end Go.Proofs.YtamjhnibenonjaaGreatDoor
