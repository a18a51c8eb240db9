/- The reader's method path. -/
import Derived.Test.YtamjhnibenonjaaGreatDoorPPath
import Derived.Test.YtamjhnibenonjaaGreatDoorRRound
import Derived.Deep.AppendLies
namespace Go.Proofs.YtamjhnibenonjaaGreatDoor
set_option linter.unusedVariables false
set_option linter.unusedSimpArgs false
open Go Go.RowKit
attribute [local go_sem] Oper.semAt_some
set_option maxHeartbeats 1000000 in
theorem path_dash (B b : Nat) (R : Rd) (w : World) (h : RdOk B w b R) (hd : R.arg = dashB) :
    Calls Tryz.prog 30 #[.pointer (some ⟨b, 0, none⟩)] w fun en w' => en = .returned (.tuple #[]) ∧ RdAt B w' b R.readPath ∧ Below B w w' := by
  have e1 : R.readPath = R.rest := by simp [Rd.readPath, hd]
  rw [e1]
  have hN := fun w h => next_any B b R w h
  rw [hd] at hN
  clear e1 hd
  have hlt := h.at_.lt
  go_enter Tryz.func30, Tryz.ntmps30
  go_wp2_with fail
  refine (hN _ (h.at_.later ((Keep.refl _ _).alloc _))).mono ?_
  rintro e w1 ⟨rfl, h1, hb1⟩
  have hdd : (dashB.toList == [45]) = true := by rw [ByteArray.toList_eq]; rfl
  go_wp2
  refine bodyPost_ret (results_none rfl _ _ _) rfl ?_
  exact ⟨rfl, h1, ((Below.refl B w).alloc (by omega) _).trans hb1⟩
/-- The loop's invariant: pre has been appended. -/
structure PathInv (B b rb n : Nat) (w : World) (R : Rd) (pre : List ByteArray) (W : World) : Prop where
  parts : ∃ pv wv av, RdParts B W b (R.setPath (R.c.path ++ pre)) pv wv av ∧ (∀ k, pv.ownBlock = some k → (k < n ∨ n + 4 < k) ∧ k ≠ rb) ∧ (∀ k, wv.ownBlock = some k → k < n)
  box : W.heap[rb]? = some (.cells #[.pointer (some ⟨b, 0, none⟩)] 53 (0, 0))
  keep : Below B w W
  size : n + 3 ≤ W.heap.size
theorem PathInv.stab {B b rb n : Nat} {w : World} {R : Rd} (hB : B ≤ b) (hb : b < n) (hrb : rb < n) :
    Stab (fun k => k = n ∨ k = n + 3 ∨ k = n + 3 + 1) (PathInv B b rb n w R) := by
  rintro s A A' ⟨⟨pv, wv, av, hp, hpv, hwv⟩, hbox, hk, hs⟩ hkeep
  have hne : ∀ k, k < n → ¬ (k = n ∨ k = n + 3 ∨ k = n + 3 + 1) := by omega
  refine ⟨⟨pv, wv, av, ⟨hkeep.get hp.blk (hne b hb), hp.hB, ?_, ?_, hp.apart, ?_⟩, hpv, hwv⟩, hkeep.get hbox (hne rb hrb), ?_, Nat.le_trans hs hkeep.size⟩
  · exact hkeep.ownsRow hp.path (fun k hk e => by have := hpv k hk; omega)
  · exact hkeep.ownsRow hp.wishes (fun k hk e => by have := hwv k hk; omega)
  · exact hp.args.below (Below.of_keep hkeep (by omega) (fun k hkB e => by omega))
  · exact hk.trans (Below.of_keep hkeep (by omega) (fun k hkB e => by omega))
theorem grown_undrew {X W6 : World} {row : Option Nat} (h : X.drew.grownBy W6 row) : X.grownBy W6 row := ⟨h.os, h.tape, h.output, h.size, h.block⟩
theorem infoString : (Tryz.prog.info? 9).map (fun i => (i.zero, i.size, i.bytes)) = some (some (.string ⟨#[]⟩), 1, 16) := by kernel_rfl
theorem path_close {B b : Nat} {W W6 : World} {R3 : Rd} {pv wv av : Value} (h : RdParts B W b R3 pv wv av) (x : ByteArray) (O : Obj) {gg cap : Nat}
    (hg : (W.alloc O).grownBy W6 pv.ownBlock) (hown : W6.ownsRow (b + 1) 9 1 (.slice (some ⟨gg, 0, none⟩) (R3.c.path.length + 1) cap) (R3.c.path.length + 1) (R3.c.path.map .string ++ [.string x])) (hat : pv.ownBlock = some gg ∨ gg = W.heap.size + 1)
    (hb6 : W6.heap[b]? = some (.cells (rdCells R3 pv wv av) 55 (0, 0))) :
    RdParts B (W6.setCell ⟨b, 8, none⟩ (.slice (some ⟨gg, 0, none⟩) (R3.c.path.length + 1) cap)) b (R3.setPath (R3.c.path ++ [x])) (.slice (some ⟨gg, 0, none⟩) (R3.c.path.length + 1) cap) wv av ∧
      Keep (fun k => k = b ∨ pv.ownBlock = some k) W (W6.setCell ⟨b, 8, none⟩ (.slice (some ⟨gg, 0, none⟩) (R3.c.path.length + 1) cap)) := by
  have hlt := lt_of_block h.blk
  have hBb := h.hB
  have hpl := h.path.lt
  have hwl := h.wishes.lt
  have hK : Keep (fun k => k = b ∨ pv.ownBlock = some k) W (W6.setCell ⟨b, 8, none⟩ (.slice (some ⟨gg, 0, none⟩) (R3.c.path.length + 1) cap)) :=
    ((((Keep.refl _ W).alloc O).grown hg (fun k hk => .inl (.inr hk)))).setCell (p := ⟨b, 8, none⟩) (.inl (.inl rfl)) _
  have hB6 : Below B W W6 := ((Below.refl B W).alloc (by omega) O).grown hg (by simp; omega) (fun k hk => by have := hpl k hk; omega)
  have hwish6 : W6.ownsRow (b + 1) 42 3 wv R3.c.wishes.length (R3.c.wishes.flatMap Wish.cells) :=
    (h.wishes.alloc O).kept hg (by
      cases hw : wv.ownBlock with
      | none => exact .inl rfl
      | some k => exact .inr (fun e => h.apart k e.symm hw))
  have hgg : b + 1 ≤ gg := (hown.lt gg rfl).1
  refine ⟨⟨by rw [block_setCell hb6]; rfl, hBb, ?_, ?_, ?_, (h.args.below hB6).below ((Below.refl _ _).setCell (p := ⟨b, 8, none⟩) hBb _)⟩, hK⟩
  · have := ownsRow_setCell_below hown (a := ⟨b, 8, none⟩) (by show b < b + 1; omega) (.slice (some ⟨gg, 0, none⟩) (R3.c.path.length + 1) cap)
    simpa [Rd.setPath] using this
  · exact ownsRow_setCell_below hwish6 (by show b < b + 1; omega) _
  · intro k hk e
    simp only [Value.ownBlock, Option.some.injEq] at hk
    subst hk
    rcases hat with hat | hat
    · exact h.apart _ hat e
    · have := hwl _ e; omega
set_option maxHeartbeats 4000000 in
set_option maxRecDepth 100000 in
theorem path_split (B b : Nat) (R : Rd) (w : World) (h : RdOk B w b R) (ho : ArgsOk R.args) (hd : R.arg ≠ dashB) (hp : R.c.path.length ≤ 1000) :
    Calls Tryz.prog 30 #[.pointer (some ⟨b, 0, none⟩)] w fun en w' => en = .returned (.tuple #[]) ∧ RdAt B w' b R.readPath ∧ Below B w w' := by
  have hd' : (R.arg.toList == [45]) = false := by have := toList_ne hd; rwa [show dashB.toList = [45] from by rw [ByteArray.toList_eq]; rfl] at this
  have e1 : R.readPath = (R.rest.setPath (R.rest.c.path ++ splitAt R.arg slashB)).pathCheck := by simp [Rd.readPath, hd]; rfl
  rw [e1]
  have hlt := h.at_.lt
  have H := Lib.hid h
  have hz := ho.arg
  obtain ⟨i0, hi, hz0, hz1, hz2'⟩ := info_parts infoString
  have HI0 := Lib.hid hi
  have HZ0 := Lib.hid hz0
  have HZ1 := Lib.hid hz1
  have HZ2 := Lib.hid hz2'
  clear hd e1 ho hi hz0 hz1 hz2'
  obtain ⟨pv0, wv0, av0, hparts⟩ := h.at_
  have HPL0 := Lib.hid (fun k hk => (hparts.path.lt k hk).2)
  have hparts1 := hparts.later ((Keep.refl (fun _ => False) w).alloc (Obj.cells #[.pointer (some ⟨b, 0, none⟩)] 53))
  have hN := next_parts B b R _ pv0 wv0 av0 hparts1
  have HN := Lib.hid hN
  clear hparts hparts1 hN h
  refine (callsIn_wide (n := 3)).1 (callsIn_of_wp_marks Tryz.func30 rfl trivial ?_ rfl)
  simp only [Tryz.ntmps30, List.size_toArray, List.length_cons, List.length_nil, Nat.reduceAdd, Nat.reduceSub, Array.replicate_succ, Array.replicate_zero, List.push_toArray, List.append_toArray, List.nil_append, List.cons_append]
  gi_wp2
  refine ⟨trivial, (callsIn_wide.2 HN.out).mono ?_⟩
  rintro e w1 ⟨rfl, ⟨av1, h1⟩, hk1⟩
  have hbox1 := hk1.get (block_new w (Obj.cells #[.pointer (some ⟨b, 0, none⟩)] 53)) (show ¬ w.heap.size = b by omega)
  have hs1 := hk1.size
  simp only [World.size_alloc] at hs1
  obtain ⟨rb, hrb⟩ : ∃ rb, rb = w.heap.size := ⟨_, rfl⟩
  rw [← hrb] at hbox1 hs1 hlt HPL0
  have HBX1 := Lib.hid hbox1
  have HP1 := Lib.hid h1
  have hB1 : Below B w w1 := ((Below.refl B w).alloc (by omega) _).trans (below_keep1 hk1 hlt.1 (by simp; omega))
  have HB1 := Lib.hid hB1
  rw [← hrb]
  clear HN h1 hk1 hbox1 hB1 hrb
  gi_wp2
  refine ⟨trivial, (callsIn_wide.2 (SplitSeq_make R.arg slashB w1)).mono ?_⟩
  rintro e w2 ⟨rfl, rfl⟩
  obtain ⟨n, hn⟩ : ∃ n, n = w1.heap.size := ⟨_, rfl⟩
  have k0 : Keep (fun _ => False) w1 (((w1.alloc (.cells #[.string R.arg] 9)).alloc (.cells #[.string slashB] 9)).alloc (.cells #[.int .i64 0] 3)) := (((Keep.refl _ w1).alloc _).alloc _).alloc _
  have b0 := block_alloc (block_alloc (block_new w1 (.cells #[.string R.arg] 9)) (.cells #[.string slashB] 9)) (.cells #[.int .i64 0] 3)
  have b1 := block_alloc (block_new (w1.alloc (.cells #[.string R.arg] 9)) (.cells #[.string slashB] 9)) (.cells #[.int .i64 0] 3)
  have b2 := block_new ((w1.alloc (.cells #[.string R.arg] 9)).alloc (.cells #[.string slashB] 9)) (.cells #[.int .i64 0] 3)
  have hsz : (((w1.alloc (.cells #[.string R.arg] 9)).alloc (.cells #[.string slashB] 9)).alloc (.cells #[.int .i64 0] 3)).heap.size = n + 3 := by simp [hn]
  simp only [World.size_alloc] at b1 b2
  rw [← hn] at b0 b1 b2 hs1
  rw [← hn]
  have HP2 := Lib.hid (HP1.out.later k0)
  have HBX2 := Lib.hid (k0.get HBX1.out id)
  have hpl := HP1.out.path.lt
  have hwl := HP1.out.wishes.lt
  rw [← hn] at hpl hwl
  have HPL := Lib.hid hpl
  have HWL := Lib.hid hwl
  have HK0 := Lib.hid (HB1.out.trans (k0.below.mono (by rw [← hn]; omega)))
  generalize (((w1.alloc (.cells #[.string R.arg] 9)).alloc (.cells #[.string slashB] 9)).alloc (.cells #[.int .i64 0] 3)) = W0 at *
  have hlaw := splitSeq_law R.arg 47 hz (n + 1) n (n + 2) W0 (by omega) (by omega) b1 b0 b2
  clear k0 b0 b1 b2 hpl hwl hn
  gi_wp2
  have hD : W0.heap.size = n + 3 := hsz
  refine wp_seq rfl (fun args w => by kernel_rfl) hlaw (Below.refl _ _) (fun k hk => ⟨by rcases hk with rfl | rfl | rfl <;> omega, rfl⟩) (fun x => rfl)
    (PathInv B b rb n w R.rest) (fun _ _ _ => False) (by rw [hD]; exact PathInv.stab hlt.1 (by omega) (by omega)) (fun _ _ _ _ h _ => h) ?h0
    (fun x => { tmps := #[.pointer (some ⟨b, 0, none⟩), .pointer (some ⟨rb, 0, none⟩), .string R.arg, .string x, undef, .pointer (some ⟨b, 0, none⟩), .string R.arg, .string R.arg, .bool false, .string R.arg, .func (.func 78) #[] #[.pointer (some ⟨n + 1, 0, none⟩), .pointer (some ⟨n, 0, none⟩), .pointer (some ⟨n + 2, 0, none⟩)], .string x, undef, undef, undef, undef, undef, undef, undef, undef, undef, undef, undef, undef, undef, undef, undef, undef, undef, undef, undef, undef, undef, undef, undef], defers := [] }) ?assign ?body ?done ?stop
  case h0 =>
    intro W hkW
    refine ⟨⟨pv0, wv0, av1, ?_, fun k hk => ⟨.inl (HPL.out k hk).2, by have := HPL0.out k hk; omega⟩, fun k hk => (HWL.out k hk).2⟩, hkW.get HBX2.out id, HK0.out.trans (hkW.below.mono (by omega)), by have := hkW.size; omega⟩
    have := HP2.out.later hkW
    simpa [Rd.setPath] using this
  case assign =>
    intro x W K hK
    gi_wp2
    exact hK
  case body =>
    rintro pre x post W ⟨⟨pv, wv, av, hpp, hpv, hwv⟩, hbx, hkp, hszW⟩ hpre hW2 _
    rw [hD] at hW2
    have hcx := cell_of_block hbx
    have hcb := cell_of_block hpp.blk
    have hfb := free_of_block hpp.blk
    have hcb1 := cell_of_block1 hpp.blk
    have hfb1 := free_of_block1 hpp.blk
    simp only [rdCells] at hcb hcb1
    have HPA := Lib.hid (hpp.path.alloc (.cells #[.string x] 9))
    have HPP := Lib.hid hpp
    have HBX := Lib.hid hbx
    have HPV := Lib.hid hpv
    have HWV := Lib.hid hwv
    have HKP := Lib.hid hkp
    have HPRE := Lib.hid hpre
    have hln : (R.rest.setPath (R.rest.c.path ++ pre)).c.path.length ≤ 6000000 := by
      have h1 := congrArg List.length hpre
      have h2 := splitAt_length R.arg ⟨#[47]⟩ (Nat.le_refl 1)
      have h3 := Lib.countB_le ⟨#[47]⟩ (Nat.le_refl 1) R.arg.size R.arg (Nat.le_refl _)
      simp only [List.length_append, List.length_cons] at h1
      show (R.c.path ++ pre).length ≤ 6000000
      rw [List.length_append]
      omega
    have HLN := Lib.hid hln
    clear hpp hbx hpv hwv hkp hpre hln
    gi_wp2
    refine wp_region_round (S := fun w' => w'.cell? ⟨rb, 0, none⟩ = some (.pointer (some ⟨b, 0, none⟩))) (by kernel_rfl) (by kernel_rfl) (fun ⟨_, _, h⟩ => h) (hcx 0) (fun hHeld => ?_)
    refine wpAnyH_take (i := 0) (v := ?_) rfl (by kernel_rfl) (by kernel_rfl) (by kernel_rfl) (fun _ _ _ h => h) (Or.inl ⟨by rfl, ?_⟩) (by assumption) ?_
    rotate_left
    · intro w hSw; (try dsimp only at hSw); go_simp; with_reducible rfl
    try simp only [Act.put, List.setIfInBounds_toArray, List.set_cons_zero, List.set_cons_succ]
    refine wpAnyH_take (i := 1) (v := ?_) rfl (by kernel_rfl) (by kernel_rfl) (by kernel_rfl) (fun _ _ _ h => h) (Or.inl ⟨by rfl, ?_⟩) (by assumption) ?_
    rotate_left
    · intro w hSw; (try dsimp only at hSw); go_simp; with_reducible rfl
    try simp only [Act.put, List.setIfInBounds_toArray, List.set_cons_zero, List.set_cons_succ]
    refine wpAnyH_take (i := 2) (v := ?_) rfl (by kernel_rfl) (by kernel_rfl) (by kernel_rfl) (fun _ _ _ h => h) (Or.inl ⟨by rfl, ?_⟩) (by assumption) ?_
    rotate_left
    · intro w hSw; (try dsimp only at hSw); go_simp; with_reducible rfl
    try simp only [Act.put, List.setIfInBounds_toArray, List.set_cons_zero, List.set_cons_succ]
    refine wpAnyH_take (i := 3) (v := ?_) rfl (by kernel_rfl) (by kernel_rfl) (by kernel_rfl) (fun _ _ _ h => h) (Or.inl ⟨by rfl, ?_⟩) (by assumption) ?_
    rotate_left
    · intro w hSw; (try dsimp only at hSw); go_simp; with_reducible rfl
    try simp only [Act.put, List.setIfInBounds_toArray, List.set_cons_zero, List.set_cons_succ]
    refine wpAnyH_take (i := 4) (v := ?_) rfl (by kernel_rfl) (by kernel_rfl) (by kernel_rfl) (fun _ _ _ h => h) (Or.inl ⟨by rfl, ?_⟩) (by assumption) ?_
    rotate_left
    · intro w hSw; (try dsimp only at hSw); go_simp; with_reducible rfl
    try simp only [Act.put, List.setIfInBounds_toArray, List.set_cons_zero, List.set_cons_succ]
    refine wpAnyH_take (i := 6) (v := ?_) rfl (by kernel_rfl) (by kernel_rfl) (by kernel_rfl) (fun _ _ _ h => h) (Or.inl ⟨by rfl, ?_⟩) (by assumption) ?_
    rotate_left
    · intro w hSw; (try dsimp only at hSw); go_simp; with_reducible rfl
    try simp only [Act.put, List.setIfInBounds_toArray, List.set_cons_zero, List.set_cons_succ]
    refine wpAnyH_ready (rs := [5, 7]) (by kernel_rfl) (by simp) ?_
    refine AllReadyH.cons rfl (fun K hK => ?_) ?_
    · go_simp
      refine hK.out _ _ ?_ (fun hHeld => ?_)
      · exact hHeld
      clear hK K
      try simp only [Act.put, List.setIfInBounds_toArray, List.set_cons_zero, List.set_cons_succ]
      refine wpAnyH_ready (rs := [7]) (by kernel_rfl) (by simp) ?_
      refine AllReadyH.cons rfl (fun K hK => ?_) ?_
      · go_simp
        refine hK.out _ _ ?_ (fun hHeld => ?_)
        · exact cell_of_block1 HBX.out _ 0
        clear hK K
        try simp only [Act.put, List.setIfInBounds_toArray, List.set_cons_zero, List.set_cons_succ]
        refine wpAnyH_ready (rs := [8]) (by kernel_rfl) (by simp) ?_
        refine AllReadyH.cons rfl (fun K hK => ?_) ?_
        · refine step_append_lies _ (by rfl) _ _ _ (by rfl) (b + 1) 9 i0 _ 1 16 Tryz.underlying22 HI0.out HZ0.out HZ1.out HZ2.out rfl (by omega) pv _ _ (by rfl) HPA.out ⟨W.heap.size, 0, none⟩ 1 1 [.string x] (by rfl) (by rfl) (World.news_of_block (cs := #[.string x]) (t := 9) (fr := (0, 0)) (block_new W _)) (by simp [Value.oneCell']) (by omega) (by unfold maxLen; have := HLN.out; omega) (by have := HLN.out; omega) (by simp; omega) (W.heap.size + 1) (by simp) ?_
          intro gg cap W6 hown6 hgrow hat hlt6
          have hbx6 : W6.heap[rb]? = _ := (hgrow.block rb (by simp; have := lt_of_block HBX.out; omega) (fun e => by have := HPV.out rb e.symm; omega)).trans (block_alloc HBX.out _)
          have hb6 : W6.heap[b]? = _ := (hgrow.block b (by simp; have := lt_of_block HPP.out.blk; omega) (fun e => by have := (HPP.out.path.lt b e.symm).1; omega)).trans (block_alloc HPP.out.blk _)
          have hcx6 := cell_of_block hbx6
          have hcb6 := cell_of_block hb6
          have hfb6 := free_of_block hb6
          simp only [rdCells] at hcb6
          have HBX6 := Lib.hid hbx6
          have HB6 := Lib.hid hb6
          clear hbx6 hb6
          refine hK.out _ _ ?_ (fun hHeld => ?_)
          · exact hcx6 0
          clear hK K
          try simp only [Act.put, List.setIfInBounds_toArray, List.set_cons_zero, List.set_cons_succ]
          refine wpAnyH_take (i := 9) (v := ?_) rfl (by kernel_rfl) (by kernel_rfl) (by kernel_rfl) (fun _ _ _ h => h) (Or.inl ⟨by rfl, ?_⟩) (by assumption) ?_
          rotate_left
          · intro w hSw; (try dsimp only at hSw); go_simp; with_reducible rfl
          try simp only [Act.put, List.setIfInBounds_toArray, List.set_cons_zero, List.set_cons_succ]
          refine wpAnyH_take (i := 10) (v := ?_) rfl (by kernel_rfl) (by kernel_rfl) (by kernel_rfl) (fun _ _ _ h => h) (Or.inl ⟨by rfl, ?_⟩) (by assumption) ?_
          rotate_left
          · intro w hSw; (try dsimp only at hSw); go_simp; with_reducible rfl
          try simp only [Act.put, List.setIfInBounds_toArray, List.set_cons_zero, List.set_cons_succ]
          refine wpAnyH_take (i := 11) (v := ?_) rfl (by kernel_rfl) (by kernel_rfl) (by kernel_rfl) (fun _ _ _ h => h) (Or.inl ⟨by rfl, ?_⟩) (by assumption) ?_
          rotate_left
          · intro w hSw; (try dsimp only at hSw); go_simp; with_reducible rfl
          try simp only [Act.put, List.setIfInBounds_toArray, List.set_cons_zero, List.set_cons_succ]
          refine wpAnyH_ready (rs := [12]) (by kernel_rfl) (by simp) ?_
          refine AllReadyH.cons rfl (fun K hK => ?_) ?_
          · go_simp
            refine hK.out _ _ ?_ (fun hHeld => ?_)
            · exact cell_of_block (block_setCell_ne HBX6.out (by show b ≠ rb; omega) _) 0
            clear hK K
            try simp only [Act.put, List.setIfInBounds_toArray, List.set_cons_zero, List.set_cons_succ]
            refine wpAnyH_done (by kernel_rfl) ?_ _
            have hcl := path_close HPP.out x _ (gg := gg) (cap := cap) (grown_undrew hgrow) hown6 hat HB6.out
            have hks : Keep (fun k => k = b ∨ pv.ownBlock = some k) W _ := hcl.2
            refine ⟨⟨?_, ?_⟩, ?_⟩
            · exact Below.of_keep hks (Nat.zero_le _) (fun k hk => by omega)
            · intro k hk
              refine hks.block k ?_ ?_
              · omega
              · rintro (rfl | hpk)
                · omega
                · have := HPV.out k hpk; omega
            · have e3 : (R.rest.setPath (R.rest.c.path ++ pre)).setPath ((R.rest.setPath (R.rest.c.path ++ pre)).c.path ++ [x]) = R.rest.setPath (R.rest.c.path ++ (pre ++ [x])) := by simp [Rd.setPath, List.append_assoc]
              have hp3 := hcl.1
              rw [e3] at hp3
              refine ⟨⟨_, wv, av, hp3, ?_, HWV.out⟩, block_setCell_ne HBX6.out (by show b ≠ rb; omega) _, HKP.out.trans (Below.of_keep hks (by omega) (fun k hkB e => ?_)), by have := hks.size; omega⟩
              · intro k hk
                simp only [Value.ownBlock, Option.some.injEq] at hk
                subst hk
                rcases hat with hat | hat
                · exact HPV.out _ hat
                · omega
              · rcases e with e | e
                · omega
                · have := (HPP.out.path.lt k e).1; omega
          exact AllReadyH.nil
        exact AllReadyH.nil
      exact AllReadyH.nil
    refine AllReadyH.cons rfl (fun K hK => ?_) ?_
    · go_simp
      refine hK.out _ _ ?_ (fun hHeld => ?_)
      · exact cell_of_block1 HBX.out _ 0
      clear hK K
      try simp only [Act.put, List.setIfInBounds_toArray, List.set_cons_zero, List.set_cons_succ]
      refine wpAnyH_ready (rs := [5]) (by kernel_rfl) (by simp) ?_
      refine AllReadyH.cons rfl (fun K hK => ?_) ?_
      · go_simp
        refine hK.out _ _ ?_ (fun hHeld => ?_)
        · exact hHeld
        clear hK K
        try simp only [Act.put, List.setIfInBounds_toArray, List.set_cons_zero, List.set_cons_succ]
        refine wpAnyH_ready (rs := [8]) (by kernel_rfl) (by simp) ?_
        refine AllReadyH.cons rfl (fun K hK => ?_) ?_
        · refine step_append_lies _ (by rfl) _ _ _ (by rfl) (b + 1) 9 i0 _ 1 16 Tryz.underlying22 HI0.out HZ0.out HZ1.out HZ2.out rfl (by omega) pv _ _ (by rfl) HPA.out ⟨W.heap.size, 0, none⟩ 1 1 [.string x] (by rfl) (by rfl) (World.news_of_block (cs := #[.string x]) (t := 9) (fr := (0, 0)) (block_new W _)) (by simp [Value.oneCell']) (by omega) (by unfold maxLen; have := HLN.out; omega) (by have := HLN.out; omega) (by simp; omega) (W.heap.size + 1) (by simp) ?_
          intro gg cap W6 hown6 hgrow hat hlt6
          have hbx6 : W6.heap[rb]? = _ := (hgrow.block rb (by simp; have := lt_of_block HBX.out; omega) (fun e => by have := HPV.out rb e.symm; omega)).trans (block_alloc HBX.out _)
          have hb6 : W6.heap[b]? = _ := (hgrow.block b (by simp; have := lt_of_block HPP.out.blk; omega) (fun e => by have := (HPP.out.path.lt b e.symm).1; omega)).trans (block_alloc HPP.out.blk _)
          have hcx6 := cell_of_block hbx6
          have hcb6 := cell_of_block hb6
          have hfb6 := free_of_block hb6
          simp only [rdCells] at hcb6
          have HBX6 := Lib.hid hbx6
          have HB6 := Lib.hid hb6
          clear hbx6 hb6
          refine hK.out _ _ ?_ (fun hHeld => ?_)
          · exact hcx6 0
          clear hK K
          try simp only [Act.put, List.setIfInBounds_toArray, List.set_cons_zero, List.set_cons_succ]
          refine wpAnyH_take (i := 9) (v := ?_) rfl (by kernel_rfl) (by kernel_rfl) (by kernel_rfl) (fun _ _ _ h => h) (Or.inl ⟨by rfl, ?_⟩) (by assumption) ?_
          rotate_left
          · intro w hSw; (try dsimp only at hSw); go_simp; with_reducible rfl
          try simp only [Act.put, List.setIfInBounds_toArray, List.set_cons_zero, List.set_cons_succ]
          refine wpAnyH_take (i := 10) (v := ?_) rfl (by kernel_rfl) (by kernel_rfl) (by kernel_rfl) (fun _ _ _ h => h) (Or.inl ⟨by rfl, ?_⟩) (by assumption) ?_
          rotate_left
          · intro w hSw; (try dsimp only at hSw); go_simp; with_reducible rfl
          try simp only [Act.put, List.setIfInBounds_toArray, List.set_cons_zero, List.set_cons_succ]
          refine wpAnyH_take (i := 11) (v := ?_) rfl (by kernel_rfl) (by kernel_rfl) (by kernel_rfl) (fun _ _ _ h => h) (Or.inl ⟨by rfl, ?_⟩) (by assumption) ?_
          rotate_left
          · intro w hSw; (try dsimp only at hSw); go_simp; with_reducible rfl
          try simp only [Act.put, List.setIfInBounds_toArray, List.set_cons_zero, List.set_cons_succ]
          refine wpAnyH_ready (rs := [12]) (by kernel_rfl) (by simp) ?_
          refine AllReadyH.cons rfl (fun K hK => ?_) ?_
          · go_simp
            refine hK.out _ _ ?_ (fun hHeld => ?_)
            · exact cell_of_block (block_setCell_ne HBX6.out (by show b ≠ rb; omega) _) 0
            clear hK K
            try simp only [Act.put, List.setIfInBounds_toArray, List.set_cons_zero, List.set_cons_succ]
            refine wpAnyH_done (by kernel_rfl) ?_ _
            have hcl := path_close HPP.out x _ (gg := gg) (cap := cap) (grown_undrew hgrow) hown6 hat HB6.out
            have hks : Keep (fun k => k = b ∨ pv.ownBlock = some k) W _ := hcl.2
            refine ⟨⟨?_, ?_⟩, ?_⟩
            · exact Below.of_keep hks (Nat.zero_le _) (fun k hk => by omega)
            · intro k hk
              refine hks.block k ?_ ?_
              · omega
              · rintro (rfl | hpk)
                · omega
                · have := HPV.out k hpk; omega
            · have e3 : (R.rest.setPath (R.rest.c.path ++ pre)).setPath ((R.rest.setPath (R.rest.c.path ++ pre)).c.path ++ [x]) = R.rest.setPath (R.rest.c.path ++ (pre ++ [x])) := by simp [Rd.setPath, List.append_assoc]
              have hp3 := hcl.1
              rw [e3] at hp3
              refine ⟨⟨_, wv, av, hp3, ?_, HWV.out⟩, block_setCell_ne HBX6.out (by show b ≠ rb; omega) _, HKP.out.trans (Below.of_keep hks (by omega) (fun k hkB e => ?_)), by have := hks.size; omega⟩
              · intro k hk
                simp only [Value.ownBlock, Option.some.injEq] at hk
                subst hk
                rcases hat with hat | hat
                · exact HPV.out _ hat
                · omega
              · rcases e with e | e
                · omega
                · have := (HPP.out.path.lt k e).1; omega
          exact AllReadyH.nil
        exact AllReadyH.nil
      exact AllReadyH.nil
    exact AllReadyH.nil
  case done =>
    intro W hI hdef
    obtain ⟨⟨pv, wv, av, hpp, hpv, hwv⟩, hbx, hkp, hszW⟩ := hI
    rw [hD] at hdef
    have hcx := cell_of_block hbx
    have hcb := cell_of_block hpp.blk
    simp only [rdCells] at hcb
    have hP := Path_any pv (R.rest.setPath (R.rest.c.path ++ splitAt R.arg ⟨#[47]⟩)).c.path W.heap.size W (StrsIn.of_owns rfl hpp.path)
    have HBX := Lib.hid hbx
    have HDF := Lib.hid hdef
    have HKP := Lib.hid hkp
    have hK2 : ∀ U, Keep (fun k => k = b) W U → RdParts B U b (R.rest.setPath (R.rest.c.path ++ splitAt R.arg slashB)).pathCheck pv wv av → U.heap[n + 3]? = some (.deferred none) ∨ True → RdAt B (U.putObj (n + 3) (.deferred none)) b (R.rest.setPath (R.rest.c.path ++ splitAt R.arg slashB)).pathCheck ∧ Below B w (U.putObj (n + 3) (.deferred none)) := by
      intro U hkU hpU _
      have hkp2 : Keep (fun k => k = n + 3) U (U.putObj (n + 3) (.deferred none)) := keep_putObj _ U _ _ rfl
      refine ⟨⟨pv, wv, av, ⟨hkp2.get hpU.blk (by omega), hpU.hB, ?_, ?_, hpU.apart, ?_⟩⟩, (hkp.trans (below_keep1 hkU hlt.1 (by omega))).trans (Below.of_keep hkp2 (by have := hkU.size; omega) (fun k hk e => by omega))⟩
      · exact hkp2.ownsRow hpU.path (fun k hk e => by have := (hpv k hk).1; omega)
      · exact hkp2.ownsRow hpU.wishes (fun k hk e => by have := hwv k hk; omega)
      · exact hpU.args.below (Below.of_keep hkp2 (by have := hkU.size; omega) (fun k hkB e => by omega))
    have HK2 := Lib.hid hK2
    have HPP := Lib.hid hpp
    have hfl := fail_parts B b (R.rest.setPath (R.rest.c.path ++ splitAt R.arg slashB)) (pathErr (R.rest.setPath (R.rest.c.path ++ splitAt R.arg slashB)).c.path) W pv wv av hpp
    have HFL := Lib.hid hfl
    clear hpp hbx hdef hK2 hkp hfl
    by_cases hpe : pathErr (R.rest.setPath (R.rest.c.path ++ splitAt R.arg ⟨#[47]⟩)).c.path = 0
    · have hpe1 : (R.rest.setPath (R.rest.c.path ++ splitAt R.arg slashB)).pathCheck = R.rest.setPath (R.rest.c.path ++ splitAt R.arg slashB) := if_pos hpe
      have HPE := Lib.hid hpe1
      rw [hpe] at hP
      clear hpe hpe1
      gi_wp2
      refine ⟨trivial, (callsIn_wide.2 hP).mono ?_⟩
      rintro e w3 ⟨rfl, rfl⟩
      gi_wp2
      refine ⟨by simp, .inl ⟨_, _, rfl, run_takeDeferred HDF.out, ?_⟩⟩
      refine ⟨.tuple #[], results_none (fn := Tryz.f30) rfl _ _ _, rfl, ?_⟩
      exact HK2.out _ (Keep.refl _ _) (by rw [HPE.out]; exact HPP.out) (.inr trivial)
    · have hpe1 : (R.rest.setPath (R.rest.c.path ++ splitAt R.arg slashB)).pathCheck = (R.rest.setPath (R.rest.c.path ++ splitAt R.arg slashB)).fail (pathErr (R.rest.setPath (R.rest.c.path ++ splitAt R.arg slashB)).c.path) := if_neg hpe
      have HPE := Lib.hid hpe1
      have hpe2 : (pathErr (R.rest.setPath (R.rest.c.path ++ splitAt R.arg ⟨#[47]⟩)).c.path == 0) = false := by simpa using hpe
      clear hpe hpe1
      gi_wp2
      refine ⟨trivial, (callsIn_wide.2 hP).mono ?_⟩
      rintro e w3 ⟨rfl, rfl⟩
      gi_wp2
      refine ⟨trivial, (callsIn_wide.2 HFL.out).mono ?_⟩
      rintro e w4 ⟨rfl, h4, hk4⟩
      have hdf4 := hk4.get HDF.out (by omega)
      have HDF4 := Lib.hid hdf4
      clear hdf4
      gi_wp2
      refine ⟨by simp, .inl ⟨_, _, rfl, run_takeDeferred HDF4.out, ?_⟩⟩
      refine ⟨.tuple #[], results_none (fn := Tryz.f30) rfl _ _ _, rfl, ?_⟩
      exact HK2.out _ hk4 (by rw [HPE.out]; exact h4) (.inr trivial)
  case stop =>
    intro c pre post W _ h _
    exact h.elim
theorem readPath_any (B b : Nat) (R : Rd) (w : World) (h : RdOk B w b R) (ho : ArgsOk R.args) (hp : R.c.path.length ≤ 1000) :
    Calls Tryz.prog 30 #[.pointer (some ⟨b, 0, none⟩)] w fun en w' => en = .returned (.tuple #[]) ∧ RdAt B w' b R.readPath ∧ Below B w w' := by
  by_cases hd : R.arg = dashB
  · exact path_dash B b R w h hd
  · exact path_split B b R w h ho hd hp
end Go.Proofs.YtamjhnibenonjaaGreatDoor
