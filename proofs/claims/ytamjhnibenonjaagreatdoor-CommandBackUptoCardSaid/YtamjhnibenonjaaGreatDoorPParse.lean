/- command.Parse. -/
import Derived.Test.YtamjhnibenonjaaGreatDoorPParse0
import Derived.Deep.QuietTactic
import Derived.BigQuiet
namespace Go.Proofs.YtamjhnibenonjaaGreatDoor
set_option linter.unusedVariables false
set_option linter.unusedSimpArgs false
open Go Go.RowKit
structure ParseMid (w w3 : World) (x : ByteArray) (D : Nat) (sv : Value) : Prop where
  form : w3.heap[D]? = some (.cells #[.int .i64 (formOr (upB x)).kind, .int .i64 (formOr (upB x)).least, .int .i64 (formOr (upB x)).most, sv] 48 (0, 0))
  res : w3.heap[w.heap.size]? = some (.cells #[.int .i64 0, .string ⟨#[]⟩, .int .i64 0, .int .i64 0, .int .i64 0, .int .i64 0, .int .i64 0, .bool false, .slice none 0 0, .slice none 0 0, .int .i64 0] 31 (0, 0))
  fns : FnsIn w3 (w.heap.size + 1) sv (formOr (upB x)).fns
  keep : Keep (fun _ => False) w w3
  lt : w.heap.size < D
set_option maxHeartbeats 8000000 in
set_option maxRecDepth 100000 in
theorem Parse_some (v : Value) (x : ByteArray) (l : List ByteArray) (w : World) (h : StrsIn w w.heap.size v (x :: l)) (ho : ArgsOk (x :: l)) (hg : Glob w) (hb : 9 < w.heap.size) :
    Calls Tryz.prog 10 #[v] w fun en w' => ∃ cv, en = .returned (.tuple #[cv, .int .i64 (parseF (x :: l)).2]) ∧ CmdIn w' w'.heap.size cv (parseF (x :: l)).1 ∧ Keep (fun _ => False) w w' := by
  obtain ⟨a, c, rfl, hlc, hcm, hel⟩ := h
  obtain ⟨ab, o, rfl, hab, hx⟩ := hel (by simp)
  have hx0 : w.cell? ⟨ab, o, none⟩ = some (.string x) := hx 0 x (by simp)
  have hn0 : (((x :: l).length : Int) == 0) = false := by simp; omega
  have hsz : x.size ≤ 4194304 := ho x (by simp)
  have HX := Lib.hid hx
  obtain ⟨T, hT⟩ : ∃ T, T = parseF (x :: l) := ⟨_, rfl⟩
  rw [← hT]
  have HT := Lib.hid hT
  clear hx hel hT
  go_enter Tryz.func10, Tryz.ntmps10
  go_wp2
  have k0 : Keep (fun _ => False) w (w.alloc (.cells #[.int .i64 0, .string ⟨#[]⟩, .int .i64 0, .int .i64 0, .int .i64 0, .int .i64 0, .int .i64 0, .bool false, .slice none 0 0, .slice none 0 0, .int .i64 0] 31)) := (Keep.refl _ _).alloc _
  have hres := block_new w (.cells #[.int .i64 0, .string ⟨#[]⟩, .int .i64 0, .int .i64 0, .int .i64 0, .int .i64 0, .int .i64 0, .bool false, .slice none 0 0, .slice none 0 0, .int .i64 0] 31)
  have hs0 : (w.alloc (.cells #[.int .i64 0, .string ⟨#[]⟩, .int .i64 0, .int .i64 0, .int .i64 0, .int .i64 0, .int .i64 0, .bool false, .slice none 0 0, .slice none 0 0, .int .i64 0] 31)).heap.size = w.heap.size + 1 := by simp
  generalize w.alloc (.cells #[.int .i64 0, .string ⟨#[]⟩, .int .i64 0, .int .i64 0, .int .i64 0, .int .i64 0, .int .i64 0, .bool false, .slice none 0 0, .slice none 0 0, .int .i64 0] 31) = W0 at *
  refine wp_mono (Q := fun ex a' w3 => ex = .normal ∧ ∃ D sv u14 u15 u16 u17 u18 u19 u20 u21 u22, a' = { tmps := #[.slice (some ⟨ab, o, none⟩) (l.length + 1) c, undef, .pointer (some ⟨w.heap.size, 0, none⟩), .int .i64 0, .pointer (some ⟨D, 0, none⟩), .bool (formFor (upB x)).isSome, undef, undef, undef, undef, .slice (some ⟨ab, o, none⟩) (l.length + 1) c, .int .i64 (l.length + 1), .bool ((l.length : Int) + 1 == 0), undef, u14, u15, u16, u17, u18, u19, u20, u21, u22, undef, undef, undef, undef, undef, undef, undef, undef, undef, undef, undef, undef, undef, undef, undef, undef, undef, undef, undef, undef, undef, undef, undef, undef, undef, undef, undef, undef, undef, undef, undef, undef, undef, undef, undef, undef, undef, undef, undef, undef, undef, undef, undef, undef, undef, undef, undef, undef, undef, undef, undef], defers := [] } ∧ ParseMid w w3 x D sv) ?_ ?_
  · have HXW := Lib.hid hx0
    have HX0 : Hid (W0.drew.cell? ⟨ab, o, none⟩ = some (.string x)) := k0.cell hx0 id
    have HK0 := Lib.hid (Keep.refl (fun _ => False) W0.drew)
    have HSD : Hid (W0.drew.heap.size = w.heap.size + 1) := hs0
    have HRES : Hid (W0.drew.heap[w.heap.size]? = _) := hres
    have HKW := Lib.hid (k0.drew)
    refine wp_region_held_drew (S := fun w' => w'.cell? ⟨ab, o, none⟩ = some (.string x)) (by kernel_rfl) HX0.out (fun hHeld => ?_)
    clear hx0 k0 hres hs0
    generalize W0.drew = W1 at *
    refine wpAnyH_take (i := 1) (v := ?_) rfl (by kernel_rfl) (by kernel_rfl) (by kernel_rfl) (fun _ _ _ h => nomatch h.1) (Or.inl ⟨by rfl, ?_⟩) (by assumption) ?_
    rotate_left
    · intro w hSw; (try dsimp only at hSw); go_simp; with_reducible rfl
    try simp only [Act.put, List.setIfInBounds_toArray, List.set_cons_zero, List.set_cons_succ]
    refine wpAnyH_take (i := 2) (v := ?_) rfl (by kernel_rfl) (by kernel_rfl) (by kernel_rfl) (fun _ _ _ h => nomatch h.1) (Or.inl ⟨by rfl, ?_⟩) (by assumption) ?_
    rotate_left
    · intro w hSw; (try dsimp only at hSw); go_simp; with_reducible rfl
    try simp only [Act.put, List.setIfInBounds_toArray, List.set_cons_zero, List.set_cons_succ]
    refine wpAnyH_take (i := 3) (v := ?_) rfl (by kernel_rfl) (by kernel_rfl) (by kernel_rfl) (fun _ _ _ h => nomatch h.1) (Or.inl ⟨by rfl, ?_⟩) (by assumption) ?_
    rotate_left
    · intro w hSw; (try dsimp only at hSw); go_simp; with_reducible rfl
    try simp only [Act.put, List.setIfInBounds_toArray, List.set_cons_zero, List.set_cons_succ]
    refine wpAnyH_ready (rs := [0, 9]) (by kernel_rfl) (by simp) ?_
    refine AllReadyH.cons rfl (fun K hK => ?_) ?_
    · go_simp
      refine (forms_any _).mono ?_
      rintro e w1 ⟨rfl, hf1, hk1⟩
      have HF1 := Lib.hid hf1
      have HK1 := Lib.hid (HK0.out.trans hk1)
      have HM1 := Lib.hid HK0.out.size
      clear hf1 hk1
      go_wp2_with fail
      refine hK.out _ _ ?_ (fun hHeld => ?_)
      · exact HK1.out.cell HX0.out id
      clear hK K
      try simp only [Act.put, List.setIfInBounds_toArray, List.set_cons_zero, List.set_cons_succ]
      refine wpAnyH_ready (rs := [4, 9]) (by kernel_rfl) (by simp) ?_
      refine AllReadyH.cons rfl (fun K hK => ?_) ?_
      · go_simp
        refine (upper_any x hsz _).mono ?_
        rintro e w2 ⟨rfl, hk2⟩
        have HF2 := Lib.hid (HF1.out.keep hk2)
        have HK2 := Lib.hid (HK1.out.trans hk2)
        have HM2 := HM1
        clear hk2
        go_wp2_with fail
        refine hK.out _ _ ?_ (fun hHeld => ?_)
        · exact HK2.out.cell HX0.out id
        clear hK K
        try simp only [Act.put, List.setIfInBounds_toArray, List.set_cons_zero, List.set_cons_succ]
        refine wpAnyH_ready (rs := [5, 9]) (by kernel_rfl) (by simp) ?_
        refine AllReadyH.cons rfl (fun K hK => ?_) ?_
        · obtain ⟨sv, hsv, hl⟩ := HF2.out.look (upB x)
          have hsv' := hsv
          obtain ⟨sa, sc, rfl, hsl⟩ := hsv'
          clear hsl
          go_simp
          have HS3 := Lib.hid hsv
          clear hsv hl
          have HK3 := HK2
          have HF3 := HF2
          have HM3 := HM2
          refine hK.out _ _ ?_ (fun hHeld => ?_)
          · exact hHeld
          clear hK K
          try simp only [Act.put, List.setIfInBounds_toArray, List.set_cons_zero, List.set_cons_succ]
          refine wpAnyH_take (i := 6) (v := ?_) rfl (by kernel_rfl) (by kernel_rfl) (by kernel_rfl) (fun _ _ _ h => nomatch h.1) (Or.inl ⟨by rfl, ?_⟩) (by assumption) ?_
          rotate_left
          · intro w hSw; (try dsimp only at hSw); go_simp; with_reducible rfl
          try simp only [Act.put, List.setIfInBounds_toArray, List.set_cons_zero, List.set_cons_succ]
          refine wpAnyH_take (i := 7) (v := ?_) rfl (by kernel_rfl) (by kernel_rfl) (by kernel_rfl) (fun _ _ _ h => nomatch h.1) (Or.inl ⟨by rfl, ?_⟩) (by assumption) ?_
          rotate_left
          · intro w hSw; (try dsimp only at hSw); go_simp; with_reducible rfl
          try simp only [Act.put, List.setIfInBounds_toArray, List.set_cons_zero, List.set_cons_succ]
          refine wpAnyH_take (i := 8) (v := ?_) rfl (by kernel_rfl) (by kernel_rfl) (by kernel_rfl) (fun _ _ _ h => nomatch h.1) (Or.inl ⟨by rfl, ?_⟩) (by assumption) ?_
          rotate_left
          · intro w hSw; (try dsimp only at hSw); go_simp; with_reducible rfl
          try simp only [Act.put, List.setIfInBounds_toArray, List.set_cons_zero, List.set_cons_succ]
          refine wpAnyH_ready (rs := [9]) (by kernel_rfl) (by simp) ?_
          refine AllReadyH.cons rfl (fun K hK => ?_) ?_
          · go_simp
            have HK4 := Lib.hid (HK3.out.alloc (.cells #[.int .i64 0, .int .i64 0, .int .i64 0, .slice none 0 0] 48))
            have HD4 := Lib.hid (block_new w2 (.cells #[.int .i64 0, .int .i64 0, .int .i64 0, .slice none 0 0] 48))
            have HM4 := HM3
            have HF4 := Lib.hid (HF3.out.keep ((Keep.refl _ w2).alloc (.cells #[.int .i64 0, .int .i64 0, .int .i64 0, .slice none 0 0] 48)))
            have HS4 := Lib.hid (HS3.out.keep ((Keep.refl (fun _ => False) w2).alloc (.cells #[.int .i64 0, .int .i64 0, .int .i64 0, .slice none 0 0] 48)) (fun _ _ _ => id))
            refine hK.out _ _ ?_ (fun hHeld => ?_)
            · exact HK4.out.cell HX0.out id
            clear hK K
            try simp only [Act.put, List.setIfInBounds_toArray, List.set_cons_zero, List.set_cons_succ]
            generalize w2.alloc (.cells #[.int .i64 0, .int .i64 0, .int .i64 0, .slice none 0 0] 48) = w4 at *
            obtain ⟨D, hD⟩ : ∃ D, D = w2.heap.size := ⟨_, rfl⟩
            have HZ4 : Hid (W1.heap.size ≤ D) := by rw [hD]; exact HK3.out.size
            rw [← hD] at HD4 ⊢
            clear hD
            refine wpAnyH_ready (rs := [10]) (by kernel_rfl) (by simp) ?_
            refine AllReadyH.cons rfl (fun K hK => ?_) ?_
            · have hcd := cell_of_block HD4.out
              have hfd := free_of_block HD4.out
              go_simp
              have hb1 := block_setCell (block_setCell (block_setCell (block_setCell HD4.out 0 (.int .i64 (formOr (upB x)).kind)) 1 (.int .i64 (formOr (upB x)).least)) 2 (.int .i64 (formOr (upB x)).most)) 3 (.slice sa (formOr (upB x)).fns.length sc)
              have kd := ((((Keep.refl (fun j => j = D) w4).setCell (p := ⟨D, 0, none⟩) (.inl rfl) (.int .i64 (formOr (upB x)).kind)).setCell (p := ⟨D, 1, none⟩) (.inl rfl) (.int .i64 (formOr (upB x)).least)).setCell (p := ⟨D, 2, none⟩) (.inl rfl) (.int .i64 (formOr (upB x)).most)).setCell (p := ⟨D, 3, none⟩) (.inl rfl) (.slice sa (formOr (upB x)).fns.length sc)
              have hfn := (HS4.out.keepD (D := D) (hcd 0) kd).mono (B' := w.heap.size + 1) (by have := HM4.out; have := HSD.out; omega)
              have hDlt : w.heap.size < D := by have := HZ4.out; have := HSD.out; omega
              have hkp : Keep (fun _ => False) w _ := (HKW.out.trans HK4.out).step kd (fun j hj e => by omega)
              have hrs := kd.get (HK4.out.get HRES.out id) (by omega)
              have HMID := Lib.hid (ParseMid.mk (x := x) hb1 hrs hfn hkp hDlt)
              clear hb1 kd hfn hkp hrs hcd hfd hDlt
              refine hK.out _ _ ?_ (fun hHeld => ?_)
              · exact HMID.out.keep.cell HXW.out id
              clear hK K
              try simp only [Act.put, List.setIfInBounds_toArray, List.set_cons_zero, List.set_cons_succ]
              refine wpAnyH_take (i := 11) (v := ?_) rfl (by kernel_rfl) (by kernel_rfl) (by kernel_rfl) (fun _ _ _ h => nomatch h.1) (Or.inl ⟨by rfl, ?_⟩) (by assumption) ?_
              rotate_left
              · intro w hSw; (try dsimp only at hSw); go_simp; with_reducible rfl
              try simp only [Act.put, List.setIfInBounds_toArray, List.set_cons_zero, List.set_cons_succ]
              exact wpAnyH_done (by kernel_rfl) ⟨rfl, D, _, _, _, _, _, _, _, _, _, _, rfl, HMID.out⟩ _
            exact AllReadyH.nil
          exact AllReadyH.nil
        refine AllReadyH.cons rfl (fun K hK => ?_) ?_
        · go_simp
          have HK3 := Lib.hid (HK2.out.alloc (.cells #[.int .i64 0, .int .i64 0, .int .i64 0, .slice none 0 0] 48))
          have HD3 := Lib.hid (block_new w2 (.cells #[.int .i64 0, .int .i64 0, .int .i64 0, .slice none 0 0] 48))
          have HM3 := HM2
          have HF3 := Lib.hid (HF2.out.keep ((Keep.refl _ w2).alloc (.cells #[.int .i64 0, .int .i64 0, .int .i64 0, .slice none 0 0] 48)))
          refine hK.out _ _ ?_ (fun hHeld => ?_)
          · exact HK3.out.cell HX0.out id
          clear hK K
          try simp only [Act.put, List.setIfInBounds_toArray, List.set_cons_zero, List.set_cons_succ]
          generalize w2.alloc (.cells #[.int .i64 0, .int .i64 0, .int .i64 0, .slice none 0 0] 48) = w3 at *
          obtain ⟨D, hD⟩ : ∃ D, D = w2.heap.size := ⟨_, rfl⟩
          have HZ3 : Hid (W1.heap.size ≤ D) := by rw [hD]; exact HK2.out.size
          rw [← hD] at HD3 ⊢
          clear hD
          refine wpAnyH_ready (rs := [5]) (by kernel_rfl) (by simp) ?_
          refine AllReadyH.cons rfl (fun K hK => ?_) ?_
          · obtain ⟨sv, hsv, hl⟩ := HF3.out.look (upB x)
            have hsv' := hsv
            obtain ⟨sa, sc, rfl, hsl⟩ := hsv'
            clear hsl
            go_simp
            have HS4 := Lib.hid hsv
            clear hsv hl
            have HK4 := HK3
            have HF4 := HF3
            have HM4 := HM3
            have HD4 := HD3
            refine hK.out _ _ ?_ (fun hHeld => ?_)
            · exact hHeld
            clear hK K
            try simp only [Act.put, List.setIfInBounds_toArray, List.set_cons_zero, List.set_cons_succ]
            refine wpAnyH_take (i := 6) (v := ?_) rfl (by kernel_rfl) (by kernel_rfl) (by kernel_rfl) (fun _ _ _ h => nomatch h.1) (Or.inl ⟨by rfl, ?_⟩) (by assumption) ?_
            rotate_left
            · intro w hSw; (try dsimp only at hSw); go_simp; with_reducible rfl
            try simp only [Act.put, List.setIfInBounds_toArray, List.set_cons_zero, List.set_cons_succ]
            refine wpAnyH_take (i := 7) (v := ?_) rfl (by kernel_rfl) (by kernel_rfl) (by kernel_rfl) (fun _ _ _ h => nomatch h.1) (Or.inl ⟨by rfl, ?_⟩) (by assumption) ?_
            rotate_left
            · intro w hSw; (try dsimp only at hSw); go_simp; with_reducible rfl
            try simp only [Act.put, List.setIfInBounds_toArray, List.set_cons_zero, List.set_cons_succ]
            refine wpAnyH_take (i := 8) (v := ?_) rfl (by kernel_rfl) (by kernel_rfl) (by kernel_rfl) (fun _ _ _ h => nomatch h.1) (Or.inl ⟨by rfl, ?_⟩) (by assumption) ?_
            rotate_left
            · intro w hSw; (try dsimp only at hSw); go_simp; with_reducible rfl
            try simp only [Act.put, List.setIfInBounds_toArray, List.set_cons_zero, List.set_cons_succ]
            refine wpAnyH_ready (rs := [10]) (by kernel_rfl) (by simp) ?_
            refine AllReadyH.cons rfl (fun K hK => ?_) ?_
            · have hcd := cell_of_block HD4.out
              have hfd := free_of_block HD4.out
              go_simp
              have hb1 := block_setCell (block_setCell (block_setCell (block_setCell HD4.out 0 (.int .i64 (formOr (upB x)).kind)) 1 (.int .i64 (formOr (upB x)).least)) 2 (.int .i64 (formOr (upB x)).most)) 3 (.slice sa (formOr (upB x)).fns.length sc)
              have kd := ((((Keep.refl (fun j => j = D) w3).setCell (p := ⟨D, 0, none⟩) (.inl rfl) (.int .i64 (formOr (upB x)).kind)).setCell (p := ⟨D, 1, none⟩) (.inl rfl) (.int .i64 (formOr (upB x)).least)).setCell (p := ⟨D, 2, none⟩) (.inl rfl) (.int .i64 (formOr (upB x)).most)).setCell (p := ⟨D, 3, none⟩) (.inl rfl) (.slice sa (formOr (upB x)).fns.length sc)
              have hfn := (HS4.out.keepD (D := D) (hcd 0) kd).mono (B' := w.heap.size + 1) (by have := HM4.out; have := HSD.out; omega)
              have hDlt : w.heap.size < D := by have := HZ3.out; have := HSD.out; omega
              have hkp : Keep (fun _ => False) w _ := (HKW.out.trans HK4.out).step kd (fun j hj e => by omega)
              have hrs := kd.get (HK4.out.get HRES.out id) (by omega)
              have HMID := Lib.hid (ParseMid.mk (x := x) hb1 hrs hfn hkp hDlt)
              clear hb1 kd hfn hkp hrs hcd hfd hDlt
              refine hK.out _ _ ?_ (fun hHeld => ?_)
              · exact HMID.out.keep.cell HXW.out id
              clear hK K
              try simp only [Act.put, List.setIfInBounds_toArray, List.set_cons_zero, List.set_cons_succ]
              refine wpAnyH_take (i := 11) (v := ?_) rfl (by kernel_rfl) (by kernel_rfl) (by kernel_rfl) (fun _ _ _ h => nomatch h.1) (Or.inl ⟨by rfl, ?_⟩) (by assumption) ?_
              rotate_left
              · intro w hSw; (try dsimp only at hSw); go_simp; with_reducible rfl
              try simp only [Act.put, List.setIfInBounds_toArray, List.set_cons_zero, List.set_cons_succ]
              exact wpAnyH_done (by kernel_rfl) ⟨rfl, D, _, _, _, _, _, _, _, _, _, _, rfl, HMID.out⟩ _
            exact AllReadyH.nil
          exact AllReadyH.nil
        exact AllReadyH.nil
      refine AllReadyH.cons rfl (fun K hK => ?_) ?_
      · go_simp
        have HK2 := Lib.hid (HK1.out.alloc (.cells #[.int .i64 0, .int .i64 0, .int .i64 0, .slice none 0 0] 48))
        have HD2 := Lib.hid (block_new w1 (.cells #[.int .i64 0, .int .i64 0, .int .i64 0, .slice none 0 0] 48))
        have HM2 := HM1
        have HF2 := Lib.hid (HF1.out.keep ((Keep.refl _ w1).alloc (.cells #[.int .i64 0, .int .i64 0, .int .i64 0, .slice none 0 0] 48)))
        refine hK.out _ _ ?_ (fun hHeld => ?_)
        · exact HK2.out.cell HX0.out id
        clear hK K
        try simp only [Act.put, List.setIfInBounds_toArray, List.set_cons_zero, List.set_cons_succ]
        generalize w1.alloc (.cells #[.int .i64 0, .int .i64 0, .int .i64 0, .slice none 0 0] 48) = w2 at *
        obtain ⟨D, hD⟩ : ∃ D, D = w1.heap.size := ⟨_, rfl⟩
        have HZ2 : Hid (W1.heap.size ≤ D) := by rw [hD]; exact HK1.out.size
        rw [← hD] at HD2 ⊢
        clear hD
        refine wpAnyH_ready (rs := [4]) (by kernel_rfl) (by simp) ?_
        refine AllReadyH.cons rfl (fun K hK => ?_) ?_
        · go_simp
          refine (upper_any x hsz _).mono ?_
          rintro e w3 ⟨rfl, hk3⟩
          have HF3 := Lib.hid (HF2.out.keep hk3)
          have HK3 := Lib.hid (HK2.out.trans hk3)
          have HM3 := HM2
          have HD3 := Lib.hid (hk3.get HD2.out id)
          clear hk3
          go_wp2_with fail
          refine hK.out _ _ ?_ (fun hHeld => ?_)
          · exact HK3.out.cell HX0.out id
          clear hK K
          try simp only [Act.put, List.setIfInBounds_toArray, List.set_cons_zero, List.set_cons_succ]
          refine wpAnyH_ready (rs := [5]) (by kernel_rfl) (by simp) ?_
          refine AllReadyH.cons rfl (fun K hK => ?_) ?_
          · obtain ⟨sv, hsv, hl⟩ := HF3.out.look (upB x)
            have hsv' := hsv
            obtain ⟨sa, sc, rfl, hsl⟩ := hsv'
            clear hsl
            go_simp
            have HS4 := Lib.hid hsv
            clear hsv hl
            have HK4 := HK3
            have HF4 := HF3
            have HM4 := HM3
            have HD4 := HD3
            refine hK.out _ _ ?_ (fun hHeld => ?_)
            · exact hHeld
            clear hK K
            try simp only [Act.put, List.setIfInBounds_toArray, List.set_cons_zero, List.set_cons_succ]
            refine wpAnyH_take (i := 6) (v := ?_) rfl (by kernel_rfl) (by kernel_rfl) (by kernel_rfl) (fun _ _ _ h => nomatch h.1) (Or.inl ⟨by rfl, ?_⟩) (by assumption) ?_
            rotate_left
            · intro w hSw; (try dsimp only at hSw); go_simp; with_reducible rfl
            try simp only [Act.put, List.setIfInBounds_toArray, List.set_cons_zero, List.set_cons_succ]
            refine wpAnyH_take (i := 7) (v := ?_) rfl (by kernel_rfl) (by kernel_rfl) (by kernel_rfl) (fun _ _ _ h => nomatch h.1) (Or.inl ⟨by rfl, ?_⟩) (by assumption) ?_
            rotate_left
            · intro w hSw; (try dsimp only at hSw); go_simp; with_reducible rfl
            try simp only [Act.put, List.setIfInBounds_toArray, List.set_cons_zero, List.set_cons_succ]
            refine wpAnyH_take (i := 8) (v := ?_) rfl (by kernel_rfl) (by kernel_rfl) (by kernel_rfl) (fun _ _ _ h => nomatch h.1) (Or.inl ⟨by rfl, ?_⟩) (by assumption) ?_
            rotate_left
            · intro w hSw; (try dsimp only at hSw); go_simp; with_reducible rfl
            try simp only [Act.put, List.setIfInBounds_toArray, List.set_cons_zero, List.set_cons_succ]
            refine wpAnyH_ready (rs := [10]) (by kernel_rfl) (by simp) ?_
            refine AllReadyH.cons rfl (fun K hK => ?_) ?_
            · have hcd := cell_of_block HD4.out
              have hfd := free_of_block HD4.out
              go_simp
              have hb1 := block_setCell (block_setCell (block_setCell (block_setCell HD4.out 0 (.int .i64 (formOr (upB x)).kind)) 1 (.int .i64 (formOr (upB x)).least)) 2 (.int .i64 (formOr (upB x)).most)) 3 (.slice sa (formOr (upB x)).fns.length sc)
              have kd := ((((Keep.refl (fun j => j = D) w3).setCell (p := ⟨D, 0, none⟩) (.inl rfl) (.int .i64 (formOr (upB x)).kind)).setCell (p := ⟨D, 1, none⟩) (.inl rfl) (.int .i64 (formOr (upB x)).least)).setCell (p := ⟨D, 2, none⟩) (.inl rfl) (.int .i64 (formOr (upB x)).most)).setCell (p := ⟨D, 3, none⟩) (.inl rfl) (.slice sa (formOr (upB x)).fns.length sc)
              have hfn := (HS4.out.keepD (D := D) (hcd 0) kd).mono (B' := w.heap.size + 1) (by have := HM4.out; have := HSD.out; omega)
              have hDlt : w.heap.size < D := by have := HZ2.out; have := HSD.out; omega
              have hkp : Keep (fun _ => False) w _ := (HKW.out.trans HK4.out).step kd (fun j hj e => by omega)
              have hrs := kd.get (HK4.out.get HRES.out id) (by omega)
              have HMID := Lib.hid (ParseMid.mk (x := x) hb1 hrs hfn hkp hDlt)
              clear hb1 kd hfn hkp hrs hcd hfd hDlt
              refine hK.out _ _ ?_ (fun hHeld => ?_)
              · exact HMID.out.keep.cell HXW.out id
              clear hK K
              try simp only [Act.put, List.setIfInBounds_toArray, List.set_cons_zero, List.set_cons_succ]
              refine wpAnyH_take (i := 11) (v := ?_) rfl (by kernel_rfl) (by kernel_rfl) (by kernel_rfl) (fun _ _ _ h => nomatch h.1) (Or.inl ⟨by rfl, ?_⟩) (by assumption) ?_
              rotate_left
              · intro w hSw; (try dsimp only at hSw); go_simp; with_reducible rfl
              try simp only [Act.put, List.setIfInBounds_toArray, List.set_cons_zero, List.set_cons_succ]
              exact wpAnyH_done (by kernel_rfl) ⟨rfl, D, _, _, _, _, _, _, _, _, _, _, rfl, HMID.out⟩ _
            exact AllReadyH.nil
          exact AllReadyH.nil
        exact AllReadyH.nil
      exact AllReadyH.nil
    refine AllReadyH.cons rfl (fun K hK => ?_) ?_
    · go_simp
      have HK1 := Lib.hid (HK0.out.alloc (.cells #[.int .i64 0, .int .i64 0, .int .i64 0, .slice none 0 0] 48))
      have HD1 := Lib.hid (block_new W1 (.cells #[.int .i64 0, .int .i64 0, .int .i64 0, .slice none 0 0] 48))
      refine hK.out _ _ ?_ (fun hHeld => ?_)
      · exact HK1.out.cell HX0.out id
      clear hK K
      try simp only [Act.put, List.setIfInBounds_toArray, List.set_cons_zero, List.set_cons_succ]
      generalize W1.alloc (.cells #[.int .i64 0, .int .i64 0, .int .i64 0, .slice none 0 0] 48) = w1 at *
      obtain ⟨D, hD⟩ : ∃ D, D = W1.heap.size := ⟨_, rfl⟩
      have HZ1 : Hid (W1.heap.size ≤ D) := by rw [hD]; exact HK0.out.size
      rw [← hD] at HD1 ⊢
      clear hD
      refine wpAnyH_ready (rs := [0]) (by kernel_rfl) (by simp) ?_
      refine AllReadyH.cons rfl (fun K hK => ?_) ?_
      · go_simp
        refine (forms_any _).mono ?_
        rintro e w2 ⟨rfl, hf2, hk2⟩
        have HF2 := Lib.hid hf2
        have HK2 := Lib.hid (HK1.out.trans hk2)
        have HM2 := Lib.hid HK1.out.size
        have HD2 := Lib.hid (hk2.get HD1.out id)
        clear hf2 hk2
        go_wp2_with fail
        refine hK.out _ _ ?_ (fun hHeld => ?_)
        · exact HK2.out.cell HX0.out id
        clear hK K
        try simp only [Act.put, List.setIfInBounds_toArray, List.set_cons_zero, List.set_cons_succ]
        refine wpAnyH_ready (rs := [4]) (by kernel_rfl) (by simp) ?_
        refine AllReadyH.cons rfl (fun K hK => ?_) ?_
        · go_simp
          refine (upper_any x hsz _).mono ?_
          rintro e w3 ⟨rfl, hk3⟩
          have HF3 := Lib.hid (HF2.out.keep hk3)
          have HK3 := Lib.hid (HK2.out.trans hk3)
          have HM3 := HM2
          have HD3 := Lib.hid (hk3.get HD2.out id)
          clear hk3
          go_wp2_with fail
          refine hK.out _ _ ?_ (fun hHeld => ?_)
          · exact HK3.out.cell HX0.out id
          clear hK K
          try simp only [Act.put, List.setIfInBounds_toArray, List.set_cons_zero, List.set_cons_succ]
          refine wpAnyH_ready (rs := [5]) (by kernel_rfl) (by simp) ?_
          refine AllReadyH.cons rfl (fun K hK => ?_) ?_
          · obtain ⟨sv, hsv, hl⟩ := HF3.out.look (upB x)
            have hsv' := hsv
            obtain ⟨sa, sc, rfl, hsl⟩ := hsv'
            clear hsl
            go_simp
            have HS4 := Lib.hid hsv
            clear hsv hl
            have HK4 := HK3
            have HF4 := HF3
            have HM4 := HM3
            have HD4 := HD3
            refine hK.out _ _ ?_ (fun hHeld => ?_)
            · exact hHeld
            clear hK K
            try simp only [Act.put, List.setIfInBounds_toArray, List.set_cons_zero, List.set_cons_succ]
            refine wpAnyH_take (i := 6) (v := ?_) rfl (by kernel_rfl) (by kernel_rfl) (by kernel_rfl) (fun _ _ _ h => nomatch h.1) (Or.inl ⟨by rfl, ?_⟩) (by assumption) ?_
            rotate_left
            · intro w hSw; (try dsimp only at hSw); go_simp; with_reducible rfl
            try simp only [Act.put, List.setIfInBounds_toArray, List.set_cons_zero, List.set_cons_succ]
            refine wpAnyH_take (i := 7) (v := ?_) rfl (by kernel_rfl) (by kernel_rfl) (by kernel_rfl) (fun _ _ _ h => nomatch h.1) (Or.inl ⟨by rfl, ?_⟩) (by assumption) ?_
            rotate_left
            · intro w hSw; (try dsimp only at hSw); go_simp; with_reducible rfl
            try simp only [Act.put, List.setIfInBounds_toArray, List.set_cons_zero, List.set_cons_succ]
            refine wpAnyH_take (i := 8) (v := ?_) rfl (by kernel_rfl) (by kernel_rfl) (by kernel_rfl) (fun _ _ _ h => nomatch h.1) (Or.inl ⟨by rfl, ?_⟩) (by assumption) ?_
            rotate_left
            · intro w hSw; (try dsimp only at hSw); go_simp; with_reducible rfl
            try simp only [Act.put, List.setIfInBounds_toArray, List.set_cons_zero, List.set_cons_succ]
            refine wpAnyH_ready (rs := [10]) (by kernel_rfl) (by simp) ?_
            refine AllReadyH.cons rfl (fun K hK => ?_) ?_
            · have hcd := cell_of_block HD4.out
              have hfd := free_of_block HD4.out
              go_simp
              have hb1 := block_setCell (block_setCell (block_setCell (block_setCell HD4.out 0 (.int .i64 (formOr (upB x)).kind)) 1 (.int .i64 (formOr (upB x)).least)) 2 (.int .i64 (formOr (upB x)).most)) 3 (.slice sa (formOr (upB x)).fns.length sc)
              have kd := ((((Keep.refl (fun j => j = D) w3).setCell (p := ⟨D, 0, none⟩) (.inl rfl) (.int .i64 (formOr (upB x)).kind)).setCell (p := ⟨D, 1, none⟩) (.inl rfl) (.int .i64 (formOr (upB x)).least)).setCell (p := ⟨D, 2, none⟩) (.inl rfl) (.int .i64 (formOr (upB x)).most)).setCell (p := ⟨D, 3, none⟩) (.inl rfl) (.slice sa (formOr (upB x)).fns.length sc)
              have hfn := (HS4.out.keepD (D := D) (hcd 0) kd).mono (B' := w.heap.size + 1) (by have := HM4.out; have := HSD.out; omega)
              have hDlt : w.heap.size < D := by have := HZ1.out; have := HSD.out; omega
              have hkp : Keep (fun _ => False) w _ := (HKW.out.trans HK4.out).step kd (fun j hj e => by omega)
              have hrs := kd.get (HK4.out.get HRES.out id) (by omega)
              have HMID := Lib.hid (ParseMid.mk (x := x) hb1 hrs hfn hkp hDlt)
              clear hb1 kd hfn hkp hrs hcd hfd hDlt
              refine hK.out _ _ ?_ (fun hHeld => ?_)
              · exact HMID.out.keep.cell HXW.out id
              clear hK K
              try simp only [Act.put, List.setIfInBounds_toArray, List.set_cons_zero, List.set_cons_succ]
              refine wpAnyH_take (i := 11) (v := ?_) rfl (by kernel_rfl) (by kernel_rfl) (by kernel_rfl) (fun _ _ _ h => nomatch h.1) (Or.inl ⟨by rfl, ?_⟩) (by assumption) ?_
              rotate_left
              · intro w hSw; (try dsimp only at hSw); go_simp; with_reducible rfl
              try simp only [Act.put, List.setIfInBounds_toArray, List.set_cons_zero, List.set_cons_succ]
              exact wpAnyH_done (by kernel_rfl) ⟨rfl, D, _, _, _, _, _, _, _, _, _, _, rfl, HMID.out⟩ _
            exact AllReadyH.nil
          exact AllReadyH.nil
        exact AllReadyH.nil
      exact AllReadyH.nil
    exact AllReadyH.nil
  · clear hn0 hsz hs0 hres k0 hx0
    rintro ex a' w3 ⟨rfl, D, sv, u14, u15, u16, u17, u18, u19, u20, u21, u22, rfl, hm⟩
    have hcf := cell_of_block hm.form
    have hcr := cell_of_block hm.res
    have hff := free_of_block hm.form
    have hfr := free_of_block hm.res
    have HM := Lib.hid hm
    clear hm
    dsimp only
    cases hf : formFor (upB x) with
    | none =>
      have e1 : T = (Cmd.zero, 10) := by rw [HT.out]; simp [parseF, hf]
      have E1 := Lib.hid e1
      clear e1 hf
      go_wp2
      refine bodyPost_ret (parse_results rfl rfl (cmd_store HM.out.res).1) rfl ?_
      exact ⟨_, by rw [E1.out], by rw [E1.out]; exact CmdIn.zero _ _, HM.out.keep.step (cmd_store HM.out.res).2 (fun k hk e => by omega)⟩
    | some r =>
      have e1 : T = parseRow r l := by rw [HT.out]; simp [parseF, hf]
      have e2 : formOr (upB x) = r := by simp [formOr, hf]
      have hfn : FnsIn w3 (w.heap.size + 1) sv r.fns := e2 ▸ HM.out.fns
      have hform := HM.out.form
      have hrm : r ∈ formTab := List.mem_of_find?_eq_some hf
      have hwl := wrapLen l c hlc hcm
      rw [e2] at hcf hform
      have HRM := Lib.hid hrm
      have HFM := Lib.hid hform
      obtain ⟨sa, sc, rfl, hsl⟩ := hfn
      have HSL := Lib.hid hsl
      clear e2 hf hsl hrm hform
      by_cases hlow : (l.length : Int) < r.least
      · have E1 : Hid (T = (Cmd.zero, 11)) := by rw [e1, parseRow, if_pos (.inl hlow)]; exact rfl
        clear e1
        go_wp2
        refine bodyPost_ret (parse_results rfl rfl (cmd_store HM.out.res).1) rfl ?_
        exact ⟨_, by rw [E1.out], by rw [E1.out]; exact CmdIn.zero _ _, HM.out.keep.step (cmd_store HM.out.res).2 (fun k hk e => by omega)⟩
      · by_cases hhigh : r.most < (l.length : Int)
        · have E1 : Hid (T = (Cmd.zero, 11)) := by rw [e1, parseRow, if_pos (.inr hhigh)]; exact rfl
          clear e1
          go_wp2
          refine bodyPost_ret (parse_results rfl rfl (cmd_store HM.out.res).1) rfl ?_
          exact ⟨_, by rw [E1.out], by rw [E1.out]; exact CmdIn.zero _ _, HM.out.keep.step (cmd_store HM.out.res).2 (fun k hk e => by omega)⟩
        · have E1 : Hid (T = if (readAll r.fns (Rd.start r.kind l)).e = 0 then ((readAll r.fns (Rd.start r.kind l)).c, 0) else (Cmd.zero, (readAll r.fns (Rd.start r.kind l)).e)) := by rw [e1, parseRow, if_neg (by omega)]; exact rfl
          obtain ⟨av, hav, hsl⟩ := slice_tail ab o c l w.heap.size w x ⟨_, _, rfl, hlc, hcm, fun _ => ⟨ab, o, rfl, hab, HX.out⟩⟩
          have hav' := hav
          obtain ⟨va, vc, rfl, -⟩ := hav'
          have HAV := Lib.hid hav
          clear e1 hav
          go_wp2_with fail
          have HKD := Lib.hid HM.out.keep.drew
          have hfd : w3.drew.heap[D]? = some (.cells #[.int .i64 r.kind, .int .i64 r.least, .int .i64 r.most, .slice sa r.fns.length sc] 48 (0, 0)) := HFM.out
          have HFD := Lib.hid hfd
          have HRD : Hid (w3.drew.heap[w.heap.size]? = _) := HM.out.res
          have HSD : Hid (r.fns ≠ [] → ∃ g, sa = some ⟨g, 0, none⟩ ∧ w.heap.size + 1 ≤ g ∧ g < w3.drew.heap.size ∧ ∀ (j f : Nat), r.fns[j]? = some f → w3.drew.cell? ⟨g, j, none⟩ = some (.func (.func f) #[] #[])) := HSL.out
          have HDL := Lib.hid (lt_of_block hfd)
          have HLT := Lib.hid HM.out.lt
          refine wp_region_held_drew (S := fun w' => ∀ o, w'.cell? ⟨D, o, none⟩ = (#[.int .i64 r.kind, .int .i64 r.least, .int .i64 r.most, .slice sa r.fns.length sc] : Array Value)[o]?) (by kernel_rfl) (cell_of_block hfd) (fun hHeld => ?_)
          clear HM HSL HFM hcr hff hfr hcf hfd
          generalize w3.drew = W3 at *
          refine wpAnyH_take (i := 0) (v := ?_) rfl (by kernel_rfl) (by kernel_rfl) (by kernel_rfl) (fun _ _ _ h => h) (Or.inl ⟨by rfl, ?_⟩) (by assumption) ?_
          rotate_left
          · intro w hSw; (try dsimp only at hSw); go_simp; with_reducible rfl
          try simp only [Act.put, List.setIfInBounds_toArray, List.set_cons_zero, List.set_cons_succ]
          refine wpAnyH_take (i := 1) (v := ?_) rfl (by kernel_rfl) (by kernel_rfl) (by kernel_rfl) (fun _ _ _ h => h) (Or.inl ⟨by rfl, ?_⟩) (by assumption) ?_
          rotate_left
          · intro w hSw; (try dsimp only at hSw); go_simp; with_reducible rfl
          try simp only [Act.put, List.setIfInBounds_toArray, List.set_cons_zero, List.set_cons_succ]
          refine wpAnyH_take (i := 2) (v := ?_) rfl (by kernel_rfl) (by kernel_rfl) (by kernel_rfl) (fun _ _ _ h => h) (Or.inl ⟨by rfl, ?_⟩) (by assumption) ?_
          rotate_left
          · intro w hSw; (try dsimp only at hSw); go_simp; with_reducible rfl
          try simp only [Act.put, List.setIfInBounds_toArray, List.set_cons_zero, List.set_cons_succ]
          refine wpAnyH_take (i := 3) (v := ?_) rfl (by kernel_rfl) (by kernel_rfl) (by kernel_rfl) (fun _ _ _ h => h) (Or.inl ⟨by rfl, ?_⟩) (by assumption) ?_
          rotate_left
          · intro w hSw; (try dsimp only at hSw); go_simp; with_reducible rfl
          try simp only [Act.put, List.setIfInBounds_toArray, List.set_cons_zero, List.set_cons_succ]
          refine wpAnyH_take (i := 4) (v := ?_) rfl (by kernel_rfl) (by kernel_rfl) (by kernel_rfl) (fun _ _ _ h => h) (Or.inl ⟨by rfl, ?_⟩) (by assumption) ?_
          rotate_left
          · intro w hSw; (try dsimp only at hSw); go_simp; with_reducible rfl
          try simp only [Act.put, List.setIfInBounds_toArray, List.set_cons_zero, List.set_cons_succ]
          refine wpAnyH_take (i := 5) (v := ?_) rfl (by kernel_rfl) (by kernel_rfl) (by kernel_rfl) (fun _ _ _ h => h) (Or.inl ⟨by rfl, ?_⟩) (by assumption) ?_
          rotate_left
          · intro w hSw; (try dsimp only at hSw); go_simp; with_reducible rfl
          try simp only [Act.put, List.setIfInBounds_toArray, List.set_cons_zero, List.set_cons_succ]
          refine wpAnyH_ready (rs := [6]) (by kernel_rfl) (by simp) ?_
          refine AllReadyH.cons rfl (fun K hK => ?_) ?_
          · go_simp
            refine hK.out _ _ ?_ (fun hHeld => ?_)
            · exact cell_of_block1 HFD.out _
            clear hK K
            try simp only [Act.put, List.setIfInBounds_toArray, List.set_cons_zero, List.set_cons_succ]
            refine wpAnyH_take (i := 7) (v := ?_) rfl (by kernel_rfl) (by kernel_rfl) (by kernel_rfl) (fun _ _ _ h => h) (Or.inl ⟨by rfl, ?_⟩) (by assumption) ?_
            rotate_left
            · intro w hSw; (try dsimp only at hSw); go_simp; with_reducible rfl
            try simp only [Act.put, List.setIfInBounds_toArray, List.set_cons_zero, List.set_cons_succ]
            refine wpAnyH_done (by kernel_rfl) ?_ _
            have hx1 := cell_of_block1 HFD.out (.cells (rdCells (Rd.start r.kind l) (.slice none 0 0) (.slice none 0 0) (.slice va l.length vc)) 55)
            have hblk := block_new W3 (.cells (rdCells (Rd.start r.kind l) (.slice none 0 0) (.slice none 0 0) (.slice va l.length vc)) 55)
            have hfl := formLen r HRM.out
            have HRM2 := fun k hk => formPre r HRM.out l (fun y hy => ho y (List.mem_cons_of_mem _ hy)) k hk
            have HPRE := Lib.hid HRM2
            have kk : Keep (fun _ => False) W3 (W3.alloc (.cells (rdCells (Rd.start r.kind l) (.slice none 0 0) (.slice none 0 0) (.slice va l.length vc)) 55)) := (Keep.refl _ _).alloc _
            have hsz5 : (W3.alloc (.cells (rdCells (Rd.start r.kind l) (.slice none 0 0) (.slice none 0 0) (.slice va l.length vc)) 55)).heap.size = W3.heap.size + 1 := by simp
            obtain ⟨b, hbd⟩ : ∃ b, b = W3.heap.size := ⟨_, rfl⟩
            have hwb : w.heap.size ≤ b := by rw [hbd]; exact HKD.out.size
            have hnb : w.heap.size < b := by rw [hbd]; have := HDL.out; have := HLT.out; omega
            have hav5 := HAV.out.below (HKD.out.trans kk).below
            have hav6 : StrsIn _ b (.slice va l.length vc) l := (by
              obtain ⟨a1, a2, a3, a4, a5, a6⟩ := hav5
              exact ⟨a1, a2, a3, a4, a5, fun hne => by obtain ⟨b1, b2, b3, b4, b5⟩ := a6 hne; exact ⟨b1, b2, b3, by omega, b5⟩⟩)
            have HPT : Hid (RdParts b _ b (Rd.start r.kind l) (.slice none 0 0) (.slice none 0 0) (.slice va l.length vc)) := ⟨hbd ▸ hblk, Nat.le_refl _, World.ownsRow_nil _ _ _ _, World.ownsRow_nil _ _ _ _, by simp [Value.ownBlock], hav6⟩
            have HOK : Hid (RdOk b _ b (Rd.start r.kind l)) := ⟨⟨_, _, _, HPT.out⟩, hg.below (HKD.out.trans kk).below hb, by omega⟩
            have HRES := Lib.hid (kk.get HRD.out id)
            have HK5 := Lib.hid (HKD.out.trans kk)
            have HSD5 : Hid (r.fns ≠ [] → ∃ g, sa = some ⟨g, 0, none⟩ ∧ g < b ∧ ∀ (j f : Nat), r.fns[j]? = some f → (W3.alloc (.cells (rdCells (Rd.start r.kind l) (.slice none 0 0) (.slice none 0 0) (.slice va l.length vc)) 55)).cell? ⟨g, j, none⟩ = some (.func (.func f) #[] #[])) := fun hne => by
              obtain ⟨g, h1, h2, h3, h4⟩ := HSD.out hne
              exact ⟨g, h1, by omega, fun j f hj => kk.cell (h4 j f hj) id⟩
            clear HRM2 hav5 hav6
            go_wp2
            clear hx1 hblk kk
            simp only [rdCells, Rd.start, Cmd.zero, Pol.zero, emptyB] at HOK HRES HK5 HSD5 hsz5
            rw [← hbd] at hsz5 ⊢
            generalize W3.alloc _ = W5 at *
            clear HFD HRD HSD HPT HKD hHeld
            clear hbd
            go_loopw [52] (fun i wr => ∃ k : Nat, k ≤ r.fns.length ∧ i = .int .i64 k ∧ Hid (RdOk b wr b (readAll (r.fns.take k) (Rd.start r.kind l))) ∧ Below b W5 wr) (fun i _ => r.fns.length - (intOf i).toNat)
            case atStart => exact ⟨0, Nat.zero_le _, rfl, HOK, Below.refl _ _⟩
            case round =>
              obtain ⟨k, hk, rfl, HRk, hbl⟩ := hrel
              by_cases hkl : k < r.fns.length
              · obtain ⟨g, rfl, hgb, hfc⟩ := HSD5.out (by intro e; rw [e] at hkl; simp at hkl)
                have hce : wr.cell? ⟨g, k, none⟩ = some (.func (.func r.fns[k]) #[] #[]) := (hbl.cell (p := ⟨g, k, none⟩) hgb).trans (hfc k _ (List.getElem?_eq_getElem hkl))
                have hkl2 : (k : Int) < (r.fns.length : Int) := by omega
                have hca := applyF_any r.fns[k] (HPRE.out k hkl).1 b b _ wr HRk.out (HPRE.out k hkl).2
                rw [← readAll_take r.fns k hkl] at hca
                have hcalf := callFn_reader r.fns[k] (HPRE.out k hkl).1
                have HFC := Lib.hid hfc
                clear hfc
                go_wp2_with fail
                refine hca.mono ?_
                rintro e w6 ⟨rfl, h6, hb6⟩
                have HR6 := Lib.hid (HRk.out.next h6 hb6)
                have HB6 := Lib.hid (hbl.trans hb6)
                clear h6 hb6 hca
                go_wp2
                go_roundw
                case rel => exact ⟨k + 1, by omega, by go_num, HR6, HB6.out⟩
                case measure => simp [intOf]; omega
              · have hke : k = r.fns.length := by omega
                have hkl2 : ¬ ((k : Int) < (r.fns.length : Int)) := by omega
                rw [hke, List.take_length] at HRk
                obtain ⟨R, hR⟩ : ∃ R, R = readAll r.fns (Rd.start r.kind l) := ⟨_, rfl⟩
                rw [← hR] at HRk E1
                obtain ⟨pv, wv, av2, hpp⟩ := HRk.out.at_
                obtain ⟨pa, pc, rfl⟩ := owns_slice hpp.path
                obtain ⟨wa, wc, rfl⟩ := owns_slice hpp.wishes
                have hcb := cell_of_block hpp.blk
                simp only [rdCells] at hcb
                have hres := Below.get hbl HRES.out hnb
                have hcr := cell_of_block hres
                have hfr := free_of_block hres
                have HPP := Lib.hid hpp
                have HRS := Lib.hid hres
                have HBL := Lib.hid hbl
                have hbr := lt_of_block hpp.blk
                clear hR hpp hres hbl hke
                by_cases he : R.e = 0
                · have hE : Hid (T = (R.c, 0)) := by rw [E1.out, if_pos he]; exact rfl
                  go_wp2
                  have hst := cmd_store (c0 := .int .i64 R.c.kind) (c1 := .string R.c.name) (c2 := .int .i64 R.c.pol.kind) (c3 := .int .i64 R.c.pol.limit) (c4 := .int .i64 R.c.pol.period) (c5 := .int .i64 R.c.pol.burst) (c6 := .int .i64 R.c.pol.cap) (c7 := .bool R.c.pol.opn)
                    (c8 := .slice pa R.c.path.length pc) (c9 := .slice wa R.c.wishes.length wc) (c10 := .int .i64 R.c.n) HRS.out
                  refine bodyPost_ret (parse_results rfl rfl hst.1) rfl ?_
                  have hkk : Keep (fun _ => False) w wr := HK5.out.step (Keep.of_below' HBL.out) (fun k hk e => by omega)
                  refine ⟨_, by rw [hE.out], ?_, hkk.step hst.2 (fun k hk e => by omega)⟩
                  rw [hE.out]
                  refine ⟨_, _, rfl, RowIn.of_owns (hst.2.ownsRow HPP.out.path (fun k hk e => ?_)), RowIn.of_owns (hst.2.ownsRow HPP.out.wishes (fun k hk e => ?_))⟩
                  · have := (HPP.out.path.lt k hk).1; omega
                  · have := (HPP.out.wishes.lt k hk).1; omega
                · have hE : Hid (T = (Cmd.zero, R.e)) := by rw [E1.out, if_neg he]; exact rfl
                  have hne : (R.e == 0) = false := by simpa using he
                  have hne2 : (R.e != 0) = true := by simpa using he
                  clear he
                  go_wp2
                  have hcbd : ∀ o, wr.drew.cell? ⟨b, o, none⟩ = _ := hcb
                  have HBD : Hid (wr.drew.heap[b]? = _) := HPP.out.blk
                  have HRSD : Hid (wr.drew.heap[w.heap.size]? = _) := HRS.out
                  refine wp_region_held_drew (S := fun w' => ∀ o, w'.cell? ⟨b, o, none⟩ = (#[.int .i64 R.c.kind, .string R.c.name, .int .i64 R.c.pol.kind, .int .i64 R.c.pol.limit, .int .i64 R.c.pol.period, .int .i64 R.c.pol.burst, .int .i64 R.c.pol.cap, .bool R.c.pol.opn, .slice pa R.c.path.length pc, .slice wa R.c.wishes.length wc, .int .i64 R.c.n, av2, .int .i64 R.e] : Array Value)[o]?) (by kernel_rfl) hcbd (fun hHeld2 => ?_)
                  have hHeld3 := hHeld2
                  have hcrd := cell_of_block HRSD.out
                  have hfrd := free_of_block HRSD.out
                  clear hHeld2 hcb hcr hfr hcbd
                  have hkk : Keep (fun _ => False) w wr.drew := (HK5.out.step (Keep.of_below' HBL.out) (fun k hk e => by omega)).drew
                  have HKK := Lib.hid hkk
                  clear hkk
                  generalize wr.drew = wd at *
                  refine wpAnyH_take (i := 0) (v := ?_) rfl (by kernel_rfl) (by kernel_rfl) (by kernel_rfl) (fun _ _ _ h => h) (Or.inl ⟨by rfl, ?_⟩) (by assumption) ?_
                  rotate_left
                  · intro w hSw; (try dsimp only at hSw); go_simp; with_reducible rfl
                  try simp only [Act.put, List.setIfInBounds_toArray, List.set_cons_zero, List.set_cons_succ]
                  refine wpAnyH_take (i := 1) (v := ?_) rfl (by kernel_rfl) (by kernel_rfl) (by kernel_rfl) (fun _ _ _ h => h) (Or.inl ⟨by rfl, ?_⟩) (by assumption) ?_
                  rotate_left
                  · intro w hSw; (try dsimp only at hSw); go_simp; with_reducible rfl
                  try simp only [Act.put, List.setIfInBounds_toArray, List.set_cons_zero, List.set_cons_succ]
                  refine wpAnyH_take (i := 2) (v := ?_) rfl (by kernel_rfl) (by kernel_rfl) (by kernel_rfl) (fun _ _ _ h => h) (Or.inl ⟨by rfl, ?_⟩) (by assumption) ?_
                  rotate_left
                  · intro w hSw; (try dsimp only at hSw); go_simp; with_reducible rfl
                  try simp only [Act.put, List.setIfInBounds_toArray, List.set_cons_zero, List.set_cons_succ]
                  refine wpAnyH_take (i := 3) (v := ?_) rfl (by kernel_rfl) (by kernel_rfl) (by kernel_rfl) (fun _ _ _ h => h) (Or.inl ⟨by rfl, ?_⟩) (by assumption) ?_
                  rotate_left
                  · intro w hSw; (try dsimp only at hSw); go_simp; with_reducible rfl
                  try simp only [Act.put, List.setIfInBounds_toArray, List.set_cons_zero, List.set_cons_succ]
                  refine wpAnyH_take (i := 4) (v := ?_) rfl (by kernel_rfl) (by kernel_rfl) (by kernel_rfl) (fun _ _ _ h => h) (Or.inl ⟨by rfl, ?_⟩) (by assumption) ?_
                  rotate_left
                  · intro w hSw; (try dsimp only at hSw); go_simp; with_reducible rfl
                  try simp only [Act.put, List.setIfInBounds_toArray, List.set_cons_zero, List.set_cons_succ]
                  refine wpAnyH_ready (rs := [5]) (by kernel_rfl) (by simp) ?_
                  refine AllReadyH.cons rfl (fun K hK => ?_) ?_
                  · go_simp
                    refine hK.out _ _ ?_ (fun hHeld => ?_)
                    · intro o
                      exact cell_of_block ((cmd_store HRSD.out).2.get HBD.out (by omega)) o
                    clear hK K
                    try simp only [Act.put, List.setIfInBounds_toArray, List.set_cons_zero, List.set_cons_succ]
                    refine wpAnyH_ready (rs := [6]) (by kernel_rfl) (by simp) ?_
                    refine AllReadyH.cons rfl (fun K hK => ?_) ?_
                    · go_simp
                      refine hK.out _ _ hHeld (fun hHeld2 => ?_)
                      clear hK K
                      refine wpAnyH_done (by kernel_rfl) ?_ _
                      go_wp2
                      refine bodyPost_ret (parse_results rfl rfl (cmd_store HRSD.out).1) rfl ?_
                      exact ⟨_, by rw [hE.out], by rw [hE.out]; exact CmdIn.zero _ _, HKK.out.step (cmd_store HRSD.out).2 (fun k hk e => by omega)⟩
                    exact AllReadyH.nil
                  exact AllReadyH.nil
          exact AllReadyH.nil
end Go.Proofs.YtamjhnibenonjaaGreatDoor
