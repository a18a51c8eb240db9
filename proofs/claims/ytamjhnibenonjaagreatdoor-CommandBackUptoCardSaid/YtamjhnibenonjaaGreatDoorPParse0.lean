/- What command.Parse hands back. -/
import Derived.Test.YtamjhnibenonjaaGreatDoorSParse
namespace Go.Proofs.YtamjhnibenonjaaGreatDoor
set_option linter.unusedVariables false
set_option linter.unusedSimpArgs false
open Go Go.RowKit
theorem parse_results {W : World} {n : Nat} {tmps : Array Value} {e : Int} {c0 c1 c2 c3 c4 c5 c6 c7 c8 c9 c10 : Value} (h2 : tmps.getD 2 undef = .pointer (some ⟨n, 0, none⟩)) (h3 : tmps.getD 3 undef = .int .i64 e)
    (hb : W.heap[n]? = some (.cells #[c0, c1, c2, c3, c4, c5, c6, c7, c8, c9, c10] 31 (0, 0))) : (results Tryz.f10 tmps).run Tryz.prog W = .ok (.tuple #[.agg #[c0, c1, c2, c3, c4, c5, c6, c7, c8, c9, c10], .int .i64 e]) W := by
  have hc := cell_of_block hb
  rw [Array.getD_eq_getD_getElem?] at h2 h3
  simp [results, Tryz.f10, go_sem, h2, h3, hc]
theorem cmd_store {W : World} {n : Nat} {o0 o1 o2 o3 o4 o5 o6 o7 o8 o9 o10 c0 c1 c2 c3 c4 c5 c6 c7 c8 c9 c10 : Value} (hb : W.heap[n]? = some (.cells #[o0, o1, o2, o3, o4, o5, o6, o7, o8, o9, o10] 31 (0, 0))) :
    (((((((((((W.setCell ⟨n, 0, none⟩ c0).setCell ⟨n, 1, none⟩ c1).setCell ⟨n, 2, none⟩ c2).setCell ⟨n, 3, none⟩ c3).setCell ⟨n, 4, none⟩ c4).setCell ⟨n, 5, none⟩ c5).setCell ⟨n, 6, none⟩ c6).setCell ⟨n, 7, none⟩ c7).setCell ⟨n, 8, none⟩ c8).setCell ⟨n, 9, none⟩ c9).setCell ⟨n, 10, none⟩ c10).heap[n]? = some (.cells #[c0, c1, c2, c3, c4, c5, c6, c7, c8, c9, c10] 31 (0, 0)) ∧ Keep (fun j => j = n) W (((((((((((W.setCell ⟨n, 0, none⟩ c0).setCell ⟨n, 1, none⟩ c1).setCell ⟨n, 2, none⟩ c2).setCell ⟨n, 3, none⟩ c3).setCell ⟨n, 4, none⟩ c4).setCell ⟨n, 5, none⟩ c5).setCell ⟨n, 6, none⟩ c6).setCell ⟨n, 7, none⟩ c7).setCell ⟨n, 8, none⟩ c8).setCell ⟨n, 9, none⟩ c9).setCell ⟨n, 10, none⟩ c10) := by
  have h0 := block_setCell hb 0 c0
  simp only [List.setIfInBounds_toArray, List.set_cons_zero, List.set_cons_succ] at h0
  have h1 := block_setCell h0 1 c1
  simp only [List.setIfInBounds_toArray, List.set_cons_zero, List.set_cons_succ] at h1
  have h2 := block_setCell h1 2 c2
  simp only [List.setIfInBounds_toArray, List.set_cons_zero, List.set_cons_succ] at h2
  have h3 := block_setCell h2 3 c3
  simp only [List.setIfInBounds_toArray, List.set_cons_zero, List.set_cons_succ] at h3
  have h4 := block_setCell h3 4 c4
  simp only [List.setIfInBounds_toArray, List.set_cons_zero, List.set_cons_succ] at h4
  have h5 := block_setCell h4 5 c5
  simp only [List.setIfInBounds_toArray, List.set_cons_zero, List.set_cons_succ] at h5
  have h6 := block_setCell h5 6 c6
  simp only [List.setIfInBounds_toArray, List.set_cons_zero, List.set_cons_succ] at h6
  have h7 := block_setCell h6 7 c7
  simp only [List.setIfInBounds_toArray, List.set_cons_zero, List.set_cons_succ] at h7
  have h8 := block_setCell h7 8 c8
  simp only [List.setIfInBounds_toArray, List.set_cons_zero, List.set_cons_succ] at h8
  have h9 := block_setCell h8 9 c9
  simp only [List.setIfInBounds_toArray, List.set_cons_zero, List.set_cons_succ] at h9
  have h10 := block_setCell h9 10 c10
  simp only [List.setIfInBounds_toArray, List.set_cons_zero, List.set_cons_succ] at h10
  exact ⟨h10, ((((((((((((Keep.refl (fun j => j = n) W).setCell (p := ⟨n, 0, none⟩) (.inl rfl) c0).setCell (p := ⟨n, 1, none⟩) (.inl rfl) c1).setCell (p := ⟨n, 2, none⟩) (.inl rfl) c2).setCell (p := ⟨n, 3, none⟩) (.inl rfl) c3).setCell (p := ⟨n, 4, none⟩) (.inl rfl) c4).setCell (p := ⟨n, 5, none⟩) (.inl rfl) c5).setCell (p := ⟨n, 6, none⟩) (.inl rfl) c6).setCell (p := ⟨n, 7, none⟩) (.inl rfl) c7).setCell (p := ⟨n, 8, none⟩) (.inl rfl) c8).setCell (p := ⟨n, 9, none⟩) (.inl rfl) c9).setCell (p := ⟨n, 10, none⟩) (.inl rfl) c10)⟩
theorem RowIn.nil (w : World) (B size : Nat) (xs : List Value) : RowIn w B size (.slice none 0 0) 0 xs := ⟨none, 0, rfl, Nat.le_refl _, by decide, fun h => absurd rfl h⟩
theorem CmdIn.zero (w : World) (B : Nat) : CmdIn w B (.agg #[.int .i64 0, .string ⟨#[]⟩, .int .i64 0, .int .i64 0, .int .i64 0, .int .i64 0, .int .i64 0, .bool false, .slice none 0 0, .slice none 0 0, .int .i64 0]) Cmd.zero :=
  ⟨_, _, rfl, RowIn.nil _ _ _ _, RowIn.nil _ _ _ _⟩
theorem wrapLen (l : List ByteArray) (c : Nat) (h : l.length + 1 ≤ c) (hc : c ≤ 9223372036854775807) : wrap64 (l.length : Int) = l.length := IntWalk.wrap64_in _ (by omega)
theorem slice_tail (ab o c : Nat) (l : List ByteArray) (B : Nat) (w : World) (x : ByteArray) (h : StrsIn w B (.slice (some ⟨ab, o, none⟩) (l.length + 1) c) (x :: l)) :
    ∃ av, StrsIn w B av l ∧ ∀ W, (Instr.slice 22 (.slice (some ⟨ab, o, none⟩) (l.length + 1) c) (some (.int .i64 1)) none none).run Tryz.prog W = .ok av W := by
  obtain ⟨a', c', h1, hlc, hcm, hel⟩ := h
  simp only [Value.slice.injEq, Option.some.injEq] at h1
  obtain ⟨rfl, -, rfl⟩ := h1
  obtain ⟨b', o', h2, hbB, hx⟩ := hel (by simp)
  simp only [Option.some.injEq, Addr.mk.injEq, and_true] at h2
  obtain ⟨rfl, rfl⟩ := h2
  simp only [List.length_cons] at hlc
  have hsz : ∀ W, (sizeOf (Tryz.prog.elem 22)).run Tryz.prog W = .ok 1 W := fun _ => by kernel_rfl
  have hadd : (⟨ab, o, none⟩ : Addr).add (1 * 1) = ⟨ab, o + 1, none⟩ := by unfold Addr.add; split <;> simp_all
  refine ⟨sliced (some ⟨ab, o, none⟩) 1 (l.length + 1) c 1, ?_, fun W => ?_⟩
  · by_cases h1c : c = 1
    · have hl : l = [] := List.eq_nil_of_length_eq_zero (by omega)
      subst hl
      exact ⟨_, _, rfl, by simp, by simp; omega, fun h => absurd rfl h⟩
    · refine ⟨some ⟨ab, o + 1, none⟩, c - 1, ?_, by omega, by omega, fun _ => ⟨ab, o + 1, rfl, hbB, fun j y hj => ?_⟩⟩
      · rw [sliced, if_neg h1c, Option.map_some, hadd, Nat.add_sub_cancel]
      · rw [show o + 1 + j = o + (j + 1) by omega]
        exact hx (j + 1) y (by simpa using hj)
  · rw [run_slice_l (w := W) 22 _ _ _ (by kernel_rfl) .i64 1 (by decide) (by omega), hsz]
    rfl
theorem owns_slice {w : World} {base n : Nat} {e : TypeId} {size : Nat} {v : Value} {xs : List Value} (h : w.ownsRow base e size v n xs) : ∃ A c, v = .slice A n c := by
  rcases h.2 with ⟨rfl, rfl⟩ | ⟨g, cap, _, rfl, _⟩
  · exact ⟨_, _, rfl⟩
  · exact ⟨_, _, rfl⟩
theorem formLen (r : Form) (hr : r ∈ formTab) : r.fns.length ≤ 3 := by
  have h : ∀ r ∈ formTab, r.fns.length ≤ 3 := by decide
  exact h r hr
/-- What a reader's function asks. -/
def PreF (f : Nat) (R : Rd) : Prop := ArgsOk R.args ∧ (f = 30 → R.c.path = []) ∧ (f = 31 → R.c.wishes = [])
def readerFns : List Nat := [27, 28, 29, 30, 31, 32, 33, 34, 35]
theorem applyF_any (f : Nat) (hf : f ∈ readerFns) (B b : Nat) (R : Rd) (w : World) (h : RdOk B w b R) (hp : PreF f R) :
    Calls Tryz.prog f #[.pointer (some ⟨b, 0, none⟩)] w fun en w' => en = .returned (.tuple #[]) ∧ RdAt B w' b (applyF f R) ∧ Below B w w' := by
  simp only [readerFns, List.mem_cons, List.not_mem_nil, or_false] at hf
  rcases hf with rfl | rfl | rfl | rfl | rfl | rfl | rfl | rfl | rfl
  · exact name_any B b R w h.at_
  · exact key_any B b R w h.at_
  · exact any_any B b R w h hp.1
  · exact readPath_any B b R w h hp.1 (by rw [hp.2.1 rfl]; simp)
  · exact readWishes_any B b R w h hp.1 (by rw [hp.2.2 rfl]; simp)
  · exact time_any B b R w h hp.1
  · exact id_any B b R w h hp.1
  · exact policy_any B b R w h hp.1
  · exact most_any B b R w h hp.1
theorem callFn_reader (f : Nat) (hf : f ∈ readerFns) (args : Array Value) (W : World) : (callFunc f args).run Tryz.prog W = .ok (.enter f args) W := by
  simp only [readerFns, List.mem_cons, List.not_mem_nil, or_false] at hf
  rcases hf with rfl | rfl | rfl | rfl | rfl | rfl | rfl | rfl | rfl <;> kernel_rfl
/-- What is left of the arguments is among them. -/
theorem fail_c' (R : Rd) (e : Int) : (R.fail e).c = R.c ∧ (R.fail e).args = R.args := ⟨fail_c R e, fail_args R e⟩
theorem wishLoop_args : ∀ (k : Nat) (R : Rd), ∀ x ∈ (R.wishLoop k).args, x ∈ R.args
  | 0, R, x, hx => hx
  | k + 1, R, x, hx => by
    rw [Rd.wishLoop] at hx
    split at hx
    · exact hx
    · split at hx
      · have := wishLoop_args k _ x hx
        rw [wishOf_args] at this
        exact List.mem_of_mem_tail this
      · rw [fail_args] at hx
        exact List.mem_of_mem_tail hx
theorem applyF_args (f : Nat) (R : Rd) : ∀ x ∈ (applyF f R).args, x ∈ R.args := by
  intro x hx
  have ht : ∀ y, y ∈ R.rest.args → y ∈ R.args := fun y hy => List.mem_of_mem_tail hy
  unfold applyF at hx
  split at hx
  · simp only [Rd.readName, Rd.setName, named_args] at hx; exact ht _ hx
  split at hx
  · simp only [Rd.readKey] at hx
    split at hx
    · rw [fail_args] at hx; exact ht _ hx
    · exact ht _ hx
  split at hx
  · simp only [Rd.readAny, Rd.readNum, Rd.setN, number_args] at hx; exact ht _ hx
  split at hx
  · unfold Rd.readPath at hx
    split at hx
    · exact ht _ hx
    · unfold Rd.pathCheck at hx
      split at hx
      · exact ht _ hx
      · rw [fail_args] at hx; exact ht _ hx
  split at hx
  · unfold Rd.readWishes at hx
    split at hx
    · rwa [fail_args] at hx
    · exact wishLoop_args _ _ _ hx
  split at hx
  · simp only [Rd.readTime, Rd.readNum, Rd.setN, number_args] at hx; exact ht _ hx
  split at hx
  · simp only [Rd.readId, Rd.readNum, Rd.setN, number_args] at hx; exact ht _ hx
  split at hx
  · have hpc : ∀ r : Rd, r.polCheck.args = r.args := fun r => by unfold Rd.polCheck; split; rfl; exact fail_args _ _
    simp only [Rd.readPolicy, hpc, polNum_args] at hx
    exact List.mem_of_mem_tail (List.mem_of_mem_tail (List.mem_of_mem_tail (List.mem_of_mem_tail (List.mem_of_mem_tail (List.mem_of_mem_tail hx)))))
  split at hx
  · unfold Rd.readMost at hx
    split at hx
    · exact hx
    · simp only [Rd.setWishes, number_args] at hx; exact ht _ hx
  · exact hx
theorem applyF_path (f : Nat) (R : Rd) (hf : f ≠ 30) (hw : f ≠ 31) (hp : f ≠ 34) : (applyF f R).c.path = R.c.path := by
  unfold applyF
  split
  · simp only [Rd.readName, Rd.setName, named_c]; rfl
  split
  · simp only [Rd.readKey]; split
    · rw [fail_c]; rfl
    · rfl
  split
  · simp only [Rd.readAny, Rd.readNum, Rd.setN, number_path]; rfl
  split
  · simp only [Rd.readTime, Rd.readNum, Rd.setN, number_path]; rfl
  split
  · simp only [Rd.readId, Rd.readNum, Rd.setN, number_path]; rfl
  split
  · unfold Rd.readMost
    split
    · rfl
    · simp only [Rd.setWishes, number_path]; rfl
  · rfl
theorem applyF_wishes (f : Nat) (R : Rd) (hf : f ≠ 35) (hw : f ≠ 31) (hp : f ≠ 34) : (applyF f R).c.wishes = R.c.wishes := by
  unfold applyF
  split
  · simp only [Rd.readName, Rd.setName, named_c]; rfl
  split
  · simp only [Rd.readKey]; split
    · rw [fail_c]; rfl
    · rfl
  split
  · simp only [Rd.readAny, Rd.readNum, Rd.setN, number_path]; rfl
  split
  · unfold Rd.readPath
    split
    · rfl
    · unfold Rd.pathCheck
      split
      · rfl
      · rw [fail_c]; rfl
  split
  · simp only [Rd.readTime, Rd.readNum, Rd.setN, number_path]; rfl
  split
  · simp only [Rd.readId, Rd.readNum, Rd.setN, number_path]; rfl
  · rfl
theorem readAll_take (fns : List Nat) (k : Nat) (hk : k < fns.length) (R : Rd) : readAll (fns.take (k + 1)) R = applyF fns[k] (readAll (fns.take k) R) := by
  rw [readAll, List.take_succ_eq_append_getElem hk, List.foldl_append]; rfl
theorem readAll_args (fns : List Nat) : ∀ (R : Rd), ArgsOk R.args → ArgsOk (readAll fns R).args := by
  induction fns with
  | nil => exact fun R h => h
  | cons f fns ih => exact fun R h => ih _ (fun x hx => h x (applyF_args f R x hx))
/-- Each form's functions, in their order, are asked what they may be asked. -/
theorem formPre (r : Form) (hr : r ∈ formTab) (l : List ByteArray) (ho : ArgsOk l) (k : Nat) (hk : k < r.fns.length) : r.fns[k] ∈ readerFns ∧ PreF r.fns[k] (readAll (r.fns.take k) (Rd.start r.kind l)) := by
  have ha := readAll_args (r.fns.take k) (Rd.start r.kind l) ho
  refine ⟨?_, ha, ?_, ?_⟩
  · have h : ∀ r ∈ formTab, ∀ f ∈ r.fns, f ∈ readerFns := by decide
    exact h r hr _ (List.getElem_mem hk)
  · intro hf
    have h : ∀ r ∈ formTab, ∀ k (hk : k < r.fns.length), r.fns[k] = 30 → ∀ f ∈ r.fns.take k, f = 32 := by decide
    have h2 := h r hr k hk hf
    have : ∀ (fs : List Nat) (R : Rd), (∀ f ∈ fs, f = 32) → R.c.path = [] → (readAll fs R).c.path = [] := by
      intro fs
      induction fs with
      | nil => exact fun R _ h => h
      | cons f fs ih =>
        intro R hfs hR
        refine ih _ (fun x hx => hfs x (List.mem_cons_of_mem _ hx)) ?_
        rw [applyF_path f R (by rw [hfs f (List.mem_cons_self ..)]; decide) (by rw [hfs f (List.mem_cons_self ..)]; decide) (by rw [hfs f (List.mem_cons_self ..)]; decide), hR]
    exact this _ _ h2 rfl
  · intro hf
    have h : ∀ r ∈ formTab, ∀ k (hk : k < r.fns.length), r.fns[k] = 31 → ∀ f ∈ r.fns.take k, f = 32 ∨ f = 30 := by decide
    have h2 := h r hr k hk hf
    have : ∀ (fs : List Nat) (R : Rd), (∀ f ∈ fs, f = 32 ∨ f = 30) → R.c.wishes = [] → (readAll fs R).c.wishes = [] := by
      intro fs
      induction fs with
      | nil => exact fun R _ h => h
      | cons f fs ih =>
        intro R hfs hR
        refine ih _ (fun x hx => hfs x (List.mem_cons_of_mem _ hx)) ?_
        have hff := hfs f (List.mem_cons_self ..)
        rw [applyF_wishes f R (by rcases hff with rfl | rfl <;> decide) (by rcases hff with rfl | rfl <;> decide) (by rcases hff with rfl | rfl <;> decide), hR]
    exact this _ _ h2 rfl
end Go.Proofs.YtamjhnibenonjaaGreatDoor
