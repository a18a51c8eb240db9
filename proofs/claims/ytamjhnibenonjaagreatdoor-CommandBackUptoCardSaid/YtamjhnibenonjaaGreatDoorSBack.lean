/- command: what is parsed is printed as it was. Plain laws, no program. -/
import Derived.Test.YtamjhnibenonjaaGreatDoorSWords
namespace Go.Proofs.YtamjhnibenonjaaGreatDoor
set_option linter.unusedVariables false
set_option linter.unusedSimpArgs false
open Go Go.RowKit
theorem fail2_ne (R : Rd) : (R.fail 2).e ≠ 0 := by unfold Rd.fail; split <;> simp_all
theorem fail3_ne (R : Rd) : (R.fail 3).e ≠ 0 := by unfold Rd.fail; split <;> simp_all
theorem number_ok {R : Rd} {s : ByteArray} {lo hi : Int} (h : (R.number s lo hi).e = 0) : R.number s lo hi = R ∧ R.e = 0 ∧ uptoB s lo hi = true := by
  unfold Rd.number at h ⊢
  split
  · rename_i hu; rw [if_pos hu] at h; exact ⟨rfl, h, hu⟩
  · rename_i hu; rw [if_neg hu] at h; exact absurd h (fail2_ne R)
theorem number_of {R : Rd} {s : ByteArray} {lo hi : Int} (h : uptoB s lo hi = true) : R.number s lo hi = R := by unfold Rd.number; rw [if_pos h]
theorem named_ok {R : Rd} {s : ByteArray} (h : (R.named s).e = 0) : R.named s = R ∧ R.e = 0 ∧ namedB s = true := by
  unfold Rd.named at h ⊢
  split
  · rename_i hu; rw [if_pos hu] at h; exact ⟨rfl, h, hu⟩
  · rename_i hu; rw [if_neg hu] at h; exact absurd h (fail2_ne R)
theorem named_of {R : Rd} {s : ByteArray} (h : namedB s = true) : R.named s = R := by unfold Rd.named; rw [if_pos h]
/-- A wish that may be. -/
def WishOk (x : Wish) : Prop := namedB x.name = true ∧ 0 ≤ x.deep ∧ x.deep ≤ 8 ∧ 1 ≤ x.cost ∧ x.cost ≤ 1048576
theorem okByte_colon : okByte 58 = false := by decide
theorem named_free {s : ByteArray} (h : namedB s = true) : (58 : UInt8) ∉ s.data.toList := by
  intro hm
  simp only [namedB, Bool.and_eq_true, List.all_eq_true] at h
  have := h.2 _ hm
  rw [okByte_colon] at this; cases this
theorem split_wish {x : Wish} (h : WishOk x) : splitAt (wishB x) colonB = [x.name, itoaB x.deep, itoaB x.cost] :=
  split3 _ _ _ 58 (named_free h.1) (colon_itoa _ _ (by decide)) (colon_itoa _ _ (by decide))
theorem wishOf_ok {R : Rd} {f0 f1 f2 : ByteArray} (h : (R.wishOf f0 f1 f2).e = 0) : R.e = 0 ∧ ∃ x, WishOk x ∧ x.name = f0 ∧ itoaB x.deep = f1 ∧ itoaB x.cost = f2 ∧ R.wishOf f0 f1 f2 = R.addWish x := by
  have h' : (((R.named f0).number f1 0 8).number f2 1 1048576).e = 0 := h
  obtain ⟨e1, h1, u1⟩ := number_ok h'
  obtain ⟨e2, h2, u2⟩ := number_ok h1
  obtain ⟨e3, h3, u3⟩ := named_ok h2
  refine ⟨h3, ⟨f0, uptoV f1 0 8, uptoV f2 1 1048576⟩, ⟨u3, (uptoV_range _ _ _ u2).1, (uptoV_range _ _ _ u2).2, (uptoV_range _ _ _ u1).1, (uptoV_range _ _ _ u1).2⟩, rfl, itoa_upto u2, itoa_upto u1, ?_⟩
  unfold Rd.wishOf
  rw [e1, e2, e3]
theorem wishOf_of {R : Rd} {x : Wish} (h : WishOk x) : R.wishOf x.name (itoaB x.deep) (itoaB x.cost) = R.addWish x := by
  obtain ⟨h1, h2, h3, h4, h5⟩ := h
  have a := upto_itoa x.deep 0 8 (by omega) (by omega) h2 h3
  have b := upto_itoa x.cost 1 1048576 (by omega) (by omega) h4 h5
  unfold Rd.wishOf
  rw [named_of h1, number_of a.1, number_of b.1, a.2, b.2]
def Rd.withWishes (R : Rd) (ws : List Wish) : Rd := { R with c := { R.c with wishes := R.c.wishes ++ ws }, args := [] }
theorem wishLoop_back : ∀ (k : Nat) (R : Rd), k = R.args.length → (R.wishLoop k).e = 0 → ∃ ws : List Wish, (∀ x ∈ ws, WishOk x) ∧ ws.map wishB = R.args ∧ R.wishLoop k = R.withWishes ws ∧ R.e = 0
  | 0, R, hk, h => by
    have : R.args = [] := List.eq_nil_of_length_eq_zero hk.symm
    refine ⟨[], by simp, by simp [this], ?_, h⟩
    obtain ⟨⟨k, nm, p, pa, ws, n⟩, args, e⟩ := R
    simp only at this
    subst this
    simp [Rd.wishLoop, Rd.withWishes]
  | k + 1, R, hk, h => by
    obtain ⟨a, l, ha⟩ : ∃ a l, R.args = a :: l := by
      cases hl : R.args with
      | nil => rw [hl] at hk; simp at hk
      | cons a l => exact ⟨a, l, rfl⟩
    have hne : R.args ≠ [] := by rw [ha]; simp
    have harg : R.arg = a := by simp [Rd.arg, ha]
    rw [Rd.wishLoop, if_neg hne] at h ⊢
    split at h
    · rename_i f0 f1 f2 hs
      have hlen : k = (R.rest.wishOf f0 f1 f2).args.length := by rw [wishOf_args]; simp [Rd.rest, ha] at hk ⊢; omega
      obtain ⟨ws, g1, g2, g3, g4⟩ := wishLoop_back k _ hlen h
      obtain ⟨g5, x, hx, hn, hd, hc, he⟩ := wishOf_ok g4
      refine ⟨x :: ws, ?_, ?_, ?_, g5⟩
      · intro y hy
        rcases List.mem_cons.1 hy with rfl | hy
        · exact hx
        · exact g1 y hy
      · rw [List.map_cons, g2, wishOf_args, ha]
        congr 1
        · rw [wishB, hn, hd, hc, ← harg]; exact join3 _ _ _ _ 58 hs
        · simp [Rd.rest, ha]
      · rw [g3, he]
        simp [Rd.withWishes, Rd.addWish, Rd.setWishes, Rd.rest]
    · exact absurd h (fail2_ne _)
theorem wishLoop_fwd : ∀ (ws : List Wish) (R : Rd), (∀ x ∈ ws, WishOk x) → R.args = ws.map wishB → R.wishLoop ws.length = R.withWishes ws
  | [], R, _, ha => by
    obtain ⟨⟨k, nm, p, pa, ws, n⟩, args, e⟩ := R
    simp only [List.map_nil] at ha
    subst ha
    simp [Rd.wishLoop, Rd.withWishes]
  | x :: ws, R, hx, ha => by
    have hne : R.args ≠ [] := by rw [ha]; simp
    have harg : R.arg = wishB x := by simp [Rd.arg, ha]
    rw [List.length_cons, Rd.wishLoop, if_neg hne, harg, split_wish (hx x (List.mem_cons_self ..))]
    simp only
    rw [wishOf_of (hx x (List.mem_cons_self ..)), wishLoop_fwd ws _ (fun y hy => hx y (List.mem_cons_of_mem _ hy)) (by simp [Rd.addWish, Rd.setWishes, Rd.rest, ha])]
    simp [Rd.withWishes, Rd.addWish, Rd.setWishes, Rd.rest]
theorem readWishes_back {R : Rd} (h : R.readWishes.e = 0) : ∃ ws : List Wish, (∀ x ∈ ws, WishOk x) ∧ ws.map wishB = R.args ∧ R.readWishes = R.withWishes ws ∧ R.e = 0 ∧ ws.length ≤ 20 := by
  unfold Rd.readWishes at h ⊢
  split
  · rename_i h20; rw [if_pos h20] at h; exact absurd h (fail3_ne R)
  · rename_i h20
    rw [if_neg h20] at h
    obtain ⟨ws, h1, h2, h3, h4⟩ := wishLoop_back _ R rfl h
    exact ⟨ws, h1, h2, h3, h4, by have := congrArg List.length h2; simp at this; omega⟩
theorem readWishes_fwd (ws : List Wish) (R : Rd) (hx : ∀ x ∈ ws, WishOk x) (ha : R.args = ws.map wishB) (hl : ws.length ≤ 20) : R.readWishes = R.withWishes ws := by
  unfold Rd.readWishes
  have : R.args.length = ws.length := by rw [ha]; simp
  rw [if_neg (by omega), this]
  exact wishLoop_fwd ws R hx ha
theorem pathCheck_ok {R : Rd} (h : R.pathCheck.e = 0) : R.pathCheck = R := by
  unfold Rd.pathCheck at h ⊢
  split
  · rfl
  · rename_i hp
    rw [if_neg hp] at h
    exfalso
    unfold Rd.fail at h
    split at h
    · exact hp h
    · rename_i hr; exact hr h
theorem pathB_split (s : ByteArray) : pathB (splitAt s slashB) = s := by
  unfold pathB
  rw [if_neg]
  · exact join_split s 47
  · intro h
    have := splitAt_length s slashB (by decide)
    rw [h] at this; simp at this
/-- What reads a path: it stands there as it was. -/
theorem readPath_back {R : Rd} (h : R.readPath.e = 0) (h0 : R.c.path = []) : ∃ p, pathB p = R.arg ∧ R.e = 0 ∧ R.readPath = { R.rest with c := { R.c with path := p } } := by
  unfold Rd.readPath at h ⊢
  split
  · rename_i hd
    rw [if_pos hd] at h
    refine ⟨[], by rw [hd]; rfl, h, ?_⟩
    obtain ⟨⟨k, nm, p, pa, ws, n⟩, args, e⟩ := R
    simp only at h0
    subst h0
    rfl
  · rename_i hd
    rw [if_neg hd] at h
    have e := pathCheck_ok h
    rw [e] at h ⊢
    refine ⟨splitAt R.arg slashB, pathB_split _, h, ?_⟩
    simp [Rd.setPath, h0, Rd.rest]
theorem readPath_args (R : Rd) (l : List ByteArray) (a : ByteArray) (b : Rd) (h : R.args = a :: l) (hb : R.readPath = b) : b.args = l := by
  subst hb
  unfold Rd.readPath
  split
  · simp [Rd.rest, h]
  · unfold Rd.pathCheck
    split
    · simp [Rd.setPath, Rd.rest, h]
    · rw [fail_args]; simp [Rd.setPath, Rd.rest, h]
theorem readName_ok {R : Rd} (h : R.readName.e = 0) : R.e = 0 ∧ namedB R.arg = true ∧ R.readName = R.rest.setName R.arg := by
  obtain ⟨e, h1, h2⟩ := named_ok (R := R.rest) (s := R.arg) (show (R.rest.named R.arg).e = 0 from h)
  exact ⟨h1, h2, by unfold Rd.readName; rw [e]⟩
theorem readKey_ok {R : Rd} (h : R.readKey.e = 0) : R.e = 0 ∧ R.readKey = R.rest.setName R.arg := by
  unfold Rd.readKey at h ⊢
  simp only at h ⊢
  split
  · rename_i hh; rw [if_pos hh] at h; exact absurd h (fail2_ne _)
  · rename_i hh; rw [if_neg hh] at h; exact ⟨h, rfl⟩
theorem readNum_ok {R : Rd} {lo hi : Int} (h : (R.readNum lo hi).e = 0) : R.e = 0 ∧ uptoB R.arg lo hi = true ∧ R.readNum lo hi = R.rest.setN (uptoV R.arg lo hi) := by
  obtain ⟨e, h1, h2⟩ := number_ok (R := R.rest) (s := R.arg) (show (R.rest.number R.arg lo hi).e = 0 from h)
  exact ⟨h1, h2, by unfold Rd.readNum; rw [e]⟩
theorem polNum_ok {R : Rd} {lo hi : Int} {f : Pol → Int → Pol} (h : (R.polNum lo hi f).e = 0) : R.e = 0 ∧ uptoB R.arg lo hi = true ∧ R.polNum lo hi f = { R.rest with c := { R.c with pol := f R.c.pol (uptoV R.arg lo hi) } } := by
  obtain ⟨e, h1, h2⟩ := number_ok (R := R.rest) (s := R.arg) (show (R.rest.number R.arg lo hi).e = 0 from h)
  exact ⟨h1, h2, by unfold Rd.polNum; rw [e]; rfl⟩
theorem polCheck_ok {R : Rd} (h : R.polCheck.e = 0) : R.polCheck = R ∧ polOk R.c.pol := by
  unfold Rd.polCheck at h ⊢
  split
  · rename_i hp; exact ⟨rfl, hp⟩
  · rename_i hp; rw [if_neg hp] at h; exact absurd h (fail2_ne _)
theorem formTab_find {s : ByteArray} {r : Form} (h : formFor s = some r) : r ∈ formTab ∧ s = r.name := by
  refine ⟨List.mem_of_find?_eq_some h, ?_⟩
  have e0 : (s == r.name) = true := List.find?_some (p := fun r : Form => s == r.name) h
  have e : (s.data == r.name.data) = true := e0
  have e2 : s.data = r.name.data := by simpa using e
  exact string_ext (by rw [e2])
end Go.Proofs.YtamjhnibenonjaaGreatDoor
