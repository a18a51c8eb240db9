/- command: what is parsed is printed as it was; with one wish more behind it. Plain laws, no program. -/
import Derived.Test.YtamjhnibenonjaaGreatDoorSBack
namespace Go.Proofs.YtamjhnibenonjaaGreatDoor
set_option linter.unusedVariables false
set_option linter.unusedSimpArgs false
open Go Go.RowKit
theorem parseRow_ok {r : Form} {l : List ByteArray} {d : Cmd} (h : parseRow r l = (d, 0)) : r.least ≤ (l.length : Int) ∧ (l.length : Int) ≤ r.most ∧ (readAll r.fns (Rd.start r.kind l)).e = 0 ∧ d = (readAll r.fns (Rd.start r.kind l)).c := by
  unfold parseRow at h
  split at h
  · simp at h
  · rename_i hl
    split at h
    · rename_i he; simp only [Prod.mk.injEq, and_true] at h; exact ⟨by omega, by omega, he, h.symm⟩
    · rename_i he; simp only [Prod.mk.injEq] at h; exact absurd h.2 he
theorem parseRow_of {r : Form} {l : List ByteArray} (h0 : r.least ≤ (l.length : Int)) (h1 : (l.length : Int) ≤ r.most) (h2 : (readAll r.fns (Rd.start r.kind l)).e = 0) : parseRow r l = ((readAll r.fns (Rd.start r.kind l)).c, 0) := by
  unfold parseRow
  rw [if_neg (by omega), if_pos h2]
theorem parseF_ok {x : ByteArray} {l : List ByteArray} {d : Cmd} (h : parseF (x :: l) = (d, 0)) : ∃ r ∈ formTab, upB x = r.name ∧ parseRow r l = (d, 0) := by
  unfold parseF at h
  simp only at h
  cases hf : formFor (upB x) with
  | none => rw [hf] at h; simp at h
  | some r => rw [hf] at h; exact ⟨r, (formTab_find hf).1, (formTab_find hf).2, h⟩
theorem parseF_zero (l : List ByteArray) (h : (parseF l).2 ≠ 0) : (parseF l).1 = Cmd.zero := by
  unfold parseF at h ⊢
  cases l with
  | nil => rfl
  | cons x l =>
    simp only at h ⊢
    cases hf : formFor (upB x) with
    | none => rfl
    | some r =>
      rw [hf] at h
      simp only at h ⊢
      unfold parseRow at h ⊢
      split
      · rfl
      · rename_i hl
        rw [if_neg hl] at h
        split
        · rename_i he; rw [if_pos he] at h; exact absurd rfl h
        · rfl
theorem upC_idem (c : UInt8) : upC (upC c) = upC c := by
  by_cases h : 97 ≤ c.toNat ∧ c.toNat ≤ 122
  · have := upC_toNat c h
    rw [upC.eq_1 (upC c), if_neg (by omega)]
  · have e : upC c = c := by unfold upC; rw [if_neg h]
    rw [e, e]
theorem upB_idem (s : ByteArray) : upB (upB s) = upB s := by
  simp only [upB, List.map_map, ByteArray.mk.injEq, Array.mk.injEq]
  apply List.map_congr_left
  intro c _
  exact upC_idem c
theorem parseF_up {x y : ByteArray} (l : List ByteArray) (h : upB x = upB y) : parseF (x :: l) = parseF (y :: l) := by
  unfold parseF; simp only; rw [h]
/-- What the arguments of a command may be, wishes by the side. -/
def WishesOk (c : Cmd) : Prop := (c.kind = 4 ∨ c.kind = 5 ∨ c.kind = 6) → (∀ x ∈ c.wishes, WishOk x) ∧ c.wishes.length ≤ 20
theorem bit_itoa {s : ByteArray} (h : uptoB s 0 1 = true) : itoaB (if (uptoV s 0 1 == 1) = true then 1 else 0) = s := by
  have r := uptoV_range _ _ _ h
  have e := itoa_upto h
  rcases (by omega : uptoV s 0 1 = 0 ∨ uptoV s 0 1 = 1) with v | v
  · rw [v] at e ⊢; exact e
  · rw [v] at e ⊢; exact e
set_option maxRecDepth 4000 in
theorem back_policy (l : List ByteArray) (h0 : l.length = 7) (he : (readAll [27, 34] (Rd.start 2 l)).e = 0) :
    wordsF (readAll [27, 34] (Rd.start 2 l)).c = ⟨#[80, 79, 76, 73, 67, 89]⟩ :: l ∧ (readAll [27, 34] (Rd.start 2 l)).c.kind = 2 := by
  obtain ⟨a0, a1, a2, a3, a4, a5, a6, rfl⟩ : ∃ a0 a1 a2 a3 a4 a5 a6, l = [a0, a1, a2, a3, a4, a5, a6] := by
    rcases l with _ | ⟨a0, _ | ⟨a1, _ | ⟨a2, _ | ⟨a3, _ | ⟨a4, _ | ⟨a5, _ | ⟨a6, _ | ⟨a7, l⟩⟩⟩⟩⟩⟩⟩⟩ <;> simp at h0
    exact ⟨_, _, _, _, _, _, _, rfl⟩
  have e : readAll [27, 34] (Rd.start 2 [a0, a1, a2, a3, a4, a5, a6]) = ((Rd.start 2 [a0, a1, a2, a3, a4, a5, a6]).readName).readPolicy := rfl
  rw [e] at he ⊢
  clear e
  unfold Rd.readPolicy at he ⊢
  obtain ⟨k7, hp⟩ := polCheck_ok he
  rw [k7] at he ⊢
  clear k7 hp
  obtain ⟨he, u6, k6⟩ := polNum_ok he
  obtain ⟨he, u5, k5⟩ := polNum_ok he
  obtain ⟨he, u4, k4⟩ := polNum_ok he
  obtain ⟨he, u3, k3⟩ := polNum_ok he
  obtain ⟨he, u2, k2⟩ := polNum_ok he
  obtain ⟨he, u1, k1⟩ := polNum_ok he
  obtain ⟨-, -, k0⟩ := readName_ok he
  rw [k5, k4, k3, k2, k1, k0] at u6
  rw [k4, k3, k2, k1, k0] at u5
  rw [k3, k2, k1, k0] at u4
  rw [k2, k1, k0] at u3
  rw [k1, k0] at u2
  rw [k0] at u1
  rw [k6, k5, k4, k3, k2, k1, k0]
  clear k0 k1 k2 k3 k4 k5 k6 he
  have i1 : itoaB (uptoV a1 1 4) = a1 := itoa_upto u1
  have i2 : itoaB (uptoV a2 0 1099511627776) = a2 := itoa_upto u2
  have i3 : itoaB (uptoV a3 0 1099511627776) = a3 := itoa_upto u3
  have i4 : itoaB (uptoV a4 0 1099511627776) = a4 := itoa_upto u4
  have i5 : itoaB (uptoV a5 0 1099511627776) = a5 := itoa_upto u5
  have i6 : itoaB (if (uptoV a6 0 1 == 1) = true then 1 else 0) = a6 := bit_itoa u6
  refine ⟨?_, rfl⟩
  show nameOf 2 :: (a0 :: [itoaB (uptoV a1 1 4), itoaB (uptoV a2 0 1099511627776), itoaB (uptoV a3 0 1099511627776), itoaB (uptoV a4 0 1099511627776), itoaB (uptoV a5 0 1099511627776), itoaB (if (uptoV a6 0 1 == 1) = true then 1 else 0)] ++ []) = _
  rw [i1, i2, i3, i4, i5, i6]
  rfl
theorem len_two {l : List ByteArray} (h : l.length = 2) : ∃ a b, l = [a, b] := by
  rcases l with _ | ⟨a, _ | ⟨b, _ | ⟨c, l⟩⟩⟩ <;> simp at h
  exact ⟨a, b, rfl⟩
theorem back_name (k : Int) (nm : ByteArray) (hk : k = 3) (hn : nameOf k = nm) (l : List ByteArray) (h0 : l.length = 1) (he : (readAll [27] (Rd.start k l)).e = 0) :
    wordsF (readAll [27] (Rd.start k l)).c = nm :: l ∧ (readAll [27] (Rd.start k l)).c.kind = k := by
  obtain ⟨a, rfl⟩ := List.length_eq_one_iff.1 h0
  have e : readAll [27] (Rd.start k [a]) = (Rd.start k [a]).readName := rfl
  rw [e] at he ⊢
  obtain ⟨-, -, k0⟩ := readName_ok he
  rw [k0]
  subst hk hn
  exact ⟨rfl, rfl⟩
theorem back_key (k : Int) (nm : ByteArray) (hk : k = 10 ∨ k = 12 ∨ k = 14) (hn : nameOf k = nm) (l : List ByteArray) (h0 : l.length = 1) (he : (readAll [28] (Rd.start k l)).e = 0) :
    wordsF (readAll [28] (Rd.start k l)).c = nm :: l ∧ (readAll [28] (Rd.start k l)).c.kind = k := by
  obtain ⟨a, rfl⟩ := List.length_eq_one_iff.1 h0
  have e : readAll [28] (Rd.start k [a]) = (Rd.start k [a]).readKey := rfl
  rw [e] at he ⊢
  obtain ⟨-, k0⟩ := readKey_ok he
  rw [k0]
  subst hn
  rcases hk with rfl | rfl | rfl <;> exact ⟨rfl, rfl⟩
theorem back_keyNum (k : Int) (nm : ByteArray) (f : FuncId) (lo hi : Int) (hf : ∀ R, applyF f R = R.readNum lo hi) (hk : k = 9 ∨ k = 11 ∨ k = 13) (hn : nameOf k = nm) (l : List ByteArray) (h0 : l.length = 2) (he : (readAll [28, f] (Rd.start k l)).e = 0) :
    wordsF (readAll [28, f] (Rd.start k l)).c = nm :: l ∧ (readAll [28, f] (Rd.start k l)).c.kind = k := by
  obtain ⟨a, b, rfl⟩ := len_two h0
  have e : readAll [28, f] (Rd.start k [a, b]) = ((Rd.start k [a, b]).readKey).readNum lo hi := hf _
  rw [e] at he ⊢
  obtain ⟨he, u1, k1⟩ := readNum_ok he
  obtain ⟨-, k0⟩ := readKey_ok he
  rw [k1]
  rw [k0] at u1 ⊢
  have i1 : itoaB (uptoV b lo hi) = b := itoa_upto u1
  subst hn
  rcases hk with rfl | rfl | rfl
  · refine ⟨?_, rfl⟩; show _ :: [a, itoaB (uptoV b lo hi)] = _; rw [i1]; rfl
  · refine ⟨?_, rfl⟩; show _ :: [a, itoaB (uptoV b lo hi)] = _; rw [i1]; rfl
  · refine ⟨?_, rfl⟩; show _ :: [a, itoaB (uptoV b lo hi)] = _; rw [i1]; rfl
theorem back_none (k : Int) (nm : ByteArray) (hk : k = 1 ∨ k = 15) (hn : nameOf k = nm) (l : List ByteArray) (h0 : l.length = 0) :
    wordsF (readAll [] (Rd.start k l)).c = nm :: l ∧ (readAll [] (Rd.start k l)).c.kind = k := by
  obtain rfl := List.eq_nil_of_length_eq_zero h0
  subst hn
  rcases hk with rfl | rfl <;> exact ⟨rfl, rfl⟩
theorem back_cancel (l : List ByteArray) (h0 : l.length = 1) (he : (readAll [33] (Rd.start 8 l)).e = 0) :
    wordsF (readAll [33] (Rd.start 8 l)).c = ⟨#[67, 65, 78, 67, 69, 76]⟩ :: l ∧ (readAll [33] (Rd.start 8 l)).c.kind = 8 := by
  obtain ⟨a, rfl⟩ := List.length_eq_one_iff.1 h0
  have e : readAll [33] (Rd.start 8 [a]) = (Rd.start 8 [a]).readId := rfl
  rw [e] at he ⊢
  obtain ⟨-, u1, k1⟩ := readNum_ok he
  unfold Rd.readId
  rw [k1]
  refine ⟨?_, rfl⟩
  have i1 : itoaB (uptoV a 1 9007199254740992) = a := itoa_upto u1
  show _ :: [itoaB (uptoV a 1 9007199254740992)] = _
  rw [i1]; rfl
theorem back_commit (l : List ByteArray) (h0 : l.length = 1 ∨ l.length = 2) (he : (readAll [33, 35] (Rd.start 7 l)).e = 0) :
    wordsF (readAll [33, 35] (Rd.start 7 l)).c = ⟨#[67, 79, 77, 77, 73, 84]⟩ :: l ∧ (readAll [33, 35] (Rd.start 7 l)).c.kind = 7 := by
  rcases h0 with h0 | h0
  · obtain ⟨a, rfl⟩ := List.length_eq_one_iff.1 h0
    have e : readAll [33, 35] (Rd.start 7 [a]) = (Rd.start 7 [a]).readId.readMost := rfl
    have e2 : (Rd.start 7 [a]).readId.args = [] := number_args _ _ _ _
    have e3 : (Rd.start 7 [a]).readId.readMost = (Rd.start 7 [a]).readId := by unfold Rd.readMost; rw [if_pos e2]
    rw [e, e3] at he ⊢
    obtain ⟨-, u1, k1⟩ := readNum_ok he
    unfold Rd.readId
    rw [k1]
    refine ⟨?_, rfl⟩
    have i1 : itoaB (uptoV a 1 9007199254740992) = a := itoa_upto u1
    show _ :: [itoaB (uptoV a 1 9007199254740992)] = _
    rw [i1]; rfl
  · obtain ⟨a, b, rfl⟩ := len_two h0
    have e : readAll [33, 35] (Rd.start 7 [a, b]) = (Rd.start 7 [a, b]).readId.readMost := rfl
    have e2 : (Rd.start 7 [a, b]).readId.args = [b] := number_args _ _ _ _
    have e3 : (Rd.start 7 [a, b]).readId.arg = b := by unfold Rd.arg; rw [e2]; rfl
    have e4 : (Rd.start 7 [a, b]).readId.readMost = ((Rd.start 7 [a, b]).readId.rest.number b 0 1048576).setWishes [⟨emptyB, 0, uptoV b 0 1048576⟩] := by unfold Rd.readMost; rw [if_neg (by rw [e2]; simp), e3]
    rw [e, e4] at he ⊢
    obtain ⟨k2, he, u2⟩ := number_ok (R := (Rd.start 7 [a, b]).readId.rest) (s := b) (lo := 0) (hi := 1048576) he
    obtain ⟨-, u1, k1⟩ := readNum_ok (R := Rd.start 7 [a, b]) (lo := 1) (hi := 9007199254740992) he
    rw [k2, Rd.readId, k1]
    refine ⟨?_, rfl⟩
    have i1 : itoaB (uptoV a 1 9007199254740992) = a := itoa_upto u1
    have i2 : itoaB (uptoV b 0 1048576) = b := itoa_upto u2
    show _ :: [itoaB (uptoV a 1 9007199254740992), itoaB (uptoV b 0 1048576)] = _
    rw [i1, i2]; rfl
theorem headD_cons (a : ByteArray) (l : List ByteArray) : (a :: l).headD emptyB = a := rfl
theorem back_take (k : Int) (nm : ByteArray) (hk : k = 4 ∨ k = 5) (hn : nameOf k = nm) (l : List ByteArray) (h0 : 2 ≤ l.length) (he : (readAll [30, 31] (Rd.start k l)).e = 0) :
    ∃ p ws, (readAll [30, 31] (Rd.start k l)).c = { Cmd.zero with kind := k, path := p, wishes := ws } ∧ l = pathB p :: ws.map wishB ∧ (∀ x ∈ ws, WishOk x) ∧ ws.length ≤ 20 := by
  obtain ⟨a, m, rfl⟩ : ∃ a m, l = a :: m := by cases l with
    | nil => simp at h0
    | cons a m => exact ⟨a, m, rfl⟩
  have e : readAll [30, 31] (Rd.start k (a :: m)) = (Rd.start k (a :: m)).readPath.readWishes := rfl
  rw [e] at he ⊢
  obtain ⟨ws, g1, g2, g3, g4, g5⟩ := readWishes_back he
  obtain ⟨p, q1, q2, q3⟩ := readPath_back g4 rfl
  refine ⟨p, ws, ?_, ?_, g1, g5⟩
  · rw [g3, q3]; rfl
  · rw [q3] at g2
    rw [g2, q1]; rfl
theorem back_reserve (l : List ByteArray) (h0 : 3 ≤ l.length) (he : (readAll [32, 30, 31] (Rd.start 6 l)).e = 0) :
    ∃ n p ws, (readAll [32, 30, 31] (Rd.start 6 l)).c = { Cmd.zero with kind := 6, n := n, path := p, wishes := ws } ∧ l = itoaB n :: pathB p :: ws.map wishB ∧ (∀ x ∈ ws, WishOk x) ∧ ws.length ≤ 20 := by
  obtain ⟨t, a, m, rfl⟩ : ∃ t a m, l = t :: a :: m := by
    rcases l with _ | ⟨t, _ | ⟨a, m⟩⟩
    · simp at h0
    · simp at h0
    · exact ⟨t, a, m, rfl⟩
  have e : readAll [32, 30, 31] (Rd.start 6 (t :: a :: m)) = (Rd.start 6 (t :: a :: m)).readTime.readPath.readWishes := rfl
  rw [e] at he ⊢
  obtain ⟨ws, g1, g2, g3, g4, g5⟩ := readWishes_back he
  have hp0 : (Rd.start 6 (t :: a :: m)).readTime.c.path = [] := by unfold Rd.readTime Rd.readNum Rd.setN; simp only [number_path]; rfl
  obtain ⟨p, q1, q2, q3⟩ := readPath_back g4 hp0
  obtain ⟨-, u1, k1⟩ := readNum_ok (R := Rd.start 6 (t :: a :: m)) (lo := 0) (hi := 9007199254740992) q2
  have k1' : (Rd.start 6 (t :: a :: m)).readTime = (Rd.start 6 (t :: a :: m)).rest.setN (uptoV (Rd.start 6 (t :: a :: m)).arg 0 9007199254740992) := k1
  refine ⟨uptoV t 0 9007199254740992, p, ws, ?_, ?_, g1, g5⟩
  · rw [g3, q3, k1']; rfl
  · rw [q3, k1'] at g2
    rw [k1'] at q1
    have i1 : itoaB (uptoV t 0 9007199254740992) = t := itoa_upto u1
    rw [g2, q1, i1]; rfl
/-- WHAT IS PARSED IS PRINTED AS IT WAS, but for the name's letters. -/
theorem parse_words {x : ByteArray} {l : List ByteArray} {d : Cmd} (h : parseF (x :: l) = (d, 0)) : wordsF d = upB x :: l ∧ WishesOk d := by
  obtain ⟨r, hr, hx, hp⟩ := parseF_ok h
  obtain ⟨h0, h1, he, rfl⟩ := parseRow_ok hp
  rw [hx]
  have fin : ∀ {c : Cmd} {ws : List ByteArray} {k : Int}, (wordsF c = ws ∧ c.kind = k) → (k ≠ 4 ∧ k ≠ 5 ∧ k ≠ 6) → (wordsF c = ws ∧ WishesOk c) := fun h hk => ⟨h.1, fun hc => by rw [h.2] at hc; omega⟩
  have fin2 : ∀ {c : Cmd} {p ws k l nm}, c = { Cmd.zero with kind := k, path := p, wishes := ws } → (k = 4 ∨ k = 5) → l = pathB p :: ws.map wishB → (∀ x ∈ ws, WishOk x) → ws.length ≤ 20 → nameOf k = nm → (wordsF c = nm :: l ∧ WishesOk c) := by
    intro c p ws k l nm hc hk hl hw hle hn
    subst hc hl hn
    rcases hk with rfl | rfl
    · exact ⟨rfl, fun _ => ⟨hw, hle⟩⟩
    · exact ⟨rfl, fun _ => ⟨hw, hle⟩⟩
  simp only [formTab, List.mem_cons, List.not_mem_nil, or_false] at hr
  rcases hr with rfl | rfl | rfl | rfl | rfl | rfl | rfl | rfl | rfl | rfl | rfl | rfl | rfl | rfl | rfl
  · exact fin (back_none 1 _ (.inl rfl) (by rfl) l (by simp only at h1; omega)) (by decide)
  · exact fin (back_none 15 _ (.inr rfl) (by rfl) l (by simp only at h1; omega)) (by decide)
  · exact fin (back_name 3 _ rfl (by rfl) l (by simp only at h0 h1; omega) he) (by decide)
  · exact fin (back_policy l (by simp only at h0 h1; omega) he) (by decide)
  · exact fin (back_key 10 _ (by omega) (by rfl) l (by simp only at h0 h1; omega) he) (by decide)
  · exact fin (back_key 12 _ (by omega) (by rfl) l (by simp only at h0 h1; omega) he) (by decide)
  · exact fin (back_key 14 _ (by omega) (by rfl) l (by simp only at h0 h1; omega) he) (by decide)
  · exact fin (back_keyNum 9 _ _ _ _ (fun _ => rfl) (by omega) (by rfl) l (by simp only at h0 h1; omega) he) (by decide)
  · exact fin (back_keyNum 11 _ _ _ _ (fun _ => rfl) (by omega) (by rfl) l (by simp only at h0 h1; omega) he) (by decide)
  · exact fin (back_keyNum 13 _ _ _ _ (fun _ => rfl) (by omega) (by rfl) l (by simp only at h0 h1; omega) he) (by decide)
  · obtain ⟨p, ws, g1, g2, g3, g4⟩ := back_take 4 _ (by omega) rfl l (by simp only at h0; omega) he
    exact fin2 g1 (by omega) g2 g3 g4 (by rfl)
  · obtain ⟨p, ws, g1, g2, g3, g4⟩ := back_take 5 _ (by omega) rfl l (by simp only at h0; omega) he
    exact fin2 g1 (by omega) g2 g3 g4 (by rfl)
  · obtain ⟨n, p, ws, g1, g2, g3, g4⟩ := back_reserve l (by simp only at h0; omega) he
    rw [g1]
    subst g2
    exact ⟨rfl, fun _ => ⟨g3, g4⟩⟩
  · exact fin (back_commit l (by simp only at h0 h1; omega) he) (by decide)
  · exact fin (back_cancel l (by simp only at h0 h1; omega) he) (by decide)
/-- .. and parsed again as it was. -/
theorem parse_back {x : ByteArray} {l : List ByteArray} {d : Cmd} (h : parseF (x :: l) = (d, 0)) : parseF (wordsF d) = (d, 0) ∧ printF d = upB x :: l := by
  have hw := (parse_words h).1
  have h2 : parseF (wordsF d) = (d, 0) := by rw [hw, parseF_up l (upB_idem x)]; exact h
  refine ⟨h2, ?_⟩
  unfold printF
  rw [h2, if_pos ⟨rfl, rfl⟩, hw]
end Go.Proofs.YtamjhnibenonjaaGreatDoor
